/- CondTags. -/
import Derived.Test.YtjifgipkfkhnpaaRTags20
import Derived.Test.YtjifgipkfkhnpaaSpans20
namespace Go.Proofs.Ytjifgipkfkhnpaa
open Go.RowKit Go.ChangeShapes Go.WideShapes Go.ChangeAt
set_option linter.unusedVariables false

set_option maxHeartbeats 800000 in
theorem rtaggedT_any (ns : List ByteArray) (ts : List Tg) (rn : ByteArray) (F : Fo) (pv tv nv : Value) (w : World) (hp : RdF w pv F) (hT : RdV w 2 tv ts.length (ts.flatMap Tg.cells)) (hN : RdV w 1 nv ns.length (ns.map Value.string)) :
    Calls Try.prog 15 #[pv, .agg #[.string rn, tv], nv] w fun e w' => e = .returned (.tuple #[.int .i64 (tagR ns ts F).1, .int .i64 (tagR ns ts F).2.1, .bool (tagR ns ts F).2.2.1, .int .i64 (tagR ns ts F).2.2.2]) ∧ Below w.heap.size w w' := by
  have hp' := hp
  obtain ⟨xs, hr, hm⟩ := hp'
  obtain ⟨pa, pc, rfl, hn1, hn2⟩ := RdV.shape hr
  obtain ⟨ta, tc, rfl, ht1, ht2⟩ := RdV.shape hT
  obtain ⟨na, nc, rfl, hm1, hm2⟩ := RdV.shape hN
  have HH := Lib.hid (fun (w1 : World) (h : Below w.heap.size w w1) => rplain_any ns ts (F.sz + 1) F _ _ w1 (by omega) (hp.below h) (hN.below h))
  have HSp := Lib.hid (fun (w1 : World) (h : Below w.heap.size w w1) => rspanT_any F _ w1 (hp.below h))
  have HTg := Lib.hid (fun (w1 : World) (h : Below w.heap.size w w1) => rtags_any ts rn (F.sz + 1) F _ _ w1 (by omega) (hp.below h) (hT.below h))
  have HE := Lib.hid (rtF_plain ns ts F)
  have HV := Lib.hid (show tagR ns ts F = if (plF ns ts F).1 then ((rg (sp true F (-9223372036854775808) 9223372036854775807)).1, (rg (sp true F (-9223372036854775808) 9223372036854775807)).2, (plF ns ts F).2, 0) else (0, 0, false, 2) from rfl)
  generalize tagR ns ts F = V at *
  generalize rtF ts F = X at *
  generalize plF ns ts F = B at *
  generalize rg (sp true F (-9223372036854775808) 9223372036854775807) = R at *
  obtain ⟨b1, b2⟩ := B
  obtain ⟨wA, hwA⟩ : ∃ wA, wA = w.alloc (.cells #[.string rn, .slice ta ts.length tc] 25) := ⟨_, rfl⟩
  have hbA : Below w.heap.size w wA := by rw [hwA]; exact (Below.refl _ _).alloc (Nat.le_refl _) _
  have c0 : wA.cell? ⟨w.heap.size, 0, none⟩ = some (.string rn) := by rw [hwA]; simp
  have c1 : wA.cell? ⟨w.heap.size, 1, none⟩ = some (.slice ta ts.length tc) := by rw [hwA]; simp
  have HW := Lib.hid hwA
  have HBA := Lib.hid hbA
  have hkeep : ∀ w' : World, Below wA.heap.size wA w' → w'.cell? ⟨w.heap.size, 0, none⟩ = some (.string rn) ∧ w'.cell? ⟨w.heap.size, 1, none⟩ = some (.slice ta ts.length tc) := fun w' h =>
    have q : ∀ (bk o : Nat) (u : Value), wA.cell? ⟨bk, o, none⟩ = some u → w'.cell? ⟨bk, o, none⟩ = some u := fun bk o u q => (h.cell (World.block_lt_of_cell? _ _ q)).trans q
    ⟨q _ _ _ c0, q _ _ _ c1⟩
  have HK := Lib.hid hkeep
  clear c0 c1 hp hr hm hT hN hbA hwA hkeep
  go_enter Try.func15, Try.ntmps15
  go_upto_region 1 with fail
  rw [← HW.out]
  clear HW
  cases b1
  · go_wp2_with (go_at_call 23; refine (HH.out _ HBA.out).mono ?_; rintro _ w3 ⟨rfl, hb3⟩; have HB3 := Lib.hid (HBA.out.trans (hb3.mono HBA.out.size)); clear hb3)
    (try simp only [Exit.inBlock, Exit.then])
    refine bodyPost_ret (results_tmp4 rfl _ _ _) rfl ?_
    exact ⟨by rw [HV.out]; rfl, HB3.out⟩
  · obtain rfl : X = b2 := HE.out rfl
    go_wp2_with (first
      | (go_at_call 23; refine (HH.out _ HBA.out).mono ?_; rintro _ w3 ⟨rfl, hb3⟩; have HB3 := Lib.hid hb3; clear hb3)
      | (go_at_call 12; refine (HSp.out _ (HBA.out.trans (HB3.out.mono HBA.out.size))).mono ?_; rintro _ w4 ⟨rfl, hb4⟩; have HB4 := Lib.hid (HB3.out.trans (hb4.mono HB3.out.size)); obtain ⟨g0, g1⟩ := HK.out _ HB4.out; clear hb4)
      | (go_at_call 24; refine (HTg.out _ (HBA.out.trans (HB4.out.mono HBA.out.size))).mono ?_; rintro _ w5 ⟨rfl, hb5⟩; have HB5 := Lib.hid (HBA.out.trans ((HB4.out.trans (hb5.mono HB4.out.size)).mono HBA.out.size)); clear hb5))
    (try simp only [Exit.inBlock, Exit.then])
    refine bodyPost_ret (results_tmp4 rfl _ _ _) rfl ?_
    exact ⟨by rw [HV.out]; rfl, HB5.out⟩

set_option maxHeartbeats 2000000 in
theorem condTags_run (ns : List ByteArray) (ts : List Tg) (rn : ByteArray) (F : Fo) (pv tv nv : Value) (w : World) (hF : RdF w pv F) (hT : RdV w 2 tv ts.length (ts.flatMap Tg.cells)) (hN : RdV w 1 nv ns.length (ns.map Value.string)) :
    Calls Try.prog 6 #[pv, .agg #[.string rn, tv], nv] w fun e w' => e = .returned (.bool true) ∧ Below w.heap.size w w' := by
  have hF' := hF
  obtain ⟨xs, hr, hm⟩ := hF'
  obtain ⟨pa, pc, rfl, hn1, hn2⟩ := RdV.shape hr
  obtain ⟨ta, tc, rfl, ht1, ht2⟩ := RdV.shape hT
  obtain ⟨na, nc, rfl, hm1, hm2⟩ := RdV.shape hN
  clear hr hm
  have hA := fun (w : World) => awake20_any w
  obtain ⟨wA, hwA⟩ : ∃ wA, wA = w.alloc (.cells #[.string rn, .slice ta ts.length tc] 25) := ⟨_, rfl⟩
  have hbA : Below w.heap.size w wA := by rw [hwA]; exact (Below.refl _ _).alloc (Nat.le_refl _) _
  have c0 : wA.cell? ⟨w.heap.size, 0, none⟩ = some (.string rn) := by rw [hwA]; simp
  have c1 : wA.cell? ⟨w.heap.size, 1, none⟩ = some (.slice ta ts.length tc) := by rw [hwA]; simp
  have HF := Lib.hid (hF.below hbA)
  have HTb := Lib.hid (hT.below hbA)
  have HNb := Lib.hid (hN.below hbA)
  have HW := Lib.hid hwA
  have HBA := Lib.hid hbA
  have hkeep : ∀ w' : World, Below wA.heap.size wA w' → w'.cell? ⟨w.heap.size, 0, none⟩ = some (.string rn) ∧ w'.cell? ⟨w.heap.size, 1, none⟩ = some (.slice ta ts.length tc) := fun w' h =>
    have q : ∀ (bk o : Nat) (u : Value), wA.cell? ⟨bk, o, none⟩ = some u → w'.cell? ⟨bk, o, none⟩ = some u := fun bk o u q => (h.cell (World.block_lt_of_cell? _ _ q)).trans q
    ⟨q _ _ _ c0, q _ _ _ c1⟩
  have HK := Lib.hid hkeep
  clear c0 c1 hF hT hN hbA hwA hkeep
  have hFew := fun (w1 : World) (h : Below wA.heap.size wA w1) => few_any F (.slice pa xs.length pc) w1 (HF.out.below h)
  by_cases hfew : 0 ≤ leftF F 3000
  · have h3 : F.sz ≤ 3000 := by have := leftF_few F 3000 hfew; omega
    have e : decide (0 ≤ leftF F 3000) = true := decide_eq_true hfew
    rw [e] at hFew
    have HFew := Lib.hid hFew
    have HC := Lib.hid (fun (w1 : World) (h : Below wA.heap.size wA w1) => condsR_any F (.slice pa xs.length pc) w1 h3 (HF.out.below h))
    have HT := Lib.hid (fun (w1 : World) (v : Value) (h : RdF w1 v F) (hb : Below wA.heap.size wA w1) => taggedT_any ns ts rn F v _ _ w1 h (HTb.out.below hb) (HNb.out.below hb))
    have HR := Lib.hid (fun (w1 : World) (hb : Below wA.heap.size wA w1) => rtaggedT_any ns ts rn F _ _ _ w1 (HF.out.below hb) (HTb.out.below hb) (HNb.out.below hb))
    generalize tagR ns ts F = T at *
    obtain ⟨t1, t2, t3, t4⟩ := T
    dsimp only at HT HR
    clear hFew hfew e h3 HF HTb HNb
    go_enter Try.func6, Try.ntmps6
    go_upto_region 1 with fail
    rw [← HW.out]
    clear HW
    go_upto_region 3 with (first
      | (go_at_call 8; refine (hA _).mono ?_; rintro _ w2 ⟨rfl, hb2⟩; have HB2 := Lib.hid hb2; clear hb2)
      | (go_at_call 9; refine (HFew.out _ HB2.out).mono ?_; rintro _ w3 ⟨rfl, hw3⟩; rw [hw3]; clear hw3 w3))
    have hb0 : Below wA.heap.size wA w2.drew := HB2.out.drew
    go_region_held3 (fun w' => w'.cell? ⟨w.heap.size, 0, none⟩ = some (.string rn) ∧ w'.cell? ⟨w.heap.size, 1, none⟩ = some (.slice ta ts.length tc))
      (first | exact HK.out _ hb0 | exact HK.out _ hB6 | exact HK.out _ hB7)
      (first
        | (go_at_call 11; refine (HC.out _ hb0).mono ?_; rintro _ w6 ⟨ao6, cap6, rfl, hr6, hb6⟩; have HR6 := Lib.hid hr6; have hB6 : Below wA.heap.size wA w6 := hb0.trans (hb6.mono hb0.size); clear hr6 hb6)
        | (go_at_call 14; refine (HT.out _ _ HR6.out hB6).mono ?_; rintro _ w7 ⟨rfl, hb7⟩; have hB7 : Below wA.heap.size wA w7 := hB6.trans (hb7.mono hB6.size); clear hb7))
    all_goals (have HB7 := Lib.hid hB7; obtain ⟨g0, g1⟩ := HK.out _ hB7; clear hB7 hB6 hb0)
    all_goals go_wp2_with (go_at_call 15; refine (HR.out _ HB7.out).mono ?_; rintro _ w8 ⟨rfl, hb8⟩; have HB8 := Lib.hid (HBA.out.trans ((HB7.out.trans (hb8.mono HB7.out.size)).mono HBA.out.size)); clear hb8)
    all_goals (go_ret; exact ⟨rfl, HB8.out⟩)
  · have e : decide (0 ≤ leftF F 3000) = false := decide_eq_false hfew
    rw [e] at hFew
    have HFew := Lib.hid hFew
    clear hFew hfew e HK HTb HNb
    go_enter Try.func6, Try.ntmps6
    go_upto_region 1 with fail
    rw [← HW.out]
    clear HW
    go_upto_region 2 with (first
      | (go_at_call 8; refine (hA _).mono ?_; rintro _ w2 ⟨rfl, hb2⟩; have HB2 := Lib.hid hb2; clear hb2)
      | (go_at_call 9; refine (HFew.out _ HB2.out).mono ?_; rintro _ _ ⟨rfl, rfl⟩))
    go_wp2_with (go_at_call 8; refine (hA _).mono ?_; rintro _ w3 ⟨rfl, hb3⟩; have HB3 := Lib.hid (HB2.out.trans (hb3.mono HB2.out.size)); clear hb3)
    go_ret
    exact ⟨rfl, HBA.out.trans (HB3.out.mono HBA.out.size)⟩

theorem condTags_walk {H : Type} (enc : TypeId × Value → H) (W : World) (base : Nat) (v0 v1 v2 : Value) (d0 d1 d2 : DataW H) (p0 p1 p2 : List MemPlace)
    (o0 : Value.okWide Try.prog W .any base 22 v0) (o1 : Value.okWide Try.prog W .any base 25 v1) (o2 : Value.okWide Try.prog W .any base 29 v2)
    (t0 : DataW.Trod enc Try.prog W 0 (fun _ => true) true 22 v0 d0 p0) (t1 : DataW.Trod enc Try.prog W 0 (fun _ => true) true 25 v1 d1 p1) (t2 : DataW.Trod enc Try.prog W 0 (fun _ => true) true 29 v2 d2 p2)
    (hsz : (DataW.weightsEach Try.prog [22, 25, 29] [d0, d1, d2]).all (· ≤ reachBytes) = true) :
    Calls Try.prog 6 #[v0, v1, v2] W fun e W' => e = .returned (.bool true) ∧ Below W.heap.size W W' := by
  obtain ⟨F, hF, _⟩ := open_fo o0 t0
  obtain ⟨nm, tv, l, rfl, h1⟩ := open_series o1 t1
  obtain ⟨ns, h5⟩ := open_names o2 t2
  exact condTags_run ns l nm F v0 tv v2 W hF h1 h5
end Go.Proofs.Ytjifgipkfkhnpaa
