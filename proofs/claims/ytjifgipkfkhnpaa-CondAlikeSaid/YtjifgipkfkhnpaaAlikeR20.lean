/- CondAlike: the walk. -/
import Derived.Test.YtjifgipkfkhnpaaAlike20
namespace Go.Proofs.Ytjifgipkfkhnpaa
open Go.RowKit Go.ChangeShapes Go.WideShapes Go.ChangeAt
set_option linter.unusedVariables false

set_option maxHeartbeats 2000000 in
theorem condAlike_run (F : Fo) (E : Env) (pv tv fv nv : Value) (w : World) (hF : RdF w pv F) (hE : EnvAt w E tv fv nv) (ht1 : -9223372036854775808 ≤ E.time) (ht2 : E.time ≤ 9223372036854775807) :
    Calls Try.prog 7 #[pv, .agg #[.string E.nm, tv, fv, .int .i64 E.time], nv] w fun e w' => e = .returned (.bool true) ∧ Below w.heap.size w w' := by
  have hF' := hF
  obtain ⟨xs, hr, hm⟩ := hF'
  obtain ⟨pa, pc, rfl, hn1, hn2⟩ := RdV.shape hr
  obtain ⟨ta, tc, rfl, hq1, hq2⟩ := RdV.shape hE.t
  obtain ⟨fa, fc, rfl, hf1, hf2⟩ := RdV.shape hE.f
  obtain ⟨na, nc, rfl, hm1, hm2⟩ := RdV.shape hE.n
  clear hr hm
  have hA := fun (w : World) => awake20_any w
  obtain ⟨wA, hwA⟩ : ∃ wA, wA = w.alloc (.cells #[.string E.nm, .slice ta E.tags.length tc, .slice fa E.fds.length fc, .int .i64 E.time] 28) := ⟨_, rfl⟩
  have hbA : Below w.heap.size w wA := by rw [hwA]; exact (Below.refl _ _).alloc (Nat.le_refl _) _
  have c0 : wA.cell? ⟨w.heap.size, 0, none⟩ = some (.string E.nm) := by rw [hwA]; simp
  have c1 : wA.cell? ⟨w.heap.size, 1, none⟩ = some (.slice ta E.tags.length tc) := by rw [hwA]; simp
  have c2 : wA.cell? ⟨w.heap.size, 2, none⟩ = some (.slice fa E.fds.length fc) := by rw [hwA]; simp
  have c3 : wA.cell? ⟨w.heap.size, 3, none⟩ = some (.int .i64 E.time) := by rw [hwA]; simp
  have HF := Lib.hid (hF.below hbA)
  have HE := Lib.hid (hE.below hbA)
  have HW := Lib.hid hwA
  have HBA := Lib.hid hbA
  have hkeep : ∀ w' : World, Below wA.heap.size wA w' → w'.cell? ⟨w.heap.size, 0, none⟩ = some (.string E.nm) ∧ w'.cell? ⟨w.heap.size, 1, none⟩ = some (.slice ta E.tags.length tc) ∧ w'.cell? ⟨w.heap.size, 2, none⟩ = some (.slice fa E.fds.length fc) ∧ w'.cell? ⟨w.heap.size, 3, none⟩ = some (.int .i64 E.time) := fun w' h =>
    have q : ∀ (bk o : Nat) (u : Value), wA.cell? ⟨bk, o, none⟩ = some u → w'.cell? ⟨bk, o, none⟩ = some u := fun bk o u q => (h.cell (World.block_lt_of_cell? _ _ q)).trans q
    ⟨q _ _ _ c0, q _ _ _ c1, q _ _ _ c2, q _ _ _ c3⟩
  have HK := Lib.hid hkeep
  clear c0 c1 c2 c3 hF hE hbA hwA hkeep
  have hFew := fun (w1 : World) (h : Below wA.heap.size wA w1) => few_any F (.slice pa xs.length pc) w1 (HF.out.below h)
  by_cases hfew : 0 ≤ leftF F 3000
  · have h3 : F.sz ≤ 3000 := by have := leftF_few F 3000 hfew; omega
    have e : decide (0 ≤ leftF F 3000) = true := decide_eq_true hfew
    rw [e] at hFew
    have HFew := Lib.hid hFew
    have HC := Lib.hid (fun (w1 : World) (h : Below wA.heap.size wA w1) => condsR_any F (.slice pa xs.length pc) w1 h3 (HF.out.below h))
    have HT := Lib.hid (fun (w1 : World) (v : Value) (h : RdF w1 v F) (hb : Below wA.heap.size wA w1) => taggedT_any E.names E.tags E.nm F v _ _ w1 h (HE.out.below hb).t (HE.out.below hb).n)
    have HH := Lib.hid (fun (w1 : World) (v : Value) (h : RdF w1 v F) (hb : Below wA.heap.size wA w1) => holdsT_any E F v _ _ _ w1 h (HE.out.below hb))
    have HAl := Lib.hid (alike_eq E F ht1 ht2)
    have HV := Lib.hid (show tagR E.names E.tags F = if (plF E.names E.tags F).1 then ((rg (sp true F (-9223372036854775808) 9223372036854775807)).1, (rg (sp true F (-9223372036854775808) 9223372036854775807)).2, (plF E.names E.tags F).2, 0) else (0, 0, false, 2) from rfl)
    generalize tagR E.names E.tags F = T at *
    generalize rg (sp true F (-9223372036854775808) 9223372036854775807) = V at *
    generalize plF E.names E.tags F = B at *
    generalize hl E true F = X at *
    obtain ⟨va, vb⟩ := V
    obtain ⟨b1, b2⟩ := B
    clear hFew hfew e h3 HE HF ht1 ht2
    cases b1
    · have HT2 : T = (0, 0, false, 2) := by rw [HV.out]; rfl
      subst HT2
      clear HV HAl HH
      go_enter Try.func7, Try.ntmps7
      go_upto_region 1 with fail
      rw [← HW.out]
      clear HW
      go_upto_region 4 with (first
        | (go_at_call 8; refine (hA _).mono ?_; rintro _ w2 ⟨rfl, hb2⟩; have HB2 := Lib.hid hb2; clear hb2)
        | (go_at_call 9; refine (HFew.out _ HB2.out).mono ?_; rintro _ _ ⟨rfl, rfl⟩)
        | (go_at_call 11; refine (HC.out _ HB2.out).mono ?_; rintro _ w3 ⟨ao3, cap3, rfl, hr3, hb3⟩; have HR3 := Lib.hid hr3; have HB3 := Lib.hid (HB2.out.trans (hb3.mono HB2.out.size)); obtain ⟨k0, k1, k2, k3⟩ := HK.out _ HB3.out; clear hr3 hb3))
      go_wp2_with (go_at_call 14; refine (HT.out _ _ HR3.out HB3.out).mono ?_; rintro _ w4 ⟨rfl, hb4⟩; have HB4 := Lib.hid (HB3.out.trans (hb4.mono HB3.out.size)); clear hb4)
      go_ret
      exact ⟨rfl, HBA.out.trans (HB4.out.mono HBA.out.size)⟩
    · have HT2 : T = (va, vb, b2, 0) := by rw [HV.out]; rfl
      subst HT2
      have HX : Hid (X = (b2 && (decide (va ≤ E.time) && decide (E.time ≤ vb)))) := Lib.hid (by
        have h := HAl.out rfl
        rw [Bool.eq_iff_iff, h]
        simp)
      clear HV HAl
      go_enter Try.func7, Try.ntmps7
      go_upto_region 1 with fail
      rw [← HW.out]
      clear HW
      go_upto_region 4 with (first
        | (go_at_call 8; refine (hA _).mono ?_; rintro _ w2 ⟨rfl, hb2⟩; have HB2 := Lib.hid hb2; clear hb2)
        | (go_at_call 9; refine (HFew.out _ HB2.out).mono ?_; rintro _ _ ⟨rfl, rfl⟩)
        | (go_at_call 11; refine (HC.out _ HB2.out).mono ?_; rintro _ w3 ⟨ao3, cap3, rfl, hr3, hb3⟩; have HR3 := Lib.hid hr3; have HB3 := Lib.hid (HB2.out.trans (hb3.mono HB2.out.size)); obtain ⟨k0, k1, k2, k3⟩ := HK.out _ HB3.out; clear hr3 hb3))
      go_upto_region 7 with (go_at_call 14; refine (HT.out _ _ HR3.out HB3.out).mono ?_; rintro _ w4 ⟨rfl, hb4⟩; have HR4 := Lib.hid (HR3.out.below hb4); have HB4 := Lib.hid (HB3.out.trans (hb4.mono HB3.out.size)); obtain ⟨g0, g1, g2, g3⟩ := HK.out _ HB4.out; clear hb4)
      clear k0 k1 k2 k3 HT HFew HC HR3 HB3 HB2
      have hd : (∃ d1, decide (va ≤ E.time) = d1) ∧ ∃ d2, decide (E.time ≤ vb) = d2 := ⟨⟨_, rfl⟩, _, rfl⟩
      obtain ⟨⟨d1, hd1⟩, d2, hd2⟩ := hd
      have HX2 : Hid (X = (b2 && (d1 && d2))) := Lib.hid (by rw [HX.out, hd1, hd2])
      clear HX
      have h4 := HH.out _ _ HR4.out HB4.out
      have HKK := HK
      clear HH HK
      cases b2 <;> cases d1 <;> cases d2
      all_goals (first | (obtain rfl : X = true := HX2.out) | (obtain rfl : X = false := HX2.out); clear HX2)
      all_goals go_wp2_with (go_at_call 13; refine h4.mono ?_; rintro _ w5 ⟨rfl, hb5⟩; have HB5 := Lib.hid (HB4.out.trans (hb5.mono HB4.out.size)); obtain ⟨f0, f1, f2, f3⟩ := HKK.out _ HB5.out; clear hb5)
      all_goals (go_ret; exact ⟨rfl, HBA.out.trans (HB5.out.mono HBA.out.size)⟩)
  · have e : decide (0 ≤ leftF F 3000) = false := decide_eq_false hfew
    rw [e] at hFew
    have HFew := Lib.hid hFew
    clear hFew hfew e HE HK
    go_enter Try.func7, Try.ntmps7
    go_upto_region 1 with fail
    rw [← HW.out]
    clear HW
    go_upto_region 2 with (first
      | (go_at_call 8; refine (hA _).mono ?_; rintro _ w2 ⟨rfl, hb2⟩; have HB2 := Lib.hid hb2; clear hb2)
      | (go_at_call 9; refine (HFew.out _ HB2.out).mono ?_; rintro _ _ ⟨rfl, rfl⟩))
    go_wp2_with (go_at_call 8; refine (hA _).mono ?_; rintro _ w3 ⟨rfl, hb3⟩; have HB3 := Lib.hid (HB2.out.trans (hb3.mono HB2.out.size)); clear hb3)
    go_ret
    exact ⟨rfl, HBA.out.trans (HB3.out.mono HBA.out.size)⟩

theorem condAlike_walk {H : Type} (enc : TypeId × Value → H) (W : World) (base : Nat) (v0 v1 v2 : Value) (d0 d1 d2 : DataW H) (p0 p1 p2 : List MemPlace)
    (o0 : Value.okWide Try.prog W .any base 22 v0) (o1 : Value.okWide Try.prog W .any base 28 v1) (o2 : Value.okWide Try.prog W .any base 29 v2)
    (t0 : DataW.Trod enc Try.prog W 0 (fun _ => true) true 22 v0 d0 p0) (t1 : DataW.Trod enc Try.prog W 0 (fun _ => true) true 28 v1 d1 p1) (t2 : DataW.Trod enc Try.prog W 0 (fun _ => true) true 29 v2 d2 p2)
    (hsz : (DataW.weightsEach Try.prog [22, 28, 29] [d0, d1, d2]).all (· ≤ reachBytes) = true) :
    Calls Try.prog 7 #[v0, v1, v2] W fun e W' => e = .returned (.bool true) ∧ Below W.heap.size W W' := by
  obtain ⟨F, hF, _⟩ := open_fo o0 t0
  obtain ⟨nm, tv, fv, l, f, t, rfl, h1, h2, h3, h4⟩ := open_row o1 t1
  obtain ⟨ns, h5⟩ := open_names o2 t2
  exact condAlike_run F ⟨nm, l, f, t, ns⟩ v0 tv fv v2 W hF ⟨h1, h2, h5⟩ h3 h4
end Go.Proofs.Ytjifgipkfkhnpaa
