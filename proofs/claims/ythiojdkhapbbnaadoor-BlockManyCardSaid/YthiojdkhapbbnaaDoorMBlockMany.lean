/- The statement 'BlockManyCardSaid', out of its walk 'blockMany_walk': the frame of a tied card: the table of math/bits reads as it is laid. Conditions: none beyond the form's own reach. -/
import Derived.Test.YthiojdkhapbbnaaDoorG12
import Derived.Test.YthiojdkhapbbnaaDoorG6
import Derived.WalkKit
import Derived.ProofKit
import Derived.OpenShut
import Derived.ChangeOld
import Derived.Below
import Derived.SizedLaws
import Derived.JoinedCond
import Derived.Deep.DeepHandedRow
/- XMany08: BlockMany's walk. -/
namespace Go.Proofs.YthiojdkhapbbnaaDoor
open Go.RowKit Go.ChangeShapes Go.WideShapes Go.ChangeAt
set_option linter.unusedVariables false
set_option maxRecDepth 100000

def mnP (F k : Int) (i : Nat) : Pn := ⟨F + (i : Int), vaN k (i % 2)⟩
def mnL (F k : Int) (c : Nat) : List Pn := upto (mnP F k) c
theorem mnL_len (F k : Int) (c : Nat) : (mnL F k c).length = c := upto_len _ _
theorem mnL_next (F k : Int) (c : Nat) : mnL F k (c + 1) = mnL F k c ++ [mnP F k c] := upto_next _ _
theorem mnL_at (F k : Int) (c i : Nat) (h : i < c) : (mnL F k c).getD i p0 = mnP F k i := upto_getDG _ _ _ _ h
theorem rising {t : List Int} (h : ∀ i, i + 1 < t.length → t.getD i 0 < t.getD (i + 1) 0) : ∀ k, k ≤ t.length - 1 → risF t k = true
  | 0, _ => rfl
  | k + 1, hk => by rw [risF_next, rising h k (by omega), decide_eq_true (h k (by omega))]; rfl
theorem encC_low {k : Int} {xs : List Nat} (hk : k = 1 ∨ k = 2 ∨ k = 3) (h1 : 1 ≤ xs.length) (h2 : xs.length ≤ 1000) (hx : ∀ x ∈ xs, x < 2) : (encC (xs.map (vaN k))).2 = 0 := by
  have hkk : ∀ v ∈ xs.map (vaN k), v.k = k := by
    intro v hv
    obtain ⟨x, hx2, rfl⟩ := List.mem_map.1 hv
    rfl
  have hlen : (xs.map (vaN k)).length = xs.length := List.length_map _
  have h0 : ((xs.map (vaN k)).getD 0 v0).k = k := hkk _ (getD_mem _ 0 v0 (by omega))
  have hf : (xs.map (vaN k)).all formV = true := by
    rw [List.all_eq_true]
    intro v hv
    obtain ⟨x, hx2, rfl⟩ := List.mem_map.1 hv
    have hx3 := hx x hx2
    have hz : decide ((vaN k x).t.size = 0) = true := rfl
    rcases hk with rfl | rfl | rfl
    · rw [formV_1 rfl, hz]
      have : x = 0 ∨ x = 1 := by omega
      rcases this with rfl | rfl <;> decide +kernel
    · rw [formV_2 rfl, hz]
    · rw [formV_3 rfl, hz]
      exact decide_eq_true hx3
  have ha : ((xs.map (vaN k)).all fun v => decide (v.k = ((xs.map (vaN k)).getD 0 v0).k)) = true := by
    rw [List.all_eq_true]
    intro v hv
    rw [h0]
    exact decide_eq_true (hkk v hv)
  rw [encC_ok (by omega) hf ha, h0]
  rcases hk with rfl | rfl | rfl
  · rw [if_pos rfl]
  · rw [if_neg (by decide), if_pos rfl]
  · rw [if_neg (by decide), if_neg (by decide), if_pos rfl]
theorem mn_vs (F k : Int) (c : Nat) : vsP (mnL F k c) = (upto (fun i => i % 2) c).map (vaN k) := by
  unfold vsP mnL upto
  rw [List.map_map, List.map_map]
  rfl
theorem mn_ts (F k : Int) (c i : Nat) (h : i < c) : (tsP (mnL F k c)).getD i 0 = F + (i : Int) := by
  unfold tsP
  rw [List.getD_eq_getElem?_getD, List.getElem?_map]
  have h2 := mnL_at F k c i h
  rw [List.getD_eq_getElem?_getD] at h2
  have hl : i < (mnL F k c).length := by rw [mnL_len]; exact h
  rw [List.getElem?_eq_getElem hl] at h2 ⊢
  simp only [Option.getD_some, Option.map_some] at h2 ⊢
  rw [h2]
  rfl
theorem mn_ok {F k : Int} (hk : k = 1 ∨ k = 2 ∨ k = 3) (hF : -2305843009213693952 ≤ F ∧ F ≤ 2305843009213693951) (c : Nat) (hc : c ≤ 1002) : ∀ p ∈ mnL F k c, p.ok := by
  intro p hp
  unfold mnL upto at hp
  obtain ⟨i, hi, rfl⟩ := List.mem_map.1 hp
  have hi2 := List.mem_range.1 hi
  refine ⟨?_, ?_, ?_⟩
  · unfold i64ok mnP; dsimp only; omega
  · unfold i64ok mnP vaN; dsimp only; omega
  · unfold mnP vaN; dsimp only; omega
theorem mn_enc {F k : Int} (hk : k = 1 ∨ k = 2 ∨ k = 3) (c : Nat) : (encP (mnL F k c)).2 = if c < 1 ∨ 1000 < c then 1 else 0 := by
  by_cases h : c < 1 ∨ 1000 < c
  · rw [if_pos h, encP_times (encS_none (by rw [tsP_len, mnL_len]; omega))]
  · rw [if_neg h]
    have hr : risF (tsP (mnL F k c)) ((tsP (mnL F k c)).length - 1) = true := rising (fun i hi => by
      rw [tsP_len, mnL_len] at hi
      rw [mn_ts F k c i (by omega), mn_ts F k c (i + 1) hi]
      omega) _ (Nat.le_refl _)
    have ht := encS_some (l := tsP (mnL F k c)) (by rw [tsP_len, mnL_len]; omega) (by rw [tsP_len, mnL_len]; omega) hr
    have hv : (encC (vsP (mnL F k c))).2 = 0 := by
      rw [mn_vs]
      exact encC_low hk (by rw [upto_len]; omega) (by rw [upto_len]; omega) (fun x hx => by
        unfold upto at hx
        obtain ⟨i, _, rfl⟩ := List.mem_map.1 hx
        omega)
    rw [encP_ok ht (show encC (vsP (mnL F k c)) = ((encC (vsP (mnL F k c))).1, 0) by rw [← hv])]

set_option maxHeartbeats 2000000 in
theorem blockMany_run (n : Nat) (hn : n < 65536) (f : Int) (hf : i64ok f) (y : Nat) (hy : y ≤ 255) (w : World) (ht : Tab w) :
    Calls Tryd.prog 6 #[.int .u16 (n : Int), .int .i64 f, .int .u8 (y : Int)] w fun e w' => e = .returned (.bool true) ∧ Below w.heap.size w w' := by
  have HTB := Lib.hid ht
  unfold i64ok at hf
  obtain ⟨c, hc⟩ : ∃ c, c = n % 1003 := ⟨_, rfl⟩
  have hcI : (n : Int) % 1003 = (c : Int) := by omega
  have hcl : c ≤ 1002 := by omega
  obtain ⟨F, hF⟩ : ∃ F, F = f.tdiv 4 := ⟨_, rfl⟩
  have hFr : -2305843009213693952 ≤ F ∧ F ≤ 2305843009213693951 := by
    rw [hF]
    rcases Int.le_total 0 f with h | h
    · rw [Int.tdiv_eq_ediv_of_nonneg h]; omega
    · obtain ⟨g, rfl⟩ : ∃ g, f = -g := ⟨-f, by omega⟩
      rw [Int.neg_tdiv, Int.tdiv_eq_ediv_of_nonneg (by omega)]
      omega
  obtain ⟨k, hk⟩ : ∃ k : Nat, k = 1 + y % 3 := ⟨_, rfl⟩
  have hkI : (1 : Int) + (y : Int) % 3 = (k : Int) := by omega
  have hk3 : (k : Int) = 1 ∨ (k : Int) = 2 ∨ (k : Int) = 3 := by omega
  have hFq : f.tdiv 4 = F := hF.symm
  have hcw : IntKind.i64.wrap (c : Int) = (c : Int) := IntWalk.i64_in _ (by omega)
  clear ht hc hF hk
  go_enter Tryd.func6, Tryd.ntmps6
  go_wp2_with (go_at_call 8; refine (awake08_any w HTB.out).mono ?_; rintro e w1 ⟨rfl, hb1⟩; have HB1 := Lib.hid hb1; clear hb1)
  have HT1 := Lib.hid (HTB.out.below HB1.out)
  go_loopg [8, 21] c (fun m s8 s21 wr => ∃ (j : Nat) (ao : Option Addr) (cap : Nat), j + m = c ∧ s21 = .int .i64 (j : Int) ∧ s8 = .slice ao j cap ∧ Hid (OwnP wr w.heap.size (.slice ao j cap) (mnL F (k : Int) j)) ∧ Hid (Below w.heap.size w wr))
  case atStart => exact ⟨0, none, 0, by omega, rfl, rfl, Lib.hid (OwnP.nil _ _), HB1⟩
  case round =>
    obtain ⟨j, ao, cap, hj, rfl, rfl, HO, HB⟩ := hrel
    clear hcI
    by_cases h0 : gk = 0
    · obtain rfl : j = c := by omega
      have HX : Hid (∀ p ∈ mnL F (k : Int) j, p.ok) := Lib.hid (mn_ok hk3 hFr j hcl)
      have HLL : Hid ((mnL F (k : Int) j).length = j) := Lib.hid (mnL_len _ _ _)
      have HE := Lib.hid (mn_enc (F := F) hk3 j)
      have HTr := Lib.hid (HTB.out.below HB.out)
      clear hj h0
      generalize mnL F (k : Int) j = X at *
      have HN := Lib.hid (show Pns wr (.slice ao X.length cap) X by rw [HLL.out]; have := HO.out.pns; unfold Pns at this; rw [HLL.out] at this; unfold Pns; rw [HLL.out]; exact this)
      obtain ⟨p, hp⟩ : ∃ p, p = encP X := ⟨_, rfl⟩
      have HP := Lib.hid hp
      rw [← hp] at HE
      clear hp
      have hEn := encodeB_any X (.slice ao X.length cap) wr HX.out (by rw [HLL.out]; omega) HTr.out HN.out
      rw [HLL.out] at hEn
      go_upto_region 12 with (go_at_call 10; refine hEn.mono ?_; rintro e w2 ⟨hb2, bo, bc, rfl, ho⟩; rw [← HP.out] at ho ⊢; have HB2 := Lib.hid (HB.out.trans (hb2.mono HB.out.size)); have HO2 := Lib.hid ho; have HN2 := Lib.hid (show Pns w2 (.slice ao X.length cap) X from RdV.below HN.out hb2); have HT2 := Lib.hid (HTr.out.below hb2); clear hb2 ho hEn)
      obtain ⟨b, m⟩ := p
      try dsimp only at *
      by_cases hcr : j < 1 ∨ 1000 < j
      · have hm1 : m = 1 := by have := HE.out; rw [if_pos hcr] at this; exact this
        subst hm1
        rcases hcr with h | h
        · have hjI : (j : Int) < 1 := by omega
          go_wp2_with fail
          go_ret
          exact ⟨rfl, HB2.out⟩
        · have hjI : ¬ (j : Int) < 1 := by omega
          have hjI2 : (1000 : Int) < (j : Int) := by omega
          go_wp2_with fail
          go_ret
          exact ⟨rfl, HB2.out⟩
      · have hm0 : m = 0 := by have := HE.out; rw [if_neg hcr] at this; exact this
        subst hm0
        have hjI : ¬ (j : Int) < 1 := by omega
        have hjI2 : ¬ (1000 : Int) < (j : Int) := by omega
        have HG : Hid (PdG b X) := Lib.hid ⟨HP.out.symm, HX.out⟩
        obtain ⟨hbl, hbl9⟩ := encP_short HX.out HP.out.symm
        have hD := decodeB_any b (.slice bo b.length bc) w2 (by omega) HT2.out HO2.out.rd
        clear hcr
        go_upto_region 15 with (go_at_call 13; refine hD.mono ?_; rintro e w3 ⟨hb3, hu3, xo, xc, rfl, hv3⟩; rw [pdP_of HG.out hu3] at hv3 ⊢; have HB3 := Lib.hid (HB2.out.trans (hb3.mono HB2.out.size)); have hSM := samePn_any X (.slice xo X.length xc) (.slice ao X.length cap) w3 hv3 (RdV.below HN2.out hb3); rw [HLL.out] at hSM; clear hb3 hv3 hu3 hD)
        try dsimp only
        rw [HLL.out]
        go_wp2_with (go_at_call 14; refine hSM.mono ?_; rintro _ _ ⟨rfl, q1, rfl⟩)
        go_ret
        exact ⟨rfl, below_dr HB3.out _⟩
    · have hjc : j < c := by omega
      obtain ⟨z, hz⟩ : ∃ z, z = j % 2 := ⟨_, rfl⟩
      have hzI : (j : Int) % 2 = (z : Int) := by omega
      have hzw : IntKind.u64.wrap (z : Int) = (z : Int) := by rw [IntKind.wrap_u64]; omega
      have hFj : IntKind.i64.wrap (F + (j : Int)) = F + (j : Int) := IntWalk.i64_in _ (by omega)
      have HNX : Hid (mnL F (k : Int) (j + 1) = mnL F (k : Int) j ++ [⟨F + (j : Int), ⟨(k : Int), z, ⟨#[]⟩⟩⟩]) := Lib.hid (by rw [mnL_next, hz]; rfl)
      clear hz
      have HLL : Hid ((mnL F (k : Int) j).length = j) := Lib.hid (mnL_len _ _ _)
      generalize mnL F (k : Int) j = X at *
      have HB3 := Lib.hid (HB.out.alloc HB.out.size (.cells #[.int .i64 (k : Int), .int .u64 (z : Int), .string ⟨#[]⟩] 40))
      have HO3 : Hid (OwnP (wr.alloc (.cells #[.int .i64 (k : Int), .int .u64 (z : Int), .string ⟨#[]⟩] 40)) w.heap.size (.slice ao j cap) X) := Lib.hid (World.ownsRow.alloc HO.out _)
      have hc0 : (wr.alloc (.cells #[.int .i64 (k : Int), .int .u64 (z : Int), .string ⟨#[]⟩] 40)).cell? ⟨wr.heap.size, 0, none⟩ = some (.int .i64 (k : Int)) := by simp [World.cell?_alloc_new]
      have hc1 : (wr.alloc (.cells #[.int .i64 (k : Int), .int .u64 (z : Int), .string ⟨#[]⟩] 40)).cell? ⟨wr.heap.size, 1, none⟩ = some (.int .u64 (z : Int)) := by simp [World.cell?_alloc_new]
      have hc2 : (wr.alloc (.cells #[.int .i64 (k : Int), .int .u64 (z : Int), .string ⟨#[]⟩] 40)).cell? ⟨wr.heap.size, 2, none⟩ = some (.string ⟨#[]⟩) := by simp [World.cell?_alloc_new]
      go_upto_region 9 with fail
      generalize wr.alloc (.cells #[.int .i64 (k : Int), .int .u64 (z : Int), .string ⟨#[]⟩] 40) = w3 at *
      generalize wr.heap.size = g at *
      go_upto_region 10 with (at_builtin; refine wpList_append_pn _ rfl (.tmp 32) (.tmp 39) rfl w.heap.size (.slice ao j cap) X ⟨F + (j : Int), ⟨(k : Int), z, ⟨#[]⟩⟩⟩ rfl HO3.out rfl (by rw [HLL.out]; omega) HB3.out.size ?_; intro ao4 cap4 w4 ho4 hc4; rw [HLL.out] at ho4 ⊢; rw [← HNX.out] at ho4; have HO4 := Lib.hid ho4; have HB4 := Lib.hid (HB3.out.trans (hc4.below HB3.out.size (fun _ h => h))); clear ho4 hc4)
      go_wp2_with fail
      go_roundg (gk - 1)
      case measure => go_light; omega
      case rel =>
        go_light
        exact ⟨j + 1, ao4, cap4, by omega, by go_num, rfl, HO4, HB4⟩
theorem blockMany_walk {H : Type} (enc : TypeId × Value → H) (W : World) (base : Nat) (v0 v1 v2 : Value) (d0 d1 d2 : DataW H) (p0 p1 p2 : List MemPlace)
    (o0 : Value.okWide Tryd.prog W .any base 37 v0) (o1 : Value.okWide Tryd.prog W .any base 2 v1) (o2 : Value.okWide Tryd.prog W .any base 5 v2)
    (t0 : DataW.Trod enc Tryd.prog W 0 (fun _ => true) true 37 v0 d0 p0) (t1 : DataW.Trod enc Tryd.prog W 0 (fun _ => true) true 2 v1 d1 p1) (t2 : DataW.Trod enc Tryd.prog W 0 (fun _ => true) true 5 v2 d2 p2)
    (hsz : (DataW.weightsEach Tryd.prog [37, 2, 5] [d0, d1, d2]).all (· ≤ reachBytes) = true) (ht : Tab W) :
    Calls Tryd.prog 6 #[v0, v1, v2] W fun e W' => e = .returned (.bool true) ∧ Below W.heap.size W W' := by
  obtain ⟨a0, rfl, rfl, rfl, w0⟩ := open_int Tryd.underlying37 o0 t0
  obtain ⟨a1, rfl, rfl, rfl, w1⟩ := open_int Tryd.underlying2 o1 t1
  obtain ⟨a2, rfl, rfl, rfl, w2⟩ := open_int Tryd.underlying5 o2 t2
  have hy := wf_u8 w2
  have h0 := wf_u16' w0
  obtain ⟨m, rfl⟩ := Int.eq_ofNat_of_zero_le hy.1
  obtain ⟨n, rfl⟩ := Int.eq_ofNat_of_zero_le h0.1
  exact blockMany_run n (by omega) a1 (wf_i64' w1) m (by omega) W ht
end Go.Proofs.YthiojdkhapbbnaaDoor

/- XLawBlockMany: The statement 'BlockManyCardSaid', out of its walk 'blockMany_walk': the frame of a tied card: the table of math/bits reads as it is laid. Conditions: none beyond the form's own reach. -/
namespace Go.Proofs.YthiojdkhapbbnaaDoor.lawBlockMany
open Go.ChangeShapes Go.WideShapes Go.ChangeAt Go.RowKit
set_option linter.unusedVariables false
theorem own : ownKnob Tryd.prog.godebug = none := by kernel_rfl
theorem laidOut : laidOutB Tryd.prog = true := by kernel_rfl
theorem laid_met (os : Os) : laidMet Tryd.prog Rows.blockManyRow.laid ((laidWorld os).forCall (fun _ _ => 0) ⟨#[], #[.int .u16 0, .int .i64 0, .int .u8 0], []⟩).memory :=
  laidMet_of_run' 8 (by kernel_rfl) (by kernel_rfl)
theorem reads (os : Os) {H : Type} (enc : TypeId × Value → H) : ∃ places, DataW.whole enc Tryd.prog ((laidWorld os).forCall (fun _ _ => 0) ⟨#[], #[.int .u16 0, .int .i64 0, .int .u8 0], []⟩).memory Tryd.f6.params.toList Rows.blockManySpec.vars false (#[.int .u16 0, .int .i64 0, .int .u8 0] : Array Value).toList 8 = some ([.lit (.int .u16 0), .lit (.int .i64 0), .lit (.int .u8 0)], [], places) :=
  ⟨[], by kernel_rfl⟩
set_option maxRecDepth 100000 in
theorem lifted (os : Os) (started : os.Started) (H : Type) (enc : TypeId × Value → H) (F : Stop.Interp) :
    ReturnsInHanded {} Tryd.checked os 6 .any ((OpenSpec.ofChange Rows.blockManySpec).preRow enc Tryd.prog Tryd.f6 Rows.blockManyRow.domain false Rows.blockManyRow.laid) (((OpenSpec.ofChange Rows.blockManySpec).at F).post enc Tryd.prog Tryd.f6 false true false false) := by
  obtain ⟨places, hx⟩ := reads os enc
  refine returnsInHanded_of_row (C := Tryd.checked) (s := OpenSpec.ofChange Rows.blockManySpec) own started (by kernel_rfl) Tryd.func6
    (witness_row_at (enc := enc) (C := Tryd.checked) false (laidWorld os) #[.int .u16 0, .int .i64 0, .int .u8 0] rfl (by kernel_rfl) (by kernel_rfl) (by kernel_rfl)
      (OpenSpec.preRow_of_cond 8 hx (by kernel_rfl) (fun k hk => by cases hk) (by kernel_rfl) (laid_met os))) ?_
  intro W base args ds gs before hval0 hW _ hcnd hsz0 hL _ _
  have hval : ∀ (j : Nat) t v, Tryd.f6.params[j]? = some t → args[j]? = some v → Value.okWide Tryd.prog W .any base t v := hval0
  have hsz : (DataW.weightsEach Tryd.prog (Tryd.f6.params.toList ++ (OpenSpec.ofChange Rows.blockManySpec).bare.plain.varTypes Tryd.prog) (ds ++ gs)).all (· ≤ reachBytes) = true := hsz0
  have hW' := hW
  obtain ⟨p, q, hA0, hV, rfl, hfz, hnd⟩ := hW
  have hA : DataW.TrodAll enc Tryd.prog W 0 (fun _ => true) true Tryd.f6.params.toList args.toList ds p := hA0
  rw [Tryd.params6] at hA hval hsz
  obtain ⟨v0, vs0, d0, ds0, p0, q0, hargs, rfl, rfl, t0, r0⟩ := trodAll_cons hA
  obtain ⟨v1, vs1, d1, ds1, p1, q1, rfl, rfl, rfl, t1, r1⟩ := trodAll_cons r0
  obtain ⟨v2, vs2, d2, ds2, p2, q2, rfl, rfl, rfl, t2, r2⟩ := trodAll_cons r1
  obtain ⟨rfl, rfl, rfl⟩ := trodAll_nil r2
  obtain rfl : args = #[v0, v1, v2] := by cases args; simp_all
  obtain ⟨rfl, rfl⟩ := trodVars_none hV
  have lt0 : ∀ x ∈ p0, x.block < W.heap.size := by obtain ⟨m, hm⟩ := t0; exact DataW.trod_lt m _ _ _ hm
  have lt1 : ∀ x ∈ p1, x.block < W.heap.size := by obtain ⟨m, hm⟩ := t1; exact DataW.trod_lt m _ _ _ hm
  have lt2 : ∀ x ∈ p2, x.block < W.heap.size := by obtain ⟨m, hm⟩ := t2; exact DataW.trod_lt m _ _ _ hm
  have hsz2 : (DataW.weightsEach Tryd.prog [37, 2, 5] [d0, d1, d2]).all (· ≤ reachBytes) = true := hsz
  refine (blockMany_walk enc W base v0 v1 v2 d0 d1 d2 p0 p1 p2 (hval 0 37 v0 rfl rfl) (hval 1 2 v1 rfl rfl) (hval 2 5 v2 rfl rfl) t0 t1 t2 hsz2 (tab_of hL)).mono fun e W' ⟨he, bel⟩ => ?_
  subst he
  exact ⟨_, rfl, _, _, _, [], _, [], hW', trodAll_mk1 (shut_bool Tryd.underlying4 _), (trodAll_cons_mk (Below.trod laidOut (by kernel_rfl) (of_decide_eq_true (by kernel_rfl)) t0 bel lt0) (trodAll_cons_mk (Below.trod laidOut (by kernel_rfl) (of_decide_eq_true (by kernel_rfl)) t1 bel lt1) (trodAll_cons_mk (Below.trod laidOut (by kernel_rfl) (of_decide_eq_true (by kernel_rfl)) t2 bel lt2) trodAll_mk0))), rfl, bel.frame _, fun h => by cases h⟩
theorem said : Rows.BlockManySaid :=
  OpenClaim.holds_of_cond 6 Tryd.f6 rfl rfl rfl rfl rfl rfl rfl ⟨rfl, rfl, rfl, rfl, rfl⟩ rfl rfl rfl rfl rfl (by kernel_rfl) Tryd.func6 (by kernel_rfl)
    (of_decide_eq_true (by kernel_rfl)) (by unfold Func.isWrapper; first | (rw [if_pos (by decide +kernel)]; kernel_rfl) | (rw [if_neg (by decide +kernel)]; exact ⟨rfl, rfl⟩))
    (fun os started H enc _ F => by rw [OpenClaim.pre_eq_preRow]; exact lifted os started H enc F)
theorem plain (f : FuncId) (fn : Func) (hf : Tryd.pinned.checked.prog.funcNamed "grist/gristlaw08.BlockMany" = some f) (hfn : Tryd.pinned.checked.prog.funcs[f]? = some fn) :
    false = Tryd.pinned.checked.prog.looks [] ∧ ∀ (j : Nat) t, fn.params[j]? = some t → Tryd.pinned.checked.prog.wantsStandIn t = false := by
  obtain rfl : f = 6 := Option.some.inj ((show Tryd.prog.funcNamed "grist/gristlaw08.BlockMany" = some 6 by kernel_rfl).symm.trans hf) |>.symm
  obtain rfl : fn = Tryd.f6 := (Option.some.inj (Tryd.func6.symm.trans hfn)).symm
  refine ⟨by kernel_rfl, fun j t ht => ?_⟩
  rw [Tryd.params6] at ht
  have hm : t ∈ [37, 2, 5] := by simpa using Array.mem_of_getElem? ht
  have hall : ([37, 2, 5].all fun u => !Tryd.prog.wantsStandIn u) = true := by kernel_rfl
  exact (show Tryd.prog.wantsStandIn t = false by simpa using List.all_eq_true.1 hall t hm)
theorem proved : Rows.BlockManyCardSaid :=
  Claim7.holds_tied_plain_at .later [] _ _ _ _ said (fun _ h => by cases h) (by kernel_rfl) (fun _ h => by cases h) blockMany_row_tie rfl ⟨rfl, rfl⟩ (by kernel_rfl) rfl plain (by kernel_rfl)
#print axioms proved
end Go.Proofs.YthiojdkhapbbnaaDoor.lawBlockMany
