/- The statement 'BlockSumsCardSaid', out of its walk 'blockSums_walk': the frame of a tied card: the table of math/bits reads as it is laid. Conditions: none beyond the form's own reach. -/
import Derived.Test.YthiojdkhapbbnaaDoorG11
import Derived.Test.YthiojdkhapbbnaaDoorG6
import Derived.WalkKit
import Derived.ProofKit
import Derived.OpenShut
import Derived.ChangeOld
import Derived.Below
import Derived.SizedLaws
import Derived.JoinedCond
import Derived.Deep.DeepHandedRow
/- XSums08: BlockSums' walk. -/
namespace Go.Proofs.YthiojdkhapbbnaaDoor
open Go.RowKit Go.ChangeShapes Go.WideShapes Go.ChangeAt
set_option linter.unusedVariables false
set_option maxRecDepth 100000

set_option maxHeartbeats 2000000 in
theorem blockSums_run (bs : List UInt8) (a : Int) (y : Nat) (hy : y ≤ 255) (v : Value) (w : World) (hl : bs.length ≤ 140737488351232) (ht : Tab w) (hr : Rd w v bs) :
    Calls Tryd.prog 4 #[v, .int .i64 a, .int .u8 (y : Int)] w fun e w' => e = .returned (.bool true) ∧ Below w.heap.size w w' := by
  obtain ⟨ao0, cap0, rfl, hnc, hcm⟩ := RdV.shape hr
  unfold maxLen at hcm
  have HR := Lib.hid hr
  have HTB := Lib.hid ht
  clear hr ht
  go_enter Tryd.func4, Tryd.ntmps4
  go_wp2_with (go_at_call 8; refine (awake08_any w HTB.out).mono ?_; rintro e w1 ⟨rfl, hb1⟩; have HB1 := Lib.hid hb1; clear hb1)
  have HR1 := Lib.hid (show Rd w1 (.slice ao0 bs.length cap0) bs from RdV.below HR.out.v HB1.out)
  have hS1 := sum_any bs _ w1 HR1.out
  have hS2 := fun q => rsum_any bs (.slice ao0 bs.length cap0) (w1.drewN q) HR1.out
  obtain ⟨S0, hS0⟩ : ∃ S0, S0 = crc bs := ⟨_, rfl⟩
  have HS0 := Lib.hid hS0
  rw [← hS0] at hS1 hS2
  clear hS0
  by_cases hz : bs = []
  · subst hz
    go_wp2_with (first
      | (go_at_call 11; refine hS1.mono ?_; rintro _ w2 ⟨rfl, q2, rfl⟩)
      | (go_at_call 12; refine (hS2 _).mono ?_; rintro _ w3 ⟨rfl, q3, rfl⟩))
    go_ret
    exact ⟨rfl, below_dr HB1.out _⟩
  · have hbl : 0 < bs.length := List.length_pos_iff.2 hz
    have hbI : ((bs.length : Int) == 0) = false := by simp; omega
    by_cases hy0 : y = 0
    · subst hy0
      go_wp2_with (first
        | (go_at_call 11; refine hS1.mono ?_; rintro _ w2 ⟨rfl, q2, rfl⟩)
        | (go_at_call 12; refine (hS2 _).mono ?_; rintro _ w3 ⟨rfl, q3, rfl⟩))
      go_ret
      exact ⟨rfl, below_dr HB1.out _⟩
    · have hyI : ((y : Int) == 0) = false := by simp; omega
      obtain ⟨j, hj⟩ : ∃ j, j = uT a % bs.length := ⟨_, rfl⟩
      have hjl : j < bs.length := by rw [hj]; exact Nat.mod_lt _ hbl
      have hua := u64_wrap a
      have hjI : ((uT a : Nat) : Int) % (bs.length : Int) = (j : Int) := by rw [hj]; simp
      have hbl0 : ¬ (bs.length : Int) = 0 := by omega
      have htm : (IntKind.u64.wrap a).tmod (bs.length : Int) = (j : Int) := by rw [hua, Int.tmod_eq_emod_of_nonneg (by omega), hjI]
      have hjw : wrap64 (j : Int) = (j : Int) := by rw [← IntWalk.i64_left]; exact IntWalk.i64_in _ (by omega)
      have hc0 : ∀ q, Own ((w1.drewN q).alloc (.cells #[] 5)) w1.heap.size (.slice (some ⟨w1.heap.size, 0, none⟩) 0 0) [] := fun q => World.ownsRow_lit (w1.drewN q) #[] 0 (Nat.le_refl _) (by decide) rfl
      have hsb : Hid (([] : List UInt8).length + bs.length ≤ 140737488355328) := Lib.hid (by simp; omega)
      go_upto_region 6 with (first
        | (go_at_call 11; refine hS1.mono ?_; rintro _ w2 ⟨rfl, q2, rfl⟩)
        | (go_at_call 12; refine (hS2 _).mono ?_; rintro _ w3 ⟨rfl, q3, rfl⟩)
        | (at_builtin; refine wpList_append_bs _ rfl (.tmp 22) (.tmp 23) rfl w1.heap.size (.slice (some ⟨w1.heap.size, 0, none⟩) 0 0) [] rfl (hc0 _) (.slice ao0 bs.length cap0) bs rfl (RdV.below HR1.out.v ((below_dr (Below.refl w1.heap.size w1) _).alloc (Nat.le_refl _) _)) hsb.out (by show w1.heap.size ≤ _; simp [World.size_alloc]) ?_; intro ao4 cap4 w4 hg4; rw [List.nil_append] at hg4 ⊢; have HG4 := Lib.hid hg4; clear hg4))
      have hBw : Below w1.heap.size w1 w4 := ((below_dr (Below.refl w1.heap.size w1) _).alloc (Nat.le_refl _) _).trans (HG4.out.below (by show w1.heap.size ≤ _; simp [World.size_alloc]) (fun i hi => (World.ownsRow.lt (hc0 (q2 + q3)) i hi).1))
      have HO4 : Hid (Own w4 w1.heap.size (.slice ao4 bs.length cap4) bs) := Lib.hid HG4.out.owns
      have HB4 := Lib.hid (HB1.out.trans (hBw.mono HB1.out.size))
      have HW4 := Lib.hid hBw
      clear hBw HG4 hc0 hsb hS1 hS2
      obtain ⟨g, rfl, hgb, hgc, hgf, hput⟩ := own_putj HO4.out hjl
      obtain ⟨z, hzd⟩ : ∃ z : UInt8, z = UInt8.ofNat (bs[j].toNat + y) := ⟨_, rfl⟩
      have hzI : ((bs[j].toNat : Int) + (y : Int)) % 256 = ((z.toNat : Nat) : Int) := by rw [hzd, UInt8.toNat_ofNat']; omega
      have hzn : z ≠ bs[j] := by
        intro h
        have h1 := congrArg UInt8.toNat h
        rw [hzd, UInt8.toNat_ofNat'] at h1
        have h2 := bs[j].toNat_lt
        omega
      have HTN : Hid (crc (bs.set j z) ≠ S0) := Lib.hid (by rw [HS0.out]; exact crc_turn hjl hzn)
      have HPUT := Lib.hid (hput z)
      have HLZ : Hid ((bs.set j z).length = bs.length) := Lib.hid List.length_set
      unfold bV at hgc
      clear hput hzd hj hzn
      generalize bs[j].toNat = B at *
      generalize uT a = U at *
      clear hbI hyI hz hy0
      have hsC := sum_any (bs.set j z) (.slice (some ⟨g, 0, none⟩) bs.length cap4) (w4.setCell ⟨g, j, none⟩ (.int .u8 (z.toNat : Int))) (Own.rd HPUT.out)
      have HBS : Below w1.heap.size w1 (w4.setCell ⟨g, j, none⟩ (.int .u8 (z.toNat : Int))) := HW4.out.setCell (p := ⟨g, j, none⟩) hgb _
      have HBT := Lib.hid (HB1.out.trans (HBS.mono HB1.out.size))
      have hsB := fun q => sum_any bs (.slice ao0 bs.length cap0) ((w4.setCell ⟨g, j, none⟩ (.int .u8 (z.toNat : Int))).drewN q) (RdV.below HR1.out.v (below_dr HBS q))
      rw [← HS0.out] at hsB
      have hne : ((crc (bs.set j z) : Int) != (S0 : Int)) = true := by have := HTN.out; simp; omega
      clear HBS
      generalize crc (bs.set j z) = S1 at *
      go_wp2_with (first
        | (go_at_call 11; (with_reducible refine hsC.mono ?_); rintro _ w5 ⟨rfl, q5, rfl⟩)
        | (go_at_call 11; (with_reducible refine (hsB _).mono ?_); rintro _ w6 ⟨rfl, q6, rfl⟩))
      go_ret
      exact ⟨rfl, below_dr HBT.out _⟩
theorem blockSums_walk {H : Type} (enc : TypeId × Value → H) (W : World) (base : Nat) (v0 v1 v2 : Value) (d0 d1 d2 : DataW H) (p0 p1 p2 : List MemPlace)
    (o0 : Value.okWide Tryd.prog W .any base 24 v0) (o1 : Value.okWide Tryd.prog W .any base 3 v1) (o2 : Value.okWide Tryd.prog W .any base 5 v2)
    (t0 : DataW.Trod enc Tryd.prog W 0 (fun _ => true) true 24 v0 d0 p0) (t1 : DataW.Trod enc Tryd.prog W 0 (fun _ => true) true 3 v1 d1 p1) (t2 : DataW.Trod enc Tryd.prog W 0 (fun _ => true) true 5 v2 d2 p2)
    (hsz : (DataW.weightsEach Tryd.prog [24, 3, 5] [d0, d1, d2]).all (· ≤ reachBytes) = true) (ht : Tab W) :
    Calls Tryd.prog 4 #[v0, v1, v2] W fun e W' => e = .returned (.bool true) ∧ Below W.heap.size W W' := by
  simp only [DataW.weightsEach, List.append_nil, List.all_append, Bool.and_eq_true] at hsz
  obtain ⟨bs, hr0, _, hd⟩ := open_bytes o0 t0
  have hl := sized_bytes hsz.1 hd
  obtain ⟨a1, rfl, rfl, rfl, w1⟩ := open_int Tryd.underlying3 o1 t1
  obtain ⟨a2, rfl, rfl, rfl, w2⟩ := open_int Tryd.underlying5 o2 t2
  have hy := wf_u8 w2
  obtain ⟨m, rfl⟩ := Int.eq_ofNat_of_zero_le hy.1
  exact blockSums_run bs a1 m (by omega) v0 W hl ht hr0
end Go.Proofs.YthiojdkhapbbnaaDoor

/- XLawBlockSums: The statement 'BlockSumsCardSaid', out of its walk 'blockSums_walk': the frame of a tied card: the table of math/bits reads as it is laid. Conditions: none beyond the form's own reach. -/
namespace Go.Proofs.YthiojdkhapbbnaaDoor.lawBlockSums
open Go.ChangeShapes Go.WideShapes Go.ChangeAt Go.RowKit
set_option linter.unusedVariables false
theorem own : ownKnob Tryd.prog.godebug = none := by kernel_rfl
theorem laidOut : laidOutB Tryd.prog = true := by kernel_rfl
theorem laid_met (os : Os) : laidMet Tryd.prog Rows.blockSumsRow.laid ((laidWorld os).forCall (fun _ _ => 0) ⟨#[], #[.slice none 0 0, .int .i64 0, .int .u8 0], []⟩).memory :=
  laidMet_of_run' 8 (by kernel_rfl) (by kernel_rfl)
theorem reads (os : Os) {H : Type} (enc : TypeId × Value → H) : ∃ places, DataW.whole enc Tryd.prog ((laidWorld os).forCall (fun _ _ => 0) ⟨#[], #[.slice none 0 0, .int .i64 0, .int .u8 0], []⟩).memory Tryd.f4.params.toList Rows.blockSumsSpec.vars false (#[.slice none 0 0, .int .i64 0, .int .u8 0] : Array Value).toList 8 = some ([.nil, .lit (.int .i64 0), .lit (.int .u8 0)], [], places) :=
  ⟨[], by kernel_rfl⟩
set_option maxRecDepth 100000 in
theorem lifted (os : Os) (started : os.Started) (H : Type) (enc : TypeId × Value → H) (F : Stop.Interp) :
    ReturnsInHanded {} Tryd.checked os 4 .any ((OpenSpec.ofChange Rows.blockSumsSpec).preRow enc Tryd.prog Tryd.f4 Rows.blockSumsRow.domain false Rows.blockSumsRow.laid) (((OpenSpec.ofChange Rows.blockSumsSpec).at F).post enc Tryd.prog Tryd.f4 false true false false) := by
  obtain ⟨places, hx⟩ := reads os enc
  refine returnsInHanded_of_row (C := Tryd.checked) (s := OpenSpec.ofChange Rows.blockSumsSpec) own started (by kernel_rfl) Tryd.func4
    (witness_row_at (enc := enc) (C := Tryd.checked) false (laidWorld os) #[.slice none 0 0, .int .i64 0, .int .u8 0] rfl (by kernel_rfl) (by kernel_rfl) (by kernel_rfl)
      (OpenSpec.preRow_of_cond 8 hx (by kernel_rfl) (fun k hk => by cases hk) (by kernel_rfl) (laid_met os))) ?_
  intro W base args ds gs before hval0 hW _ hcnd hsz0 hL _ _
  have hval : ∀ (j : Nat) t v, Tryd.f4.params[j]? = some t → args[j]? = some v → Value.okWide Tryd.prog W .any base t v := hval0
  have hsz : (DataW.weightsEach Tryd.prog (Tryd.f4.params.toList ++ (OpenSpec.ofChange Rows.blockSumsSpec).bare.plain.varTypes Tryd.prog) (ds ++ gs)).all (· ≤ reachBytes) = true := hsz0
  have hW' := hW
  obtain ⟨p, q, hA0, hV, rfl, hfz, hnd⟩ := hW
  have hA : DataW.TrodAll enc Tryd.prog W 0 (fun _ => true) true Tryd.f4.params.toList args.toList ds p := hA0
  rw [Tryd.params4] at hA hval hsz
  obtain ⟨v0, vs0, d0, ds0, p0, q0, hargs, rfl, rfl, t0, r0⟩ := trodAll_cons hA
  obtain ⟨v1, vs1, d1, ds1, p1, q1, rfl, rfl, rfl, t1, r1⟩ := trodAll_cons r0
  obtain ⟨v2, vs2, d2, ds2, p2, q2, rfl, rfl, rfl, t2, r2⟩ := trodAll_cons r1
  obtain ⟨rfl, rfl, rfl⟩ := trodAll_nil r2
  obtain rfl : args = #[v0, v1, v2] := by cases args; simp_all
  obtain ⟨rfl, rfl⟩ := trodVars_none hV
  have lt0 : ∀ x ∈ p0, x.block < W.heap.size := by obtain ⟨m, hm⟩ := t0; exact DataW.trod_lt m _ _ _ hm
  have lt1 : ∀ x ∈ p1, x.block < W.heap.size := by obtain ⟨m, hm⟩ := t1; exact DataW.trod_lt m _ _ _ hm
  have lt2 : ∀ x ∈ p2, x.block < W.heap.size := by obtain ⟨m, hm⟩ := t2; exact DataW.trod_lt m _ _ _ hm
  have hsz2 : (DataW.weightsEach Tryd.prog [24, 3, 5] [d0, d1, d2]).all (· ≤ reachBytes) = true := hsz
  refine (blockSums_walk enc W base v0 v1 v2 d0 d1 d2 p0 p1 p2 (hval 0 24 v0 rfl rfl) (hval 1 3 v1 rfl rfl) (hval 2 5 v2 rfl rfl) t0 t1 t2 hsz2 (tab_of hL)).mono fun e W' ⟨he, bel⟩ => ?_
  subst he
  exact ⟨_, rfl, _, _, _, [], _, [], hW', trodAll_mk1 (shut_bool Tryd.underlying4 _), (trodAll_cons_mk (Below.trod laidOut (by kernel_rfl) (of_decide_eq_true (by kernel_rfl)) t0 bel lt0) (trodAll_cons_mk (Below.trod laidOut (by kernel_rfl) (of_decide_eq_true (by kernel_rfl)) t1 bel lt1) (trodAll_cons_mk (Below.trod laidOut (by kernel_rfl) (of_decide_eq_true (by kernel_rfl)) t2 bel lt2) trodAll_mk0))), rfl, bel.frame _, fun h => by cases h⟩
theorem said : Rows.BlockSumsSaid :=
  OpenClaim.holds_of_cond 4 Tryd.f4 rfl rfl rfl rfl rfl rfl rfl ⟨rfl, rfl, rfl, rfl, rfl⟩ rfl rfl rfl rfl rfl (by kernel_rfl) Tryd.func4 (by kernel_rfl)
    (of_decide_eq_true (by kernel_rfl)) (by unfold Func.isWrapper; first | (rw [if_pos (by decide +kernel)]; kernel_rfl) | (rw [if_neg (by decide +kernel)]; exact ⟨rfl, rfl⟩))
    (fun os started H enc _ F => by rw [OpenClaim.pre_eq_preRow]; exact lifted os started H enc F)
theorem plain (f : FuncId) (fn : Func) (hf : Tryd.pinned.checked.prog.funcNamed "grist/gristlaw08.BlockSums" = some f) (hfn : Tryd.pinned.checked.prog.funcs[f]? = some fn) :
    false = Tryd.pinned.checked.prog.looks [] ∧ ∀ (j : Nat) t, fn.params[j]? = some t → Tryd.pinned.checked.prog.wantsStandIn t = false := by
  obtain rfl : f = 4 := Option.some.inj ((show Tryd.prog.funcNamed "grist/gristlaw08.BlockSums" = some 4 by kernel_rfl).symm.trans hf) |>.symm
  obtain rfl : fn = Tryd.f4 := (Option.some.inj (Tryd.func4.symm.trans hfn)).symm
  refine ⟨by kernel_rfl, fun j t ht => ?_⟩
  rw [Tryd.params4] at ht
  have hm : t ∈ [24, 3, 5] := by simpa using Array.mem_of_getElem? ht
  have hall : ([24, 3, 5].all fun u => !Tryd.prog.wantsStandIn u) = true := by kernel_rfl
  exact (show Tryd.prog.wantsStandIn t = false by simpa using List.all_eq_true.1 hall t hm)
theorem proved : Rows.BlockSumsCardSaid :=
  Claim7.holds_tied_plain_at .later [] _ _ _ _ said (fun _ h => by cases h) (by kernel_rfl) (fun _ h => by cases h) blockSums_row_tie rfl ⟨rfl, rfl⟩ (by kernel_rfl) rfl plain (by kernel_rfl)
#print axioms proved
end Go.Proofs.YthiojdkhapbbnaaDoor.lawBlockSums
