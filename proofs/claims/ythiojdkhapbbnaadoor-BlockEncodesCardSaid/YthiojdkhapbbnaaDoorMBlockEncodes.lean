/- The statement 'BlockEncodesCardSaid', out of its walk 'blockEncodes_walk': the frame of a tied card: the table of math/bits reads as it is laid. Conditions: none beyond the form's own reach. -/
import Derived.Test.YthiojdkhapbbnaaDoorG11
import Derived.Test.YthiojdkhapbbnaaDoorG10
import Derived.Test.YthiojdkhapbbnaaDoorG6
import Derived.WalkKit
import Derived.ProofKit
import Derived.OpenShut
import Derived.ChangeOld
import Derived.Below
import Derived.SizedLaws
import Derived.JoinedCond
import Derived.Deep.DeepHandedRow
/- XBlocks08: BlockEncodes' and BlockSums' walks. -/
namespace Go.Proofs.YthiojdkhapbbnaaDoor
open Go.RowKit Go.ChangeShapes Go.WideShapes Go.ChangeAt
set_option linter.unusedVariables false
set_option maxRecDepth 100000

set_option maxHeartbeats 2000000 in
set_option maxRecDepth 100000 in
theorem blockEncodes_run (l : List Pn) (v : Value) (w : World) (hx : ∀ x ∈ l, x.ok) (hl : l.length * 40 ≤ 140737488351232) (ht : Tab w) (hr : Pns w v l) :
    Calls Tryd.prog 3 #[v] w fun e w' => e = .returned (.bool true) ∧ Below w.heap.size w w' := by
  obtain ⟨ao0, cap0, rfl, hnc, hcm⟩ := RdV.shape hr
  unfold maxLen at hcm
  have HR := Lib.hid hr
  have HTB := Lib.hid ht
  have HX := Lib.hid hx
  have HLN := Lib.hid hl
  clear hr ht hx hl
  go_enter Tryd.func3, Tryd.ntmps3
  go_wp2_with (go_at_call 8; refine (awake08_any w HTB.out).mono ?_; rintro e w1 ⟨rfl, hb1⟩; have HB1 := Lib.hid hb1; clear hb1)
  have HR1 := Lib.hid (show Pns w1 (.slice ao0 l.length cap0) l from RdV.below HR.out HB1.out)
  have HT1 := Lib.hid (HTB.out.below HB1.out)
  obtain ⟨p, hp⟩ : ∃ p, p = encP l := ⟨_, rfl⟩
  have HP := Lib.hid hp
  clear hp
  go_upto_region 5 with (first
    | (go_at_call 9; refine (rencodeB_any l _ _ HX.out HLN.out HR1.out).mono ?_; rintro e w2 ⟨hb2, ao2, cap2, rfl, hr2⟩; rw [← HP.out] at hr2 ⊢; have HB2 := Lib.hid hb2; have HR2 := Lib.hid hr2.rd; have HN2 := Lib.hid (show Pns w2 (.slice ao0 l.length cap0) l from RdV.below HR1.out hb2); have HT2 := Lib.hid (HT1.out.below hb2); clear hb2 hr2)
    | (go_at_call 10; refine (encodeB_any l _ _ HX.out HLN.out HT2.out HN2.out).mono ?_; rintro e w3 ⟨hb3, ao3, cap3, rfl, hr3⟩; rw [← HP.out] at hr3 ⊢; have HB3 := Lib.hid hb3; have HR3 := Lib.hid hr3.rd; have HR4 := Lib.hid (show Rd w3 (.slice ao2 p.1.length cap2) p.1 from RdV.below HR2.out.v hb3); clear hb3 hr3))
  have c4 := run_str HR3.out 24 5 9 Tryd.underlying24 Tryd.underlying5 Tryd.underlying9
  have c5 := run_str HR4.out 24 5 9 Tryd.underlying24 Tryd.underlying5 Tryd.underlying9
  obtain ⟨bs, n⟩ := p
  dsimp only at *
  go_wp2_with fail
  go_ret
  exact ⟨rfl, HB1.out.trans ((HB2.out.trans (HB3.out.mono HB2.out.size)).mono HB1.out.size)⟩
theorem blockEncodes_walk {H : Type} (enc : TypeId × Value → H) (W : World) (base : Nat) (v0 : Value) (d0 : DataW H) (p0 : List MemPlace)
    (o0 : Value.okWide Tryd.prog W .any base 22 v0)
    (t0 : DataW.Trod enc Tryd.prog W 0 (fun _ => true) true 22 v0 d0 p0)
    (hsz : (DataW.weightsEach Tryd.prog [22] [d0]).all (· ≤ reachBytes) = true) (ht : Tab W) :
    Calls Tryd.prog 3 #[v0] W fun e W' => e = .returned (.bool true) ∧ Below W.heap.size W W' := by
  simp only [DataW.weightsEach, List.append_nil] at hsz
  obtain ⟨l, hr0, hx, hl⟩ := open_pns o0 t0 hsz
  exact blockEncodes_run l v0 W hx hl ht hr0
end Go.Proofs.YthiojdkhapbbnaaDoor

/- XLawBlockEncodes: The statement 'BlockEncodesCardSaid', out of its walk 'blockEncodes_walk': the frame of a tied card: the table of math/bits reads as it is laid. Conditions: none beyond the form's own reach. -/
namespace Go.Proofs.YthiojdkhapbbnaaDoor.lawBlockEncodes
open Go.ChangeShapes Go.WideShapes Go.ChangeAt Go.RowKit
set_option linter.unusedVariables false
theorem own : ownKnob Tryd.prog.godebug = none := by kernel_rfl
theorem laidOut : laidOutB Tryd.prog = true := by kernel_rfl
theorem laid_met (os : Os) : laidMet Tryd.prog Rows.blockEncodesRow.laid ((laidWorld os).forCall (fun _ _ => 0) ⟨#[], #[.slice none 0 0], []⟩).memory :=
  laidMet_of_run' 8 (by kernel_rfl) (by kernel_rfl)
theorem reads (os : Os) {H : Type} (enc : TypeId × Value → H) : ∃ places, DataW.whole enc Tryd.prog ((laidWorld os).forCall (fun _ _ => 0) ⟨#[], #[.slice none 0 0], []⟩).memory Tryd.f3.params.toList Rows.blockEncodesSpec.vars false (#[.slice none 0 0] : Array Value).toList 8 = some ([.nil], [], places) :=
  ⟨[], by kernel_rfl⟩
set_option maxRecDepth 100000 in
theorem lifted (os : Os) (started : os.Started) (H : Type) (enc : TypeId × Value → H) (F : Stop.Interp) :
    ReturnsInHanded {} Tryd.checked os 3 .any ((OpenSpec.ofChange Rows.blockEncodesSpec).preRow enc Tryd.prog Tryd.f3 Rows.blockEncodesRow.domain false Rows.blockEncodesRow.laid) (((OpenSpec.ofChange Rows.blockEncodesSpec).at F).post enc Tryd.prog Tryd.f3 false true false false) := by
  obtain ⟨places, hx⟩ := reads os enc
  refine returnsInHanded_of_row (C := Tryd.checked) (s := OpenSpec.ofChange Rows.blockEncodesSpec) own started (by kernel_rfl) Tryd.func3
    (witness_row_at (enc := enc) (C := Tryd.checked) false (laidWorld os) #[.slice none 0 0] rfl (by kernel_rfl) (by kernel_rfl) (by kernel_rfl)
      (OpenSpec.preRow_of_cond 8 hx (by kernel_rfl) (fun k hk => by cases hk) (by kernel_rfl) (laid_met os))) ?_
  intro W base args ds gs before hval0 hW _ hcnd hsz0 hL _ _
  have hval : ∀ (j : Nat) t v, Tryd.f3.params[j]? = some t → args[j]? = some v → Value.okWide Tryd.prog W .any base t v := hval0
  have hsz : (DataW.weightsEach Tryd.prog (Tryd.f3.params.toList ++ (OpenSpec.ofChange Rows.blockEncodesSpec).bare.plain.varTypes Tryd.prog) (ds ++ gs)).all (· ≤ reachBytes) = true := hsz0
  have hW' := hW
  obtain ⟨p, q, hA0, hV, rfl, hfz, hnd⟩ := hW
  have hA : DataW.TrodAll enc Tryd.prog W 0 (fun _ => true) true Tryd.f3.params.toList args.toList ds p := hA0
  rw [Tryd.params3] at hA hval hsz
  obtain ⟨v0, vs0, d0, ds0, p0, q0, hargs, rfl, rfl, t0, r0⟩ := trodAll_cons hA
  obtain ⟨rfl, rfl, rfl⟩ := trodAll_nil r0
  obtain rfl : args = #[v0] := by cases args; simp_all
  obtain ⟨rfl, rfl⟩ := trodVars_none hV
  have lt0 : ∀ x ∈ p0, x.block < W.heap.size := by obtain ⟨m, hm⟩ := t0; exact DataW.trod_lt m _ _ _ hm
  have hsz2 : (DataW.weightsEach Tryd.prog [22] [d0]).all (· ≤ reachBytes) = true := hsz
  refine (blockEncodes_walk enc W base v0 d0 p0 (hval 0 22 v0 rfl rfl) t0 hsz2 (tab_of hL)).mono fun e W' ⟨he, bel⟩ => ?_
  subst he
  exact ⟨_, rfl, _, _, _, [], _, [], hW', trodAll_mk1 (shut_bool Tryd.underlying4 _), (trodAll_cons_mk (Below.trod laidOut (by kernel_rfl) (of_decide_eq_true (by kernel_rfl)) t0 bel lt0) trodAll_mk0), rfl, bel.frame _, fun h => by cases h⟩
theorem said : Rows.BlockEncodesSaid :=
  OpenClaim.holds_of_cond 3 Tryd.f3 rfl rfl rfl rfl rfl rfl rfl ⟨rfl, rfl, rfl, rfl, rfl⟩ rfl rfl rfl rfl rfl (by kernel_rfl) Tryd.func3 (by kernel_rfl)
    (of_decide_eq_true (by kernel_rfl)) (by unfold Func.isWrapper; first | (rw [if_pos (by decide +kernel)]; kernel_rfl) | (rw [if_neg (by decide +kernel)]; exact ⟨rfl, rfl⟩))
    (fun os started H enc _ F => by rw [OpenClaim.pre_eq_preRow]; exact lifted os started H enc F)
theorem plain (f : FuncId) (fn : Func) (hf : Tryd.pinned.checked.prog.funcNamed "grist/gristlaw08.BlockEncodes" = some f) (hfn : Tryd.pinned.checked.prog.funcs[f]? = some fn) :
    false = Tryd.pinned.checked.prog.looks [] ∧ ∀ (j : Nat) t, fn.params[j]? = some t → Tryd.pinned.checked.prog.wantsStandIn t = false := by
  obtain rfl : f = 3 := Option.some.inj ((show Tryd.prog.funcNamed "grist/gristlaw08.BlockEncodes" = some 3 by kernel_rfl).symm.trans hf) |>.symm
  obtain rfl : fn = Tryd.f3 := (Option.some.inj (Tryd.func3.symm.trans hfn)).symm
  refine ⟨by kernel_rfl, fun j t ht => ?_⟩
  rw [Tryd.params3] at ht
  have hm : t ∈ [22] := by simpa using Array.mem_of_getElem? ht
  have hall : ([22].all fun u => !Tryd.prog.wantsStandIn u) = true := by kernel_rfl
  exact (show Tryd.prog.wantsStandIn t = false by simpa using List.all_eq_true.1 hall t hm)
theorem proved : Rows.BlockEncodesCardSaid :=
  Claim7.holds_tied_plain_at .later [] _ _ _ _ said (fun _ h => by cases h) (by kernel_rfl) (fun _ h => by cases h) blockEncodes_row_tie rfl ⟨rfl, rfl⟩ (by kernel_rfl) rfl plain (by kernel_rfl)
#print axioms proved
end Go.Proofs.YthiojdkhapbbnaaDoor.lawBlockEncodes
