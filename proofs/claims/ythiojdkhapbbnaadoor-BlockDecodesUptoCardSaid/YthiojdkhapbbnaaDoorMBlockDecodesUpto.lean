/- The statement 'BlockDecodesUptoCardSaid', out of its walk 'blockDecodes_walk': the frame of a tied card: the table of math/bits reads as it is laid. Conditions: what is read is of bulk at most 1048576. -/
import Derived.Test.YthiojdkhapbbnaaDoorG15
import Derived.Test.YthiojdkhapbbnaaDoorG11
import Derived.Test.YthiojdkhapbbnaaDoorG6
import Derived.WalkKit
import Derived.ProofKit
import Derived.OpenShut
import Derived.ChangeOld
import Derived.Below
import Derived.SizedLaws
import Derived.JoinedCond
import Derived.Deep.DeepHandedRow
/- XDecs08: block.Span; BlockDecodes' walk. -/
namespace Go.Proofs.YthiojdkhapbbnaaDoor
open Go.RowKit Go.ChangeShapes Go.WideShapes Go.ChangeAt
set_option linter.unusedVariables false
set_option maxRecDepth 100000

theorem results_tmp4 {fn : Func} {t u v x : Tmp} (h : fn.results = #[.tmp t, .tmp u, .tmp v, .tmp x]) (tmps : Array Value) (P : Program) (w : World) :
    (results fn tmps).run P w = .ok (.tuple #[tmps.getD t undef, tmps.getD u undef, tmps.getD v undef, tmps.getD x undef]) w := by
  simp [results, h]
def spF (p : List Pn × Int) : Int := (p.1.getD 0 p0).t
def spL (p : List Pn × Int) : Int := (p.1.getD (p.1.length - 1) p0).t
def SpEnd (p : List Pn × Int) (w : World) (e : Ending) (w' : World) : Prop :=
  Below w.heap.size w w' ∧ e = .returned (.tuple #[.int .i64 (spF p), .int .i64 (spL p), .int .i64 (p.1.length : Int), .int .i64 p.2])
set_option maxHeartbeats 1000000 in
theorem span_any (b : List UInt8) (v : Value) (w : World) (hl : b.length ≤ 140737488355328) (ht : Tab w) (hr : Rd w v b) :
    Calls Tryd.prog 16 #[v] w fun e w' => SpEnd (pdP b) w e w' := by
  have hD := decodeB_any b v w hl ht hr
  obtain ⟨p, hp⟩ : ∃ p, p = pdP b := ⟨_, rfl⟩
  have HP := Lib.hid hp
  rw [← hp]
  clear hp hr
  go_enter Tryd.func16, Tryd.ntmps16
  go_upto_region 2 with (go_at_call 13; refine hD.mono ?_; rintro e w2 ⟨hb2, hu2, ao, cap, rfl, hv2⟩; rw [← HP.out] at hv2 ⊢; have HB2 := Lib.hid hb2; have HV2 := Lib.hid hv2; clear hb2 hv2 hu2 hD)
  by_cases h0 : p.2 = 0
  · have hg := pdP_PdG (b := b) (by rw [← HP.out]; exact h0)
    rw [← HP.out] at hg
    have hln := pdG_len hg
    clear hg
    obtain ⟨l, m⟩ := p
    dsimp only at *
    subst h0
    obtain ⟨g, off, c, he, hgl, f0, _, _, _⟩ := pn_at HV2.out 0 (by omega)
    simp only [Value.slice.injEq, true_and] at he
    obtain ⟨rfl, rfl⟩ := he
    obtain ⟨g', off', c', he, _, f1, _, _, _⟩ := pn_at HV2.out (l.length - 1) (by omega)
    simp only [Value.slice.injEq, Option.some.injEq, Addr.mk.injEq, true_and, and_true] at he
    obtain ⟨⟨rfl, rfl⟩, rfl⟩ := he
    have HLN := Lib.hid hln
    have hl1 : ((l.length : Int) - 1) = ((l.length - 1 : Nat) : Int) := by omega
    obtain ⟨n, hn⟩ : ∃ n, n = l.length := ⟨_, rfl⟩
    have hn0 : 0 < n := by omega
    have hn1 : n ≤ 1000 := by omega
    rw [← hn] at f1 hl1 ⊢
    have hk : n - 1 < n := by omega
    have HNL := Lib.hid hn
    clear hn hln
    have e0 : (0 : Nat) * 4 = 0 := rfl
    rw [e0, Nat.add_zero] at f0
    clear e0
    obtain ⟨T0, hT0⟩ : ∃ T0, T0 = (l.getD 0 p0).t := ⟨_, rfl⟩
    obtain ⟨T1, hT1⟩ : ∃ T1, T1 = (l.getD (n - 1) p0).t := ⟨_, rfl⟩
    have HT0 := Lib.hid hT0
    have HT1 := Lib.hid hT1
    rw [← hT0] at f0
    rw [← hT1] at f1
    clear hT0 hT1
    generalize n - 1 = k at hl1 hk f1
    go_upto_region 4 with fail
    go_quiet (fail)
    go_wp2_with fail
    refine bodyPost_ret (results_tmp4 rfl _ _ _) rfl ?_
    refine ⟨HB2.out.trans ((below_drewN _).mono HB2.out.size), ?_⟩
    unfold spF spL
    dsimp only
    rw [← HNL.out, ← HT0.out, ← HT1.out]
    rfl
  · obtain ⟨he, h2⟩ := pdP_err (b := b) (by rw [← HP.out]; exact h0)
    rw [← HP.out] at he h2
    obtain ⟨l, m⟩ := p
    dsimp only at *
    subst he
    subst h2
    go_wp2_with fail
    refine bodyPost_ret (results_tmp4 rfl _ _ _) rfl ?_
    exact ⟨HB2.out, rfl⟩

set_option maxHeartbeats 2000000 in
theorem blockDecodes_run (b : List UInt8) (v : Value) (w : World) (hl : b.length ≤ 17592186044400) (ht : Tab w) (hr : Rd w v b) :
    Calls Tryd.prog 7 #[v] w fun e w' => e = .returned (.bool true) ∧ Below w.heap.size w w' := by
  obtain ⟨ao0, cap0, rfl, hnc, hcm⟩ := RdV.shape hr
  unfold maxLen at hcm
  have HR := Lib.hid hr
  have HTB := Lib.hid ht
  clear hr ht
  go_enter Tryd.func7, Tryd.ntmps7
  go_wp2_with (go_at_call 8; refine (awake08_any w HTB.out).mono ?_; rintro e w1 ⟨rfl, hb1⟩; have HB1 := Lib.hid hb1; clear hb1)
  have HR1 := Lib.hid (show Rd w1 (.slice ao0 b.length cap0) b from RdV.below HR.out.v HB1.out)
  have HT1 := Lib.hid (HTB.out.below HB1.out)
  have hD1 := rdecodeB_any b _ w1 hl HR1.out
  obtain ⟨p, hp⟩ : ∃ p, p = pdP b := ⟨_, rfl⟩
  have HP := Lib.hid hp
  clear hp
  go_upto_region 4 with (go_at_call 15; refine hD1.mono ?_; rintro e w2 ⟨hb2, hu2, ao2, cap2, rfl, hv2⟩; rw [← HP.out] at hv2 ⊢; have HB2 := Lib.hid (HB1.out.trans (hb2.mono HB1.out.size)); have HV2 := Lib.hid hv2; have HR2 := Lib.hid (show Rd w2 (.slice ao0 b.length cap0) b from RdV.below HR1.out.v hb2); have HT2 := Lib.hid (HT1.out.below hb2); clear hb2 hv2 hu2 hD1)
  have hD2 := decodeB_any b _ w2 (by omega) HT2.out HR2.out
  go_upto_region 5 with (go_at_call 13; refine hD2.mono ?_; rintro e w3 ⟨hb3, hu3, ao3, cap3, rfl, hv3⟩; rw [← HP.out] at hv3 ⊢; have HB3 := Lib.hid (HB2.out.trans (hb3.mono HB2.out.size)); have HV3 := Lib.hid hv3; have HV23 := Lib.hid (show Pns w3 (.slice ao2 p.1.length cap2) p.1 from RdV.below HV2.out hb3); have HR3 := Lib.hid (show Rd w3 (.slice ao0 b.length cap0) b from RdV.below HR2.out.v hb3); have HT3 := Lib.hid (HT2.out.below hb3); clear hb3 hv3 hu3 hD2)
  have hD3 := span_any b _ w3 (by omega) HT3.out HR3.out
  go_upto_region 6 with (go_at_call 16; refine hD3.mono ?_; rintro e w4 ⟨hb4, rfl⟩; rw [← HP.out]; have HB4 := Lib.hid (HB3.out.trans (hb4.mono HB3.out.size)); have HV4 := Lib.hid (show Pns w4 (.slice ao3 p.1.length cap3) p.1 from RdV.below HV3.out hb4); have HV24 := Lib.hid (show Pns w4 (.slice ao2 p.1.length cap2) p.1 from RdV.below HV23.out hb4); have HR4 := Lib.hid (show Rd w4 (.slice ao0 b.length cap0) b from RdV.below HR3.out.v hb4); clear hb4 hD3)
  have hSM := samePn_any p.1 (.slice ao3 p.1.length cap3) (.slice ao2 p.1.length cap2) w4 HV4.out HV24.out
  have hS1 := fun q => sum_any b (.slice ao0 b.length cap0) (w4.drewN q) HR4.out
  have hS2 := fun q => rsum_any b (.slice ao0 b.length cap0) (w4.drewN q) HR4.out
  generalize crc b = S0 at *
  by_cases h0 : p.2 = 0
  · have hln : 1 ≤ p.1.length ∧ p.1.length ≤ 1000 := by
      have hg := pdP_PdG (b := b) (by rw [← HP.out]; exact h0)
      rw [← HP.out] at hg
      exact pdG_len hg
    obtain ⟨g, off, c, he, hgl, f0, _, _, _⟩ := pn_at HV24.out 0 (by omega)
    simp only [Value.slice.injEq, true_and] at he
    obtain ⟨rfl, rfl⟩ := he
    obtain ⟨g', off', c', he, _, f1, _, _, _⟩ := pn_at HV24.out (p.1.length - 1) (by omega)
    simp only [Value.slice.injEq, Option.some.injEq, Addr.mk.injEq, true_and, and_true] at he
    obtain ⟨⟨rfl, rfl⟩, rfl⟩ := he
    have e0 : (p.1.getD 0 p0).t = spF p := rfl
    have e1 : (p.1.getD (p.1.length - 1) p0).t = spL p := rfl
    rw [e0, show (0 : Nat) * 4 = 0 from rfl, Nat.add_zero] at f0
    rw [e1] at f1
    clear e0 e1
    obtain ⟨l, m⟩ := p
    dsimp only at *
    subst h0
    have hl1 : ((l.length : Int) - 1) = ((l.length - 1 : Nat) : Int) := by omega
    have hk : l.length - 1 < l.length := by omega
    generalize spF (l, 0) = T0 at *
    generalize spL (l, 0) = T1 at *
    clear HP
    generalize l.length - 1 = k at *
    generalize l.length = n at *
    go_upto_region 8 with (first
      | (go_at_call 14; refine hSM.mono ?_; rintro _ _ ⟨rfl, q1, rfl⟩)
      | (go_at_call 11; refine (hS1 _).mono ?_; rintro _ _ ⟨rfl, q2, rfl⟩)
      | (go_at_call 12; refine (hS2 _).mono ?_; rintro _ _ ⟨rfl, q3, rfl⟩))
    clear hSM hS1 hS2
    have hn0 : 0 < n := hln.1
    have g0 : (w4.drewN (q1 + q2 + q3)).cell? ⟨g, off, none⟩ = some (.int .i64 T0) := f0
    have g1 : (w4.drewN (q1 + q2 + q3)).cell? ⟨g, off + k * 4, none⟩ = some (.int .i64 T1) := f1
    have HBq := Lib.hid (below_dr HB4.out (q1 + q2 + q3))
    clear f0 f1
    generalize w4.drewN (q1 + q2 + q3) = w5 at *
    go_wp2_with fail
    go_ret
    exact ⟨rfl, HBq.out⟩
  · obtain ⟨he, h2⟩ := pdP_err (b := b) (by rw [← HP.out]; exact h0)
    rw [← HP.out] at he h2
    clear HP
    obtain ⟨l, m⟩ := p
    dsimp only at *
    subst he
    subst h2
    have eF : spF ([], 2) = 0 := rfl
    have eL : spL ([], 2) = 0 := rfl
    rw [eF, eL]
    go_wp2_with (first
      | (go_at_call 14; refine hSM.mono ?_; rintro _ _ ⟨rfl, q1, rfl⟩)
      | (go_at_call 11; refine (hS1 _).mono ?_; rintro _ _ ⟨rfl, q2, rfl⟩)
      | (go_at_call 12; refine (hS2 _).mono ?_; rintro _ _ ⟨rfl, q3, rfl⟩))
    go_ret
    exact ⟨rfl, below_dr HB4.out _⟩
theorem blockDecodes_walk {H : Type} (enc : TypeId × Value → H) (W : World) (base : Nat) (v0 : Value) (d0 : DataW H) (p0 : List MemPlace)
    (o0 : Value.okWide Tryd.prog W .any base 24 v0)
    (t0 : DataW.Trod enc Tryd.prog W 0 (fun _ => true) true 24 v0 d0 p0)
    (hsz : (DataW.weightsEach Tryd.prog [24] [d0]).all (· ≤ reachBytes) = true) (hk : Rows.uptoSmall H [d0] = true) (ht : Tab W) :
    Calls Tryd.prog 7 #[v0] W fun e W' => e = .returned (.bool true) ∧ Below W.heap.size W W' := by
  obtain ⟨bs, hr0, hbl, _⟩ := open_bytes o0 t0
  have h := bulk_small hk
  simp only [Rows.uptoBulkAll] at h
  exact blockDecodes_run bs v0 W (by omega) ht hr0
end Go.Proofs.YthiojdkhapbbnaaDoor

/- XLawBlockDecodesUpto: The statement 'BlockDecodesUptoCardSaid', out of its walk 'blockDecodes_walk': the frame of a tied card: the table of math/bits reads as it is laid. Conditions: what is read is of bulk at most 1048576. -/
namespace Go.Proofs.YthiojdkhapbbnaaDoor.lawBlockDecodesUpto
open Go.ChangeShapes Go.WideShapes Go.ChangeAt Go.RowKit
set_option linter.unusedVariables false
theorem own : ownKnob Tryd.prog.godebug = none := by kernel_rfl
theorem laidOut : laidOutB Tryd.prog = true := by kernel_rfl
theorem laid_met (os : Os) : laidMet Tryd.prog Rows.blockDecodesUptoRow.laid ((laidWorld os).forCall (fun _ _ => 0) ⟨#[], #[.slice none 0 0], []⟩).memory :=
  laidMet_of_run' 8 (by kernel_rfl) (by kernel_rfl)
theorem reads (os : Os) {H : Type} (enc : TypeId × Value → H) : ∃ places, DataW.whole enc Tryd.prog ((laidWorld os).forCall (fun _ _ => 0) ⟨#[], #[.slice none 0 0], []⟩).memory Tryd.f7.params.toList Rows.blockDecodesSpec.vars false (#[.slice none 0 0] : Array Value).toList 8 = some ([.nil], [], places) :=
  ⟨[], by kernel_rfl⟩
set_option maxRecDepth 100000 in
theorem lifted (os : Os) (started : os.Started) (H : Type) (enc : TypeId × Value → H) (F : Stop.Interp) :
    ReturnsInHanded {} Tryd.checked os 7 .any ((Rows.OpenSpec.upto Rows.blockDecodesSpec).preRow enc Tryd.prog Tryd.f7 Rows.blockDecodesUptoRow.domain false Rows.blockDecodesUptoRow.laid) (((Rows.OpenSpec.upto Rows.blockDecodesSpec).at F).post enc Tryd.prog Tryd.f7 false true false false) := by
  obtain ⟨places, hx⟩ := reads os enc
  refine returnsInHanded_of_row (C := Tryd.checked) (s := Rows.OpenSpec.upto Rows.blockDecodesSpec) own started (by kernel_rfl) Tryd.func7
    (witness_row_at (enc := enc) (C := Tryd.checked) false (laidWorld os) #[.slice none 0 0] rfl (by kernel_rfl) (by kernel_rfl) (by kernel_rfl)
      (OpenSpec.preRow_of_cond 8 hx (by kernel_rfl) (fun k hk => by cases hk; kernel_rfl) (by kernel_rfl) (laid_met os))) ?_
  intro W base args ds gs before hval0 hW _ hcnd hsz0 hL _ _
  have hval : ∀ (j : Nat) t v, Tryd.f7.params[j]? = some t → args[j]? = some v → Value.okWide Tryd.prog W .any base t v := hval0
  have hsz : (DataW.weightsEach Tryd.prog (Tryd.f7.params.toList ++ (Rows.OpenSpec.upto Rows.blockDecodesSpec).bare.plain.varTypes Tryd.prog) (ds ++ gs)).all (· ≤ reachBytes) = true := hsz0
  have hW' := hW
  obtain ⟨p, q, hA0, hV, rfl, hfz, hnd⟩ := hW
  have hA : DataW.TrodAll enc Tryd.prog W 0 (fun _ => true) true Tryd.f7.params.toList args.toList ds p := hA0
  rw [Tryd.params7] at hA hval hsz
  obtain ⟨v0, vs0, d0, ds0, p0, q0, hargs, rfl, rfl, t0, r0⟩ := trodAll_cons hA
  obtain ⟨rfl, rfl, rfl⟩ := trodAll_nil r0
  obtain rfl : args = #[v0] := by cases args; simp_all
  obtain ⟨rfl, rfl⟩ := trodVars_none hV
  have lt0 : ∀ x ∈ p0, x.block < W.heap.size := by obtain ⟨m, hm⟩ := t0; exact DataW.trod_lt m _ _ _ hm
  have hsz2 : (DataW.weightsEach Tryd.prog [24] [d0]).all (· ≤ reachBytes) = true := hsz
  have hk : Rows.uptoSmall H [d0] = true := hcnd _ rfl
  refine (blockDecodes_walk enc W base v0 d0 p0 (hval 0 24 v0 rfl rfl) t0 hsz2 hk (tab_of hL)).mono fun e W' ⟨he, bel⟩ => ?_
  subst he
  exact ⟨_, rfl, _, _, _, [], _, [], hW', trodAll_mk1 (shut_bool Tryd.underlying4 _), (trodAll_cons_mk (Below.trod laidOut (by kernel_rfl) (of_decide_eq_true (by kernel_rfl)) t0 bel lt0) trodAll_mk0), rfl, bel.frame _, fun h => by cases h⟩
theorem said : Rows.BlockDecodesUptoSaid :=
  OpenClaim.holds_of_cond 7 Tryd.f7 rfl rfl rfl rfl rfl rfl rfl ⟨rfl, rfl, rfl, rfl, rfl⟩ rfl rfl rfl rfl rfl (by kernel_rfl) Tryd.func7 (by kernel_rfl)
    (of_decide_eq_true (by kernel_rfl)) (by unfold Func.isWrapper; first | (rw [if_pos (by decide +kernel)]; kernel_rfl) | (rw [if_neg (by decide +kernel)]; exact ⟨rfl, rfl⟩))
    (fun os started H enc _ F => by rw [OpenClaim.pre_eq_preRow]; exact lifted os started H enc F)
theorem plain (f : FuncId) (fn : Func) (hf : Tryd.pinned.checked.prog.funcNamed "grist/gristlaw08.BlockDecodes" = some f) (hfn : Tryd.pinned.checked.prog.funcs[f]? = some fn) :
    false = Tryd.pinned.checked.prog.looks [] ∧ ∀ (j : Nat) t, fn.params[j]? = some t → Tryd.pinned.checked.prog.wantsStandIn t = false := by
  obtain rfl : f = 7 := Option.some.inj ((show Tryd.prog.funcNamed "grist/gristlaw08.BlockDecodes" = some 7 by kernel_rfl).symm.trans hf) |>.symm
  obtain rfl : fn = Tryd.f7 := (Option.some.inj (Tryd.func7.symm.trans hfn)).symm
  refine ⟨by kernel_rfl, fun j t ht => ?_⟩
  rw [Tryd.params7] at ht
  have hm : t ∈ [24] := by simpa using Array.mem_of_getElem? ht
  have hall : ([24].all fun u => !Tryd.prog.wantsStandIn u) = true := by kernel_rfl
  exact (show Tryd.prog.wantsStandIn t = false by simpa using List.all_eq_true.1 hall t hm)
theorem proved : Rows.BlockDecodesUptoCardSaid :=
  Claim7.holds_tied_plain_at .later [] _ _ _ _ said (fun _ h => by cases h) (by kernel_rfl) (fun _ h => by cases h) blockDecodesUpto_row_tie rfl ⟨rfl, rfl⟩ (by kernel_rfl) rfl plain (by kernel_rfl)
#print axioms proved
end Go.Proofs.YthiojdkhapbbnaaDoor.lawBlockDecodesUpto
