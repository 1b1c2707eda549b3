/- StampDecodes' walk. -/
import Derived.Test.YtcgjbjiififkhaaRStDec2
namespace Go.Proofs.Ytcgjbjiififkhaa
open Go.RowKit Go.ChangeShapes Go.WideShapes Go.ChangeAt
set_option linter.unusedVariables false

set_option maxHeartbeats 2000000 in
set_option maxRecDepth 100000 in
theorem stampDecodes_run (bs : List UInt8) (v : Value) (w : World) (hl : bs.length ≤ 140737488355328) (hr : Rd w v bs) :
    Calls Try.prog 5 #[v] w fun e w' => e = .returned (.bool true) ∧ Below w.heap.size w w' := by
  obtain ⟨ao0, cap0, rfl, hnc, hcm⟩ := RdV.shape hr
  unfold maxLen at hcm
  have HL := Lib.hid hl
  go_enter Try.func5, Try.ntmps5
  go_wp2_with fail
  refine (awake05_any w).mono ?_
  rintro e w1 ⟨rfl, hb1⟩
  have HB1 := Lib.hid hb1
  have HR1 := Lib.hid (show Rd w1 (.slice ao0 bs.length cap0) bs from RdV.below hr hb1)
  obtain ⟨p, hp⟩ : ∃ p, p = deO bs := ⟨_, rfl⟩
  have HP := Lib.hid hp
  clear hb1 hr hp hl
  go_upto_region 5 with (first
    | (go_at_call 11; refine (rdecode_any bs _ _ HL.out HR1.out).mono ?_; intro e w2 h; obtain ⟨hb2, ao2, cap2, rfl, hr2⟩ := deO_one h; rw [← HP.out] at hr2 ⊢; have HB2 := Lib.hid hb2; have HR2 := Lib.hid hr2; have HN2b := Lib.hid (show Rd w2 (.slice ao0 bs.length cap0) bs from RdV.below HR1.out hb2); clear h hb2 hr2)
    | (go_at_call 12; refine (decode_any bs _ _ HL.out HN2b.out).mono ?_; intro e w3 h; obtain ⟨hb3, ao3, cap3, rfl, hr3⟩ := deO_one h; rw [← HP.out] at hr3 ⊢; have HB3 := Lib.hid hb3; have hSM := sameTimes_any p.1 _ _ w3 hr3 (RdV.below HR2.out hb3); clear h hb3 hr3))
  obtain ⟨l, m⟩ := p
  dsimp only at *
  go_wp2_with (go_at_call 13; refine hSM.mono ?_; rintro _ _ ⟨rfl, q, rfl⟩)
  go_ret
  exact ⟨rfl, (HB1.out.trans ((HB2.out.trans (HB3.out.mono HB2.out.size)).mono HB1.out.size)).trans ((below_drewN q).mono (by have h1 := HB1.out.size; have h2 := HB2.out.size; have h3 := HB3.out.size; omega))⟩
theorem stampDecodes_walk {H : Type} (enc : TypeId × Value → H) (W : World) (base : Nat) (v0 : Value) (d0 : DataW H) (p0 : List MemPlace)
    (o0 : Value.okWide Try.prog W .any base 24 v0)
    (t0 : DataW.Trod enc Try.prog W 0 (fun _ => true) true 24 v0 d0 p0)
    (hsz : (DataW.weightsEach Try.prog [24] [d0]).all (· ≤ reachBytes) = true) :
    Calls Try.prog 5 #[v0] W fun e W' => e = .returned (.bool true) ∧ Below W.heap.size W W' := by
  obtain ⟨bs, hr0, _, h4⟩ := open_bytes o0 t0
  simp only [DataW.weightsEach, List.append_nil] at hsz
  have hb := sized_bytes (v := v0) (bs := bs) (d := d0) hsz h4
  exact stampDecodes_run bs v0 W (by omega) hr0
end Go.Proofs.Ytcgjbjiififkhaa
