/- StampEncodes' walk: any times are packed as the document says, or refused. -/
import Derived.Test.YtcgjbjiififkhaaRStEnc
import Derived.Test.YtcgjbjiififkhaaAwake05
namespace Go.Proofs.Ytcgjbjiififkhaa
open Go.RowKit Go.ChangeShapes Go.WideShapes Go.ChangeAt
set_option linter.unusedVariables false

set_option maxHeartbeats 2000000 in
set_option maxRecDepth 100000 in
theorem stampEncodes_run (l : List Int) (v : Value) (w : World) (hx : ∀ x ∈ l, i64ok x) (hr : Tms w v l) :
    Calls Try.prog 3 #[v] w fun e w' => e = .returned (.bool true) ∧ Below w.heap.size w w' := by
  obtain ⟨ao0, cap0, rfl, hnc, hcm⟩ := RdV.shape hr
  unfold maxLen at hcm
  go_enter Try.func3, Try.ntmps3
  go_wp2_with fail
  refine (awake05_any w).mono ?_
  rintro e w1 ⟨rfl, hb1⟩
  have HB1 := Lib.hid hb1
  have HR1 := Lib.hid (show Tms w1 (.slice ao0 l.length cap0) l from RdV.below hr hb1)
  have HX := Lib.hid hx
  obtain ⟨p, hp⟩ : ∃ p, p = stO l := ⟨_, rfl⟩
  have HP := Lib.hid hp
  clear hb1 hr hx hp
  go_upto_region 5 with (first
    | (go_at_call 9; refine (rencode_any l _ _ HX.out HR1.out).mono ?_; intro e w2 h; obtain ⟨hb2, ao2, cap2, rfl, hr2, _⟩ := stO_one h; rw [← HP.out] at hr2 ⊢; have HB2 := Lib.hid hb2; have HR2 := Lib.hid hr2.rd; have HN2 := Lib.hid (show Tms w2 (.slice ao0 l.length cap0) l from RdV.below HR1.out hb2); clear h hb2 hr2)
    | (go_at_call 10; refine (encode_any l _ _ HX.out HN2.out).mono ?_; intro e w3 h; obtain ⟨hb3, ao3, cap3, rfl, hr3, _⟩ := stO_one h; rw [← HP.out] at hr3 ⊢; have HB3 := Lib.hid hb3; have HR3 := Lib.hid hr3.rd; have HR4 := Lib.hid (show Rd w3 (.slice ao2 p.1.length cap2) p.1 from RdV.below HR2.out.v hb3); clear h hb3 hr3))
  have c4 := run_str HR3.out 24 5 9 Try.underlying24 Try.underlying5 Try.underlying9
  have c5 := run_str HR4.out 24 5 9 Try.underlying24 Try.underlying5 Try.underlying9
  obtain ⟨bs, n⟩ := p
  dsimp only at *
  go_wp2_with fail
  go_ret
  exact ⟨rfl, HB1.out.trans ((HB2.out.trans (HB3.out.mono HB2.out.size)).mono HB1.out.size)⟩
theorem stampEncodes_walk {H : Type} (enc : TypeId × Value → H) (W : World) (base : Nat) (v0 : Value) (d0 : DataW H) (p0 : List MemPlace)
    (o0 : Value.okWide Try.prog W .any base 22 v0)
    (t0 : DataW.Trod enc Try.prog W 0 (fun _ => true) true 22 v0 d0 p0)
    (hsz : (DataW.weightsEach Try.prog [22] [d0]).all (· ≤ reachBytes) = true) :
    Calls Try.prog 3 #[v0] W fun e W' => e = .returned (.bool true) ∧ Below W.heap.size W W' := by
  obtain ⟨l, hr0, hx, _, _⟩ := open_times o0 t0
  exact stampEncodes_run l v0 W hx hr0
end Go.Proofs.Ytcgjbjiififkhaa
