/- BitsZigs' walk. -/
import Derived.Test.YtnocfepkjhdliaaAwake03
import Derived.ProofKit
import Derived.OpenShut
namespace Go.Proofs.Ytnocfepkjhdliaa
open Go.RowKit Go.ChangeShapes Go.WideShapes Go.ChangeAt

set_option linter.unusedVariables false
set_option maxHeartbeats 400000 in
theorem bitsZigs_run (n : Int) (m : Nat) (hn : -9223372036854775808 ≤ n ∧ n ≤ 9223372036854775807) (hm : m < 18446744073709551616) (w : World) :
    Calls Try.prog 3 #[.int .i64 n, .int .u64 m] w fun e w' => e = .returned (.bool true) ∧ Below w.heap.size w w' := by
  have hz := zigN_lt n hn
  have hzz := zagZ_bd m hm
  go_enter Try.func3, Try.ntmps3
  go_wp2_with fail
  refine (awake_any w).mono ?_
  rintro e w1 ⟨rfl, hb⟩
  have HB := Lib.hid hb
  clear hb
  go_wp2_with fail
  refine (zig_any n hn _).mono ?_
  rintro e w2 ⟨rfl, rfl⟩
  go_wp2_with fail
  refine (rzig_any n hn _).mono ?_
  rintro e w2 ⟨rfl, rfl⟩
  go_wp2_with fail
  refine (zig_any n hn _).mono ?_
  rintro e w2 ⟨rfl, rfl⟩
  go_wp2_with fail
  refine (zag_any _ hz _).mono ?_
  rintro e w2 ⟨rfl, rfl⟩
  rw [zag_zig]
  go_wp2_with fail
  refine (zag_any m hm _).mono ?_
  rintro e w2 ⟨rfl, rfl⟩
  go_wp2_with fail
  refine (zig_any _ hzz _).mono ?_
  rintro e w2 ⟨rfl, rfl⟩
  rw [zig_zag]
  go_wp2_with fail
  refine (zag_any m hm _).mono ?_
  rintro e w2 ⟨rfl, rfl⟩
  go_wp2_with fail
  refine (rzag_any m hm _).mono ?_
  rintro e w2 ⟨rfl, rfl⟩
  go_wp2
  go_ret
  exact ⟨rfl, HB.out⟩

theorem bitsZigs_walk {H : Type} (enc : TypeId × Value → H) (W : World) (base : Nat) (v0 v1 : Value) (d0 d1 : DataW H) (p0 p1 : List MemPlace)
    (o0 : Value.okWide Try.prog W .any base 2 v0) (o1 : Value.okWide Try.prog W .any base 22 v1)
    (t0 : DataW.Trod enc Try.prog W 0 (fun _ => true) true 2 v0 d0 p0) (t1 : DataW.Trod enc Try.prog W 0 (fun _ => true) true 22 v1 d1 p1)
    (hsz : (DataW.weightsEach Try.prog [2, 22] [d0, d1]).all (· ≤ reachBytes) = true) :
    Calls Try.prog 3 #[v0, v1] W fun e W' => e = .returned (.bool true) ∧ Below W.heap.size W W' := by
  obtain ⟨a0, rfl, rfl, rfl, w0⟩ := open_int Try.underlying2 o0 t0
  obtain ⟨a1, rfl, rfl, rfl, w1⟩ := open_int Try.underlying22 o1 t1
  have hx : -9223372036854775808 ≤ a0 ∧ a0 ≤ 9223372036854775807 := by simpa [Lit.wf, IntKind.min, IntKind.max, IntKind.signed, IntKind.bits] using w0
  have hy : 0 ≤ a1 ∧ a1 ≤ 18446744073709551615 := by simpa [Lit.wf, IntKind.min, IntKind.max, IntKind.signed, IntKind.bits] using w1
  obtain ⟨m, rfl⟩ := Int.eq_ofNat_of_zero_le hy.1
  exact bitsZigs_run a0 m hx (by omega) W

end Go.Proofs.Ytnocfepkjhdliaa
