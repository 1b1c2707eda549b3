/- CondTimes: the walk. -/
import Derived.Test.YtjifgipkfkhnpaaTimes20
import Derived.Test.YtjifgipkfkhnpaaOpen20
namespace Go.Proofs.Ytjifgipkfkhnpaa
open Go.RowKit Go.ChangeShapes Go.WideShapes Go.ChangeAt
set_option linter.unusedVariables false
theorem condTimes_walk {H : Type} (enc : TypeId × Value → H) (W : World) (base : Nat) (v0 v1 v2 : Value) (d0 d1 d2 : DataW H) (p0 p1 p2 : List MemPlace)
    (o0 : Value.okWide Try.prog W .any base 2 v0) (o1 : Value.okWide Try.prog W .any base 2 v1) (o2 : Value.okWide Try.prog W .any base 28 v2)
    (t0 : DataW.Trod enc Try.prog W 0 (fun _ => true) true 2 v0 d0 p0) (t1 : DataW.Trod enc Try.prog W 0 (fun _ => true) true 2 v1 d1 p1) (t2 : DataW.Trod enc Try.prog W 0 (fun _ => true) true 28 v2 d2 p2)
    (hsz : (DataW.weightsEach Try.prog [2, 2, 28] [d0, d1, d2]).all (· ≤ reachBytes) = true) :
    Calls Try.prog 5 #[v0, v1, v2] W fun e W' => e = .returned (.bool true) ∧ Below W.heap.size W W' := by
  obtain ⟨n, rfl, rfl, rfl, w0⟩ := open_int Try.underlying2 o0 t0
  obtain ⟨t, rfl, rfl, rfl, w1⟩ := open_int Try.underlying2 o1 t1
  obtain ⟨nm, tv, fv, l, f, tt, rfl, h3, h4, _, _⟩ := open_row o2 t2
  have i0 := wf_i64' w0
  have i1 := wf_i64' w1
  exact condTimes_run n t nm l f tt tv fv W h3 h4 i0.1 (by have := i0.2; omega) i1.1 (by have := i1.2; omega)
end Go.Proofs.Ytjifgipkfkhnpaa
