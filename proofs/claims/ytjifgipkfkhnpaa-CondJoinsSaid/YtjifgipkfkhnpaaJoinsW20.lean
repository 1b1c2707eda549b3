/- CondJoins: the walk. -/
import Derived.Test.YtjifgipkfkhnpaaJoins20
namespace Go.Proofs.Ytjifgipkfkhnpaa
open Go.RowKit Go.ChangeShapes Go.WideShapes Go.ChangeAt
set_option linter.unusedVariables false
theorem condJoins_walk {H : Type} (enc : TypeId × Value → H) (W : World) (base : Nat) (v0 v1 v2 v3 : Value) (d0 d1 d2 d3 : DataW H) (p0 p1 p2 p3 : List MemPlace)
    (o0 : Value.okWide Try.prog W .any base 43 v0) (o1 : Value.okWide Try.prog W .any base 43 v1) (o2 : Value.okWide Try.prog W .any base 28 v2) (o3 : Value.okWide Try.prog W .any base 29 v3)
    (t0 : DataW.Trod enc Try.prog W 0 (fun _ => true) true 43 v0 d0 p0) (t1 : DataW.Trod enc Try.prog W 0 (fun _ => true) true 43 v1 d1 p1) (t2 : DataW.Trod enc Try.prog W 0 (fun _ => true) true 28 v2 d2 p2) (t3 : DataW.Trod enc Try.prog W 0 (fun _ => true) true 29 v3 d3 p3)
    (hsz : (DataW.weightsEach Try.prog [43, 43, 28, 29] [d0, d1, d2, d3]).all (· ≤ reachBytes) = true) :
    Calls Try.prog 4 #[v0, v1, v2, v3] W fun e W' => e = .returned (.bool true) ∧ Below W.heap.size W W' := by
  obtain ⟨c1, q1, pv1, rfl, h1⟩ := open_cond o0 t0
  obtain ⟨c2, q2, pv2, rfl, h2⟩ := open_cond o1 t1
  obtain ⟨nm, tv, fv, l, f, t, rfl, h3, h4, _, _⟩ := open_row o2 t2
  obtain ⟨ns, h5⟩ := open_names o3 t3
  exact condJoins_run c1 c2 q1 q2 ⟨nm, l, f, t, ns⟩ pv1 pv2 tv fv v3 W h1 h2 ⟨h3, h4, h5⟩
end Go.Proofs.Ytjifgipkfkhnpaa
