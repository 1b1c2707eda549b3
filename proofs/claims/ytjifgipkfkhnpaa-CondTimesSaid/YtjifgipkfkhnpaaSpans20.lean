/- CondSpans: the walk. -/
import Derived.Test.YtjifgipkfkhnpaaLawS20
import Derived.Test.YtjifgipkfkhnpaaOpen20
namespace Go.Proofs.Ytjifgipkfkhnpaa
open Go.RowKit Go.ChangeShapes Go.WideShapes Go.ChangeAt
set_option linter.unusedVariables false
theorem open_names {H : Type} {enc : TypeId × Value → H} {W : World} {v : Value} {b0 : Nat} {d : DataW H} {ps : List MemPlace} (o : Value.okWide Try.prog W .any b0 29 v) (h : DataW.Trod enc Try.prog W 0 (fun _ => true) true 29 v d ps) : ∃ l : List ByteArray, RdV W 1 v l.length (l.map Value.string) := by
  obtain ⟨a0, len, cap, rfl⟩ := okWide_slice Try.underlying29 o
  obtain ⟨fuel, hf⟩ := h
  exact open_strs hf
theorem condSpans_walk {H : Type} (enc : TypeId × Value → H) (W : World) (base : Nat) (v0 v1 v2 : Value) (d0 d1 d2 : DataW H) (p0 p1 p2 : List MemPlace)
    (o0 : Value.okWide Try.prog W .any base 22 v0) (o1 : Value.okWide Try.prog W .any base 28 v1) (o2 : Value.okWide Try.prog W .any base 29 v2)
    (t0 : DataW.Trod enc Try.prog W 0 (fun _ => true) true 22 v0 d0 p0) (t1 : DataW.Trod enc Try.prog W 0 (fun _ => true) true 28 v1 d1 p1) (t2 : DataW.Trod enc Try.prog W 0 (fun _ => true) true 29 v2 d2 p2)
    (hsz : (DataW.weightsEach Try.prog [22, 28, 29] [d0, d1, d2]).all (· ≤ reachBytes) = true) :
    Calls Try.prog 3 #[v0, v1, v2] W fun e W' => e = .returned (.bool true) ∧ Below W.heap.size W W' := by
  obtain ⟨F, hF, _⟩ := open_fo o0 t0
  obtain ⟨nm, tv, fv, l, f, t, rfl, h1, h2, h3, h4⟩ := open_row o1 t1
  obtain ⟨ns, h5⟩ := open_names o2 t2
  exact condSpans_run F ⟨nm, l, f, t, ns⟩ v0 tv fv v2 W hF ⟨h1, h2, h5⟩ h3 h4
end Go.Proofs.Ytjifgipkfkhnpaa
