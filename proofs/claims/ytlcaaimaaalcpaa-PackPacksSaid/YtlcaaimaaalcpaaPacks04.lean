/- PackPacks' walk: any numbers are packed as the document says, or refused. -/
import Derived.Test.YtlcaaimaaalcpaaRPack04
import Derived.Test.YtlcaaimaaalcpaaAwake04
import Derived.Test.YtlcaaimaaalcpaaOpenNums
import Derived.Deep.RegionWith
namespace Go.Proofs.Ytlcaaimaaalcpaa
open Go.RowKit Go.ChangeShapes Go.WideShapes Go.ChangeAt
set_option linter.unusedVariables false

/-- The bytes and the error of the two Packs, as one. -/
def pkOut (l : List Nat) : List UInt8 × Nat := match pkA l with
  | none => ([], 3)
  | some bs => (bs, 0)

theorem pk_one {l : List Nat} {base : Nat} {w w' : World} {e : Ending} (h : Below base w w' ∧ ((pkA l = none ∧ e = .returned (.tuple #[.slice none 0 0, .int .i64 3])) ∨
      ∃ bs ao cap, pkA l = some bs ∧ bs.length ≤ 8 * l.length ∧ e = .returned (.tuple #[.slice ao bs.length cap, .int .i64 0]) ∧ Own w' base (.slice ao bs.length cap) bs)) :
    Below base w w' ∧ ∃ ao cap, e = .returned (.tuple #[.slice ao (pkOut l).1.length cap, .int .i64 ((pkOut l).2 : Int)]) ∧ Rd w' (.slice ao (pkOut l).1.length cap) (pkOut l).1 := by
  refine ⟨h.1, ?_⟩
  unfold pkOut
  rcases h.2 with ⟨h1, rfl⟩ | ⟨bs, ao, cap, h1, _, rfl, ho⟩
  · rw [h1]
    exact ⟨none, 0, rfl, RdV.nil _ _⟩
  · rw [h1]
    exact ⟨ao, cap, rfl, ho.rd⟩

set_option maxHeartbeats 2000000 in
set_option maxRecDepth 100000 in
theorem packPacks_run (l : List Nat) (v : Value) (w : World) (hl : l.length ≤ 17592186044416) (hx : ∀ x ∈ l, x < 18446744073709551616) (hr : Nums w v l) :
    Calls Try.prog 3 #[v] w fun e w' => e = .returned (.bool true) ∧ Below w.heap.size w w' := by
  obtain ⟨ao0, cap0, rfl, hnc, hcm⟩ := RdV.shape hr
  unfold maxLen at hcm
  go_enter Try.func3, Try.ntmps3
  go_wp2_with fail
  refine (awake_any w).mono ?_
  rintro e w1 ⟨rfl, hb1⟩
  have HB1 := Lib.hid hb1
  have HR1 := Lib.hid (show Nums w1 (.slice ao0 l.length cap0) l from RdV.below hr hb1)
  have HX := Lib.hid hx
  have HL := Lib.hid hl
  obtain ⟨p, hp⟩ : ∃ p, p = pkOut l := ⟨_, rfl⟩
  have HP := Lib.hid hp
  clear hb1 hr hx hl hp
  go_upto_region 5 with (first
    | (go_at_call 8; refine (rpack_any l _ _ HL.out HX.out HR1.out).mono ?_; intro e w2 h; obtain ⟨hb2, ao2, cap2, rfl, hr2⟩ := pk_one h; rw [← HP.out] at hr2 ⊢; have HB2 := Lib.hid hb2; have HR2 := Lib.hid hr2; have HN2 := Lib.hid (show Nums w2 (.slice ao0 l.length cap0) l from RdV.below HR1.out hb2); clear h hb2 hr2)
    | (go_at_call 9; refine (pack_any l _ _ HL.out HX.out HN2.out).mono ?_; intro e w3 h; obtain ⟨hb3, ao3, cap3, rfl, hr3⟩ := pk_one h; rw [← HP.out] at hr3 ⊢; have HB3 := Lib.hid hb3; have HR3 := Lib.hid hr3; have HR4 := Lib.hid (show Rd w3 (.slice ao2 p.1.length cap2) p.1 from RdV.below HR2.out.v hb3); clear h hb3 hr3))
  have c4 := run_str HR3.out 24 5 9 Try.underlying24 Try.underlying5 Try.underlying9
  have c5 := run_str HR4.out 24 5 9 Try.underlying24 Try.underlying5 Try.underlying9
  obtain ⟨bs, n⟩ := p
  dsimp only at *
  go_wp2_with fail
  go_ret
  exact ⟨rfl, HB1.out.trans ((HB2.out.trans (HB3.out.mono HB2.out.size)).mono HB1.out.size)⟩
theorem packPacks_walk {H : Type} (enc : TypeId × Value → H) (W : World) (base : Nat) (v0 : Value) (d0 : DataW H) (p0 : List MemPlace)
    (o0 : Value.okWide Try.prog W .any base 22 v0)
    (t0 : DataW.Trod enc Try.prog W 0 (fun _ => true) true 22 v0 d0 p0)
    (hsz : (DataW.weightsEach Try.prog [22] [d0]).all (· ≤ reachBytes) = true) :
    Calls Try.prog 3 #[v0] W fun e W' => e = .returned (.bool true) ∧ Below W.heap.size W W' := by
  obtain ⟨l, hr0, hx, _, h4⟩ := open_nums o0 t0
  simp only [DataW.weightsEach, List.append_nil] at hsz
  exact packPacks_run l v0 W (sized_nums hsz h4) hx hr0
end Go.Proofs.Ytlcaaimaaalcpaa
