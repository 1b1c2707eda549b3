/- What the two Unpacks keep in memory while they run. -/
import Derived.Test.YtcgjbjiififkhaaReadAt
namespace Go.Proofs.Ytcgjbjiififkhaa
open Go.RowKit
set_option linter.unusedVariables false

def OwnN (w : World) (base : Nat) (v : Value) (l : List Nat) : Prop := w.ownsRow base 37 1 v l.length (l.map uV)
theorem OwnN.nums {w : World} {base : Nat} {v : Value} {l : List Nat} (h : OwnN w base v l) : Nums w v l := RdV.ofOwns h

/-- The list, the widths' block a, nothing old changed. -/
def St (w wr : World) (a B : Nat) (v : Value) (l : List Nat) : Prop :=
  OwnN wr B v l ∧ Below w.heap.size w wr ∧ (∀ k, k < 14 → wr.cell? ⟨a, k, none⟩ = some (.int .i64 (wds.getD k 0 : Nat))) ∧ w.heap.size ≤ a ∧ a < B ∧ B ≤ wr.heap.size

theorem St.drewN {w wr : World} {a B : Nat} {v : Value} {l : List Nat} (h : St w wr a B v l) (m : Nat) : St w (wr.drewN m) a B v l := by
  obtain ⟨h1, h2, h3, h4, h5, h6⟩ := h
  exact ⟨h1, ⟨h2.os, h2.tape, h2.output, h2.size, h2.block⟩, h3, h4, h5, h6⟩
theorem St.grew {w wr w2 : World} {a B : Nat} {v v2 : Value} {l l2 : List Nat} (h : St w wr a B v l) (g : Grew wr w2 B 37 1 v v2 l2.length (l2.map uV)) : St w w2 a B v2 l2 := by
  obtain ⟨h1, h2, h3, h4, h5, h6⟩ := h
  have hs := g.grown.size
  refine ⟨g.owns, h2.trans (g.below h2.size (fun k hk => ?_)), fun k hk => ?_, h4, h5, by omega⟩
  · have := (World.ownsRow.lt h1 k hk).1
    omega
  · rw [g.chg.cell (p := ⟨a, k, none⟩) (by show a < _; omega) (fun e => ?_)]
    · exact h3 k hk
    · have := (World.ownsRow.lt h1 a e).1
      omega
theorem St.chg {w wr w2 : World} {a B : Nat} {v : Value} {l : List Nat} {S : Nat → Prop} (h : St w wr a B v l) (c : Chg S wr w2) (hS : ∀ k, S k → a < k ∧ k < B) : St w w2 a B v l := by
  obtain ⟨h1, h2, h3, h4, h5, h6⟩ := h
  have hs := c.size
  refine ⟨c.owns h1 (fun k hk e => ?_), h2.trans (c.below h2.size (fun k hk => ?_)), fun k hk => ?_, h4, h5, by omega⟩
  · have := (World.ownsRow.lt h1 k hk).1
    have := hS k e
    omega
  · have := hS k hk; omega
  · rw [c.cell (p := ⟨a, k, none⟩) (by show a < _; omega) (fun e => ?_)]
    · exact h3 k hk
    · have := hS a e
      omega

theorem and_step (V Z W M : Nat) (hV : V < 18446744073709551616) (hM : M = 2 ^ W - 1) (hW : W ≤ 60) : bits BinOp.and IntKind.u64 ((V : Int) / 2 ^ Z) (M : Int) = ((V / 2 ^ Z % 2 ^ W : Nat) : Int) := by
  have e1 : ((V : Int) / 2 ^ Z) = ((V / 2 ^ Z : Nat) : Int) := by simp
  have h2 : 2 ^ W ≤ 2 ^ 60 := Nat.pow_le_pow_right (by omega) hW
  have h3 : V / 2 ^ Z ≤ V := Nat.div_le_self _ _
  rw [e1, u64_and_nat _ _ (by omega) (by omega), hM, Nat.and_two_pow_sub_one_eq_mod]
theorem mask_eq (W : Nat) (hW : W ≤ 60) : ∃ M : Nat, M = 2 ^ W - 1 ∧ IntKind.u64.wrap (IntKind.u64.wrap ((2 : Int) ^ W) - 1) = (M : Int) := by
  refine ⟨2 ^ W - 1, rfl, ?_⟩
  have e : ((2 : Int) ^ W) = ((2 ^ W : Nat) : Int) := by simp
  have h2 : 2 ^ W ≤ 2 ^ 60 := Nat.pow_le_pow_right (by omega) hW
  have h3 := Nat.two_pow_pos W
  rw [e, IntWalk.u64_in ((2 ^ W : Nat) : Int) (by omega), IntWalk.u64_in _ (by omega)]
  omega

/-- What an Unpack ends with. -/
def UnEnd (bs : List UInt8) (n : Int) (w : World) (e : Ending) (w' : World) : Prop :=
  Below w.heap.size w w' ∧ ((unA bs n = none ∧ e = .returned (.tuple #[.slice none 0 0, .int .i64 2])) ∨ ∃ l ao cap, unA bs n = some l ∧ l.length ≤ 17592186044416 ∧ (l.length : Int) = n ∧ e = .returned (.tuple #[.slice ao l.length cap, .int .i64 0]) ∧ OwnN w' w.heap.size (.slice ao l.length cap) l)
end Go.Proofs.Ytcgjbjiififkhaa
