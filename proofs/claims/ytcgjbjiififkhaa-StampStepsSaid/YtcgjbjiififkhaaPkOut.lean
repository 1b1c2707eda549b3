/- The two Packs' results as bytes and an error; the first byte of own bytes stored anew. -/
import Derived.Test.YtcgjbjiififkhaaLit
namespace Go.Proofs.Ytcgjbjiififkhaa
open Go.RowKit
set_option linter.unusedVariables false

def pkO (l : List Nat) : List UInt8 × Nat := match pkA l with
  | none => ([], 3)
  | some bs => (bs, 0)

theorem pkO_one {l : List Nat} {base : Nat} {w w' : World} {e : Ending} (h : Below base w w' ∧ ((pkA l = none ∧ e = .returned (.tuple #[.slice none 0 0, .int .i64 3])) ∨
      ∃ bs ao cap, pkA l = some bs ∧ bs.length ≤ 8 * l.length ∧ e = .returned (.tuple #[.slice ao bs.length cap, .int .i64 0]) ∧ Own w' base (.slice ao bs.length cap) bs)) :
    Below base w w' ∧ ∃ ao cap, e = .returned (.tuple #[.slice ao (pkO l).1.length cap, .int .i64 ((pkO l).2 : Int)]) ∧ Own w' base (.slice ao (pkO l).1.length cap) (pkO l).1 ∧ (pkO l).1.length ≤ 8 * l.length := by
  refine ⟨h.1, ?_⟩
  unfold pkO
  rcases h.2 with ⟨h1, rfl⟩ | ⟨bs, ao, cap, h1, h2, rfl, ho⟩
  · rw [h1]
    exact ⟨none, 0, rfl, Own.nil _ _, by simp⟩
  · rw [h1]
    exact ⟨ao, cap, rfl, ho, h2⟩
theorem pkO_ok {l : List Nat} {p : List UInt8} {m : Nat} (h : (p, m) = pkO l) : (m = 0 ∧ pkA l = some p) ∨ (m = 3 ∧ pkA l = none) := by
  unfold pkO at h
  cases hp : pkA l with
  | none => rw [hp] at h; simp only [Prod.mk.injEq] at h; exact .inr ⟨h.2, rfl⟩
  | some q => rw [hp] at h; simp only [Prod.mk.injEq] at h; exact .inl ⟨h.2, by rw [h.1]⟩

theorem below_dr {B : Nat} {w wr : World} (h : Below B w wr) (n : Nat) : Below B w (wr.drewN n) := ⟨h.os, h.tape, h.output, h.size, h.block⟩
/-- A store into an elder block leaves what is own and newer. -/
theorem own_past {w : World} {base g o : Nat} {v u : Value} {bs : List UInt8} (h : Own w base v bs) (hg : g < base) : Own (w.setCell ⟨g, o, none⟩ u) base v bs :=
  ((Chg.refl (fun k => k = g) w).setCell (p := ⟨g, o, none⟩) (fun _ => rfl) u).owns h (fun k hk e => by have := (World.ownsRow.lt h k hk).1; omega)
theorem own_put0 {w : World} {base n cap : Nat} {ao : Option Addr} {x : UInt8} {r : List UInt8} (h : Own w base (.slice ao n cap) (x :: r)) :
    ∃ g, ao = some ⟨g, 0, none⟩ ∧ base ≤ g ∧ w.cell? ⟨g, 0, none⟩ = some (bV x) ∧ w.frozen? ⟨g, 0, none⟩ = false ∧ ∀ y : UInt8, Own (w.setCell ⟨g, 0, none⟩ (bV y)) base (.slice ao n cap) (y :: r) := by
  have h0 : w.ownsRow base 5 1 (.slice ao n cap) (x :: r).length ((x :: r).map bV) := h
  rcases h0.2 with ⟨_, hn⟩ | ⟨g, cap', cur, he, hb, rest⟩
  · simp at hn
  · simp only [Value.slice.injEq] at he
    obtain ⟨rfl, hn, rfl⟩ := he
    subst hn
    refine ⟨g, rfl, hb, ?_, h0.frozenAt 0, fun y => ?_⟩
    · rw [h0.cellAt 0 (by simp)]; rfl
    · have := (h0.stored 0 (bV y)).1
      exact this
end Go.Proofs.Ytcgjbjiififkhaa
