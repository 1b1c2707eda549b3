/- What pack.Pack gives, in plain words. -/
import Derived.Test.YtcgjbjiififkhaaLen
namespace Go.Proofs.Ytcgjbjiififkhaa
set_option linter.unusedVariables false

def wds : List Nat := [1, 2, 3, 4, 5, 6, 7, 8, 10, 12, 15, 20, 30, 60]
def fitsB (l : List Nat) (w : Nat) : Bool := l.all fun x => decide (x < 2 ^ w)
/-- The first width in which the next numbers find room. -/
def takeF (l : List Nat) : Nat → List Nat → Option (Nat × Nat)
  | _, [] => none
  | s, w :: r => if fitsB (l.take (60 / w)) w = true then some (s, w) else takeF l (s + 1) r
def takeS (l : List Nat) : Option (Nat × Nat) := takeF l 0 wds
/-- The word behind the first i numbers. -/
def wordT (w s : Nat) (l : List Nat) : Nat → Nat
  | 0 => s * 2 ^ 60 % 18446744073709551616
  | i + 1 => wordT w s l i ||| (l.getD i 0 * 2 ^ (i * w) % 18446744073709551616)
def wordN (w s : Nat) (l : List Nat) : Nat := wordT w s l (min (60 / w) l.length)

theorem wordT_lt (w s : Nat) (l : List Nat) : ∀ i, wordT w s l i < 18446744073709551616
  | 0 => Nat.mod_lt _ (by decide)
  | i + 1 => by
    have h1 := wordT_lt w s l i
    have h2 : l.getD i 0 * 2 ^ (i * w) % 18446744073709551616 < 18446744073709551616 := Nat.mod_lt _ (by decide)
    exact Nat.or_lt_two_pow (n := 64) h1 h2

theorem wds_get (s : Nat) (h : s < 14) : 1 ≤ wds.getD s 0 ∧ wds.getD s 0 ≤ 60 := by
  have : ∀ s : Fin 14, 1 ≤ wds.getD s.val 0 ∧ wds.getD s.val 0 ≤ 60 := by decide
  exact this ⟨s, h⟩
theorem wds_drop (s : Nat) (h : s < 14) : wds.drop s = wds.getD s 0 :: wds.drop (s + 1) := by
  have : ∀ s : Fin 14, wds.drop s.val = wds.getD s.val 0 :: wds.drop (s.val + 1) := by decide
  exact this ⟨s, h⟩

theorem takeF_step (l : List Nat) (s : Nat) (h : s < 14) : takeF l s (wds.drop s) = if fitsB (l.take (60 / wds.getD s 0)) (wds.getD s 0) = true then some (s, wds.getD s 0) else takeF l (s + 1) (wds.drop (s + 1)) := by
  rw [wds_drop s h]; rfl

theorem takeF_some {l : List Nat} : ∀ (r : List Nat) (s0 s w : Nat), r = wds.drop s0 → takeF l s0 r = some (s, w) → s < 14 ∧ w = wds.getD s 0 ∧ fitsB (l.take (60 / w)) w = true
  | [], s0, s, w, _, h => by simp [takeF] at h
  | x :: r, s0, s, w, he, h => by
    have h14 : s0 < 14 := by
      have := congrArg List.length he
      simp [wds] at this
      omega
    rw [wds_drop s0 h14] at he
    injection he with h1 h2
    unfold takeF at h
    split at h
    · simp at h
      obtain ⟨rfl, rfl⟩ := h
      exact ⟨h14, h1, by assumption⟩
    · exact takeF_some r (s0 + 1) s w h2 h
theorem takeS_some {l : List Nat} {s w : Nat} (h : takeS l = some (s, w)) : s < 14 ∧ w = wds.getD s 0 ∧ fitsB (l.take (60 / w)) w = true := takeF_some wds 0 s w rfl h

/-- None: just if the first number is too great. -/
theorem takeS_none {x : Nat} {r : List Nat} : takeS (x :: r) = none ↔ ¬ x < 2 ^ 60 := by
  constructor
  · intro h hx
    have key : ∀ (n s : Nat), s + n = 14 → takeF (x :: r) s (wds.drop s) = none → n = 0 := by
      intro n
      induction n with
      | zero => intro s _ _; rfl
      | succ n ih =>
        intro s hs hn
        have h14 : s < 14 := by omega
        rw [takeF_step _ s h14] at hn
        split at hn
        · cases hn
        · have := ih (s + 1) (by omega) hn
          have hs13 : s = 13 := by omega
          subst hs13
          rename_i hf
          exfalso
          apply hf
          simp [fitsB, wds, hx]
    have := key 14 0 rfl h
    omega
  · intro hx
    have key : ∀ (n s : Nat), s + n = 14 → takeF (x :: r) s (wds.drop s) = none := by
      intro n
      induction n with
      | zero => intro s hs; obtain rfl : s = 14 := by omega
                rfl
      | succ n ih =>
        intro s hs
        have h14 : s < 14 := by omega
        rw [takeF_step _ s h14, if_neg, ih (s + 1) (by omega)]
        intro hf
        have hw := wds_get s h14
        have hc : 1 ≤ 60 / wds.getD s 0 := by
          have : wds.getD s 0 ≤ 60 := hw.2
          exact (Nat.one_le_div_iff (by omega)).2 this
        obtain ⟨c, hc2⟩ : ∃ c, 60 / wds.getD s 0 = c + 1 := ⟨60 / wds.getD s 0 - 1, by omega⟩
        rw [hc2] at hf
        simp only [fitsB, List.take_succ_cons, List.all_cons, Bool.and_eq_true, decide_eq_true_eq] at hf
        have : 2 ^ wds.getD s 0 ≤ 2 ^ 60 := Nat.pow_le_pow_right (by omega) hw.2
        omega
    exact key 14 0 rfl

/-- What is packed; none: refused. -/
def packL : Nat → List Nat → Option (List UInt8)
  | 0, _ => some []
  | f + 1, l => if l = [] then some [] else match takeS l with
    | none => none
    | some (s, w) => (packL f (l.drop (min (60 / w) l.length))).map fun b => be8 (wordN w s l) ++ b

end Go.Proofs.Ytcgjbjiififkhaa
