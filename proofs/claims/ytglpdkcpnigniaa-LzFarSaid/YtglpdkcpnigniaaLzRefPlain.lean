/- The document's chains of places, in plain words; that they lead to the latest place. -/
import Derived.Test.YtglpdkcpnigniaaLzPlain
namespace Go.Proofs.Ytglpdkcpnigniaa
set_option linter.unusedVariables false

/-- The number of the two bytes at a place. -/
def pv (b : List UInt8) (i : Nat) : Nat := (b.getD i 0).toNat * 256 + (b.getD (i + 1) 0).toNat
/-- One more than the latest of the places below s with that number; 0: there is none. -/
def lst (b : List UInt8) (x : Nat) : Nat → Nat
  | 0 => 0
  | s + 1 => if pv b s = x then s + 1 else lst b x s

theorem pv_lt (b : List UInt8) (i : Nat) : pv b i < 65536 := by
  have h1 := (b.getD i 0).toNat_lt
  have h2 := (b.getD (i + 1) 0).toNat_lt
  unfold pv
  omega

theorem lst_le (b : List UInt8) (x : Nat) : ∀ s, lst b x s ≤ s
  | 0 => Nat.le_refl _
  | s + 1 => by
    unfold lst
    split
    · exact Nat.le_refl _
    · have := lst_le b x s; omega
theorem lst_pv (b : List UInt8) (x : Nat) : ∀ s, 0 < lst b x s → pv b (lst b x s - 1) = x
  | 0, h => by simp [lst] at h
  | s + 1, h => by
    unfold lst at h ⊢
    split
    · simpa using (by assumption : pv b s = x)
    · rename_i hn
      rw [if_neg hn] at h
      exact lst_pv b x s h
theorem lst_above (b : List UInt8) (x : Nat) : ∀ s q, lst b x s ≤ q → q < s → pv b q ≠ x
  | 0, q, h1, h2 => by omega
  | s + 1, q, h1, h2 => by
    unfold lst at h1
    split at h1
    · omega
    · rename_i hn
      by_cases hq : q = s
      · subst hq; exact hn
      · exact lst_above b x s q h1 (by omega)

theorem at4_iff (b : List UInt8) (p a : Nat) (hp : p + 4 ≤ b.length) (ha : a + 4 ≤ b.length) : at4 b p = at4 b a ↔ pv b p = pv b a ∧ b.getD (p + 2) 0 = b.getD (a + 2) 0 ∧ b.getD (p + 3) 0 = b.getD (a + 3) 0 := by
  have key : ∀ i, i + 4 ≤ b.length → at4 b i = [b.getD i 0, b.getD (i + 1) 0, b.getD (i + 2) 0, b.getD (i + 3) 0] := by
    intro i h
    unfold at4
    apply List.ext_getElem
    · simp; omega
    · intro k h1 h2
      have h3 : k < 4 := by simpa using h2
      rw [List.getElem_take, List.getElem_drop]
      match k, h3 with
      | 0, _ => simp [show i < b.length by omega]
      | 1, _ => simp [show i + 1 < b.length by omega]
      | 2, _ => simp [show i + 2 < b.length by omega]
      | 3, _ => simp [show i + 3 < b.length by omega]
  rw [key p hp, key a ha]
  unfold pv
  have a1 := (b.getD p 0).toNat_lt
  have a2 := (b.getD (p + 1) 0).toNat_lt
  have a3 := (b.getD a 0).toNat_lt
  have a4 := (b.getD (a + 1) 0).toNat_lt
  constructor
  · intro h
    simp only [List.cons.injEq] at h
    obtain ⟨e0, e1, e2, e3, _⟩ := h
    rw [e0, e1]
    exact ⟨rfl, e2, e3⟩
  · rintro ⟨h0, h2, h3⟩
    have e0 : b.getD p 0 = b.getD a 0 := UInt8.toNat_inj.1 (by omega)
    have e1 : b.getD (p + 1) 0 = b.getD (a + 1) 0 := UInt8.toNat_inj.1 (by omega)
    rw [e0, e1, h2, h3]

/-- What place() gives, as a number: the latest place, or -1. -/
def placeI (b : List UInt8) (a : Nat) : Int := if a + 4 ≤ b.length then (match near b a with | some p => (p : Int) | none => -1) else -1

/-- The chain has come to s: none of the places from s on has the four bytes. -/
def Chained (b : List UInt8) (a s : Nat) : Prop := s ≤ a ∧ ∀ q, s ≤ q → q < a → at4 b q ≠ at4 b a

theorem chained_none {b : List UInt8} {a s : Nat} (ha : a + 4 ≤ b.length) (h : Chained b a s) (h0 : lst b (pv b a) s = 0) : placeI b a = -1 := by
  have : lastB b a a = none := lastB_isNone b a a fun q hq => by
    by_cases h1 : s ≤ q
    · exact h.2 q h1 hq
    · intro e
      exact lst_above b (pv b a) s q (by omega) (by omega) ((at4_iff b q a (by omega) ha).1 e).1
  unfold placeI
  rw [if_pos ha]
  simp [near, this]

theorem chained_far {b : List UInt8} {a s : Nat} (ha : a + 4 ≤ b.length) (h : Chained b a s) (h0 : 0 < lst b (pv b a) s) (hf : 65535 < a - (lst b (pv b a) s - 1)) : placeI b a = -1 := by
  unfold placeI
  rw [if_pos ha]
  cases hl : lastB b a a with
  | none => simp [near, hl]
  | some p =>
    have h1 := lastB_lt b a a p hl
    have h2 : p < lst b (pv b a) s := by
      by_cases h3 : s ≤ p
      · exact absurd h1.2 (h.2 p h3 h1.1)
      · by_cases h4 : lst b (pv b a) s ≤ p
        · exact absurd ((at4_iff b p a (by omega) ha).1 h1.2).1 (lst_above b (pv b a) s p h4 (by omega))
        · omega
    have h5 : ¬ a - p ≤ 65535 := by omega
    have hn : near b a = none := by unfold near; rw [hl]; simp only [Option.bind_some]; rw [if_neg h5]
    rw [hn]

theorem chained_here {b : List UInt8} {a s p : Nat} (ha : a + 4 ≤ b.length) (h : Chained b a s) (h0 : lst b (pv b a) s = p + 1) (hf : a - p ≤ 65535) (e2 : b.getD (p + 2) 0 = b.getD (a + 2) 0) (e3 : b.getD (p + 3) 0 = b.getD (a + 3) 0) : placeI b a = p := by
  have hle := lst_le b (pv b a) s
  have hsa := h.1
  have hpv := lst_pv b (pv b a) s (by omega)
  rw [h0, Nat.add_sub_cancel] at hpv
  have hp : at4 b p = at4 b a := (at4_iff b p a (by omega) ha).2 ⟨hpv, e2, e3⟩
  have : lastB b a a = some p := lastB_is b a a p (by omega) hp fun q hq1 hq2 => by
    by_cases h1 : s ≤ q
    · exact h.2 q h1 hq2
    · intro e
      exact lst_above b (pv b a) s q (by omega) (by omega) ((at4_iff b q a (by omega) ha).1 e).1
  have hn : near b a = some p := by unfold near; rw [this]; simp only [Option.bind_some]; rw [if_pos hf]
  unfold placeI
  rw [if_pos ha, hn]

theorem chained_next {b : List UInt8} {a s p : Nat} (ha : a + 4 ≤ b.length) (h : Chained b a s) (h0 : lst b (pv b a) s = p + 1) (hne : ¬ (b.getD (p + 2) 0 = b.getD (a + 2) 0 ∧ b.getD (p + 3) 0 = b.getD (a + 3) 0)) : Chained b a p ∧ pv b p = pv b a ∧ p < s := by
  have hle := lst_le b (pv b a) s
  have hsa := h.1
  have hpv := lst_pv b (pv b a) s (by omega)
  rw [h0, Nat.add_sub_cancel] at hpv
  refine ⟨⟨by omega, fun q hq1 hq2 => ?_⟩, hpv, by omega⟩
  by_cases h1 : s ≤ q
  · exact h.2 q h1 hq2
  · intro e
    by_cases hqp : q = p
    · subst hqp
      exact hne ((at4_iff b q a (by omega) ha).1 e).2
    · exact lst_above b (pv b a) s q (by omega) (by omega) ((at4_iff b q a (by omega) ha).1 e).1

theorem chained_start (b : List UInt8) (a : Nat) : Chained b a a := ⟨Nat.le_refl _, fun q h1 h2 => by omega⟩

end Go.Proofs.Ytglpdkcpnigniaa
