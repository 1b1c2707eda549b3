/- What lz.Pack gives, in plain words: the latest place with the same four bytes, pieces of bytes that stand for themselves, pieces that were there. -/
namespace Go.Proofs.Ytglpdkcpnigniaa
set_option linter.unusedVariables false

/-- The four bytes at a place. -/
def at4 (b : List UInt8) (i : Nat) : List UInt8 := (b.drop i).take 4
/-- The latest of the places below s with the four bytes of place j. -/
def lastB (b : List UInt8) (j : Nat) : Nat → Option Nat
  | 0 => none
  | s + 1 => if at4 b s = at4 b j then some s else lastB b j s
/-- How many further bytes are alike, of at most f. -/
def ext (b : List UInt8) (p a : Nat) : Nat → Nat → Nat
  | _, 0 => 0
  | m, f + 1 => if a + m < b.length ∧ b[p + m]? = b[a + m]? then 1 + ext b p a (m + 1) f else 0
/-- Bytes that stand for themselves. -/
def flush (l : List UInt8) : List UInt8 :=
  if h : l = [] then [] else UInt8.ofNat (min 127 l.length) :: (l.take 127 ++ flush (l.drop 127))
termination_by l.length
decreasing_by have := List.length_pos_iff.2 h; simp; omega

def near (b : List UInt8) (a : Nat) : Option Nat := (lastB b a a).bind fun p => if a - p ≤ 65535 then some p else none

def piece (r far : Nat) : List UInt8 := [UInt8.ofNat (128 + r), UInt8.ofNat (far / 256), UInt8.ofNat far]

/-- What is still to be written, where place a is reached, and the bytes from 'begin' on stand for themselves. -/
def pk (b : List UInt8) (a begin : Nat) : List UInt8 :=
  if a + 4 ≤ b.length then
    match near b a with
    | none => pk b (a + 1) begin
    | some p => flush ((b.drop begin).take (a - begin)) ++ (piece (ext b p a 4 127) (a - p) ++ pk b (a + (4 + ext b p a 4 127)) (a + (4 + ext b p a 4 127)))
  else flush (b.drop begin)
termination_by b.length - a
decreasing_by all_goals omega

theorem lastB_lt (b : List UInt8) (j : Nat) : ∀ (s p : Nat), lastB b j s = some p → p < s ∧ at4 b p = at4 b j
  | 0, p, h => by simp [lastB] at h
  | s + 1, p, h => by
    unfold lastB at h
    split at h
    · simp at h; subst h; exact ⟨by omega, by assumption⟩
    · have := lastB_lt b j s p h; exact ⟨by omega, this.2⟩

/-- None of the later places has them. -/
theorem lastB_none_above (b : List UInt8) (j : Nat) : ∀ (s p : Nat), lastB b j s = some p → ∀ q, p < q → q < s → at4 b q ≠ at4 b j
  | 0, p, h => by simp [lastB] at h
  | s + 1, p, h => by
    intro q h1 h2
    unfold lastB at h
    split at h
    · simp at h; omega
    · by_cases hq : q = s
      · subst hq; assumption
      · exact lastB_none_above b j s p h q h1 (by omega)
theorem lastB_none (b : List UInt8) (j : Nat) : ∀ (s : Nat), lastB b j s = none → ∀ q, q < s → at4 b q ≠ at4 b j
  | 0, _ => by intro q h; omega
  | s + 1, h => by
    intro q h2
    unfold lastB at h
    split at h
    · cases h
    · by_cases hq : q = s
      · subst hq; assumption
      · exact lastB_none b j s h q (by omega)
theorem lastB_is (b : List UInt8) (j s p : Nat) (hp : p < s) (he : at4 b p = at4 b j) (hn : ∀ q, p < q → q < s → at4 b q ≠ at4 b j) : lastB b j s = some p := by
  cases h : lastB b j s with
  | none => exact absurd he (lastB_none b j s h p hp)
  | some q =>
    have h1 := lastB_lt b j s q h
    have h2 := lastB_none_above b j s q h
    by_cases h3 : p < q
    · exact absurd h1.2 (hn q h3 h1.1)
    · by_cases h4 : q < p
      · exact absurd he (h2 p h4 hp)
      · rw [show q = p by omega]
theorem lastB_isNone (b : List UInt8) (j s : Nat) (hn : ∀ q, q < s → at4 b q ≠ at4 b j) : lastB b j s = none := by
  cases h : lastB b j s with
  | none => rfl
  | some q => have h1 := lastB_lt b j s q h; exact absurd h1.2 (hn q h1.1)

theorem flush_nil : flush [] = [] := by rw [flush]; simp
theorem flush_ne {l : List UInt8} (h : l ≠ []) : flush l = UInt8.ofNat (min 127 l.length) :: (l.take 127 ++ flush (l.drop 127)) := by
  rw [flush, dif_neg h]

theorem flush_step (l : List UInt8) (n : Nat) (hn : n = min 127 l.length) (h0 : 0 < l.length) : flush l = (UInt8.ofNat n :: l.take n) ++ flush (l.drop n) := by
  subst hn
  have h : l ≠ [] := List.length_pos_iff.1 h0
  rw [flush_ne h]
  by_cases h1 : l.length ≤ 127
  · rw [show min 127 l.length = l.length by omega, List.take_of_length_le h1, List.drop_of_length_le h1, List.take_length, List.drop_length]; rfl
  · rw [show min 127 l.length = 127 by omega]; rfl

theorem flush_len (l : List UInt8) : (flush l).length ≤ 2 * l.length := by
  induction hn : l.length using Nat.strongRecOn generalizing l with
  | _ n ih =>
    by_cases h : l = []
    · subst h; simp [flush_nil]
    · rw [flush_ne h]
      have hl := List.length_pos_iff.2 h
      have := ih (l.drop 127).length (by simp; omega) (l.drop 127) rfl
      simp at this ⊢
      omega

theorem ext_le (b : List UInt8) (p a : Nat) : ∀ (f m : Nat), ext b p a m f ≤ f
  | 0, m => by simp [ext]
  | f + 1, m => by
    unfold ext
    split
    · have := ext_le b p a f (m + 1); omega
    · omega

theorem ext_in (b : List UInt8) (p a : Nat) : ∀ (f m : Nat), a + m ≤ b.length → a + m + ext b p a m f ≤ b.length
  | 0, m, h => by simp [ext]; exact h
  | f + 1, m, h => by
    unfold ext
    split
    · have := ext_in b p a f (m + 1) (by omega); omega
    · omega

theorem pk_len (b : List UInt8) (a begin : Nat) (h1 : begin ≤ a) (h2 : a ≤ b.length) : (pk b a begin).length ≤ 2 * (b.length - begin) := by
  induction hn : b.length - a using Nat.strongRecOn generalizing a begin with
  | _ n ih =>
    rw [pk]
    by_cases h : a + 4 ≤ b.length
    · rw [if_pos h]
      cases hp : near b a with
      | none => exact ih (b.length - (a + 1)) (by omega) (a + 1) begin (by omega) (by omega) rfl
      | some p =>
        have h3 := ext_in b p a 127 4 h
        have h4 := ih (b.length - (a + (4 + ext b p a 4 127))) (by omega) (a + (4 + ext b p a 4 127)) (a + (4 + ext b p a 4 127)) (by omega) (by omega) rfl
        have h5 := flush_len ((b.drop begin).take (a - begin))
        simp only [List.length_append, piece, List.length_cons, List.length_nil]
        simp at h5
        omega
    · rw [if_neg h]
      have h5 := flush_len (b.drop begin)
      simp at h5
      omega

theorem near_lt {b : List UInt8} {a p : Nat} (h : near b a = some p) : p < a ∧ a - p ≤ 65535 := by
  unfold near at h
  cases hl : lastB b a a with
  | none => rw [hl] at h; simp at h
  | some q =>
    rw [hl] at h
    simp at h
    have := lastB_lt b a a q hl
    obtain ⟨h1, rfl⟩ := h
    exact ⟨this.1, by omega⟩

end Go.Proofs.Ytglpdkcpnigniaa
