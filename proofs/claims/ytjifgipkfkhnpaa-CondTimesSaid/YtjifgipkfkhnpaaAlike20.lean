/- CondAlike. -/
import Derived.Test.YtjifgipkfkhnpaaTagd20
import Derived.Test.YtjifgipkfkhnpaaSpans20
namespace Go.Proofs.Ytjifgipkfkhnpaa
open Go.RowKit Go.ChangeShapes Go.WideShapes Go.ChangeAt
set_option linter.unusedVariables false

theorem rg_iff (x : Int × Int) (t : Int) : ((rg x).1 ≤ t ∧ t ≤ (rg x).2) ↔ (x.1 ≤ t ∧ t ≤ x.2) := by
  unfold rg
  split
  · constructor
    · rintro ⟨h1, h2⟩; simp only at h1 h2; omega
    · intro h; omega
  · exact Iff.rfl
/-- A test of the time that may say what is deleted holds just within its bounds. -/
theorem leaf_iff (s : ByteArray) (t n : Int) (ht1 : -9223372036854775808 ≤ t) (ht2 : t ≤ 9223372036854775807) (hk : knw s = true) (hne : (s.toList == [33, 61]) = false) :
    sgn s (cmpI t n) = true ↔ ((spLeaf s n).1 ≤ t ∧ t ≤ (spLeaf s n).2) := by
  refine ⟨leaf_within s t n ht1 ht2, ?_⟩
  have q1 : t < n → cmpI t n = -1 := fun h => by unfold cmpI; rw [if_pos h]
  have q2 : n < t → cmpI t n = 1 := fun h => by unfold cmpI; rw [if_neg (by omega), if_pos h]
  have q3 : t = n → cmpI t n = 0 := fun h => by unfold cmpI; rw [if_neg (by omega), if_neg (by omega)]
  unfold knw sgn at hk
  unfold sgn spLeaf
  generalize s.toList = l at *
  by_cases h1 : l = [61]
  · subst h1
    intro h
    have h' : n ≤ t ∧ t ≤ n := h
    rw [q3 (by omega)]; rfl
  by_cases h3 : l = [60]
  · subst h3
    intro h
    have h' : (if n = -9223372036854775808 then ((1 : Int), (0 : Int)) else (-9223372036854775808, n - 1)).1 ≤ t ∧ t ≤ (if n = -9223372036854775808 then ((1 : Int), (0 : Int)) else (-9223372036854775808, n - 1)).2 := h
    have h2 : t < n := by
      by_cases e : n = -9223372036854775808
      · rw [if_pos e] at h'; simp only at h'; omega
      · rw [if_neg e] at h'; simp only at h'; omega
    rw [q1 h2]; rfl
  by_cases h4 : l = [60, 61]
  · subst h4
    intro h
    have h' : t ≤ n := h.2
    by_cases e : t < n
    · rw [q1 e]; rfl
    · rw [q3 (by omega)]; rfl
  by_cases h5 : l = [62]
  · subst h5
    intro h
    have h' : (if n = 9223372036854775807 then ((1 : Int), (0 : Int)) else (n + 1, 9223372036854775807)).1 ≤ t ∧ t ≤ (if n = 9223372036854775807 then ((1 : Int), (0 : Int)) else (n + 1, 9223372036854775807)).2 := h
    have h2 : n < t := by
      by_cases e : n = 9223372036854775807
      · rw [if_pos e] at h'; simp only at h'; omega
      · rw [if_neg e] at h'; simp only at h'; omega
    rw [q2 h2]; rfl
  by_cases h6 : l = [62, 61]
  · subst h6
    intro h
    have h' : n ≤ t := h.1
    by_cases e : n < t
    · rw [q2 e]; rfl
    · rw [q3 (by omega)]; rfl
  · exfalso
    rw [beq_false_of_ne h1, hne, beq_false_of_ne h3, beq_false_of_ne h4, beq_false_of_ne h5, beq_false_of_ne h6] at hk
    simp at hk

/-- Where conditions may say what is deleted. -/
theorem alike (E : Env) (ht1 : -9223372036854775808 ≤ E.time) (ht2 : E.time ≤ 9223372036854775807) : ∀ F : Fo, (plF E.names E.tags F).1 = true →
    ∀ a b, (hl E true F = true ∧ a ≤ E.time ∧ E.time ≤ b) ↔ ((plF E.names E.tags F).2 = true ∧ (sp true F a b).1 ≤ E.time ∧ E.time ≤ (sp true F a b).2)
  | .nil => fun _ a b => ⟨fun h => ⟨rfl, h.2⟩, fun h => ⟨rfl, h.2⟩⟩
  | .cons c p r => by
    intro h a b
    rw [plF_cons] at h
    simp only [Bool.and_eq_true] at h
    obtain ⟨hc, hr⟩ := h
    have ihp := alike E ht1 ht2 p
    have ihr := alike E ht1 ht2 r hr
    have hone : oneH E c p = true ↔ ((plOne E.names E.tags c p).2 = true ∧ (spOne c p).1 ≤ E.time ∧ E.time ≤ (spOne c p).2) := by
      unfold oneH spOne
      unfold plOne at hc ⊢
      by_cases h1 : (c.op == 1) = true
      · rw [h1] at hc ⊢
        simp only [cond_true] at hc ⊢
        rw [rg_iff, ← ihp hc]
        exact ⟨fun h => ⟨h, ht1, ht2⟩, fun h => h.1⟩
      · rw [Bool.not_eq_true] at h1
        rw [h1] at hc ⊢
        simp only [cond_false] at hc ⊢
        by_cases h3 : (c.op == 3) = true
        · have e3 : c.op = 3 := by simpa using h3
          have h2 : (c.op == 2) = false := by rw [e3]; rfl
          have h4 : (c.op == 4) = false := by rw [e3]; rfl
          rw [h3] at hc ⊢
          rw [h2, h4]
          simp only [cond_true, cond_false] at hc ⊢
          unfold leafH
          rw [h4, h3]
          simp only [Bool.and_eq_true, Bool.not_eq_true'] at hc
          rw [hc.2]
          simp only [Bool.false_eq_true, if_false, if_true]
          exact ⟨fun h => ⟨h, ht1, ht2⟩, fun h => h.1⟩
        · rw [Bool.not_eq_true] at h3
          rw [h3] at hc ⊢
          simp only [cond_false] at hc ⊢
          by_cases h4 : (c.op == 4) = true
          · have e4 : c.op = 4 := by simpa using h4
            have h2 : (c.op == 2) = false := by rw [e4]; rfl
            rw [h4] at hc ⊢
            rw [h2]
            simp only [cond_true, cond_false] at hc ⊢
            unfold leafH
            rw [h4]
            simp only [if_true]
            simp only [Bool.and_eq_true, Bool.not_eq_true'] at hc
            rw [leaf_iff c.sg E.time _ ht1 ht2 hc.1 hc.2]
            exact ⟨fun h => ⟨trivial, h⟩, fun h => h.2⟩
          · rw [Bool.not_eq_true] at h4
            rw [h4] at hc
            simp at hc
    rw [hl_all, sp_all, plF_cons]
    simp only [Bool.and_eq_true]
    have h2 := ihr (max a (spOne c p).1) (min b (spOne c p).2)
    constructor
    · rintro ⟨⟨g1, g2⟩, g3, g4⟩
      obtain ⟨k1, k2, k3⟩ := hone.1 g1
      obtain ⟨k4, k5⟩ := h2.1 ⟨g2, by omega, by omega⟩
      exact ⟨⟨k1, k4⟩, k5⟩
    · rintro ⟨⟨g1, g2⟩, g3⟩
      obtain ⟨k1, k2, k3⟩ := h2.2 ⟨g2, g3⟩
      exact ⟨⟨hone.2 ⟨g1, by omega, by omega⟩, k1⟩, by omega, by omega⟩
theorem alike_eq (E : Env) (F : Fo) (ht1 : -9223372036854775808 ≤ E.time) (ht2 : E.time ≤ 9223372036854775807) (h : (plF E.names E.tags F).1 = true) :
    hl E true F = true ↔ ((plF E.names E.tags F).2 = true ∧ (rg (sp true F (-9223372036854775808) 9223372036854775807)).1 ≤ E.time ∧ E.time ≤ (rg (sp true F (-9223372036854775808) 9223372036854775807)).2) := by
  rw [rg_iff, ← alike E ht1 ht2 F h]
  exact ⟨fun h => ⟨h, ht1, ht2⟩, fun h => h.1⟩
end Go.Proofs.Ytjifgipkfkhnpaa
