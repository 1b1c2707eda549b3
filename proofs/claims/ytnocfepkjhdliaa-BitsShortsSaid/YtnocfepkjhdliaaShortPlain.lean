/- Plain facts on short bytes: seven bits a byte, the lowest first; nothing of the program is in sight here. -/
import Derived.Test.YtnocfepkjhdliaaPlain
namespace Go.Proofs.Ytnocfepkjhdliaa

/-- A number's short bytes. -/
def short (n : Nat) : List UInt8 := if n < 128 then [UInt8.ofNat n] else UInt8.ofNat (n % 128 + 128) :: short (n / 128)
  termination_by n
  decreasing_by omega

theorem short_lt (n : Nat) (h : n < 128) : short n = [UInt8.ofNat n] := by rw [short, if_pos h]
theorem short_ge (n : Nat) (h : ¬ n < 128) : short n = UInt8.ofNat (n % 128 + 128) :: short (n / 128) := by rw [short, if_neg h]

/-- The number that bytes of seven bits say. -/
def val7 : List UInt8 → Nat
  | [] => 0
  | b :: r => b.toNat % 128 + 128 * val7 r

theorem val7_short (n : Nat) : val7 (short n) = n := by
  induction n using Nat.strongRecOn with
  | ind n ih =>
    by_cases h : n < 128
    · rw [short_lt n h]
      simp [val7]
      omega
    · rw [short_ge n h]
      simp only [val7, ih (n / 128) (by omega), UInt8.toNat_ofNat']
      omega

theorem short_len (n i : Nat) (h : n < 2 ^ (7 * i)) (hi : 1 ≤ i) : (short n).length ≤ i := by
  induction i generalizing n with
  | zero => omega
  | succ i ih =>
    by_cases h1 : n < 128
    · rw [short_lt n h1]; simp
    · rw [short_ge n h1]
      rw [show 7 * (i + 1) = 7 * i + 7 by omega, Nat.pow_add] at h
      have h2 : n / 128 < 2 ^ (7 * i) := Nat.div_lt_of_lt_mul (by rw [Nat.mul_comm]; exact h)
      by_cases hi0 : i = 0
      · subst hi0; simp at h2; omega
      · have := ih _ h2 (by omega)
        simp; omega

theorem val7_append (a b : List UInt8) : val7 (a ++ b) = val7 a + 2 ^ (7 * a.length) * val7 b := by
  induction a with
  | nil => simp [val7]
  | cons x r ih =>
    simp only [List.cons_append, val7, ih, List.length_cons, Nat.mul_add, Nat.pow_add, Nat.mul_one]
    have : (2 : Nat) ^ 7 = 128 := rfl
    rw [this, Nat.mul_comm (2 ^ (7 * r.length)) 128]
    simp only [Nat.mul_assoc]
    omega

theorem val7_lt (a : List UInt8) : val7 a < 2 ^ (7 * a.length) := by
  induction a with
  | nil => simp [val7]
  | cons x r ih =>
    simp only [val7, List.length_cons, Nat.mul_add, Nat.mul_one, Nat.pow_add]
    have : (2 : Nat) ^ 7 = 128 := rfl
    rw [this]
    omega

/-- Bytes that go on, and one that ends: they are their number's short bytes unless a nought ends them that isn't alone. -/
theorem short_val7 : ∀ (pre : List UInt8) (c : UInt8), (∀ x ∈ pre, 128 ≤ x.toNat) → c.toNat < 128 → (c.toNat = 0 → pre = []) → short (val7 (pre ++ [c])) = pre ++ [c]
  | [], c, _, hc, _ => by
    simp only [List.nil_append, val7]
    rw [Nat.mul_zero, Nat.add_zero, Nat.mod_eq_of_lt hc, short_lt _ hc]
    simp
  | x :: r, c, hp, hc, h0 => by
    have hx := hp x (by simp)
    have hxl := x.toNat_lt
    have hc0 : c.toNat ≠ 0 := fun e => by have := h0 e; simp at this
    have ih := short_val7 r c (fun y hy => hp y (by simp [hy])) hc (fun e => absurd e hc0)
    have hpos : 1 ≤ val7 (r ++ [c]) := by
      rw [val7_append]
      simp only [val7, Nat.mul_zero, Nat.add_zero, Nat.mod_eq_of_lt hc]
      have := Nat.two_pow_pos (7 * r.length)
      have : 1 * 1 ≤ 2 ^ (7 * r.length) * c.toNat := Nat.mul_le_mul this (by omega)
      omega
    rw [List.cons_append, val7, short_ge _ (by omega)]
    have e1 : (x.toNat % 128 + 128 * val7 (r ++ [c])) / 128 = val7 (r ++ [c]) := by omega
    have e2 : (x.toNat % 128 + 128 * val7 (r ++ [c])) % 128 + 128 = x.toNat := by omega
    rw [e1, e2, ih]
    simp

/-- The short bytes' form. -/
theorem short_form (n : Nat) : ∃ pre c, short n = pre ++ [c] ∧ (∀ x ∈ pre, 128 ≤ x.toNat) ∧ c.toNat < 128 ∧ (c.toNat = 0 → pre = []) := by
  induction n using Nat.strongRecOn with
  | ind n ih =>
    by_cases h : n < 128
    · refine ⟨[], UInt8.ofNat n, by rw [short_lt n h]; rfl, by simp, by simp; omega, fun _ => rfl⟩
    · obtain ⟨pre, c, he, hp, hc, h0⟩ := ih (n / 128) (by omega)
      refine ⟨UInt8.ofNat (n % 128 + 128) :: pre, c, by rw [short_ge n h, he]; rfl, ?_, hc, fun e => ?_⟩
      · intro x hx
        rcases List.mem_cons.1 hx with rfl | hx
        · simp; omega
        · exact hp x hx
      · exfalso
        have hpre := h0 e
        subst hpre
        have hv := val7_short (n / 128)
        rw [he] at hv
        simp [val7, e] at hv
        omega

/-- Reading short bytes, from the place i on, n being read so far: the number, and how many bytes; noughts: there is none. -/
def rs : List UInt8 → Nat → Nat → Nat × Nat
  | [], _, _ => (0, 0)
  | c :: r, i, n =>
    if i = 9 ∧ 1 < c.toNat then (0, 0)
    else if c.toNat < 128 then (if c.toNat = 0 ∧ 0 < i then (0, 0) else (n + c.toNat % 128 * 2 ^ (7 * i), i + 1))
    else rs r (i + 1) (n + c.toNat % 128 * 2 ^ (7 * i))

/-- At a byte that ends: are the bytes so far the short bytes of what they say? -/
theorem short_test (pre : List UInt8) (c : UInt8) (hp : ∀ x ∈ pre, 128 ≤ x.toNat) (hc : c.toNat < 128) (hl : pre.length ≤ 9) :
    short ((val7 pre + c.toNat % 128 * 2 ^ (7 * pre.length)) % 18446744073709551616) = pre ++ [c] ↔ ¬ (pre.length = 9 ∧ 1 < c.toNat) ∧ ¬ (c.toNat = 0 ∧ 0 < pre.length) := by
  have hv : val7 (pre ++ [c]) = val7 pre + c.toNat % 128 * 2 ^ (7 * pre.length) := by
    rw [val7_append]; simp only [val7, Nat.mul_zero, Nat.add_zero]; rw [Nat.mul_comm]
  have hlt := val7_lt pre
  rw [← hv]
  by_cases h9 : pre.length = 9 ∧ 1 < c.toNat
  · refine ⟨fun e => False.elim ?_, fun h => absurd h9 h.1⟩
    have h1 := val7_short (val7 (pre ++ [c]) % 18446744073709551616)
    rw [e] at h1
    have h2 : 18446744073709551616 ≤ val7 (pre ++ [c]) := by
      rw [hv, h9.1, Nat.mod_eq_of_lt hc]
      have : 2 * 2 ^ 63 ≤ c.toNat * 2 ^ (7 * 9) := Nat.mul_le_mul (by omega) (by decide)
      omega
    have h3 := Nat.mod_lt (val7 (pre ++ [c])) (show 0 < 18446744073709551616 by omega)
    omega
  · have hsm : val7 (pre ++ [c]) < 18446744073709551616 := by
      by_cases h8 : pre.length = 9
      · have hc1 : c.toNat ≤ 1 := by omega
        rw [hv, h8, Nat.mod_eq_of_lt hc]
        rw [h8] at hlt
        have : c.toNat * 2 ^ (7 * 9) ≤ 1 * 2 ^ 63 := Nat.mul_le_mul hc1 (by decide)
        have e63 : (2 : Nat) ^ (7 * 9) = 9223372036854775808 := by decide
        omega
      · have h4 := val7_lt (pre ++ [c])
        have h5 : (2 : Nat) ^ (7 * (pre ++ [c]).length) ≤ 2 ^ 63 := Nat.pow_le_pow_right (by omega) (by simp; omega)
        have e63 : (2 : Nat) ^ 63 = 9223372036854775808 := by decide
        omega
    rw [Nat.mod_eq_of_lt hsm]
    by_cases h0 : c.toNat = 0 ∧ 0 < pre.length
    · refine ⟨fun e => False.elim ?_, fun h => absurd h0 h.2⟩
      obtain ⟨pre2, c2, he, _, _, h02⟩ := short_form (val7 (pre ++ [c]))
      rw [e] at he
      have := List.append_inj' he rfl
      obtain ⟨rfl, hcc⟩ := this
      simp at hcc
      subst hcc
      have := h02 h0.1
      rw [this] at h0
      simp at h0
    · refine ⟨fun _ => ⟨h9, h0⟩, fun _ => short_val7 pre c hp hc fun e => ?_⟩
      by_cases hl0 : pre.length = 0
      · exact List.eq_nil_of_length_eq_zero hl0
      · exact absurd ⟨e, by omega⟩ h0

/-- What was written is read, whatever stands behind. -/
theorem rs_form : ∀ (suf : List UInt8) (c : UInt8) (i n : Nat) (b : List UInt8), (∀ x ∈ suf, 128 ≤ x.toNat) → c.toNat < 128 → (c.toNat = 0 → suf = [] ∧ i = 0) → i + suf.length ≤ 9 → (i + suf.length = 9 → c.toNat ≤ 1) →
    rs (suf ++ [c] ++ b) i n = (n + val7 (suf ++ [c]) * 2 ^ (7 * i), i + suf.length + 1)
  | [], c, i, n, b, _, hc, h0, hl, h9 => by
    simp only [List.nil_append, List.cons_append, rs, val7, Nat.mul_zero, Nat.add_zero, List.length_nil]
    rw [if_neg (by intro h; have := h9 (by simpa using h.1); omega), if_pos hc, if_neg (by intro h; have := (h0 h.1).2; omega)]
  | x :: r, c, i, n, b, hp, hc, h0, hl, h9 => by
    have hx := hp x (by simp)
    simp only [List.cons_append, rs, List.length_cons] at hl h9 ⊢
    rw [if_neg (by intro h; omega), if_neg (by omega)]
    have ih := rs_form r c (i + 1) (n + x.toNat % 128 * 2 ^ (7 * i)) b (fun y hy => hp y (by simp [hy])) hc (fun e => by have := (h0 e).1; simp at this) (by omega) (fun e => h9 (by omega))
    rw [List.append_assoc] at ih ⊢
    rw [ih]
    simp only [val7, Prod.mk.injEq]
    refine ⟨?_, by omega⟩
    rw [show 7 * (i + 1) = 7 * i + 7 by omega, Nat.pow_add, show (2 : Nat) ^ 7 = 128 from rfl, Nat.add_mul, Nat.mul_assoc 128, Nat.mul_comm (2 ^ (7 * i)) 128, Nat.mul_left_comm]
    omega

theorem rs_short (n : Nat) (hn : n < 18446744073709551616) (b : List UInt8) : rs (short n ++ b) 0 0 = (n, (short n).length) := by
  obtain ⟨pre, c, he, hp, hc, h0⟩ := short_form n
  have hv := val7_short n
  have hl : (short n).length ≤ 10 := short_len n 10 (Nat.lt_of_lt_of_le hn (by decide)) (by omega)
  rw [he] at hv hl ⊢
  simp at hl
  have h := rs_form pre c 0 0 b hp hc (fun e => ⟨h0 e, rfl⟩) (by omega) (fun e => by
    rw [val7_append] at hv
    simp only [val7, Nat.mul_zero, Nat.add_zero, Nat.mod_eq_of_lt hc] at hv
    have e9 : pre.length = 9 := by omega
    rw [e9] at hv
    have : (2 : Nat) ^ (7 * 9) = 9223372036854775808 := by decide
    rw [this] at hv
    omega)
  rw [h, hv]
  simp

end Go.Proofs.Ytnocfepkjhdliaa
