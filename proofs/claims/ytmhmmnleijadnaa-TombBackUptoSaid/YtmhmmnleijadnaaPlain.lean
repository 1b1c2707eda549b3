/- Plain facts on bits, numbers and bytes; nothing of the program is in sight here. -/
namespace Go.Proofs.Ytmhmmnleijadnaa

/-- The number that bits say, the highest first. -/
def num : List Bool → Nat
  | [] => 0
  | b :: r => b.toNat * 2 ^ r.length + num r

theorem num_lt (l : List Bool) : num l < 2 ^ l.length := by
  induction l with
  | nil => simp [num]
  | cons b r ih =>
    have h : b.toNat ≤ 1 := by cases b <;> simp
    have h2 : b.toNat * 2 ^ r.length ≤ 1 * 2 ^ r.length := Nat.mul_le_mul_right _ h
    simp only [num, List.length_cons, Nat.pow_succ]
    omega

theorem num_append (a b : List Bool) : num (a ++ b) = num a * 2 ^ b.length + num b := by
  induction a with
  | nil => simp [num]
  | cons x r ih =>
    simp only [List.cons_append, num, List.length_append, ih, Nat.pow_add, Nat.add_mul, Nat.mul_assoc]
    omega

theorem num_zeros (n : Nat) : num (List.replicate n false) = 0 := by
  induction n with
  | zero => rfl
  | succ n ih => simp [List.replicate_succ, num, ih]

/-- Numbers of one length that say the same are the same bits. -/
theorem num_inj : ∀ (a b : List Bool), a.length = b.length → num a = num b → a = b
  | [], [], _, _ => rfl
  | [], _ :: _, h, _ => by simp at h
  | _ :: _, [], h, _ => by simp at h
  | x :: r, y :: s, hl, hn => by
    have hl' : r.length = s.length := by simpa using hl
    have h1 := num_lt r
    have h2 := num_lt s
    simp only [num] at hn
    rw [← hl'] at hn h2
    have hxy : x = y := by
      cases x <;> cases y <;> simp at hn <;> first | rfl | omega
    subst hxy
    rw [num_inj r s hl' (by omega)]

/-- The lowest n bits of a number, the highest first. -/
def bitsOf (v : Nat) : Nat → List Bool
  | 0 => []
  | n + 1 => v.testBit n :: bitsOf v n

@[simp] theorem length_bitsOf (v n : Nat) : (bitsOf v n).length = n := by
  induction n with
  | zero => rfl
  | succ n ih => simp [bitsOf, ih]

theorem num_bitsOf (v n : Nat) : num (bitsOf v n) = v % 2 ^ n := by
  induction n with
  | zero => simp [bitsOf, num, Nat.mod_one]
  | succ n ih =>
    simp only [bitsOf, num, ih, length_bitsOf]
    have h := Nat.mod_pow_succ (x := v) (b := 2) (k := n)
    rw [h]
    have ht : (v.testBit n).toNat = v / 2 ^ n % 2 := by
      rw [Nat.testBit_eq_decide_div_mod_eq]
      rcases Nat.mod_two_eq_zero_or_one (v / 2 ^ n) with h | h <;> simp [h]
    rw [ht, Nat.mul_comm]
    omega

theorem bitsOf_mod (v n : Nat) : bitsOf (v % 2 ^ n) n = bitsOf v n :=
  num_inj _ _ (by simp) (by simp [num_bitsOf])

theorem bitsOf_num (l : List Bool) : bitsOf (num l) l.length = l :=
  num_inj _ _ (by simp) (by rw [num_bitsOf]; exact Nat.mod_eq_of_lt (num_lt l))

theorem bitsOf_split (v a b : Nat) : bitsOf v (a + b) = bitsOf (v / 2 ^ b) a ++ bitsOf v b := by
  refine num_inj _ _ (by simp) ?_
  rw [num_append, num_bitsOf, num_bitsOf, num_bitsOf, length_bitsOf]
  rw [Nat.pow_add, Nat.mul_comm (2 ^ a), Nat.mod_mul, Nat.mul_comm (2 ^ b)]
  omega

theorem bitsOf_snoc (v n : Nat) : bitsOf v (n + 1) = bitsOf (v / 2) n ++ [v.testBit 0] := by
  have h := bitsOf_split v n 1
  simpa [bitsOf] using h

/-- Bytes out of bits, the last one filled up with noughts. -/
def pack8 : List Bool → List UInt8
  | [] => []
  | b :: r => UInt8.ofNat (num ((b :: r).take 8) * 2 ^ (8 - (b :: r).length)) :: pack8 ((b :: r).drop 8)
  termination_by l => l.length

theorem pack8_nil : pack8 [] = [] := by rw [pack8]
theorem pack8_step (l : List Bool) (h : l ≠ []) : pack8 l = UInt8.ofNat (num (l.take 8) * 2 ^ (8 - l.length)) :: pack8 (l.drop 8) := by
  cases l with
  | nil => exact absurd rfl h
  | cons b r => rw [pack8]

theorem length_pack8 (l : List Bool) : (pack8 l).length = (l.length + 7) / 8 := by
  induction hn : l.length using Nat.strongRecOn generalizing l with
  | ind n ih =>
    by_cases h : l = []
    · subst h; simp at hn; subst hn; simp [pack8_nil]
    · have hp : 0 < l.length := List.length_pos_iff.2 h
      rw [pack8_step l h, List.length_cons, ih (l.drop 8).length (by simp; omega) (l.drop 8) rfl]
      simp only [List.length_drop]
      omega

/-- Whole bytes, and what stands behind them. -/
theorem pack8_append (a b : List Bool) (h : a.length % 8 = 0) : pack8 (a ++ b) = pack8 a ++ pack8 b := by
  induction hn : a.length using Nat.strongRecOn generalizing a with
  | ind n ih =>
    by_cases ha : a = []
    · subst ha; simp [pack8_nil]
    · have hp : 0 < a.length := List.length_pos_iff.2 ha
      have h8 : 8 ≤ a.length := by omega
      rw [pack8_step (a ++ b) (by simp [ha]), pack8_step a ha, List.take_append_of_le_length h8, List.drop_append_of_le_length h8,
        ih (a.drop 8).length (by simp; omega) (a.drop 8) (by simp; omega) rfl]
      have e1 : 8 - (a ++ b).length = 0 := by simp; omega
      have e2 : 8 - a.length = 0 := by omega
      rw [e1, e2]; rfl

/-- At most eight bits: one byte. -/
theorem pack8_one (l : List Bool) (h : l ≠ []) (h8 : l.length ≤ 8) : pack8 l = [UInt8.ofNat (num l * 2 ^ (8 - l.length))] := by
  rw [pack8_step l h, List.take_of_length_le h8, List.drop_of_length_le h8, pack8_nil]

/-- The bits of bytes. -/
def bits8 (l : List UInt8) : List Bool := l.flatMap fun b => bitsOf b.toNat 8

@[simp] theorem bits8_nil : bits8 [] = [] := rfl
theorem bits8_cons (b : UInt8) (r : List UInt8) : bits8 (b :: r) = bitsOf b.toNat 8 ++ bits8 r := rfl
theorem bits8_append (a b : List UInt8) : bits8 (a ++ b) = bits8 a ++ bits8 b := by simp [bits8]
@[simp] theorem length_bits8 (l : List UInt8) : (bits8 l).length = 8 * l.length := by
  induction l with
  | nil => rfl
  | cons b r ih => rw [bits8_cons, List.length_append, ih, length_bitsOf, List.length_cons]; omega

theorem pack8_bits8 (l : List UInt8) : pack8 (bits8 l) = l := by
  induction l with
  | nil => simp [pack8_nil]
  | cons b r ih =>
    rw [bits8_cons, pack8_append _ _ (by simp), ih]
    rw [pack8_one _ (by intro h; have := congrArg List.length h; simp at this) (by simp)]
    simp [num_bitsOf, Nat.mod_eq_of_lt b.toNat_lt]

theorem bits8_pack8 (l : List Bool) : bits8 (pack8 l) = l ++ List.replicate ((8 - l.length % 8) % 8) false := by
  induction hn : l.length using Nat.strongRecOn generalizing l with
  | ind n ih =>
    by_cases h : l = []
    · subst h; simp at hn; subst hn; simp [pack8_nil]
    · have hp : 0 < l.length := List.length_pos_iff.2 h
      rw [pack8_step l h, bits8_cons]
      by_cases h8 : 8 ≤ l.length
      · rw [ih (l.drop 8).length (by simp; omega) (l.drop 8) rfl]
        have e2 : 8 - l.length = 0 := by omega
        have hlt : num (l.take 8) < 256 := by have := num_lt (l.take 8); simp [Nat.min_eq_left h8] at this; exact this
        have hb : bitsOf (UInt8.ofNat (num (l.take 8) * 2 ^ (8 - l.length))).toNat 8 = l.take 8 := by
          rw [e2]
          have : (UInt8.ofNat (num (l.take 8) * 2 ^ 0)).toNat = num (l.take 8) := by simp [Nat.mod_eq_of_lt hlt]
          rw [this]
          have h := bitsOf_num (l.take 8)
          simpa [Nat.min_eq_left h8] using h
        rw [hb, ← List.append_assoc, List.take_append_drop, List.length_drop]
        have e3 : (l.length - 8) % 8 = l.length % 8 := by omega
        rw [e3, hn]
      · have hl : l.length < 8 := by omega
        rw [List.drop_of_length_le (by omega), pack8_nil, bits8_nil, List.append_nil, List.take_of_length_le (by omega)]
        have e : (8 - n % 8) % 8 = 8 - l.length := by omega
        rw [e]
        have h1 := num_lt l
        have hlt : num l * 2 ^ (8 - l.length) < 256 := by
          have : num l * 2 ^ (8 - l.length) < 2 ^ l.length * 2 ^ (8 - l.length) := Nat.mul_lt_mul_of_pos_right h1 (Nat.two_pow_pos _)
          rw [← Nat.pow_add, Nat.add_sub_cancel' (by omega)] at this
          exact this
        refine num_inj _ _ (by simp; omega) ?_
        rw [num_bitsOf, num_append, num_zeros, List.length_replicate]
        simp [Nat.mod_eq_of_lt hlt]

/-- A chunk behind a beginning of less than a byte. -/
theorem pack8_snoc (full part c : List Bool) (hf : full.length % 8 = 0) (hc : c ≠ []) (h8 : part.length + c.length ≤ 8) :
    pack8 (full ++ part ++ c) = pack8 full ++ [UInt8.ofNat (num part * 2 ^ (8 - part.length) + num c * 2 ^ (8 - part.length - c.length))] := by
  have hcl : 0 < c.length := List.length_pos_iff.2 hc
  rw [List.append_assoc, pack8_append _ _ hf, pack8_one (part ++ c) (by simp [hc]) (by simpa using h8), num_append, List.length_append, Nat.add_mul, Nat.mul_assoc, ← Nat.pow_add]
  have e1 : c.length + (8 - (part.length + c.length)) = 8 - part.length := by omega
  have e2 : 8 - (part.length + c.length) = 8 - part.length - c.length := by omega
  rw [e1, e2]

/-- A bit as a byte of its own. -/
def b01 (b : Bool) : UInt8 := if b then 1 else 0

theorem b01_testBit (v : Nat) : ((b01 (v.testBit 0)).toNat : Int) = ((v % 2 : Nat) : Int) := by
  rw [Nat.testBit_zero]
  rcases Nat.mod_two_eq_zero_or_one v with h | h <;> simp [h, b01]

theorem bitsOf_next (v N k : Nat) (hk : 1 ≤ k) (hN : k ≤ N) : bitsOf (v / 2 ^ (k - 1)) (N - (k - 1)) = bitsOf (v / 2 ^ k) (N - k) ++ [(v / 2 ^ (k - 1)).testBit 0] := by
  have e : N - (k - 1) = (N - k) + 1 := by omega
  rw [e, bitsOf_snoc, Nat.div_div_eq_div_mul, ← Nat.pow_succ, show (k - 1).succ = k by omega]

/-- Some bits of one byte. -/
theorem bits8_piece (bs : List UInt8) (pos c : Nat) (hp : pos / 8 < bs.length) (hc : pos % 8 + c ≤ 8) :
    ((bits8 bs).drop pos).take c = bitsOf (bs[pos / 8].toNat / 2 ^ (8 - pos % 8 - c)) c := by
  have e1 : bs = bs.take (pos / 8) ++ (bs[pos / 8] :: bs.drop (pos / 8 + 1)) := by rw [List.getElem_cons_drop, List.take_append_drop]
  have hl : (bits8 (bs.take (pos / 8))).length = 8 * (pos / 8) := by simp; omega
  have e2 : (bits8 bs).drop pos = (bitsOf bs[pos / 8].toNat 8 ++ bits8 (bs.drop (pos / 8 + 1))).drop (pos % 8) := by
    conv => lhs; rw [e1, bits8_append, bits8_cons]
    rw [List.drop_append, List.drop_of_length_le (by rw [hl]; omega), List.nil_append, hl]
    congr 1
    omega
  have e3 : bitsOf bs[pos / 8].toNat 8 = bitsOf (bs[pos / 8].toNat / 2 ^ (8 - pos % 8)) (pos % 8) ++ (bitsOf (bs[pos / 8].toNat / 2 ^ (8 - pos % 8 - c)) c ++ bitsOf bs[pos / 8].toNat (8 - pos % 8 - c)) := by
    rw [← bitsOf_split, show c + (8 - pos % 8 - c) = 8 - pos % 8 by omega, ← bitsOf_split, show pos % 8 + (8 - pos % 8) = 8 by omega]
  rw [e2, e3, List.append_assoc, List.drop_left' (by simp), List.append_assoc, List.take_left' (by simp)]

theorem take8_len (l : List Bool) : (l.take (8 * (l.length / 8))).length = 8 * (l.length / 8) := by simp; omega
theorem drop8_len (l : List Bool) : (l.drop (8 * (l.length / 8))).length = l.length % 8 := by simp; omega

/-- The last byte that isn't full. -/
theorem pack8_last (l : List Bool) (h : l.length % 8 ≠ 0) :
    pack8 l = pack8 (l.take (8 * (l.length / 8))) ++ [UInt8.ofNat (num (l.drop (8 * (l.length / 8))) * 2 ^ (8 - l.length % 8))] := by
  have hd := drop8_len l
  have hne : l.drop (8 * (l.length / 8)) ≠ [] := by intro e; rw [e] at hd; simp at hd; omega
  conv => lhs; rw [← List.take_append_drop (8 * (l.length / 8)) l]
  rw [pack8_append _ _ (by rw [take8_len]; omega), pack8_one _ hne (by omega), hd]

/-- A chunk that finds room in the last byte. -/
theorem pack8_chunk (l c : List Bool) (hc : c ≠ []) (h8 : l.length % 8 + c.length ≤ 8) :
    pack8 (l ++ c) = pack8 (l.take (8 * (l.length / 8))) ++ [UInt8.ofNat (num (l.drop (8 * (l.length / 8))) * 2 ^ (8 - l.length % 8) + num c * 2 ^ (8 - l.length % 8 - c.length))] := by
  have hd := drop8_len l
  have h := pack8_snoc (l.take (8 * (l.length / 8))) (l.drop (8 * (l.length / 8))) c (by rw [take8_len]; omega) hc (by omega)
  rw [List.take_append_drop, hd] at h
  exact h

/-- The last byte's number, the chunk laid into it. -/
theorem or_chunk (a p x s : Nat) (ha : a < 2 ^ p) (hp : p ≤ 8) (hx : x * 2 ^ s < 2 ^ (8 - p)) :
    (UInt8.ofNat (a * 2 ^ (8 - p))).toNat ||| (x * 2 ^ s) % 256 = (UInt8.ofNat (a * 2 ^ (8 - p) + x * 2 ^ s)).toNat := by
  have h1 : a * 2 ^ (8 - p) + 2 ^ (8 - p) ≤ 256 := by
    have : (a + 1) * 2 ^ (8 - p) ≤ 2 ^ p * 2 ^ (8 - p) := Nat.mul_le_mul_right _ ha
    rw [← Nat.pow_add, Nat.add_sub_cancel' hp, Nat.add_mul] at this
    omega
  have h2 : (2:Nat) ^ (8 - p) ≤ 256 := by omega
  simp only [UInt8.toNat_ofNat']
  rw [Nat.mod_eq_of_lt (by omega), Nat.mod_eq_of_lt (by omega), Nat.mod_eq_of_lt (by omega)]
  rw [Nat.mul_comm a, ← Nat.two_pow_add_eq_or_of_lt hx]

end Go.Proofs.Ytmhmmnleijadnaa
