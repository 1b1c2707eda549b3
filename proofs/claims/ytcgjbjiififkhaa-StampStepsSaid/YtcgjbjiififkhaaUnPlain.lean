/- What the two Unpacks give, in plain words. -/
import Derived.Test.YtcgjbjiififkhaaPackPack
namespace Go.Proofs.Ytcgjbjiififkhaa
set_option linter.unusedVariables false

theorem bits8_drop : ∀ (k : Nat) (bs : List UInt8), (bits8 bs).drop (8 * k) = bits8 (bs.drop k)
  | 0, bs => rfl
  | k + 1, [] => by simp
  | k + 1, b :: r => by
    rw [bits8_cons, List.drop_succ_cons, ← bits8_drop k r]
    have e : 8 * (k + 1) = (bitsOf b.toNat 8).length + 8 * k := by simp; omega
    rw [e, List.drop_length_add_append]
theorem bits8_take : ∀ (k : Nat) (bs : List UInt8), (bits8 bs).take (8 * k) = bits8 (bs.take k)
  | 0, bs => rfl
  | k + 1, [] => by simp
  | k + 1, b :: r => by
    rw [bits8_cons, List.take_succ_cons, bits8_cons, ← bits8_take k r]
    have e : 8 * (k + 1) = (bitsOf b.toNat 8).length + 8 * k := by simp; omega
    rw [e, List.take_length_add_append]

/-- The number of the first n bytes, the highest first. -/
def rdN (n : Nat) (bs : List UInt8) : Nat := num (bits8 (bs.take n))
theorem rdN_zero (bs : List UInt8) : rdN 0 bs = 0 := rfl
theorem rdN_next (n : Nat) (bs : List UInt8) (h : n < bs.length) : rdN (n + 1) bs = rdN n bs * 256 + (bs[n]).toNat := by
  unfold rdN
  rw [List.take_succ_eq_append_getElem h, bits8_append, num_append]
  have e : bits8 [bs[n]] = bitsOf bs[n].toNat 8 := by rw [bits8_cons]; simp
  have hx := bs[n].toNat_lt
  rw [e, num_bitsOf, length_bitsOf]
  omega
theorem rdN_lt (n : Nat) (bs : List UInt8) : rdN n bs < 2 ^ (8 * n) := by
  unfold rdN
  refine Nat.lt_of_lt_of_le (num_lt _) (Nat.pow_le_pow_right (by omega) ?_)
  simp
  omega

theorem rd_get {bs : List UInt8} {i : Nat} (h : 8 * i + 8 ≤ bs.length) :
    num (((bits8 bs).drop (64 * i)).take 4) = rdN 8 (bs.drop (8 * i)) / 2 ^ 60 ∧ num (((bits8 bs).drop (64 * i + 4)).take 60) = rdN 8 (bs.drop (8 * i)) % 2 ^ 60 := by
  have e1 : (bits8 bs).drop (64 * i) = bits8 (bs.drop (8 * i)) := by rw [← bits8_drop]; congr 1; omega
  have e2 : (bits8 bs).drop (64 * i + 4) = (bits8 (bs.drop (8 * i))).drop 4 := by rw [← e1, List.drop_drop]
  rw [e1, e2]
  have hl : 64 ≤ (bits8 (bs.drop (8 * i))).length := by simp; omega
  unfold rdN
  rw [← bits8_take]
  generalize bits8 (bs.drop (8 * i)) = c at *
  have e3 : c.take (8 * 8) = c.take 4 ++ (c.drop 4).take 60 := by
    rw [show 8 * 8 = 4 + 60 by rfl, List.take_add]
  have h60 : ((c.drop 4).take 60).length = 60 := by simp; omega
  have := num_lt ((c.drop 4).take 60)
  rw [h60] at this
  rw [e3, num_append, h60]
  constructor <;> omega

/-- The words of bytes. -/
def wordsOf : Nat → List UInt8 → List Nat
  | 0, _ => []
  | m + 1, bs => rdN 8 bs :: wordsOf m (bs.drop 8)
def wl (bs : List UInt8) : List Nat := wordsOf (bs.length / 8) bs

theorem wordsOf_len : ∀ (m : Nat) (bs : List UInt8), (wordsOf m bs).length = m
  | 0, _ => rfl
  | m + 1, bs => by unfold wordsOf; rw [List.length_cons, wordsOf_len m]
theorem wl_len (bs : List UInt8) : (wl bs).length = bs.length / 8 := wordsOf_len _ _
theorem wordsOf_drop : ∀ (m i : Nat) (bs : List UInt8), i < m → (wordsOf m bs).drop i = rdN 8 (bs.drop (8 * i)) :: (wordsOf m bs).drop (i + 1)
  | m + 1, 0, bs, _ => rfl
  | m + 1, i + 1, bs, h => by
    have := wordsOf_drop m i (bs.drop 8) (by omega)
    unfold wordsOf
    rw [List.drop_succ_cons, List.drop_succ_cons, this, List.drop_drop]
    congr 3
    omega
theorem wl_drop (i : Nat) (bs : List UInt8) (h : 8 * i + 8 ≤ bs.length) : (wl bs).drop i = rdN 8 (bs.drop (8 * i)) :: (wl bs).drop (i + 1) :=
  wordsOf_drop _ _ _ (by omega)

def val (W v k : Nat) : Nat := v / 2 ^ (k * W) % 2 ^ W
def vals (W v m : Nat) : List Nat := (List.range m).map (val W v)
theorem vals_zero (W v : Nat) : vals W v 0 = [] := rfl
theorem vals_next (W v m : Nat) : vals W v (m + 1) = vals W v m ++ [val W v m] := by unfold vals; rw [List.range_succ, List.map_append]; rfl
theorem vals_len (W v m : Nat) : (vals W v m).length = m := by simp [vals]

/-- How many numbers a word still gives. -/
def room (n : Nat) (acc : List Nat) (s : Nat) : Nat := min (60 / wds.getD s 0) (n - acc.length)

def decR (n : Nat) : List Nat → List Nat → Option (List Nat)
  | [], acc => some acc
  | v :: r, acc => if v / 2 ^ 60 < 14 then decR n r (acc ++ vals (wds.getD (v / 2 ^ 60) 0) v (room n acc (v / 2 ^ 60))) else none
def decP (n : Nat) : List Nat → List Nat → Option (List Nat)
  | [], acc => some acc
  | v :: r, acc => if n ≤ acc.length then some acc else if v / 2 ^ 60 < 14 then decP n r (acc ++ vals (wds.getD (v / 2 ^ 60) 0) v (room n acc (v / 2 ^ 60))) else none

theorem room_le (n : Nat) (acc : List Nat) (s : Nat) : room n acc s ≤ 60 := by
  unfold room
  have : 60 / wds.getD s 0 ≤ 60 := Nat.div_le_self _ _
  omega

theorem decR_len {n : Nat} : ∀ {ws acc l : List Nat}, decR n ws acc = some l → acc.length ≤ l.length ∧ l.length ≤ acc.length + 60 * ws.length ∧ (acc.length ≤ n → l.length ≤ n)
  | [], acc, l, h => by
    obtain rfl : acc = l := by simpa [decR] using h
    simp
  | v :: r, acc, l, h => by
    unfold decR at h
    split at h
    · have ih := decR_len h
      rw [List.length_append, vals_len] at ih
      have h1 := room_le n acc (v / 2 ^ 60)
      have h2 : room n acc (v / 2 ^ 60) ≤ n - acc.length := Nat.min_le_right _ _
      rw [List.length_cons]
      generalize room n acc (v / 2 ^ 60) = R at *
      refine ⟨by omega, by omega, fun h3 => ih.2.2 (by omega)⟩
    · cases h

theorem decR_full {n : Nat} : ∀ {ws acc l : List Nat}, n ≤ acc.length → decR n ws acc = some l → l = acc
  | [], acc, l, _, h => by simpa [decR] using h.symm
  | v :: r, acc, l, hn, h => by
    unfold decR at h
    split at h
    · have e : room n acc (v / 2 ^ 60) = 0 := by unfold room; rw [Nat.sub_eq_zero_of_le hn, Nat.min_zero]
      rw [e, vals_zero, List.append_nil] at h
      exact decR_full hn h
    · cases h

theorem decP_of {n : Nat} : ∀ {ws acc l : List Nat}, decR n ws acc = some l → decP n ws acc = some l
  | [], acc, l, h => h
  | v :: r, acc, l, h => by
    unfold decP
    by_cases hn : n ≤ acc.length
    · rw [if_pos hn, decR_full hn h]
    · rw [if_neg hn]
      unfold decR at h
      split at h
      · rw [if_pos (by assumption)]
        exact decP_of h
      · cases h

theorem decR_of {n : Nat} : ∀ {ws acc l : List Nat}, (∀ v ∈ ws, v / 2 ^ 60 < 14) → decP n ws acc = some l → decR n ws acc = some l
  | [], acc, l, _, h => h
  | v :: r, acc, l, hv, h => by
    have h14 := hv v (by simp)
    have hr : ∀ x ∈ r, x / 2 ^ 60 < 14 := fun x hx => hv x (by simp [hx])
    unfold decP at h
    by_cases hn : n ≤ acc.length
    · rw [if_pos hn] at h
      obtain rfl : acc = l := by simpa using h
      have key : ∀ (ws : List Nat), (∀ v ∈ ws, v / 2 ^ 60 < 14) → decR n ws acc = some acc := by
        intro ws
        induction ws with
        | nil => intro _; rfl
        | cons v r ih =>
          intro hv
          unfold decR
          have e : room n acc (v / 2 ^ 60) = 0 := by unfold room; rw [Nat.sub_eq_zero_of_le hn, Nat.min_zero]
          rw [if_pos (hv v (by simp)), e, vals_zero, List.append_nil]
          exact ih (fun x hx => hv x (by simp [hx]))
      exact key _ hv
    · rw [if_neg hn, if_pos h14] at h
      unfold decR
      rw [if_pos h14]
      exact decR_of hr h

/-! ### What Pack gives -/
theorem pkA_ind {P : List Nat → List UInt8 → Prop} (h0 : P [] []) (h1 : ∀ (l : List Nat) (s W : Nat) (bs : List UInt8), l ≠ [] → takeS l = some (s, W) → 1 ≤ min (60 / W) l.length → pkA (l.drop (min (60 / W) l.length)) = some bs → P (l.drop (min (60 / W) l.length)) bs → P l (be8 (wordN W s l) ++ bs)) :
    ∀ (n : Nat) (l : List Nat) (bs : List UInt8), l.length ≤ n → pkA l = some bs → P l bs
  | n, [], bs, _, h => by
    rw [pkA_nil] at h
    obtain rfl : [] = bs := by simpa using h
    exact h0
  | 0, x :: r, bs, h, _ => by simp at h
  | n + 1, x :: r, bs, hn, h => by
    have hl : x :: r ≠ [] := by simp
    cases ht : takeS (x :: r) with
    | none => rw [pkA_none hl ht] at h; cases h
    | some p =>
      obtain ⟨s, W⟩ := p
      rw [pkA_some hl ht] at h
      have hp := takeN_pos ht hl
      generalize x :: r = l at *
      cases hd : pkA (l.drop (min (60 / W) l.length)) with
      | none => rw [hd] at h; cases h
      | some b =>
        rw [hd] at h
        obtain rfl : be8 (wordN W s l) ++ b = bs := by simpa using h
        exact h1 l s W b hl ht hp hd (pkA_ind h0 h1 n _ _ (by rw [List.length_drop]; omega) hd)

theorem wordN_lt (W s : Nat) (l : List Nat) : wordN W s l < 18446744073709551616 := wordT_lt _ _ _ _

theorem be8_bits (v : Nat) : bits8 (be8 v) = bitsOf v 64 := by
  unfold be8
  rw [bits8_pack8]
  simp

theorem rd_be8 (v : Nat) (hv : v < 18446744073709551616) (r : List UInt8) : rdN 8 (be8 v ++ r) = v := by
  unfold rdN
  rw [show (8 : Nat) = (be8 v).length by rw [be8_len], List.take_left, be8_bits, num_bitsOf]
  exact Nat.mod_eq_of_lt hv

theorem wl_cons (v : Nat) (hv : v < 18446744073709551616) (r : List UInt8) : wl (be8 v ++ r) = v :: wl r := by
  unfold wl
  have e : (be8 v ++ r).length / 8 = r.length / 8 + 1 := by rw [List.length_append, be8_len]; omega
  have e2 : (be8 v ++ r).drop 8 = r := by rw [show (8 : Nat) = (be8 v).length by rw [be8_len], List.drop_left]
  rw [e]
  unfold wordsOf
  rw [rd_be8 v hv, e2]
  cases h : r.length / 8 <;> rfl

def lowF (W : Nat) : List Nat → Nat
  | [] => 0
  | x :: r => x + 2 ^ W * lowF W r

theorem lowF_snoc (W : Nat) (x : Nat) : ∀ l : List Nat, lowF W (l ++ [x]) = lowF W l + x * 2 ^ (l.length * W)
  | [] => by simp [lowF]
  | y :: r => by
    have ih := lowF_snoc W x r
    rw [List.cons_append]
    unfold lowF
    rw [ih, List.length_cons, Nat.mul_add, Nat.add_mul, Nat.pow_add]
    simp only [Nat.one_mul]
    rw [show 2 ^ W * (x * 2 ^ (r.length * W)) = x * (2 ^ (r.length * W) * 2 ^ W) by rw [Nat.mul_left_comm, Nat.mul_comm (2 ^ W)]]
    omega

theorem fitsB_mem {l : List Nat} {W : Nat} : fitsB l W = true ↔ ∀ x ∈ l, x < 2 ^ W := by simp [fitsB]

theorem lowF_lt (W : Nat) : ∀ l : List Nat, (∀ x ∈ l, x < 2 ^ W) → lowF W l < 2 ^ (l.length * W)
  | [], _ => by simp [lowF]
  | x :: r, h => by
    have ih := lowF_lt W r (fun y hy => h y (by simp [hy]))
    have hx := h x (by simp)
    unfold lowF
    rw [List.length_cons, Nat.add_mul, Nat.pow_add, Nat.one_mul, Nat.mul_comm (2 ^ (r.length * W))]
    have h1 : 2 ^ W * (lowF W r + 1) ≤ 2 ^ W * 2 ^ (r.length * W) := Nat.mul_le_mul_left _ ih
    rw [Nat.mul_add] at h1
    omega

theorem lowF_get (W : Nat) : ∀ (l : List Nat) (k : Nat) (h : k < l.length), (∀ x ∈ l, x < 2 ^ W) → lowF W l / 2 ^ (k * W) % 2 ^ W = l[k]
  | x :: r, 0, _, h => by
    have hx := h x (by simp)
    unfold lowF
    rw [Nat.zero_mul, Nat.pow_zero, Nat.div_one, Nat.add_mul_mod_self_left, Nat.mod_eq_of_lt hx]
    rfl
  | x :: r, k + 1, hk, h => by
    have hx := h x (by simp)
    have ih := lowF_get W r k (by simpa using hk) (fun y hy => h y (by simp [hy]))
    have hp := Nat.two_pow_pos W
    unfold lowF
    rw [Nat.add_mul, Nat.one_mul, Nat.add_comm (k * W), Nat.pow_add, ← Nat.div_div_eq_div_mul, Nat.add_mul_div_left _ _ hp, Nat.div_eq_of_lt hx, Nat.zero_add, ih]
    rfl

theorem word_or (s p x low W : Nat) (hp : p + W ≤ 60) (hlow : low < 2 ^ p) (hx : x < 2 ^ W) : (s * 2 ^ 60 + low) ||| x * 2 ^ p = s * 2 ^ 60 + (low + x * 2 ^ p) := by
  have e60 : (2 : Nat) ^ 60 = 2 ^ p * 2 ^ (60 - p) := by rw [← Nat.pow_add]; congr 1; omega
  have ea : s * 2 ^ 60 = 2 ^ p * (s * 2 ^ (60 - p)) := by rw [e60, Nat.mul_left_comm]
  have hx2 : x < 2 ^ (60 - p) := Nat.lt_of_lt_of_le hx (Nat.pow_le_pow_right (by omega) (by omega))
  have e1 : 2 ^ p * (s * 2 ^ (60 - p)) + low = 2 ^ p * (s * 2 ^ (60 - p)) ||| low := Nat.two_pow_add_eq_or_of_lt hlow _
  have e2 : s * 2 ^ (60 - p) + x = s * 2 ^ (60 - p) ||| x := by
    rw [Nat.mul_comm]
    exact Nat.two_pow_add_eq_or_of_lt hx2 _
  have e3 : (2 ^ p * (s * 2 ^ (60 - p))) ||| (x * 2 ^ p) = 2 ^ p * (s * 2 ^ (60 - p) ||| x) := by
    rw [Nat.mul_comm (2 ^ p), ← Nat.shiftLeft_eq _ p, ← Nat.shiftLeft_eq x p, ← Nat.shiftLeft_or_distrib, Nat.shiftLeft_eq _ p, Nat.mul_comm]
  rw [ea, e1, Nat.or_assoc, Nat.or_comm low, ← Nat.or_assoc, e3, ← e2, ← Nat.two_pow_add_eq_or_of_lt hlow, Nat.mul_add, Nat.mul_comm x]
  omega

theorem wordT_eq (W s : Nat) (l : List Nat) (hs : s < 14) : ∀ i, i ≤ l.length → i * W ≤ 60 → (∀ x ∈ l.take i, x < 2 ^ W) → wordT W s l i = s * 2 ^ 60 + lowF W (l.take i)
  | 0, _, _, _ => by
    show s * 2 ^ 60 % 18446744073709551616 = _
    simp [lowF]
    omega
  | i + 1, hi, hw, hx => by
    have hil : i < l.length := by omega
    rw [Nat.add_mul, Nat.one_mul] at hw
    have e := List.take_succ_eq_append_getElem hil
    rw [e] at hx
    have ih := wordT_eq W s l hs i (by omega) (by omega) (fun x h => hx x (List.mem_append_left _ h))
    have hx1 := hx l[i] (List.mem_append_right _ (by simp))
    have hlow := lowF_lt W (l.take i) (fun x h => hx x (List.mem_append_left _ h))
    have hlen : (l.take i).length = i := by simp; omega
    rw [hlen] at hlow
    have hm : l[i] * 2 ^ (i * W) % 18446744073709551616 = l[i] * 2 ^ (i * W) := by
      refine Nat.mod_eq_of_lt ?_
      have h1 : l[i] * 2 ^ (i * W) < 2 ^ W * 2 ^ (i * W) := Nat.mul_lt_mul_of_pos_right hx1 (Nat.two_pow_pos _)
      rw [← Nat.pow_add] at h1
      have h2 : 2 ^ (W + i * W) ≤ 2 ^ 60 := Nat.pow_le_pow_right (by omega) (by omega)
      omega
    unfold wordT
    rw [ih, show l.getD i 0 = l[i] by simp [hil], hm, word_or _ _ _ _ _ hw hlow hx1, e, lowF_snoc, hlen]

/-- What Pack's word holds. -/
theorem wordN_eq {l : List Nat} {s W : Nat} (h : takeS l = some (s, W)) : wordN W s l = s * 2 ^ 60 + lowF W (l.take (min (60 / W) l.length)) ∧ (∀ x ∈ l.take (min (60 / W) l.length), x < 2 ^ W) ∧ s < 14 ∧ W = wds.getD s 0 ∧ min (60 / W) l.length * W ≤ 60 := by
  obtain ⟨hs, hw, hf⟩ := takeS_some h
  have hx : ∀ x ∈ l.take (min (60 / W) l.length), x < 2 ^ W := by
    intro x hx
    refine fitsB_mem.1 hf x ?_
    by_cases hc : 60 / W ≤ l.length
    · rwa [Nat.min_eq_left hc] at hx
    · rw [Nat.min_eq_right (by omega), List.take_length] at hx
      rwa [List.take_of_length_le (by omega)]
  have hm : min (60 / W) l.length * W ≤ 60 := Nat.le_trans (Nat.mul_le_mul_right W (Nat.min_le_left _ _)) (Nat.div_mul_le_self 60 W)
  exact ⟨wordT_eq W s l hs _ (Nat.min_le_right _ _) hm hx, hx, hs, hw, hm⟩

theorem word_sel {s W : Nat} {ys : List Nat} (hx : ∀ x ∈ ys, x < 2 ^ W) (hm : ys.length * W ≤ 60) : (s * 2 ^ 60 + lowF W ys) / 2 ^ 60 = s ∧ vals W (s * 2 ^ 60 + lowF W ys) ys.length = ys := by
  have hl := lowF_lt W ys hx
  have h60 : 2 ^ (ys.length * W) ≤ 2 ^ 60 := Nat.pow_le_pow_right (by omega) hm
  refine ⟨by omega, ?_⟩
  refine List.ext_getElem (by rw [vals_len]) fun k h1 h2 => ?_
  have hg : (vals W (s * 2 ^ 60 + lowF W ys) ys.length)[k] = val W (s * 2 ^ 60 + lowF W ys) k := by simp [vals]
  rw [vals_len] at h1
  rw [hg]
  unfold val
  have hk : k * W + W ≤ 60 := by
    have := Nat.mul_le_mul_right W (show k + 1 ≤ ys.length by omega)
    rw [Nat.add_mul, Nat.one_mul] at this
    omega
  have e60 : (2 : Nat) ^ 60 = 2 ^ (k * W) * (2 ^ W * 2 ^ (60 - (k * W + W))) := by
    rw [← Nat.pow_add, ← Nat.pow_add]; congr 1; omega
  rw [e60, Nat.mul_left_comm, Nat.mul_left_comm s, Nat.add_comm, Nat.add_mul_div_left _ _ (Nat.two_pow_pos _), Nat.add_mul_mod_self_left]
  exact lowF_get W ys k h2 hx

theorem pkA_good {l : List Nat} {bs : List UInt8} (h : pkA l = some bs) : bs.length % 8 = 0 ∧ l.length ≤ 60 * (bs.length / 8) ∧ (∀ v ∈ wl bs, v / 2 ^ 60 < 14) ∧ ∀ acc : List Nat, decR (acc.length + l.length) (wl bs) acc = some (acc ++ l) := by
  refine pkA_ind (P := fun l bs => bs.length % 8 = 0 ∧ l.length ≤ 60 * (bs.length / 8) ∧ (∀ v ∈ wl bs, v / 2 ^ 60 < 14) ∧ ∀ acc : List Nat, decR (acc.length + l.length) (wl bs) acc = some (acc ++ l)) ?_ ?_ l.length l bs (Nat.le_refl _) h
  · refine ⟨rfl, Nat.le_refl _, fun v hv => ?_, fun acc => ?_⟩
    · simp [wl, wordsOf] at hv
    · simp [wl, wordsOf, decR]
  · intro l s W bs hl ht hp hd ⟨i1, i2, i3, i4⟩
    obtain ⟨w1, w2, w3, w4, w5⟩ := wordN_eq ht
    have hlt := wordN_lt W s l
    have hlen : (l.take (min (60 / W) l.length)).length = min (60 / W) l.length := by simp
    have hsel := word_sel (s := s) w2 (by rw [hlen]; exact w5)
    rw [← w1, hlen] at hsel
    have hdl : (l.drop (min (60 / W) l.length)).length = l.length - min (60 / W) l.length := by simp
    rw [hdl] at i2
    have h60 : 60 / W ≤ 60 := Nat.div_le_self _ _
    refine ⟨?_, ?_, ?_, ?_⟩
    · rw [List.length_append, be8_len]; omega
    · rw [List.length_append, be8_len]; omega
    · rw [wl_cons _ hlt]
      intro v hv
      rcases List.mem_cons.1 hv with rfl | hv
      · rw [hsel.1]; exact w3
      · exact i3 v hv
    · intro acc
      rw [wl_cons _ hlt]
      have hroom : room (acc.length + l.length) acc s = min (60 / W) l.length := by
        unfold room
        rw [← w4, Nat.add_sub_cancel_left]
      have e : decR (acc.length + l.length) (wordN W s l :: wl bs) acc = decR (acc.length + l.length) (wl bs) (acc ++ l.take (min (60 / W) l.length)) := by
        conv => lhs; unfold decR
        rw [if_pos (by rw [hsel.1]; exact w3), hsel.1, hroom, ← w4, hsel.2]
      have := i4 (acc ++ l.take (min (60 / W) l.length))
      rw [List.length_append, hlen, hdl, show acc.length + min (60 / W) l.length + (l.length - min (60 / W) l.length) = acc.length + l.length by omega, List.append_assoc, List.take_append_drop] at this
      rw [e, this]

/-- What both Unpacks give. -/
def unA (bs : List UInt8) (n : Int) : Option (List Nat) := if 0 ≤ n then match decP n.toNat (wl bs) [] with
    | none => none
    | some l => if pkA l = some bs ∧ (l.length : Int) = n then some l else none
  else none

theorem unA_back {l : List Nat} {bs : List UInt8} (h : pkA l = some bs) : unA bs l.length = some l := by
  have := (pkA_good h).2.2.2 []
  rw [List.length_nil, Nat.zero_add, List.nil_append] at this
  have h2 := decP_of this
  unfold unA
  rw [if_pos (by omega), Int.toNat_natCast, h2]
  simp only
  rw [if_pos ⟨h, trivial⟩]

theorem unA_some {l : List Nat} {bs : List UInt8} {n : Nat} (h : decP n (wl bs) [] = some l) (h2 : pkA l = some bs) (h3 : l.length = n) : unA bs n = some l := by
  unfold unA
  rw [if_pos (by omega), Int.toNat_natCast, h]
  simp only
  rw [if_pos ⟨h2, by omega⟩]
theorem unA_none {l : List Nat} {bs : List UInt8} {n : Nat} (h : decP n (wl bs) [] = some l) (h2 : ¬ (pkA l = some bs ∧ l.length = n)) : unA bs n = none := by
  unfold unA
  rw [if_pos (by omega), Int.toNat_natCast, h]
  simp only
  rw [if_neg (fun ⟨a, b⟩ => h2 ⟨a, by omega⟩)]
theorem unA_stop {bs : List UInt8} {n : Nat} (h : decP n (wl bs) [] = none) : unA bs n = none := by
  unfold unA
  rw [if_pos (by omega), Int.toNat_natCast, h]
theorem unA_neg {bs : List UInt8} {n : Int} (h : n < 0) : unA bs n = none := by
  unfold unA
  rw [if_neg (by omega)]
/-- A bad word, or bytes that are no words: none. -/
theorem unA_bad {bs : List UInt8} {n : Nat} (h : decR n (wl bs) [] = none) : unA bs n = none := by
  cases hp : decP n (wl bs) [] with
  | none => exact unA_stop hp
  | some l =>
    refine unA_none hp fun ⟨h1, h2⟩ => ?_
    have := decR_of (pkA_good h1).2.2.1 hp
    rw [this] at h
    cases h
theorem unA_form {bs : List UInt8} {n : Int} (h : bs.length % 8 ≠ 0 ∨ n < 0 ∨ 60 * (bs.length : Int) < n) : unA bs n = none := by
  by_cases hn : n < 0
  · exact unA_neg hn
  · obtain ⟨m, rfl⟩ := Int.eq_ofNat_of_zero_le (show 0 ≤ n by omega)
    cases hp : decP m (wl bs) [] with
    | none => exact unA_stop hp
    | some l =>
      refine unA_none hp fun ⟨h1, h2⟩ => ?_
      obtain ⟨g1, g2, _⟩ := pkA_good h1
      omega
end Go.Proofs.Ytcgjbjiififkhaa
