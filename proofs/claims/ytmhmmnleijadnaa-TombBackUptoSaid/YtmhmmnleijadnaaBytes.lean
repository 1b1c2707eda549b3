/- Bytes in memory and as numbers, whatever the package: a literal, an append of bytes, the number of so many bytes, Tail, Two. -/
import Derived.Test.YtmhmmnleijadnaaEight
namespace Go.Proofs.Ytmhmmnleijadnaa
open Go.RowKit
set_option linter.unusedVariables false

theorem RdV.lit (w : World) (cs : Array Value) (e : TypeId) (n size : Nat) (hm : n ≤ maxLen) (hs : cs.size = n * size) : RdV (w.alloc (.cells cs e)) size (.slice (Option.some ⟨w.heap.size, 0, none⟩) n n) n cs.toList :=
  RdV.ofOwns (World.ownsRow_lit (base := 0) w cs n (Nat.zero_le _) hm hs)

theorem be8_eq (v : Nat) : be8 v = [UInt8.ofNat (v / 2 ^ 56), UInt8.ofNat (v / 2 ^ 48), UInt8.ofNat (v / 2 ^ 40), UInt8.ofNat (v / 2 ^ 32), UInt8.ofNat (v / 2 ^ 24), UInt8.ofNat (v / 2 ^ 16), UInt8.ofNat (v / 2 ^ 8), UInt8.ofNat (v / 2 ^ 0)] := by
  have e8 : part8 v 8 = be8 v := by unfold part8 be8; simp
  have e0 : part8 v 0 = [] := List.eq_nil_of_length_eq_zero (part8_len v 0)
  rw [← e8, part8_next v 7 (by omega), part8_next v 6 (by omega), part8_next v 5 (by omega), part8_next v 4 (by omega), part8_next v 3 (by omega), part8_next v 2 (by omega), part8_next v 1 (by omega), part8_next v 0 (by omega), e0]
  rfl

/-- append of bytes that read onto the call's own bytes. -/
theorem wpList_append_bs (w : World) {ops : Array Oper} {rest : List Oper} {o : Oper} {a : Act} {Q : Exit → Act → World → Prop} (hgd : o.guard = none) (s x : Operand)
    (ho : o.op = .call { callee := .builtin .append, args := #[s, x], argTypes := #[47, 47] })
    (base : Nat) (v : Value) (ps : List UInt8) (hs : a.eval s = v) (hown : Own w base v ps) (xv : Value) (bs : List UInt8) (hx : a.eval x = xv) (hrd : Rd w xv bs)
    (hlen : ps.length + bs.length ≤ 140737488355328) (hbase : base ≤ w.heap.size)
    (h : ∀ ao cap w', Grew w w' base 5 1 v (.slice ao (ps ++ bs).length cap) (ps ++ bs).length ((ps ++ bs).map bV) → wpList Try.prog ops Q rest (a.put o.dst (.slice ao (ps ++ bs).length cap)) w') : wpList Try.prog ops Q (o :: rest) a w := by
  refine wpList_append_rd w hgd s x 47 ho base 5 (.int .u8 0) 1 1 Try.underlying47 infoU8 rfl (by decide) v ps.length (ps.map bV) hs hown xv bs.length (bs.map bV) hx hrd (bV_one _) (by unfold maxLen; omega) (by omega) hbase ?_
  intro ao cap w' hg
  have := h ao cap w'
  rw [List.length_append, List.map_append] at this
  exact this hg

theorem bits8_drop : ∀ (k : Nat) (bs : List UInt8), (bits8 bs).drop (8 * k) = bits8 (bs.drop k)
  | 0, bs => rfl
  | k + 1, [] => by simp
  | k + 1, b :: r => by
    rw [bits8_cons, List.drop_succ_cons, ← bits8_drop k r]
    have e : 8 * (k + 1) = (bitsOf b.toNat 8).length + 8 * k := by simp; omega
    rw [e, List.drop_length_add_append]
theorem bits8_take : ∀ (k : Nat) (bs : List UInt8), (bits8 bs).take (8 * k) = bits8 (bs.take k)
  | 0, bs => rfl
  | k + 1, [] => by simp
  | k + 1, b :: r => by
    rw [bits8_cons, List.take_succ_cons, bits8_cons, ← bits8_take k r]
    have e : 8 * (k + 1) = (bitsOf b.toNat 8).length + 8 * k := by simp; omega
    rw [e, List.take_length_add_append]

/-- The number of the first n bytes, the highest first. -/
def rdN (n : Nat) (bs : List UInt8) : Nat := num (bits8 (bs.take n))
theorem rdN_zero (bs : List UInt8) : rdN 0 bs = 0 := rfl
theorem rdN_next (n : Nat) (bs : List UInt8) (h : n < bs.length) : rdN (n + 1) bs = rdN n bs * 256 + (bs[n]).toNat := by
  unfold rdN
  rw [List.take_succ_eq_append_getElem h, bits8_append, num_append]
  have e : bits8 [bs[n]] = bitsOf bs[n].toNat 8 := by rw [bits8_cons]; simp
  have hx := bs[n].toNat_lt
  rw [e, num_bitsOf, length_bitsOf]
  omega
theorem rdN_lt (n : Nat) (bs : List UInt8) : rdN n bs < 2 ^ (8 * n) := by
  unfold rdN
  refine Nat.lt_of_lt_of_le (num_lt _) (Nat.pow_le_pow_right (by omega) ?_)
  simp
  omega

theorem be8_bits (v : Nat) : bits8 (be8 v) = bitsOf v 64 := by
  unfold be8
  rw [bits8_pack8]
  simp

theorem rd_be8 (v : Nat) (hv : v < 18446744073709551616) (r : List UInt8) : rdN 8 (be8 v ++ r) = v := by
  unfold rdN
  rw [show (8 : Nat) = (be8 v).length by rw [be8_len], List.take_left, be8_bits, num_bitsOf]
  exact Nat.mod_eq_of_lt hv

def beN (n v : Nat) : List UInt8 := pack8 (bitsOf v (8 * n))
theorem beN_len (n v : Nat) : (beN n v).length = n := by simp [beN, length_pack8]; omega
theorem beN_8 (v : Nat) : beN 8 v = be8 v := rfl


theorem beN_two (v : Nat) : beN 2 v = [UInt8.ofNat (v / 256), UInt8.ofNat v] := by
  unfold beN
  rw [show 8 * 2 = 8 + 8 by rfl, bitsOf_split, pack8_append _ _ (by simp), pack8_one _ (by intro h; have := congrArg List.length h; simp at this) (by simp), pack8_one _ (by intro h; have := congrArg List.length h; simp at this) (by simp), num_bitsOf, num_bitsOf]
  simp only [length_bitsOf, Nat.sub_self, Nat.pow_zero, Nat.mul_one]
  have e : ∀ x : Nat, UInt8.ofNat (x % 2 ^ 8) = UInt8.ofNat x := fun x => by
    apply UInt8.toNat_inj.1
    simp
  rw [e, e]
  rfl

set_option maxHeartbeats 400000 in
theorem two_any (n : Nat) (hn : n < 65536) (w : World) :
    Calls Try.prog 27 #[.int .i64 (n : Int)] w fun e w' => ∃ ao cap, e = .returned (.slice ao (beN 2 n).length cap) ∧ Own w' w.heap.size (.slice ao (beN 2 n).length cap) (beN 2 n) ∧ Below w.heap.size w w' := by
  have e1 : ((UInt8.ofNat (n / 256)).toNat : Int) = (n : Int) / 256 := by rw [UInt8.toNat_ofNat']; omega
  have e2 : ((UInt8.ofNat n).toNat : Int) = (n : Int) % 256 := by rw [UInt8.toNat_ofNat']; omega
  have HE1 := Lib.hid e1
  have HE2 := Lib.hid e2
  clear e1 e2
  go_enter Try.func27, Try.ntmps27
  go_wp2_with fail
  go_ret
  refine ⟨some ⟨w.heap.size, 0, none⟩, 2, by rw [beN_len]; rfl, ?_, (Below.refl w.heap.size w).alloc (Nat.le_refl _) _⟩
  rw [beN_two]
  unfold Own
  simp only [List.map_cons, List.map_nil, bV, HE1.out, HE2.out]
  exact World.ownsRow_lit w _ 2 (Nat.le_refl _) (by decide) rfl
end Go.Proofs.Ytmhmmnleijadnaa
