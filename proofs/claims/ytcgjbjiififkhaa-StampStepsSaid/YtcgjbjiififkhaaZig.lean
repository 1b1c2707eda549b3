/- The contracts of bits.Zig, bits.Zag and of the references' Zig, Zag: they only compute. -/
import Derived.Test.YtcgjbjiififkhaaRows
import Derived.WalkKit
import Derived.WalkSpells
import Derived.WalkLawsBesides
namespace Go.Proofs.Ytcgjbjiififkhaa
open Go.RowKit

/-- An int64 of a number without a sign, and back. -/
def zigN (n : Int) : Nat := if n < 0 then (-2 * n - 1).toNat else (2 * n).toNat
def zagZ (m : Nat) : Int := if m % 2 = 1 then -((m / 2 : Nat) : Int) - 1 else ((m / 2 : Nat) : Int)

theorem zigN_lt (n : Int) (hn : -9223372036854775808 ≤ n ∧ n ≤ 9223372036854775807) : zigN n < 18446744073709551616 := by
  unfold zigN; split <;> omega
theorem zagZ_bd (m : Nat) (hm : m < 18446744073709551616) : -9223372036854775808 ≤ zagZ m ∧ zagZ m ≤ 9223372036854775807 := by
  unfold zagZ; split <;> omega
theorem zag_zig (n : Int) : zagZ (zigN n) = n := by
  unfold zagZ zigN; split <;> split <;> omega
theorem zig_zag (m : Nat) : zigN (zagZ m) = m := by
  unfold zagZ zigN; split <;> split <;> omega

theorem xor_ones (a : Nat) (ha : a < 18446744073709551616) : a ^^^ 18446744073709551615 = 18446744073709551615 - a := by
  have h : (BitVec.ofNat 64 a ^^^ BitVec.allOnes 64).toNat = (~~~ BitVec.ofNat 64 a).toNat := by rw [BitVec.xor_allOnes]
  simpa [BitVec.toNat_xor, BitVec.toNat_not, BitVec.toNat_allOnes, Nat.mod_eq_of_lt ha] using h

theorem u64_xor_ones (a : Nat) (ha : a < 18446744073709551616) : Go.bits .xor .u64 (a : Int) 18446744073709551615 = 18446744073709551615 - (a : Int) := by
  have h := u64_xor_nat a 18446744073709551615 ha (by omega)
  rw [xor_ones a ha] at h
  simpa [Int.ofNat_sub (show a ≤ 18446744073709551615 by omega)] using h

theorem u64_xor_zero (a : Nat) (ha : a < 18446744073709551616) : Go.bits .xor .u64 (a : Int) 0 = (a : Int) := by
  have h := u64_xor_nat a 0 ha (by omega)
  simpa using h

theorem zig_num (n : Int) (hn : -9223372036854775808 ≤ n ∧ n ≤ 9223372036854775807) :
    Go.bits .xor .u64 (IntKind.u64.wrap (IntKind.u64.wrap n * 2)) (IntKind.u64.wrap (n / 9223372036854775808)) = (zigN n : Int) := by
  by_cases h : n < 0
  · have e1 : IntKind.u64.wrap (n / 9223372036854775808) = 18446744073709551615 := by rw [IntKind.wrap_u64]; omega
    have e2 : IntKind.u64.wrap (IntKind.u64.wrap n * 2) = (((18446744073709551616 + 2 * n).toNat : Nat) : Int) := by rw [IntKind.wrap_u64, IntKind.wrap_u64]; omega
    rw [e1, e2, u64_xor_ones _ (by omega)]
    unfold zigN
    rw [if_pos h]
    omega
  · have e1 : IntKind.u64.wrap (n / 9223372036854775808) = 0 := by rw [IntKind.wrap_u64]; omega
    have e2 : IntKind.u64.wrap (IntKind.u64.wrap n * 2) = (((2 * n).toNat : Nat) : Int) := by rw [IntKind.wrap_u64, IntKind.wrap_u64]; omega
    rw [e1, e2, u64_xor_zero _ (by omega)]
    unfold zigN
    rw [if_neg h]

theorem i64_xor (k : Nat) (hk : k < 9223372036854775808) : Go.bits .xor .i64 (k : Int) 0 = (k : Int) ∧ Go.bits .xor .i64 (k : Int) (-1) = -(k : Int) - 1 := by
  constructor
  · simp only [Go.bits, IntKind.bits]
    have : (BitVec.ofInt 64 (k : Int) ^^^ BitVec.ofInt 64 0).toNat = k := by simp; omega
    exact (congrArg (fun x : Nat => IntKind.i64.wrap (x : Int)) this).trans (IntWalk.i64_in _ (by omega))
  · simp only [Go.bits, IntKind.bits]
    have e : BitVec.ofInt 64 (-1) = BitVec.allOnes 64 := by decide
    have : (BitVec.ofInt 64 (k : Int) ^^^ BitVec.ofInt 64 (-1)).toNat = 18446744073709551615 - k := by
      rw [e, BitVec.xor_allOnes, BitVec.toNat_not]
      simp
      omega
    refine (congrArg (fun x : Nat => IntKind.i64.wrap (x : Int)) this).trans ?_
    rw [IntKind.wrap_i64]
    omega

theorem zag_num (m : Nat) (hm : m < 18446744073709551616) :
    Go.bits .xor .i64 ((m : Int) / 2) (wrap64 (-wrap64 (Go.bits .and .u64 (m : Int) 1))) = zagZ m := by
  have e0 : Go.bits .and .u64 (m : Int) 1 = ((m % 2 : Nat) : Int) := by
    have h := u64_and_nat m 1 hm (by omega)
    rw [nat_mask1] at h
    exact h
  have e1 : ((m : Int) / 2) = ((m / 2 : Nat) : Int) := by omega
  obtain ⟨x0, x1⟩ := i64_xor (m / 2) (by omega)
  rw [e0, e1]
  unfold zagZ
  by_cases h : m % 2 = 1
  · have : wrap64 (-wrap64 ((m % 2 : Nat) : Int)) = -1 := by rw [h]; simp [wrap64]
    rw [this, x1, if_pos h]
  · have h0 : m % 2 = 0 := by omega
    have : wrap64 (-wrap64 ((m % 2 : Nat) : Int)) = 0 := by rw [h0]; simp [wrap64]
    rw [this, x0, if_neg h]

theorem rzig_num (n : Int) (hn : -9223372036854775808 ≤ n ∧ n ≤ 9223372036854775807) (h : n < 0) :
    IntKind.u64.wrap (IntKind.u64.wrap (Go.bits .xor .u64 IntKind.u64.max (IntKind.u64.wrap n) * 2) + 1) = (zigN n : Int) := by
  have e1 : IntKind.u64.wrap n = (((18446744073709551616 + n).toNat : Nat) : Int) := by rw [IntKind.wrap_u64]; omega
  have e2 : IntKind.u64.max = ((18446744073709551615 : Nat) : Int) := by decide
  rw [e1, e2, u64_xor_nat _ _ (by omega) (by omega), Nat.xor_comm, xor_ones _ (by omega)]
  unfold zigN
  rw [if_pos h, IntKind.wrap_u64, IntKind.wrap_u64]
  omega

theorem rzag_num (m : Nat) (hm : m < 18446744073709551616) (h : m % 2 = 1) : wrap64 (Go.bits .xor .u64 IntKind.u64.max ((m : Int) / 2)) = zagZ m := by
  have e1 : ((m : Int) / 2) = ((m / 2 : Nat) : Int) := by omega
  have e2 : IntKind.u64.max = ((18446744073709551615 : Nat) : Int) := by decide
  rw [e1, e2, u64_xor_nat _ _ (by omega) (by omega), Nat.xor_comm, xor_ones _ (by omega)]
  unfold zagZ wrap64
  rw [if_pos h]
  omega

theorem ret_int {k : IntKind} {a b : Int} (h : a = b) : Ending.returned (.int k a) = .returned (.int k b) := by rw [h]

set_option maxHeartbeats 400000 in
theorem zig_any (n : Int) (hn : -9223372036854775808 ≤ n ∧ n ≤ 9223372036854775807) (w : World) :
    Calls Try.prog 20 #[.int .i64 n] w fun e w' => e = .returned (.int .u64 (zigN n : Nat)) ∧ w = w' := by
  go_enter Try.func20, Try.ntmps20
  go_wp2
  go_ret
  exact ⟨ret_int (zig_num n hn), rfl⟩

set_option maxHeartbeats 400000 in
theorem zag_any (m : Nat) (hn : m < 18446744073709551616) (w : World) :
    Calls Try.prog 28 #[.int .u64 m] w fun e w' => e = .returned (.int .i64 (zagZ m)) ∧ w = w' := by
  go_enter Try.func28, Try.ntmps28
  go_wp2
  go_ret
  exact ⟨ret_int (zag_num m hn), rfl⟩

set_option maxHeartbeats 400000 in
theorem rzig_any (n : Int) (hn : -9223372036854775808 ≤ n ∧ n ≤ 9223372036854775807) (w : World) :
    Calls Try.prog 14 #[.int .i64 n] w fun e w' => e = .returned (.int .u64 (zigN n : Nat)) ∧ w = w' := by
  go_enter Try.func14, Try.ntmps14
  by_cases hneg : n < 0
  · go_wp2
    go_ret
    exact ⟨ret_int (rzig_num n hn hneg), rfl⟩
  · go_wp2
    go_ret
    exact ⟨ret_int (by unfold zigN; rw [if_neg (by omega)]; omega), rfl⟩

set_option maxHeartbeats 400000 in
theorem rzag_any (m : Nat) (hn : m < 18446744073709551616) (w : World) :
    Calls Try.prog 37 #[.int .u64 m] w fun e w' => e = .returned (.int .i64 (zagZ m)) ∧ w = w' := by
  by_cases hodd : m % 2 = 1
  · have hd : ((m : Int) % 2 == 1) = true := by simp; omega
    go_enter Try.func37, Try.ntmps37
    go_wp2
    go_ret
    exact ⟨ret_int (rzag_num m hn hodd), rfl⟩
  · have hd : ((m : Int) % 2 == 1) = false := by simp; omega
    go_enter Try.func37, Try.ntmps37
    go_wp2
    go_ret
    exact ⟨ret_int (by unfold zagZ; rw [if_neg hodd]; omega), rfl⟩

end Go.Proofs.Ytcgjbjiififkhaa
