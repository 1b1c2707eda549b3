/- 64-bit wraps in plain words; lists by index. -/
import Derived.Test.YtmhmmnleijadnaaMem
namespace Go.Proofs.Ytmhmmnleijadnaa
open Go.RowKit
set_option linter.unusedVariables false

def i64ok (t : Int) : Prop := -9223372036854775808 ≤ t ∧ t ≤ 9223372036854775807
def uT (t : Int) : Nat := (t % 18446744073709551616).toNat
theorem uT_lt (t : Int) : uT t < 18446744073709551616 := by unfold uT; omega
theorem uT_cast (t : Int) : ((uT t : Nat) : Int) = t % 18446744073709551616 := by unfold uT; omega
theorem u64_wrap (t : Int) : IntKind.u64.wrap t = ((uT t : Nat) : Int) := by
  rw [uT_cast]; simp [IntKind.wrap, IntKind.signed, IntKind.bits]
theorem uT_small (n : Nat) (h : n < 18446744073709551616) : uT (n : Int) = n := by unfold uT; omega
theorem uT_sub (a b : Int) : uT ((uT a : Int) - (uT b : Int)) = uT (a - b) := by
  have := uT_cast a; have := uT_cast b
  unfold uT at *; omega
theorem uT_add (a b : Int) : uT ((uT a : Int) + (uT b : Int)) = uT (a + b) := by
  have := uT_cast a; have := uT_cast b
  unfold uT at *; omega
/-- A 64-bit number as one with a sign. -/
def sI (n : Int) : Int := (n + 9223372036854775808) % 18446744073709551616 - 9223372036854775808
theorem sI_ok (n : Int) : i64ok (sI n) := by unfold i64ok sI; omega
theorem i64_wrap (t : Int) : IntKind.i64.wrap t = sI t := by
  have h : IntKind.i64.wrap t = wrap64 t := IntWalk.i64_left t
  unfold sI
  rw [h]
  unfold wrap64
  omega
theorem sI_uT (t : Int) (h : i64ok t) : sI ((uT t : Nat) : Int) = t := by
  have := uT_cast t
  unfold sI i64ok at *; omega
theorem uT_sI (t : Int) : uT (sI t) = uT t := by unfold uT sI; omega

def upto {α : Type} (f : Nat → α) (n : Nat) : List α := (List.range n).map f
theorem upto_zero {α : Type} (f : Nat → α) : upto f 0 = [] := rfl
theorem upto_next {α : Type} (f : Nat → α) (n : Nat) : upto f (n + 1) = upto f n ++ [f n] := by unfold upto; rw [List.range_succ, List.map_append]; rfl
theorem upto_len {α : Type} (f : Nat → α) (n : Nat) : (upto f n).length = n := by simp [upto]
theorem upto_getD (f : Nat → Nat) (n i : Nat) (h : i < n) : (upto f n).getD i 0 = f i := by simp [upto, h]
end Go.Proofs.Ytmhmmnleijadnaa
