/- Reader.Get in whatever state; numbers of whole bytes. -/
import Derived.Test.YtmhmmnleijadnaaReader
import Derived.Test.YtmhmmnleijadnaaBytes
namespace Go.Proofs.Ytmhmmnleijadnaa
open Go.RowKit
set_option linter.unusedVariables false

/-- What Get gives, whatever the reader's state. -/
def gV (bs : List UInt8) (pos : Nat) (bad : Bool) (N : Nat) : Nat := if bad = true then 0 else if N ≤ 8 * bs.length - pos then num (((bits8 bs).drop pos).take N) else 0
def gP (bs : List UInt8) (pos : Nat) (bad : Bool) (N : Nat) : Nat := if bad = true then pos else if N ≤ 8 * bs.length - pos then pos + N else pos
def gB (bs : List UInt8) (pos : Nat) (bad : Bool) (N : Nat) : Bool := if bad = true then true else !decide (N ≤ 8 * bs.length - pos)

theorem get_all (blk lo hi pos : Nat) (bs : List UInt8) (bad : Bool) (N : Nat) (h1 : 1 ≤ N) (h64 : N ≤ 64) (w : World) (hr : Rdr w blk lo hi bs pos bad) :
    Calls Try.prog 33 #[.pointer (some ⟨blk, 0, none⟩), .int .i64 (N : Int)] w fun e w' => e = .returned (.int .u64 ((gV bs pos bad N : Nat) : Int)) ∧ Rdr w' blk lo hi bs (gP bs pos bad N) (gB bs pos bad N) ∧ Chg (fun k => k = blk) w w' := by
  cases bad with
  | true =>
    refine (getBad_any blk lo hi pos bs (N : Int) w hr).mono ?_
    rintro e w' ⟨rfl, rfl⟩
    exact ⟨rfl, hr, Chg.refl _ _⟩
  | false =>
    by_cases hN : N ≤ 8 * bs.length - pos
    · refine (getSome_any blk lo hi pos bs N h1 h64 hN w hr).mono ?_
      rintro e w' ⟨rfl, h2, h3⟩
      have e1 : gV bs pos false N = num (((bits8 bs).drop pos).take N) := by simp [gV, hN]
      have e2 : gP bs pos false N = pos + N := by simp [gP, hN]
      have e3 : gB bs pos false N = false := by simp [gB, hN]
      rw [e1, e2, e3]
      exact ⟨rfl, h2, h3⟩
    · refine (getFew_any blk lo hi pos bs (N : Int) (by omega) (by omega) (by omega) w hr).mono ?_
      rintro e w' ⟨rfl, h2, h3⟩
      have e1 : gV bs pos false N = 0 := by simp [gV, hN]
      have e2 : gP bs pos false N = pos := by simp [gP, hN]
      have e3 : gB bs pos false N = true := by simp [gB, hN]
      rw [e1, e2, e3]
      exact ⟨rfl, h2, h3⟩

theorem gV_lt (bs : List UInt8) (pos : Nat) (bad : Bool) (N : Nat) (h : N ≤ 64) : gV bs pos bad N < 18446744073709551616 := by
  unfold gV
  split
  · decide
  · split
    · refine Nat.lt_of_lt_of_le (num_lt _) (Nat.le_trans (Nat.pow_le_pow_right (by omega) (show _ ≤ 64 by simp; omega)) (Nat.le_refl _))
    · decide

/-- Whole bytes. -/
theorem gV_bytes (bs : List UInt8) (k n : Nat) (h : k + n ≤ bs.length) : gV bs (8 * k) false (8 * n) = rdN n (bs.drop k) ∧ gP bs (8 * k) false (8 * n) = 8 * (k + n) ∧ gB bs (8 * k) false (8 * n) = false := by
  have hN : 8 * n ≤ 8 * bs.length - 8 * k := by omega
  refine ⟨?_, ?_, ?_⟩
  · unfold gV rdN
    rw [if_neg (by simp), if_pos hN, bits8_drop, bits8_take]
  · unfold gP
    rw [if_neg (by simp), if_pos hN]
    omega
  · unfold gB
    rw [if_neg (by simp)]
    simpa using hN
end Go.Proofs.Ytmhmmnleijadnaa
