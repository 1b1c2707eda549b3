/- cond: what a sign says of a comparing; comparings. -/
import Derived.Test.YtjifgipkfkhnpaaFew
import Derived.Laws.Externs
namespace Go.Proofs.Ytjifgipkfkhnpaa
open Go.RowKit
set_option linter.unusedVariables false

/-- Does a comparing fit to a sign? -/
def sgn (s : ByteArray) (c : Int) : Bool :=
  if s.toList == [61] then c == 0 else if s.toList == [33, 61] then c != 0 else if s.toList == [60] then decide (c < 0) else if s.toList == [60, 61] then decide (c ≤ 0) else if s.toList == [62] then decide (0 < c) else if s.toList == [62, 61] then decide (0 ≤ c) else false

set_option maxHeartbeats 1000000 in
theorem signed_any (s : ByteArray) (c : Int) (w : World) :
    Calls Try.prog 29 #[.string s, .int .i64 c] w fun e w' => e = .returned (.bool (sgn s c)) ∧ w' = w := by
  go_enter Try.func29, Try.ntmps29
  go_wp2_with fail
  all_goals (go_ret; refine ⟨?_, rfl⟩)
  all_goals (unfold sgn; simp only [*, Bool.false_eq_true, if_false, if_true]; rfl)

/-- Is it a sign? -/
def knw (s : ByteArray) : Bool := sgn s 0 || (sgn s 1 || sgn s (-1))
set_option maxHeartbeats 1000000 in
theorem known_any (s : ByteArray) (w : World) :
    Calls Try.prog 36 #[.string s] w fun e w' => e = .returned (.bool (knw s)) ∧ w' = w := by
  have hS := fun c (w : World) => signed_any s c w
  by_cases h0 : sgn s 0 = true
  · have e : knw s = true := by unfold knw; rw [h0]; rfl
    rw [e]
    clear e
    go_enter Try.func36, Try.ntmps36
    go_wp2_with (go_at_call 29; refine (hS _ _).mono ?_; rintro _ _ ⟨rfl, rfl⟩)
    go_ret
    exact ⟨rfl, rfl⟩
  · rw [Bool.not_eq_true] at h0
    by_cases h1 : sgn s 1 = true
    · have e : knw s = true := by unfold knw; rw [h0, h1]; rfl
      rw [e]
      clear e
      go_enter Try.func36, Try.ntmps36
      go_wp2_with (go_at_call 29; refine (hS _ _).mono ?_; rintro _ _ ⟨rfl, rfl⟩)
      go_ret
      exact ⟨rfl, rfl⟩
    · rw [Bool.not_eq_true] at h1
      have e : knw s = sgn s (-1) := by unfold knw; rw [h0, h1]; rfl
      rw [e]
      clear e
      go_enter Try.func36, Try.ntmps36
      go_wp2_with (go_at_call 29; refine (hS _ _).mono ?_; rintro _ _ ⟨rfl, rfl⟩)
      go_ret
      exact ⟨rfl, rfl⟩

/-- How two whole numbers compare. -/
def cmpI (a b : Int) : Int := if a < b then -1 else if b < a then 1 else 0
set_option maxHeartbeats 1000000 in
theorem cmpI_any (a b : Int) (w : World) :
    Calls Try.prog 30 #[.int .i64 a, .int .i64 b] w fun e w' => e = .returned (.int .i64 (cmpI a b)) ∧ w' = w := by
  have hn : ∀ x (w : World), Calls Try.prog 41 #[.int .i64 x] w fun e w' => e = .returned (.bool false) ∧ w' = w := by
    intro x w
    go_enter Try.func41, Try.ntmps41
    go_wp2_with fail
    go_ret
    exact ⟨by simp, rfl⟩
  go_enter Try.func30, Try.ntmps30
  go_wp2_with (go_at_call 41; refine (hn _ _).mono ?_; rintro _ _ ⟨rfl, rfl⟩)
  all_goals (go_ret; refine ⟨?_, rfl⟩)
  all_goals (unfold cmpI)
  all_goals first
    | (rw [if_pos (by assumption)]; rfl)
    | (rw [if_neg (by omega), if_pos (by omega)]; rfl)
    | (rw [if_neg (by omega), if_neg (by omega)]; rfl)
theorem cmpU_any (a b : Nat) (w : World) :
    Calls Try.prog 45 #[.int .u64 (a : Int), .int .u64 (b : Int)] w fun e w' => e = .returned (.int .i64 (cmpI a b)) ∧ w' = w := by
  have hn : ∀ x (w : World), Calls Try.prog 54 #[.int .u64 x] w fun e w' => e = .returned (.bool false) ∧ w' = w := by
    intro x w
    go_enter Try.func54, Try.ntmps54
    go_wp2_with fail
    go_ret
    exact ⟨by simp, rfl⟩
  go_enter Try.func45, Try.ntmps45
  go_wp2_with (go_at_call 54; refine (hn _ _).mono ?_; rintro _ _ ⟨rfl, rfl⟩)
  all_goals (go_ret; refine ⟨?_, rfl⟩)
  all_goals (unfold cmpI)
  all_goals first
    | (rw [if_pos (by omega)]; rfl)
    | (rw [if_neg (by omega), if_pos (by omega)]; rfl)
    | (rw [if_neg (by omega), if_neg (by omega)]; rfl)
/-- How two texts compare. -/
def cmpS (a b : ByteArray) : Int := if Op.bytesLess a.toList b.toList then -1 else if a.toList == b.toList then 0 else 1
theorem cmpS_any (a b : ByteArray) (w : World) :
    Calls Try.prog 44 #[.string a, .string b] w fun e w' => e = .returned (.int .i64 (cmpS a b)) ∧ w' = w := by
  have hn : ∀ x (w : World), Calls Try.prog 53 #[.string x] w fun e w' => e = .returned (.bool false) ∧ w' = w := by
    intro x w
    go_enter Try.func53, Try.ntmps53
    go_wp2_with fail
    go_ret
    exact ⟨by simp, rfl⟩
  go_enter Try.func44, Try.ntmps44
  go_wp2_with (go_at_call 53; refine (hn _ _).mono ?_; rintro _ _ ⟨rfl, rfl⟩)
  all_goals (go_ret; refine ⟨?_, rfl⟩)
  all_goals (unfold cmpS; simp_all)
/-- Is it no number? -/
def nanF (a : Nat) : Bool := FloatKind.f64.format.order a a != some Ordering.eq
/-- How two floats compare. -/
def cmpF (a b : Nat) : Int := if nanF a then (if nanF b then 0 else -1) else if nanF b then 1 else if FloatKind.f64.format.order a b == some .lt then -1 else if FloatKind.f64.format.order a b == some .gt then 1 else 0
theorem cmpF_any (a b : Nat) (w : World) :
    Calls Try.prog 47 #[.float .f64 a, .float .f64 b] w fun e w' => e = .returned (.int .i64 (cmpF a b)) ∧ w' = w := by
  have hn : ∀ x (w : World), Calls Try.prog 56 #[.float .f64 x] w fun e w' => e = .returned (.bool (nanF x)) ∧ w' = w := by
    intro x w
    go_enter Try.func56, Try.ntmps56
    go_wp2_with fail
    go_ret
    exact ⟨rfl, rfl⟩
  go_enter Try.func47, Try.ntmps47
  go_wp2_with (go_at_call 56; refine (hn _ _).mono ?_; rintro _ _ ⟨rfl, rfl⟩)
  all_goals (go_ret; refine ⟨?_, rfl⟩)
  all_goals (unfold cmpF; simp only [*, Bool.false_eq_true, if_false, if_true]; rfl)
theorem nan_any (a : Nat) (w : World) : Calls Try.prog 48 #[.float .f64 a] w fun e w' => e = .returned (.bool (nanF a)) ∧ w' = w := by
  go_enter Try.func48, Try.ntmps48
  go_wp2_with fail
  go_ret
  exact ⟨rfl, rfl⟩
theorem frombits_run (b : Nat) (w : World) : (callFunc 55 #[.int .u64 (b : Int)]).run Try.prog w = .ok (.value (.float .f64 b)) w := by
  rw [run_callFunc_extern Try.func55 (by kernel_rfl) (by kernel_rfl) (by kernel_rfl) (e := Extern.MathFloatBits.float64frombits) (by kernel_rfl)]
  rfl
def numF (k : Int) (b : Nat) : Nat := if k == 1 then b else if k == 2 then floatOfInt .f64 (wrap64 (b : Int)) else 0
def isF (k : Int) : Bool := (k == 1) || (k == 2)
theorem number_any (k : Int) (b : Nat) (t : ByteArray) (w : World) :
    Calls Try.prog 46 #[.agg #[.int .i64 k, .int .u64 (b : Int), .string t]] w fun e w' => e = .returned (.tuple #[.float .f64 (numF k b), .bool (isF k)]) ∧ Below w.heap.size w w' := by
  have hf := frombits_run
  go_enter Try.func46, Try.ntmps46
  go_wp2_with fail
  all_goals (go_ret2; refine ⟨?_, (Below.refl _ _).alloc (Nat.le_refl _) _⟩)
  all_goals (unfold numF isF; simp only [*, Bool.false_eq_true, if_false, if_true, Bool.true_or, Bool.or_true, Bool.or_false]; rfl)
end Go.Proofs.Ytjifgipkfkhnpaa
