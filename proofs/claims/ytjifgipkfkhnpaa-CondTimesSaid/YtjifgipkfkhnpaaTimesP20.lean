/- CondTimes, plain. -/
import Derived.Test.YtjifgipkfkhnpaaAlike20
namespace Go.Proofs.Ytjifgipkfkhnpaa
open Go.RowKit Go.ChangeShapes Go.WideShapes Go.ChangeAt
set_option linter.unusedVariables false

def sixS : List ByteArray := [{ data := #[61] }, { data := #[33, 61] }, { data := #[60] }, { data := #[60, 61] }, { data := #[62] }, { data := #[62, 61] }]
def sixB (t n : Int) : List Bool := [t == n, t != n, decide (t < n), decide (t ≤ n), decide (n < t), decide (n ≤ t)]
def sgAt (k : Nat) : ByteArray := sixS.getD k { data := #[] }
def hAt (t n : Int) (k : Nat) : Bool := (sixB t n).getD k false
theorem sg0 : (sgAt 0).toList = [61] := by decide +kernel
theorem sg1 : (sgAt 1).toList = [33, 61] := by decide +kernel
theorem sg2 : (sgAt 2).toList = [60] := by decide +kernel
theorem sg3 : (sgAt 3).toList = [60, 61] := by decide +kernel
theorem sg4 : (sgAt 4).toList = [62] := by decide +kernel
theorem sg5 : (sgAt 5).toList = [62, 61] := by decide +kernel
def oneF (k b : Nat) : Fo := .cons ⟨4, { data := #[] }, sgAt k, 2, b, { data := #[] }⟩ .nil .nil

theorem six_cases {k : Nat} (h : k < 6) : k = 0 ∨ k = 1 ∨ k = 2 ∨ k = 3 ∨ k = 4 ∨ k = 5 := by omega

theorem hl_times (E : Env) (k b : Nat) (n : Int) (hk : k < 6) (hb : wrap64 (b : Int) = n) : hl E true (oneF k b) = hAt E.time n k := by
  have q : hl E true (oneF k b) = (sgn (sgAt k) (cmpI E.time (wrap64 (b : Int))) && true) := rfl
  rw [q, hb, Bool.and_true]
  generalize E.time = t
  have c : (t < n ∧ cmpI t n = -1) ∨ (n < t ∧ cmpI t n = 1) ∨ (t = n ∧ cmpI t n = 0) := by
    unfold cmpI
    by_cases h1 : t < n
    · exact Or.inl ⟨h1, if_pos h1⟩
    · by_cases h2 : n < t
      · exact Or.inr (Or.inl ⟨h2, by rw [if_neg h1, if_pos h2]⟩)
      · exact Or.inr (Or.inr ⟨by omega, by rw [if_neg h1, if_neg h2]⟩)
  rcases six_cases hk with rfl | rfl | rfl | rfl | rfl | rfl
  · unfold sgn; rw [sg0]
    show (cmpI t n == 0) = (t == n)
    rcases c with ⟨h, e⟩ | ⟨h, e⟩ | ⟨h, e⟩ <;> rw [e]
    · rw [beq_eq_false_iff_ne.mpr (by omega : t ≠ n)]; rfl
    · rw [beq_eq_false_iff_ne.mpr (by omega : t ≠ n)]; rfl
    · rw [beq_iff_eq.mpr h]; rfl
  · unfold sgn; rw [sg1]
    show (cmpI t n != 0) = (t != n)
    rcases c with ⟨h, e⟩ | ⟨h, e⟩ | ⟨h, e⟩ <;> rw [e]
    · rw [bne_iff_ne.mpr (by omega : t ≠ n)]; rfl
    · rw [bne_iff_ne.mpr (by omega : t ≠ n)]; rfl
    · rw [h]; simp
  · unfold sgn; rw [sg2]
    show decide (cmpI t n < 0) = decide (t < n)
    rcases c with ⟨h, e⟩ | ⟨h, e⟩ | ⟨h, e⟩ <;> rw [e] <;> exact decide_eq_decide.mpr (by omega)
  · unfold sgn; rw [sg3]
    show decide (cmpI t n ≤ 0) = decide (t ≤ n)
    rcases c with ⟨h, e⟩ | ⟨h, e⟩ | ⟨h, e⟩ <;> rw [e] <;> exact decide_eq_decide.mpr (by omega)
  · unfold sgn; rw [sg4]
    show decide (0 < cmpI t n) = decide (n < t)
    rcases c with ⟨h, e⟩ | ⟨h, e⟩ | ⟨h, e⟩ <;> rw [e] <;> exact decide_eq_decide.mpr (by omega)
  · unfold sgn; rw [sg5]
    show decide (0 ≤ cmpI t n) = decide (n ≤ t)
    rcases c with ⟨h, e⟩ | ⟨h, e⟩ | ⟨h, e⟩ <;> rw [e] <;> exact decide_eq_decide.mpr (by omega)

/-- The range a single test of the time has. -/
def rgT (k b : Nat) : Int × Int := rg (sp true (oneF k b) (-9223372036854775808) 9223372036854775807)

theorem rg_times (k b : Nat) (n t : Int) (hk : k < 6) (h1 : k ≠ 1) (hb : wrap64 (b : Int) = n) (hn1 : -9223372036854775808 ≤ n) (hn2 : n ≤ 9223372036854775807) (ht1 : -9223372036854775808 ≤ t) (ht2 : t ≤ 9223372036854775807) :
    hAt t n k = (decide ((rgT k b).1 ≤ t) && decide (t ≤ (rgT k b).2)) := by
  have q : rgT k b = rg (max (-9223372036854775808) (spLeaf (sgAt k) (wrap64 (b : Int))).1, min 9223372036854775807 (spLeaf (sgAt k) (wrap64 (b : Int))).2) := rfl
  rw [q, hb, Bool.eq_iff_iff, Bool.and_eq_true, decide_eq_true_eq, decide_eq_true_eq]
  unfold rg
  rcases six_cases hk with rfl | rfl | rfl | rfl | rfl | rfl
  · show (t == n) = true ↔ _
    have e : spLeaf (sgAt 0) n = (n, n) := by unfold spLeaf; rw [sg0]; rfl
    rw [e, beq_iff_eq]
    dsimp only
    split <;> dsimp only <;> omega
  · exact absurd rfl h1
  · show decide (t < n) = true ↔ _
    have e : spLeaf (sgAt 2) n = (if n = -9223372036854775808 then (1, 0) else (-9223372036854775808, n - 1)) := by unfold spLeaf; rw [sg2]; rfl
    rw [e, decide_eq_true_eq]
    split <;> dsimp only <;> split <;> dsimp only <;> omega
  · show decide (t ≤ n) = true ↔ _
    have e : spLeaf (sgAt 3) n = (-9223372036854775808, n) := by unfold spLeaf; rw [sg3]; rfl
    rw [e, decide_eq_true_eq]
    dsimp only
    split <;> dsimp only <;> omega
  · show decide (n < t) = true ↔ _
    have e : spLeaf (sgAt 4) n = (if n = 9223372036854775807 then (1, 0) else (n + 1, 9223372036854775807)) := by unfold spLeaf; rw [sg4]; rfl
    rw [e, decide_eq_true_eq]
    split <;> dsimp only <;> split <;> dsimp only <;> omega
  · show decide (n ≤ t) = true ↔ _
    have e : spLeaf (sgAt 5) n = (n, 9223372036854775807) := by unfold spLeaf; rw [sg5]; rfl
    rw [e, decide_eq_true_eq]
    dsimp only
    split <;> dsimp only <;> omega
/-- The number of a time, as a float's and an integer's bits are kept. -/
theorem u64_back (n : Int) (h1 : -9223372036854775808 ≤ n) (h2 : n ≤ 9223372036854775807) : ∃ b : Nat, IntKind.u64.wrap n = (b : Int) ∧ wrap64 (b : Int) = n := by
  refine ⟨(n % 18446744073709551616).toNat, ?_, ?_⟩
  · simp [IntKind.wrap, IntKind.signed, IntKind.bits]
    omega
  · unfold wrap64
    omega
theorem times_lit (w : World) (s : ByteArray) (b : Nat) :
    RdF (w.alloc (.cells #[.int .i64 4, .string { data := #[] }, .string s, .int .i64 2, .int .u64 (b : Int), .string { data := #[] }, .slice none 0 0] 45)) (.slice (some ⟨w.heap.size, 0, none⟩) 1 1) (.cons ⟨4, { data := #[] }, s, 2, b, { data := #[] }⟩ .nil .nil) :=
  ⟨[(⟨4, { data := #[] }, s, 2, b, { data := #[] }⟩, .slice none 0 0)], RdV.lit w _ _ 1 7 (by decide) rfl, .slice none 0 0, [], [], rfl, RdV.nil _ _, rfl, rfl⟩
theorem times_lit2 (w : World) (o : Obj) (s : ByteArray) (b : Nat) :
    RdF ((w.alloc o).alloc (.cells #[.int .i64 4, .string { data := #[] }, .string s, .int .i64 2, .int .u64 (b : Int), .string { data := #[] }, .slice none 0 0] 45)) (.slice (some ⟨w.heap.size + 1, 0, none⟩) 1 1) (.cons ⟨4, { data := #[] }, s, 2, b, { data := #[] }⟩ .nil .nil) := by
  have e : (w.alloc o).heap.size = w.heap.size + 1 := by simp
  rw [← e]
  exact times_lit _ s b
end Go.Proofs.Ytjifgipkfkhnpaa
