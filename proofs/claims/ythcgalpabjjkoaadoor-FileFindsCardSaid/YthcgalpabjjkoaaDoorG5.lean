/- Texts of ours, behind one another: Float, FloPlain, ColPlain, Open, Tz07, High07, Form07, Vals07, Floats07, OwnV07, Ints07, Str07, Enc07. No conditions but those that each states. -/
import Derived.Test.YthcgalpabjjkoaaDoorG1
import Derived.Test.YthcgalpabjjkoaaDoorG2
import Derived.Test.YthcgalpabjjkoaaDoorG3
import Derived.Test.YthcgalpabjjkoaaDoorG4
import Derived.Test.YthcgalpabjjkoaaDoorRows
import Derived.Laws.FloatArith
import Derived.Lib.TrailingZeros
import Derived.ProofKit
import Derived.OpenShut
import Derived.SizedLaws
import Derived.Deep.Slices
import Derived.Laws.BitsAllLaws
import Derived.Laws.Externs
/- XFloat: Floats by their bits: which are finite; what '==', '<', '>' and '-' say of them. Nothing of the program is in sight here. -/
namespace Go.Proofs.YthcgalpabjjkoaaDoor
set_option linter.unusedVariables false

/-- The bits below the sign. -/
def rungB (b : Nat) : Nat := b % 9223372036854775808
/-- Neither a NaN nor an infinity. -/
def finB (b : Nat) : Bool := decide (rungB b < 9218868437227405312)

theorem dbl_sign : Ieee.double.signWeight = 9223372036854775808 := by decide +kernel
theorem dbl_inf : Ieee.double.infRung = 9218868437227405312 := by decide +kernel
theorem dbl_bin : Ieee.double.binade = 4503599627370496 := by decide +kernel
theorem dbl_least : Ieee.double.leastPlace = -1074 := by decide +kernel
theorem f64_format : FloatKind.f64.format = Ieee.double := rfl

/-- What finite bits stand for. -/
theorem read_fin {b : Nat} (h : finB b = true) : ∃ s m e, Ieee.double.read b = .number s m e ∧ m < 9007199254740992 ∧ e ≤ 971 := by
  have hr : rungB b < 9218868437227405312 := of_decide_eq_true h
  unfold Ieee.Format.read
  rw [dbl_sign, dbl_inf, dbl_bin, dbl_least]
  unfold rungB at hr
  dsimp only
  by_cases h1 : b % 9223372036854775808 < 4503599627370496
  · rw [if_pos h1]
    exact ⟨_, _, _, rfl, by omega, by omega⟩
  · rw [if_neg h1, if_pos hr]
    exact ⟨_, _, _, rfl, by omega, by omega⟩
theorem read_inf {b : Nat} (h : rungB b = 9218868437227405312) : ∃ s, Ieee.double.read b = .infinity s := by
  unfold Ieee.Format.read
  rw [dbl_sign, dbl_inf, dbl_bin, dbl_least]
  unfold rungB at h
  dsimp only
  rw [if_neg (by omega), if_neg (by omega), if_pos h]
  exact ⟨_, rfl⟩
theorem read_nan {b : Nat} (h : 9218868437227405312 < rungB b) : ∃ s t, Ieee.double.read b = .nan s t := by
  unfold Ieee.Format.read
  rw [dbl_sign, dbl_inf, dbl_bin, dbl_least]
  unfold rungB at h
  dsimp only
  rw [if_neg (by omega), if_neg (by omega), if_neg (by omega)]
  exact ⟨_, _, rfl⟩

def nanB (b : Nat) : Bool := decide (9218868437227405312 < rungB b)
theorem fin_nan {b : Nat} (h : finB b = true) : nanB b = false := by
  have hr : rungB b < 9218868437227405312 := of_decide_eq_true h
  exact decide_eq_false (by omega)

theorem compare_self (a : Int) : compare a a = .eq := Std.ReflOrd.compare_self

/-- 'f == f' is false of a NaN alone. -/
theorem order_self (b : Nat) : (Ieee.double.order b b == some .eq) = !nanB b := by
  unfold Ieee.Format.order
  by_cases h : finB b = true
  · obtain ⟨s, m, e, hr, _, _⟩ := read_fin h
    rw [hr, fin_nan h]
    simp [Ieee.Datum.order]
  · have hr : ¬ rungB b < 9218868437227405312 := fun h2 => h (decide_eq_true h2)
    by_cases h2 : rungB b = 9218868437227405312
    · obtain ⟨s, hs⟩ := read_inf h2
      rw [hs]
      have : nanB b = false := decide_eq_false (by omega)
      rw [this]
      cases s <;> simp [Ieee.Datum.order]
    · obtain ⟨s, t, hs⟩ := read_nan (b := b) (by omega)
      rw [hs]
      have : nanB b = true := decide_eq_true (by omega)
      rw [this]
      simp [Ieee.Datum.order]

theorem signed_le (s : Bool) (m k u : Nat) (hm : m ≤ k) : (Ieee.signed s m 0 : Int) ≤ Ieee.signed false k u := by
  unfold Ieee.signed
  have h1 : k ≤ k <<< u := by rw [Nat.shiftLeft_eq]; exact Nat.le_mul_of_pos_right _ (Nat.two_pow_pos _)
  rw [Nat.shiftLeft_zero]
  generalize k <<< u = z at *
  cases s <;> simp only [if_true, if_false, Bool.false_eq_true] <;> omega
theorem signed_ge (s : Bool) (m k u : Nat) (hm : m ≤ k) : (Ieee.signed true k u : Int) ≤ Ieee.signed s m 0 := by
  unfold Ieee.signed
  have h1 : k ≤ k <<< u := by rw [Nat.shiftLeft_eq]; exact Nat.le_mul_of_pos_right _ (Nat.two_pow_pos _)
  rw [Nat.shiftLeft_zero]
  generalize k <<< u = z at *
  cases s <;> simp only [if_true, if_false, Bool.false_eq_true] <;> omega

theorem read_max : Ieee.double.read 9218868437227405311 = .number false 9007199254740991 971 := by decide +kernel
theorem read_min : Ieee.double.read 18442240474082181119 = .number true 9007199254740991 971 := by decide +kernel

theorem compare_le {a b : Int} (h : a ≤ b) : (some (compare a b) == some Ordering.gt) = false := by
  rcases Int.lt_or_eq_of_le h with h | h
  · have : compare a b = .lt := by rw [Int.compare_eq_lt]; exact h
    rw [this]; rfl
  · subst h; rw [compare_self]; rfl
theorem compare_ge {a b : Int} (h : b ≤ a) : (some (compare a b) == some Ordering.lt) = false := by
  rcases Int.lt_or_eq_of_le h with h | h
  · have : compare a b = .gt := by rw [Int.compare_eq_gt]; exact h
    rw [this]; rfl
  · subst h; rw [compare_self]; rfl

/-- A finite float is not above the greatest, nor below the least. -/
theorem order_max {b : Nat} (h : finB b = true) : (Ieee.double.order b 9218868437227405311 == some .gt) = false := by
  obtain ⟨s, m, e, hr, hm, he⟩ := read_fin h
  unfold Ieee.Format.order
  rw [hr, read_max]
  simp only [Ieee.Datum.order]
  rw [show min e 971 = e by omega, show (e - e).toNat = 0 by omega]
  exact compare_le (signed_le _ _ _ _ (by omega))
theorem order_min {b : Nat} (h : finB b = true) : (Ieee.double.order b 18442240474082181119 == some .lt) = false := by
  obtain ⟨s, m, e, hr, hm, he⟩ := read_fin h
  unfold Ieee.Format.order
  rw [hr, read_min]
  simp only [Ieee.Datum.order]
  rw [show min e 971 = e by omega, show (e - e).toNat = 0 by omega]
  exact compare_ge (signed_ge _ _ _ _ (by omega))
/-- An infinity is one of the two. -/
theorem order_inf {b : Nat} (h : rungB b = 9218868437227405312) : ((Ieee.double.order b 9218868437227405311 == some .gt) || (Ieee.double.order b 18442240474082181119 == some .lt)) = true := by
  obtain ⟨s, hs⟩ := read_inf h
  unfold Ieee.Format.order
  rw [hs, read_max, read_min]
  cases s <;> simp [Ieee.Datum.order]

/-- 'f - f' of a finite float is nought; of an infinity it is a NaN. -/
theorem fsub_self {b : Nat} (h : finB b = true) : FloatKind.f64.format.sub b b = some 0 := by
  obtain ⟨s, m, e, hr, hm, he⟩ := read_fin h
  rw [f64_format]
  unfold Ieee.Format.sub
  rw [hr]
  simp only [Ieee.Datum.opposite, Ieee.Datum.sum]
  have ht : Ieee.signed s m (e - min e e).toNat + Ieee.signed (!s) m (e - min e e).toNat = 0 := by
    unfold Ieee.signed
    cases s <;> simp <;> omega
  rw [ht]
  have hs : (s && !s) = false := by cases s <;> rfl
  rw [hs]
  simp [Ieee.Format.write, Ieee.Format.nearest, Ieee.Format.word]
theorem sub_inf {b : Nat} (h : rungB b = 9218868437227405312) : FloatKind.f64.format.sub b b = none := by
  obtain ⟨s, hs⟩ := read_inf h
  rw [f64_format]
  unfold Ieee.Format.sub
  rw [hs]
  cases s <;> rfl
theorem order_zero : (Ieee.double.order 0 0 == some .eq) = true := by decide +kernel
/-- A NaN is equal to nothing. -/
theorem order_nan {b c : Nat} (h : nanB b = true) : Ieee.double.order b c = none := by
  obtain ⟨s, t, hs⟩ := read_nan (of_decide_eq_true h)
  unfold Ieee.Format.order
  rw [hs]
  rfl
end Go.Proofs.YthcgalpabjjkoaaDoor

/- XFloPlain: What a column of floats is, bit by bit, in plain words; that its bits are read in one way. -/
namespace Go.Proofs.YthcgalpabjjkoaaDoor
open Go.RowKit
set_option linter.unusedVariables false

theorem getD_get {α : Type} (l : List α) (i : Nat) (d : α) (h : i < l.length) : l.getD i d = l[i] := by rw [List.getD_eq_getElem?_getD, List.getElem?_eq_getElem h]; rfl
theorem gV_at {bs : List UInt8} {pre mid post : List Bool} (h : bits8 bs = pre ++ (mid ++ post)) : gV bs pre.length false mid.length = num mid ∧ gP bs pre.length false mid.length = pre.length + mid.length ∧ gB bs pre.length false mid.length = false := by
  have hl := congrArg List.length h
  rw [length_bits8, List.length_append, List.length_append] at hl
  have hN : mid.length ≤ 8 * bs.length - pre.length := by omega
  refine ⟨?_, ?_, ?_⟩
  · unfold gV
    rw [if_neg (by simp), if_pos hN, h, List.drop_left, List.take_left]
  · unfold gP
    rw [if_neg (by simp), if_pos hN]
  · unfold gB
    rw [if_neg (by simp)]
    simpa using hN

/-- How many highest, lowest bits are 0; how many lie between. -/
def hiZ (x : Nat) : Nat := 64 - bl x
def loZ (x : Nat) : Nat := Lib.ctz 64 x
def szZ (x : Nat) : Nat := 64 - hiZ x - loZ x
theorem zz_facts {x : Nat} (h0 : x ≠ 0) (h : x < 18446744073709551616) : hiZ x ≤ 63 ∧ loZ x ≤ 63 ∧ hiZ x + loZ x + szZ x = 64 ∧ 1 ≤ szZ x ∧ x / 2 ^ loZ x < 2 ^ szZ x ∧ x / 2 ^ loZ x * 2 ^ loZ x = x := by
  have hb : bl x ≤ 64 := (bl_le x 64).2 h
  have hb2 : x < 2 ^ bl x := (bl_le x (bl x)).1 (Nat.le_refl _)
  have hb3 : ¬ x < 2 ^ (bl x - 1) := by
    intro hc
    have := (bl_le x (bl x - 1)).2 hc
    have hz : bl x = 0 := by omega
    rw [hz] at hb2
    simp at hb2
    exact h0 hb2
  obtain ⟨m, hm, hk⟩ := Lib.ctzFrom_spec 64 x (by omega) h
  have e : loZ x = Lib.ctzFrom 64 x := by simp [loZ, Lib.ctz, h0]
  rw [← e] at hm hk
  have hdv : x / 2 ^ loZ x = 2 * m + 1 := Nat.div_eq_of_eq_mul_right (Nat.two_pow_pos _) hm
  have hlt : loZ x < bl x := by
    apply Nat.lt_of_not_le
    intro hc
    have h1 : 2 ^ bl x ≤ 2 ^ loZ x := Nat.pow_le_pow_right (by omega) hc
    have h2 : 2 ^ loZ x ≤ 2 ^ loZ x * (2 * m + 1) := Nat.le_mul_of_pos_right _ (by omega)
    omega
  have hpos : 1 ≤ bl x := by omega
  refine ⟨by unfold hiZ; omega, by omega, by unfold szZ hiZ; omega, by unfold szZ hiZ; omega, ?_, ?_⟩
  · rw [Nat.div_lt_iff_lt_mul (Nat.two_pow_pos _), ← Nat.pow_add]
    have : szZ x + loZ x = bl x := by unfold szZ hiZ; omega
    rw [this]
    exact hb2
  · rw [hdv, Nat.mul_comm]; exact hm.symm

/-- The bits of one step: x is the new value, exclusive-or the old one. -/
def fstep (x : Nat) : List Bool := if x = 0 then [false] else true :: (bitsOf (hiZ x) 6 ++ (bitsOf (szZ x - 1) 6 ++ bitsOf (x / 2 ^ loZ x) (szZ x)))
theorem fstep_zero : fstep 0 = [false] := rfl
theorem fstep_some {x : Nat} (h : x ≠ 0) : fstep x = [true] ++ (bitsOf (hiZ x) 6 ++ (bitsOf (szZ x - 1) 6 ++ bitsOf (x / 2 ^ loZ x) (szZ x))) := by unfold fstep; rw [if_neg h]; rfl
theorem fstep_len {x : Nat} (h : x < 18446744073709551616) : 1 ≤ (fstep x).length ∧ (fstep x).length ≤ 77 := by
  unfold fstep
  by_cases h0 : x = 0
  · rw [if_pos h0]; simp
  · rw [if_neg h0]
    have := zz_facts h0 h
    simp
    omega

def xAt (l : List Nat) (i : Nat) : Nat := l.getD (i + 1) 0 ^^^ l.getD i 0
def fbT (l : List Nat) (i : Nat) : List Bool := (upto (fun j => fstep (xAt l j)) i).flatten
theorem fbT_zero (l : List Nat) : fbT l 0 = [] := rfl
theorem fbT_next (l : List Nat) (i : Nat) : fbT l (i + 1) = fbT l i ++ fstep (xAt l i) := by
  unfold fbT
  rw [upto_next, List.flatten_append]
  simp
theorem xAt_lt {l : List Nat} (hl : ∀ x ∈ l, x < 18446744073709551616) (i : Nat) : xAt l i < 18446744073709551616 := by
  have key : ∀ j, l.getD j 0 < 2 ^ 64 := by
    intro j
    by_cases hj : j < l.length
    · rw [getD_get l j 0 hj]; exact hl _ (List.getElem_mem hj)
    · rw [List.getD_eq_getElem?_getD, List.getElem?_eq_none (by omega)]; simp
  exact Nat.xor_lt_two_pow (key _) (key _)
theorem fbT_len {l : List Nat} (hl : ∀ x ∈ l, x < 18446744073709551616) : ∀ i, i ≤ (fbT l i).length ∧ (fbT l i).length ≤ 77 * i
  | 0 => by simp [fbT_zero]
  | i + 1 => by
    have h1 := fbT_len hl i
    have h2 := fstep_len (xAt_lt hl i)
    rw [fbT_next, List.length_append]
    omega
/-- The part behind: up to step m, from step i on. -/
theorem fbT_split (l : List Nat) (i : Nat) : ∀ m, i ≤ m → ∃ r, fbT l m = fbT l i ++ r := by
  intro m
  induction m with
  | zero => intro h; exact ⟨[], by rw [show i = 0 by omega, List.append_nil]⟩
  | succ m ih =>
    intro h
    by_cases hm : i = m + 1
    · exact ⟨[], by rw [hm, List.append_nil]⟩
    · obtain ⟨r, hr⟩ := ih (by omega)
      exact ⟨r ++ fstep (xAt l m), by rw [fbT_next, hr, List.append_assoc]⟩

def encF (l : List Nat) : List UInt8 := pack8 (bitsOf (l.getD 0 0) 64 ++ fbT l (l.length - 1))
theorem encF_len {l : List Nat} (hl : ∀ x ∈ l, x < 18446744073709551616) : (encF l).length ≤ 8 + 10 * l.length := by
  have := (fbT_len hl (l.length - 1)).2
  unfold encF
  rw [length_pack8, List.length_append, length_bitsOf]
  omega
theorem encF_ref (l : List Nat) : encF l = be8 (l.getD 0 0) ++ pack8 (fbT l (l.length - 1)) := by
  unfold encF
  rw [pack8_append _ _ (by simp)]
  rfl
/-- The bits of floats' bytes. -/
theorem encF_bits (l : List Nat) : ∃ z, z.length < 8 ∧ bits8 (encF l) = bitsOf (l.getD 0 0) 64 ++ (fbT l (l.length - 1) ++ z) := by
  unfold encF
  refine ⟨_, ?_, by rw [bits8_pack8, List.append_assoc]⟩
  rw [List.length_replicate]
  omega
/-- Ahead of step i. -/
def fPos (l : List Nat) (i : Nat) : Nat := 64 + (fbT l i).length
theorem fPos_zero (l : List Nat) : fPos l 0 = 64 := rfl
theorem encF_at (l : List Nat) (i : Nat) (h : i + 1 < l.length) : ∃ post, bits8 (encF l) = (bitsOf (l.getD 0 0) 64 ++ fbT l i) ++ (fstep (xAt l i) ++ post) ∧ (bitsOf (l.getD 0 0) 64 ++ fbT l i).length = fPos l i := by
  obtain ⟨z, _, hz⟩ := encF_bits l
  obtain ⟨r, hr⟩ := fbT_split l (i + 1) (l.length - 1) (by omega)
  refine ⟨r ++ z, ?_, by simp [fPos]⟩
  rw [hz, hr, fbT_next]
  simp
theorem fPos_next (l : List Nat) (i : Nat) : fPos l (i + 1) = fPos l i + (fstep (xAt l i)).length := by unfold fPos; rw [fbT_next, List.length_append]; omega

/-- The first value. -/
theorem fl_first (l : List Nat) (hl : ∀ x ∈ l, x < 18446744073709551616) (h : 1 ≤ l.length) : gV (encF l) 0 false 64 = l.getD 0 0 ∧ gP (encF l) 0 false 64 = 64 ∧ gB (encF l) 0 false 64 = false := by
  obtain ⟨z, _, hz⟩ := encF_bits l
  have := gV_at (bs := encF l) (pre := []) (mid := bitsOf (l.getD 0 0) 64) (post := fbT l (l.length - 1) ++ z) (by rw [hz]; rfl)
  rw [length_bitsOf, List.length_nil, num_bitsOf, Nat.mod_eq_of_lt] at this
  · simpa using this
  · have h0 : l.getD 0 0 = l[0] := getD_get l 0 0 (by omega)
    rw [h0]
    exact hl _ (List.getElem_mem _)
/-- A step that changes nothing. -/
theorem fl_same (l : List Nat) (i : Nat) (h : i + 1 < l.length) (hx : xAt l i = 0) : gV (encF l) (fPos l i) false 1 = 0 ∧ gP (encF l) (fPos l i) false 1 = fPos l (i + 1) ∧ gB (encF l) (fPos l i) false 1 = false := by
  obtain ⟨post, h1, h2⟩ := encF_at l i h
  rw [hx, fstep_zero] at h1
  have := gV_at (mid := [false]) h1
  rw [h2] at this
  rw [fPos_next, hx, fstep_zero]
  exact this
/-- A step that changes bits: the mark, how many are 0, how many follow, which. -/
theorem fl_step (l : List Nat) (hl : ∀ x ∈ l, x < 18446744073709551616) (i : Nat) (h : i + 1 < l.length) (hx : xAt l i ≠ 0) :
    (gV (encF l) (fPos l i) false 1 = 1 ∧ gP (encF l) (fPos l i) false 1 = fPos l i + 1 ∧ gB (encF l) (fPos l i) false 1 = false) ∧
    (gV (encF l) (fPos l i + 1) false 6 = hiZ (xAt l i) ∧ gP (encF l) (fPos l i + 1) false 6 = fPos l i + 7 ∧ gB (encF l) (fPos l i + 1) false 6 = false) ∧
    (gV (encF l) (fPos l i + 7) false 6 = szZ (xAt l i) - 1 ∧ gP (encF l) (fPos l i + 7) false 6 = fPos l i + 13 ∧ gB (encF l) (fPos l i + 7) false 6 = false) ∧
    (gV (encF l) (fPos l i + 13) false (szZ (xAt l i)) = xAt l i / 2 ^ loZ (xAt l i) ∧ gP (encF l) (fPos l i + 13) false (szZ (xAt l i)) = fPos l (i + 1) ∧ gB (encF l) (fPos l i + 13) false (szZ (xAt l i)) = false) := by
  obtain ⟨post, h1, h2⟩ := encF_at l i h
  have hf := zz_facts hx (xAt_lt hl i)
  have hn := fPos_next l i
  rw [fstep_some hx] at h1 hn
  generalize xAt l i = x at *
  generalize bitsOf (l.getD 0 0) 64 ++ fbT l i = pre at *
  rw [← h2] at hn ⊢
  have a1 := gV_at (bs := encF l) (pre := pre) (mid := [true]) (post := bitsOf (hiZ x) 6 ++ (bitsOf (szZ x - 1) 6 ++ (bitsOf (x / 2 ^ loZ x) (szZ x) ++ post))) (by rw [h1]; simp)
  have a2 := gV_at (bs := encF l) (pre := pre ++ [true]) (mid := bitsOf (hiZ x) 6) (post := bitsOf (szZ x - 1) 6 ++ (bitsOf (x / 2 ^ loZ x) (szZ x) ++ post)) (by rw [h1]; simp)
  have a3 := gV_at (bs := encF l) (pre := pre ++ [true] ++ bitsOf (hiZ x) 6) (mid := bitsOf (szZ x - 1) 6) (post := bitsOf (x / 2 ^ loZ x) (szZ x) ++ post) (by rw [h1]; simp)
  have a4 := gV_at (bs := encF l) (pre := pre ++ [true] ++ bitsOf (hiZ x) 6 ++ bitsOf (szZ x - 1) 6) (mid := bitsOf (x / 2 ^ loZ x) (szZ x)) (post := post) (by rw [h1]; simp)
  simp only [List.length_append, length_bitsOf, List.length_cons, List.length_nil, num_bitsOf] at a1 a2 a3 a4 hn
  rw [show fPos l (i + 1) = pre.length + 13 + szZ x by rw [hn]; omega]
  have e1 : hiZ x % 2 ^ 6 = hiZ x := Nat.mod_eq_of_lt (by have := hf.1; omega)
  have e2 : (szZ x - 1) % 2 ^ 6 = szZ x - 1 := Nat.mod_eq_of_lt (by have := hf.2.2.1; omega)
  have e3 : x / 2 ^ loZ x % 2 ^ szZ x = x / 2 ^ loZ x := Nat.mod_eq_of_lt hf.2.2.2.2.1
  rw [e1] at a2
  rw [e2] at a3
  rw [e3] at a4
  simp only [Nat.zero_add, Nat.add_assoc, Nat.reduceAdd] at a1 a2 a3 a4 ⊢
  exact ⟨a1, a2, a3, a4⟩
/-- The value that comes of a step. -/
theorem x_back (a b : Nat) : a ^^^ (b ^^^ a) = b := by
  rw [Nat.xor_comm b a, ← Nat.xor_assoc, Nat.xor_self, Nat.zero_xor]
end Go.Proofs.YthcgalpabjjkoaaDoor

/- XColPlain: What a column's bytes are, in plain words. -/
namespace Go.Proofs.YthcgalpabjjkoaaDoor
open Go.RowKit
set_option linter.unusedVariables false

/-- A value. -/
structure Va where
  k : Int
  b : Nat
  t : ByteArray
def Va.cells (v : Va) : List Value := [.int .i64 v.k, .int .u64 (v.b : Int), .string v.t]
def Va.ok (v : Va) : Prop := i64ok v.k ∧ v.b < 18446744073709551616
def formV (v : Va) : Bool :=
  if v.k = 1 then decide (v.t.size = 0) && finB v.b
  else if v.k = 2 then decide (v.t.size = 0)
  else if v.k = 3 then decide (v.t.size = 0) && decide (v.b < 2)
  else if v.k = 4 then decide (v.b = 0) && decide (v.t.size ≤ 65536)
  else false
theorem formV_kind {v : Va} (h : formV v = true) : v.k = 1 ∨ v.k = 2 ∨ v.k = 3 ∨ v.k = 4 := by
  unfold formV at h
  by_cases h1 : v.k = 1
  · exact .inl h1
  · rw [if_neg h1] at h
    by_cases h2 : v.k = 2
    · exact .inr (.inl h2)
    · rw [if_neg h2] at h
      by_cases h3 : v.k = 3
      · exact .inr (.inr (.inl h3))
      · rw [if_neg h3] at h
        by_cases h4 : v.k = 4
        · exact .inr (.inr (.inr h4))
        · rw [if_neg h4] at h; cases h

theorem size0 {s : ByteArray} : s.size = 0 ↔ s = ⟨#[]⟩ := by
  constructor
  · intro h
    have h1 : s.data = #[] := Array.eq_empty_of_size_eq_zero h
    cases s
    simp at h1
    subst h1
    rfl
  · rintro rfl; rfl
theorem formV_1 {v : Va} (hk : v.k = 1) : formV v = (decide (v.t.size = 0) && finB v.b) := by unfold formV; rw [if_pos hk]
theorem formV_2 {v : Va} (hk : v.k = 2) : formV v = decide (v.t.size = 0) := by unfold formV; rw [if_neg (by omega), if_pos hk]
theorem formV_3 {v : Va} (hk : v.k = 3) : formV v = (decide (v.t.size = 0) && decide (v.b < 2)) := by unfold formV; rw [if_neg (by omega), if_neg (by omega), if_pos hk]
theorem formV_4 {v : Va} (hk : v.k = 4) : formV v = (decide (v.b = 0) && decide (v.t.size ≤ 65536)) := by unfold formV; rw [if_neg (by omega), if_neg (by omega), if_neg (by omega), if_pos hk]
theorem formV_no {v : Va} (h1 : v.k ≠ 1) (h2 : v.k ≠ 2) (h3 : v.k ≠ 3) (h4 : v.k ≠ 4) : formV v = false := by unfold formV; rw [if_neg h1, if_neg h2, if_neg h3, if_neg h4]

def bitsV (l : List Va) : List Nat := l.map Va.b
def textsV (l : List Va) : List ByteArray := l.map Va.t

/-- The steps of integers, without signs. -/
def zgAt (l : List Nat) (i : Nat) : Nat := zigN (sI ((l.getD i 0 : Int) - ((if i = 0 then 0 else l.getD (i - 1) 0 : Nat) : Int)))
def zgs (l : List Nat) (n : Nat) : List Nat := upto (zgAt l) n
theorem zgAt_lt (l : List Nat) (i : Nat) : zgAt l i < 18446744073709551616 := zigN_lt _ (sI_ok _)
def rawI (l : List Nat) : List UInt8 := l.flatMap be8
def encI (l : List Nat) : List UInt8 := match pkA (zgs l l.length) with
  | some p => 1 :: p
  | none => 0 :: rawI l
def encBo (l : List Nat) : List UInt8 := pack8 (l.flatMap fun b => bitsOf b 1)
/-- The texts, each with its length ahead. -/
def txt (l : List ByteArray) : List UInt8 := l.flatMap fun t => short t.size ++ t.toList
def encS4 (b : List UInt8) : List UInt8 := if (pk b 0 0).length < b.length then 1 :: pk b 0 0 else 0 :: b

def v0 : Va := ⟨0, 0, ⟨#[]⟩⟩
/-- What Encode gives, and its error's number. -/
def encC (l : List Va) : List UInt8 × Nat :=
  if l.length = 0 ∨ 1000 < l.length then ([], 1)
  else if l.all formV = false then ([], 1)
  else if (l.all fun v => decide (v.k = (l.getD 0 v0).k)) = false then ([], 5)
  else if (l.getD 0 v0).k = 1 then (encF (bitsV l), 0)
  else if (l.getD 0 v0).k = 2 then (encI (bitsV l), 0)
  else if (l.getD 0 v0).k = 3 then (encBo (bitsV l), 0)
  else if 4194304 < (txt (textsV l)).length then ([], 4)
  else (encS4 (txt (textsV l)), 0)
theorem encC_len {l : List Va} (h : l.length = 0 ∨ 1000 < l.length) : encC l = ([], 1) := by unfold encC; rw [if_pos h]
theorem encC_form {l : List Va} (h : l.all formV = false) : encC l = ([], 1) := by
  unfold encC
  by_cases h1 : l.length = 0 ∨ 1000 < l.length
  · rw [if_pos h1]
  · rw [if_neg h1, if_pos h]
theorem encC_type {l : List Va} (h1 : ¬ (l.length = 0 ∨ 1000 < l.length)) (h2 : l.all formV = true) (h : (l.all fun v => decide (v.k = (l.getD 0 v0).k)) = false) : encC l = ([], 5) := by
  unfold encC
  rw [if_neg h1, if_neg (by rw [h2]; simp), if_pos h]
theorem encC_ok {l : List Va} (h1 : ¬ (l.length = 0 ∨ 1000 < l.length)) (h2 : l.all formV = true) (h : (l.all fun v => decide (v.k = (l.getD 0 v0).k)) = true) :
    encC l = if (l.getD 0 v0).k = 1 then (encF (bitsV l), 0) else if (l.getD 0 v0).k = 2 then (encI (bitsV l), 0) else if (l.getD 0 v0).k = 3 then (encBo (bitsV l), 0) else if 4194304 < (txt (textsV l)).length then ([], 4) else (encS4 (txt (textsV l)), 0) := by
  unfold encC
  rw [if_neg h1, if_neg (by rw [h2]; simp), if_neg (by rw [h]; simp)]

theorem short_le (n : Nat) (h : n < 18446744073709551616) : (short n).length ≤ 10 := short_len n 10 (by omega) (by omega)
theorem txt_next (l : List ByteArray) (k : Nat) (h : k < l.length) : txt (l.take (k + 1)) = txt (l.take k) ++ (short l[k].size ++ l[k].toList) := by
  unfold txt
  rw [List.take_succ_eq_append_getElem h, List.flatMap_append]
  simp
theorem txt_le (l : List ByteArray) (hl : ∀ t ∈ l, t.size ≤ 65536) : (txt l).length ≤ 65546 * l.length := by
  unfold txt
  induction l with
  | nil => simp
  | cons t r ih =>
    have h1 := ih (fun x hx => hl x (by simp [hx]))
    have h2 := hl t (by simp)
    have h3 := short_le t.size (by omega)
    rw [List.flatMap_cons, List.length_append, List.length_append, toList_len, List.length_cons]
    omega

/-- What an Encode ends with. -/
def CeEnd (l : List Va) (w : World) (e : Ending) (w' : World) : Prop :=
  Below w.heap.size w w' ∧ ∃ ao cap, e = .returned (.tuple #[.slice ao (encC l).1.length cap, .int .i64 ((encC l).2 : Int)]) ∧ Own w' w.heap.size (.slice ao (encC l).1.length cap) (encC l).1

/-- These values, all of this kind, have these bytes. -/
def CdGood (k : Int) (n : Nat) (b : List UInt8) (l : List Va) : Prop := encC l = (b, 0) ∧ l.length = n ∧ (∀ v ∈ l, v.k = k) ∧ (∀ v ∈ l, v.ok)
end Go.Proofs.YthcgalpabjjkoaaDoor

/- XOpen: What an argument reads as, in our words: slices whose elements are flat; the bulk of what is read. -/
namespace Go.Proofs.YthcgalpabjjkoaaDoor
open Go.RowKit Go.ChangeShapes Go.WideShapes Go.ChangeAt
set_option maxRecDepth 20000

/-! ### The bulk -/
theorem bulk_one {H : Type} (d : DataW H) : 1 ≤ Rows.uptoBulk d := by
  cases d with
  | lit l => cases l <;> simp [Rows.uptoBulk]
  | nil => simp [Rows.uptoBulk]
  | ptr d => simp [Rows.uptoBulk]
  | slice elems spare => simp [Rows.uptoBulk]
  | agg parts => simp [Rows.uptoBulk]
  | iface t d => simp [Rows.uptoBulk]
  | map entries => simp [Rows.uptoBulk]
  | held h => simp [Rows.uptoBulk]

theorem bulk_all {H : Type} (l : List (DataW H)) (f : DataW H → Nat) (h : ∀ d ∈ l, f d ≤ Rows.uptoBulk d) : (l.map f).sum ≤ Rows.uptoBulkAll l := by
  induction l with
  | nil => simp [Rows.uptoBulkAll]
  | cons x r ih =>
    have h1 := h x (by simp)
    have h2 := ih (fun d hd => h d (by simp [hd]))
    simp only [List.map_cons, List.sum_cons, Rows.uptoBulkAll]
    omega

theorem bulk_small {H : Type} {l : List (DataW H)} (hk : Rows.uptoSmall H l = true) : Rows.uptoBulkAll l ≤ 1048576 := of_decide_eq_true hk

/-! ### Integers -/
theorem wf_u8 {n : Int} (h : (Lit.int .u8 n).wf = true) : 0 ≤ n ∧ n ≤ 255 := by simpa [Lit.wf, IntKind.min, IntKind.max, IntKind.signed, IntKind.bits] using h
theorem wf_u16' {n : Int} (h : (Lit.int .u16 n).wf = true) : 0 ≤ n ∧ n ≤ 65535 := by simpa [Lit.wf, IntKind.min, IntKind.max, IntKind.signed, IntKind.bits] using h
theorem wf_u64' {n : Int} (h : (Lit.int .u64 n).wf = true) : 0 ≤ n ∧ n ≤ 18446744073709551615 := by simpa [Lit.wf, IntKind.min, IntKind.max, IntKind.signed, IntKind.bits] using h
theorem wf_i64' {n : Int} (h : (Lit.int .i64 n).wf = true) : -9223372036854775808 ≤ n ∧ n ≤ 9223372036854775807 := by simpa [Lit.wf, IntKind.min, IntKind.max, IntKind.signed, IntKind.bits] using h

/-! ### A slice of flat elements -/
section
variable {H : Type} {enc : TypeId × Value → H} {P : Program} {W : World}

theorem list_choose {α : Type} {q : Nat → α → Prop} : ∀ (n : Nat), (∀ i, i < n → ∃ x, q i x) → ∃ l : List α, l.length = n ∧ ∀ i x, l[i]? = some x → q i x
  | 0, _ => ⟨[], rfl, fun i x h => by simp at h⟩
  | n + 1, h => by
    obtain ⟨l, hl, hq⟩ := list_choose n (fun i hi => h i (by omega))
    obtain ⟨x, hx⟩ := h n (by omega)
    refine ⟨l ++ [x], by simp [hl], fun i y hy => ?_⟩
    by_cases hi : i < n
    · rw [List.getElem?_append_left (by omega)] at hy
      exact hq i y hy
    · rw [List.getElem?_append_right (by omega)] at hy
      have : i - l.length = 0 := by
        cases hk : i - l.length with
        | zero => rfl
        | succ k => rw [hk] at hy; simp at hy
      rw [this] at hy
      simp at hy
      subst hy
      have : i = n := by omega
      subst this
      exact hx

theorem flat_get {α β : Type} (f : α → List β) (size : Nat) (hs : ∀ x, (f x).length = size) : ∀ (l : List α) (j : Nat) (u : β), (l.flatMap f)[j]? = some u → ∃ x, l[j / size]? = some x ∧ (f x)[j % size]? = some u
  | [], j, u, h => by simp at h
  | x :: r, j, u, h => by
    have hx := hs x
    rw [List.flatMap_cons] at h
    by_cases hj : j < size
    · rw [List.getElem?_append_left (by omega)] at h
      rw [Nat.div_eq_of_lt hj, Nat.mod_eq_of_lt hj]
      exact ⟨x, rfl, h⟩
    · rw [List.getElem?_append_right (by omega), hx] at h
      obtain ⟨y, hy, hu⟩ := flat_get f size hs r (j - size) u h
      have hp : 0 < size := by
        rcases Nat.eq_zero_or_pos size with h0 | h0
        · have := hs y; rw [h0] at this; rw [List.length_eq_zero_iff] at this; rw [this] at hu; simp at hu
        · exact h0
      have e1 : j / size = (j - size) / size + 1 := Nat.div_eq_sub_div hp (by omega)
      have e2 : j % size = (j - size) % size := (Nat.mod_eq_sub_mod (by omega))
      rw [e1, e2]
      exact ⟨y, by simpa using hy, hu⟩

theorem flat_len {α β : Type} (f : α → List β) (size : Nat) (hs : ∀ x, (f x).length = size) (l : List α) : (l.flatMap f).length = l.length * size := by
  induction l with
  | nil => simp
  | cons x r ih => rw [List.flatMap_cons, List.length_append, ih, hs, List.length_cons, Nat.add_mul]; omega

theorem flat_at {α β : Type} (f : α → List β) (size : Nat) (hs : ∀ x, (f x).length = size) : ∀ (l : List α) (i : Nat) (hi : i < l.length) (j : Nat) (hj : j < size), (l.flatMap f)[i * size + j]? = some ((f l[i])[j]'(by rw [hs]; exact hj))
  | x :: r, 0, hi, j, hj => by
    rw [List.flatMap_cons, List.getElem?_append_left (by rw [hs]; omega)]
    simp [hs, hj]
  | x :: r, i + 1, hi, j, hj => by
    have e : (i + 1) * size + j = size + (i * size + j) := by rw [Nat.add_mul]; omega
    rw [List.flatMap_cons, e, List.getElem?_append_right (by rw [hs]; omega), hs, Nat.add_sub_cancel_left]
    exact flat_at f size hs r i (by simpa using hi) j hj

/-- Each element, read by its own law 'helem' into an x, of weight 'wt x' (that its datum's bulk bears): the slice reads as the x's. -/
theorem open_flat {X : Type} (encX : X → List Value) (ok : X → Prop) (wt : X → Nat) {t e : TypeId} {size : Nat} (ht : P.underlying t = some (.slice e)) (hsz : P.cellsOf e = size) (hX : ∀ x, (encX x).length = size)
    (helem : ∀ n cs (y : DataW H × List MemPlace), DataW.trod enc P W 0 (fun _ => true) true n e cs = some y → ∃ x, cs = encX x ∧ ok x ∧ wt x ≤ Rows.uptoBulk y.1)
    {v : Value} {b0 : Nat} {d : DataW H} {ps : List MemPlace} (o : Value.okWide P W .any b0 t v) (h : DataW.Trod enc P W 0 (fun _ => true) true t v d ps) :
    ∃ xs : List X, RdV W size v xs.length (xs.flatMap encX) ∧ (∀ x ∈ xs, ok x) ∧ (xs.map wt).sum + 1 ≤ Rows.uptoBulk d ∧ ((v = .slice none 0 0 ∧ d = .nil ∧ xs = []) ∨ ∃ els sp, d = .slice els sp ∧ els.length = xs.length) := by
  obtain ⟨a0, len, cap, rfl⟩ := okWide_slice ht o
  obtain ⟨fuel, hf⟩ := h
  rcases Go.Deep.open_slice ht hf with ⟨hcs, hx⟩ | ⟨a, len', cap', m, n, D, Pl, hcs, _, hl, hm, hmm, hx, hel⟩
  · simp [Value.cells] at hcs
    obtain ⟨rfl, rfl, rfl⟩ := hcs
    simp only [Prod.mk.injEq] at hx
    obtain ⟨rfl, rfl⟩ := hx
    exact ⟨[], by simpa using RdV.nil W size, by simp, by simp [Rows.uptoBulk], .inl ⟨rfl, rfl, rfl⟩⟩
  · simp [Value.cells] at hcs
    obtain ⟨rfl, rfl, rfl⟩ := hcs
    simp only [if_true] at hmm
    simp only [Prod.mk.injEq] at hx
    obtain ⟨rfl, rfl⟩ := hx
    obtain ⟨xs, hxl, hxq⟩ := list_choose (q := fun i x => W.cells? 0 (a.add (i * P.cellsOf e)) (P.cellsOf e) = some (encX x) ∧ ok x ∧ wt x ≤ Rows.uptoBulk (D i)) len (fun i hi => by
      obtain ⟨cs', h1, h2⟩ := hel i (by omega)
      obtain ⟨x, rfl, h3, h4⟩ := helem _ _ _ h2
      exact ⟨x, h1, h3, h4⟩)
    refine ⟨xs, ⟨flat_len encX size hX xs, some a, cap, by rw [hxl], by omega, hm, (fun h => by cases h), fun a' ha j u hu => ?_⟩, ?_, ?_, .inr ⟨_, _, rfl, by simp [hxl]⟩⟩
    · cases ha
      obtain ⟨x, hxj, hxu⟩ := flat_get encX size hX xs j u hu
      obtain ⟨hc, _, _⟩ := hxq _ _ hxj
      rw [hsz] at hc
      obtain ⟨_, hlen, hcell⟩ := World.cells?_some hc
      have hlt : j % size < size := by have := (List.getElem?_eq_some_iff.1 hxu).1; rw [hX] at this; exact this
      have hc2 := hcell (j % size) hlt
      rw [hxu, Go.Deep.add_add] at hc2
      have e : j / size * size + j % size = j := by rw [Nat.mul_comm]; exact Nat.div_add_mod j size
      rw [e] at hc2
      have hb := World.block_lt_of_cell? W _ hc2
      obtain ⟨b, off, spot⟩ := a
      have hsp : spot = none := by
        have hx0 : 0 < xs.length := Nat.lt_of_le_of_lt (Nat.zero_le _) (List.getElem?_eq_some_iff.1 hxj).1
        obtain ⟨_, _, hcell0⟩ := World.cells?_some (hxq 0 (xs[0]'hx0) (List.getElem?_eq_getElem hx0)).1
        have h00 := hcell0 0 (by rw [hsz]; omega)
        simp only [Nat.zero_mul, Addr.add, if_true] at h00
        cases spot with
        | none => rfl
        | some sp =>
          exfalso
          have hne : (encX (xs[0]'hx0))[0]? ≠ none := by
            simp [hX]; omega
          rw [← h00] at hne
          apply hne
          simp only [World.cell?]
          split <;> simp
      subst hsp
      refine ⟨rfl, ?_, ?_⟩
      · simp only [Addr.add] at hb; split at hb <;> simpa using hb
      · rw [Addr.add_lit] at hc2; exact hc2
    · intro x hx
      obtain ⟨i, hi⟩ := List.getElem?_of_mem hx
      exact (hxq i x hi).2.1
    · simp only [Rows.uptoBulk]
      have h1 : ∀ (l : List X) (f : Nat → DataW H), (∀ i x, l[i]? = some x → wt x ≤ Rows.uptoBulk (f i)) → (l.map wt).sum ≤ Rows.uptoBulkAll ((List.range l.length).map f) := by
        intro l
        induction l with
        | nil => intro f _; simp
        | cons x r ih =>
          intro f hf
          have h0 := hf 0 x rfl
          have h2 := ih (fun i => f (i + 1)) (fun i y hy => hf (i + 1) y (by simpa using hy))
          rw [List.length_cons, List.range_succ_eq_map, List.map_cons, List.map_cons, List.sum_cons, List.map_map, Rows.uptoBulkAll]
          have : (List.map (f ∘ Nat.succ) (List.range r.length)) = (List.range r.length).map (fun i => f (i + 1)) := rfl
          rw [this]
          omega
      have h2 := h1 xs D (fun i x hi => (hxq i x hi).2.2)
      rw [hxl] at h2
      omega
end

/-! ### []byte -/
section
variable {H : Type} {enc : TypeId × Value → H} {W : World}

theorem u8_of {n : Int} (h : (Lit.int .u8 n).wf = true) : ∃ x : UInt8, n = (x.toNat : Int) := by
  have := wf_u8 h
  refine ⟨UInt8.ofNat n.toNat, ?_⟩
  simp
  omega

theorem open_bytes {v : Value} {b0 : Nat} {d : DataW H} {ps : List MemPlace} (o : Value.okWide Tryd.prog W .any b0 33 v) (h : DataW.Trod enc Tryd.prog W 0 (fun _ => true) true 33 v d ps) :
    ∃ bs : List UInt8, Rd W v bs ∧ bs.length + 1 ≤ Rows.uptoBulk d ∧ ((v = .slice none 0 0 ∧ d = .nil ∧ bs = []) ∨ ∃ els sp, d = .slice els sp ∧ els.length = bs.length) := by
  obtain ⟨xs, h1, _, h3, h4⟩ := open_flat (fun x : UInt8 => [bV x]) (fun _ => True) (fun _ => 1) Tryd.underlying33 (by kernel_rfl : Tryd.prog.cellsOf 5 = 1) (fun _ => rfl) (fun n cs y hy => by
    obtain ⟨m, rfl, rfl, hw⟩ := DataW.trod_int Tryd.underlying5 hy
    obtain ⟨x, rfl⟩ := u8_of hw
    exact ⟨x, rfl, trivial, by simp [Rows.uptoBulk]⟩) o h
  refine ⟨xs, ?_, ?_, h4⟩
  · unfold Rd
    have : ∀ l : List UInt8, l.flatMap (fun x : UInt8 => [bV x]) = l.map bV := fun l => by induction l <;> simp_all
    rw [← this]
    exact h1
  · have : ∀ l : List UInt8, (l.map fun _ => 1).sum = l.length := fun l => by induction l <;> simp_all <;> omega
    have := this xs
    omega

theorem sized_bytes {v : Value} {d : DataW H} {bs : List UInt8} (hsz : (DataW.weights Tryd.prog 33 d).all (· ≤ reachBytes) = true) (h : (v = .slice none 0 0 ∧ d = .nil ∧ bs = []) ∨ ∃ els sp, d = .slice els sp ∧ els.length = bs.length) : bs.length ≤ 140737488351232 := by
  rcases h with ⟨_, _, rfl⟩ | ⟨els, sp, rfl, hl⟩
  · simp
  · have hb : Tryd.prog.bytesOf 5 = 1 := by kernel_rfl
    have := List.all_eq_true.1 hsz ((els.length + sp.length) * Tryd.prog.bytesOf 5) (by simp [DataW.weights, Tryd.underlying33])
    rw [hb] at this
    simp [reachBytes] at this
    omega
end
end Go.Proofs.YthcgalpabjjkoaaDoor

/- XTz07: How many lowest, highest bits are 0: math/bits' functions and the reference's. -/
namespace Go.Proofs.YthcgalpabjjkoaaDoor
open Go.RowKit
set_option linter.unusedVariables false

/-- The table of math/bits, as it is laid. -/
def Tab (w : World) : Prop := ∀ k, k < 64 → w.cell? ⟨1, k, none⟩ = some (.int .u8 ((Lib.deBruijn64tab.getD k 0 : Nat) : Int))
theorem Tab.lt {w : World} (h : Tab w) : 1 < w.heap.size := World.block_lt_of_cell? w _ (h 0 (by omega))
theorem Tab.chg {w w' : World} {S : Nat → Prop} (h : Tab w) (hc : Chg S w w') (hS : ¬ S 1) : Tab w' := fun k hk => (hc.cell (p := ⟨1, k, none⟩) h.lt hS).trans (h k hk)
theorem Tab.below {w w' : World} (h : Tab w) (hb : Below w.heap.size w w') : Tab w' := h.chg (S := fun _ => False) (Chg.ofBelowAny hb) (fun h => h)

set_option maxHeartbeats 400000 in
theorem tz_any (x : Nat) (h0 : x ≠ 0) (hx : x < 18446744073709551616) (w : World) (ht : Tab w) :
    Calls Tryd.prog 78 #[.int .u64 (x : Int)] w fun e w' => e = .returned (.int .i64 (loZ x : Nat)) ∧ w' = w := by
  obtain ⟨hl1, hl2⟩ := Lib.lowest_bit 64 x h0 (show x < 2 ^ 64 from hx)
  obtain ⟨hd1, hd2⟩ := Lib.deBruijn64_at _ hl2
  have hz : Lib.ctz 64 x = loZ x := rfl
  rw [hz] at hl1 hl2 hd1 hd2
  obtain ⟨y, hy⟩ : ∃ y, y = 2 ^ 64 - x := ⟨_, rfl⟩
  rw [← hy] at hl1
  generalize loZ x = z at *
  have e1 : IntKind.u64.wrap (-(x : Int)) = (y : Int) := by rw [IntKind.wrap_u64]; omega
  have e2 : Go.bits .and .u64 (x : Int) (y : Int) = (2 : Int) ^ z := by
    rw [u64_and_nat x y hx (by omega), hl1]
    simp
  have e3 : IntKind.u64.wrap ((2 : Int) ^ z * 285870213051353865) / 288230376151711744 = ((2 ^ z * 285870213051353865 % 18446744073709551616 / 288230376151711744 : Nat) : Int) := by
    rw [IntKind.wrap_u64]
    simp
  have e5 : ((x : Int) == 0) = false := by simp; omega
  have hc := ht _ hd1
  rw [hd2] at hc
  obtain ⟨E, hE⟩ : ∃ E : Int, E = (2 : Int) ^ z * 285870213051353865 := ⟨_, rfl⟩
  have hb : 0 ≤ IntKind.u64.wrap ((2 : Int) ^ z * 285870213051353865) / 288230376151711744 ∧ IntKind.u64.wrap ((2 : Int) ^ z * 285870213051353865) / 288230376151711744 < 64 := by
    rw [e3]; omega
  have hc2 : w.cell? ⟨1, (IntKind.u64.wrap ((2 : Int) ^ z * 285870213051353865) / 288230376151711744).toNat, none⟩ = some (.int .u8 (z : Int)) := by
    rw [e3, Int.toNat_natCast]
    exact hc
  have hw : IntKind.i64.wrap (z : Int) = (z : Int) := IntWalk.i64_in _ (by omega)
  have H0 := Lib.hid hb
  clear hl1 hd2 hy ht hd1 h0 hx hz e3 hc hE E hl2
  go_enter Tryd.func78, Tryd.ntmps78
  go_wp2_with fail
  go_ret
  exact ⟨rfl, rfl⟩

set_option maxHeartbeats 400000 in
theorem lz_any (x : Nat) (hx : x < 18446744073709551616) (w : World) :
    Calls Tryd.prog 77 #[.int .u64 (x : Int)] w fun e w' => e = .returned (.int .i64 (hiZ x : Nat)) ∧ w' = w := by
  have h := len64_any x hx
  have hb : bl x ≤ 64 := (bl_le x 64).2 hx
  have hz : hiZ x = 64 - bl x := rfl
  rw [hz]
  generalize bl x = z at *
  go_enter Tryd.func77, Tryd.ntmps77
  go_wp2_with (go_at_call 93; refine (h _).mono ?_; rintro _ _ ⟨rfl, rfl⟩)
  go_ret
  have e : (64 : Int) - (z : Int) = ((64 - z : Nat) : Int) := by omega
  exact ⟨by rw [← e]; rfl, rfl⟩

end Go.Proofs.YthcgalpabjjkoaaDoor

/- XHigh07: The reference's high and low. -/
namespace Go.Proofs.YthcgalpabjjkoaaDoor
open Go.RowKit
set_option linter.unusedVariables false

/-- The bits ahead of the highest. -/
theorem hi_bit {x : Nat} (h0 : x ≠ 0) (hx : x < 18446744073709551616) : (∀ j, j < hiZ x → x / 2 ^ (63 - j) % 2 = 0) ∧ x / 2 ^ (63 - hiZ x) % 2 = 1 ∧ hiZ x ≤ 63 := by
  have hb : bl x ≤ 64 := (bl_le x 64).2 hx
  have hb2 : x < 2 ^ bl x := (bl_le x (bl x)).1 (Nat.le_refl _)
  have hb1 : 1 ≤ bl x := by
    apply Nat.pos_of_ne_zero
    intro h
    rw [h] at hb2
    simp at hb2
    exact h0 hb2
  have hb3 : ¬ x < 2 ^ (bl x - 1) := by
    intro hc
    have := (bl_le x (bl x - 1)).2 hc
    omega
  refine ⟨fun j hj => ?_, ?_, by unfold hiZ; omega⟩
  · unfold hiZ at hj
    have : x < 2 ^ (63 - j) := Nat.lt_of_lt_of_le hb2 (Nat.pow_le_pow_right (by omega) (by omega))
    rw [Nat.div_eq_of_lt this]
  · have e : 63 - hiZ x = bl x - 1 := by unfold hiZ; omega
    rw [e]
    have h1 : x / 2 ^ (bl x - 1) < 2 := by
      rw [Nat.div_lt_iff_lt_mul (Nat.two_pow_pos _), ← Nat.pow_succ']
      rw [show (bl x - 1).succ = bl x by omega]
      exact hb2
    have h2 : 1 ≤ x / 2 ^ (bl x - 1) := (Nat.le_div_iff_mul_le (Nat.two_pow_pos _)).2 (by omega)
    omega
theorem lo_bit {x : Nat} (h0 : x ≠ 0) (hx : x < 18446744073709551616) : (∀ j, j < loZ x → x / 2 ^ j % 2 = 0) ∧ x / 2 ^ loZ x % 2 = 1 ∧ loZ x ≤ 63 := by
  obtain ⟨m, hm, hk⟩ := Lib.ctzFrom_spec 64 x (by omega) hx
  have e : loZ x = Lib.ctzFrom 64 x := by simp [loZ, Lib.ctz, h0]
  rw [← e] at hm hk
  refine ⟨fun j hj => ?_, ?_, by omega⟩
  · obtain ⟨d, hd⟩ : ∃ d, loZ x = j + 1 + d := ⟨loZ x - j - 1, by omega⟩
    rw [hd, Nat.add_assoc, Nat.pow_add, Nat.mul_assoc] at hm
    rw [Nat.div_eq_of_eq_mul_right (Nat.two_pow_pos _) hm, Nat.pow_add, Nat.pow_one, Nat.mul_assoc, Nat.mul_mod_right]
  · rw [Nat.div_eq_of_eq_mul_right (Nat.two_pow_pos _) hm]
    omega
theorem bit_and (a : Nat) (ha : a < 18446744073709551616) : Go.bits .and .u64 (a : Int) 1 = ((a % 2 : Nat) : Int) := by
  have := u64_and_nat a 1 ha (by decide)
  rw [Nat.and_one_is_mod] at this
  exact this

theorem bit_test (x Z : Nat) (hx : x < 18446744073709551616) (r : Nat) (h : x / 2 ^ Z % 2 = r) : (Go.bits .and .u64 ((x : Int) / 2 ^ Z) 1 == 0) = decide (r = 0) := by
  have e2 : (x : Int) / 2 ^ Z = ((x / 2 ^ Z : Nat) : Int) := by simp
  rw [e2, bit_and (x / 2 ^ Z) (Nat.lt_of_le_of_lt (Nat.div_le_self _ _) hx), h]
  rw [Bool.eq_iff_iff, beq_iff_eq, decide_eq_true_eq]
  omega

set_option maxHeartbeats 1000000 in
theorem rhigh_any (x : Nat) (h0 : x ≠ 0) (hx : x < 18446744073709551616) (w : World) :
    Calls Tryd.prog 82 #[.int .u64 (x : Int)] w fun e w' => e = .returned (.int .i64 (hiZ x : Nat)) ∧ w' = w := by
  obtain ⟨h1, h2, h3⟩ := hi_bit h0 hx
  generalize hz : hiZ x = z at *
  have H1 := Lib.hid h1
  have H2 := Lib.hid h2
  clear h1 h2 hz h0
  go_enter Tryd.func82, Tryd.ntmps82
  go_wp2_with fail
  go_loopg [3] z (fun m s3 wr => ∃ k : Nat, k + m = z ∧ s3 = .int .i64 (k : Int) ∧ wr = w)
  case atStart => exact ⟨0, by omega, rfl, rfl⟩
  case round =>
    obtain ⟨k, hk, rfl, rfl⟩ := hrel
    by_cases hkz : gk = 0
    · obtain rfl : k = z := by omega
      clear hk
      have e3 := bit_test x (63 - k) hx 1 H2.out
      rw [show decide ((1 : Nat) = 0) = false from rfl] at e3
      have e1 : IntKind.u64.wrap (63 - (k : Int)) = 63 - (k : Int) := by rw [IntKind.wrap_u64]; omega
      go_wp2_with fail
      go_ret
      exact ⟨rfl, rfl⟩
    · have e3 := bit_test x (63 - k) hx 0 (H1.out k (by omega))
      rw [show decide ((0 : Nat) = 0) = true from rfl] at e3
      go_wp2_with fail
      go_roundg (gk - 1)
      case measure => go_light; omega
      case rel => go_light; exact ⟨k + 1, by omega, by congr 1, rfl⟩
set_option maxHeartbeats 1000000 in
theorem rlow_any (x : Nat) (h0 : x ≠ 0) (hx : x < 18446744073709551616) (w : World) :
    Calls Tryd.prog 83 #[.int .u64 (x : Int)] w fun e w' => e = .returned (.int .i64 (loZ x : Nat)) ∧ w' = w := by
  obtain ⟨h1, h2, h3⟩ := lo_bit h0 hx
  generalize hz : loZ x = z at *
  have H1 := Lib.hid h1
  have H2 := Lib.hid h2
  clear h1 h2 hz h0
  go_enter Tryd.func83, Tryd.ntmps83
  go_wp2_with fail
  go_loopg [3] z (fun m s3 wr => ∃ k : Nat, k + m = z ∧ s3 = .int .i64 (k : Int) ∧ wr = w)
  case atStart => exact ⟨0, by omega, rfl, rfl⟩
  case round =>
    obtain ⟨k, hk, rfl, rfl⟩ := hrel
    by_cases hkz : gk = 0
    · obtain rfl : k = z := by omega
      clear hk
      have e3 := bit_test x (k) hx 1 H2.out
      rw [show decide ((1 : Nat) = 0) = false from rfl] at e3
      have e1 : IntKind.u64.wrap ((k : Int)) = (k : Int) := by rw [IntKind.wrap_u64]; omega
      go_wp2_with fail
      go_ret
      exact ⟨rfl, rfl⟩
    · have e3 := bit_test x (k) hx 0 (H1.out k (by omega))
      rw [show decide ((0 : Nat) = 0) = true from rfl] at e3
      go_wp2_with fail
      go_roundg (gk - 1)
      case measure => go_light; omega
      case rel => go_light; exact ⟨k + 1, by omega, by congr 1, rfl⟩
end Go.Proofs.YthcgalpabjjkoaaDoor

/- XForm07: value.Formed and gristref01.Formed. -/
namespace Go.Proofs.YthcgalpabjjkoaaDoor
open Go.RowKit
set_option linter.unusedVariables false

theorem frombits_run (b : Nat) (w : World) : (callFunc 49 #[.int .u64 (b : Int)]).run Tryd.prog w = .ok (.value (.float .f64 b)) w := by
  rw [run_callFunc_extern Tryd.func49 (by kernel_rfl) (by kernel_rfl) (by kernel_rfl) (e := Extern.MathFloatBits.float64frombits) (by kernel_rfl)]
  rfl
theorem tobits_run (b : Nat) (w : World) : (callFunc 92 #[.float .f64 b]).run Tryd.prog w = .ok (.value (.int .u64 (b : Int))) w := by
  rw [run_callFunc_extern Tryd.func92 (by kernel_rfl) (by kernel_rfl) (by kernel_rfl) (e := Extern.MathFloatBits.float64bits) (by kernel_rfl)]
  rfl

theorem rung_num (b : Nat) (hb : b < 18446744073709551616) : Go.bits .andNot .u64 (b : Int) 9223372036854775808 = ((rungB b : Nat) : Int) := by
  have h := u64_andNot_nat b 9223372036854775808 hb (by decide)
  rw [show (18446744073709551615 - 9223372036854775808 : Nat) = 2 ^ 63 - 1 from rfl, Nat.and_two_pow_sub_one_eq_mod] at h
  exact h

set_option maxHeartbeats 400000 in
theorem abs_any (b : Nat) (hb : b < 18446744073709551616) (w : World) :
    Calls Tryd.prog 74 #[.float .f64 b] w fun e w' => e = .returned (.float .f64 (rungB b)) ∧ w' = w := by
  have hf := frombits_run
  have ht := tobits_run
  have hr := rung_num b hb
  go_enter Tryd.func74, Tryd.ntmps74
  go_wp2_with fail
  go_ret
  exact ⟨rfl, rfl⟩

set_option maxHeartbeats 400000 in
theorem isNaN_any (b : Nat) (w : World) :
    Calls Tryd.prog 50 #[.float .f64 b] w fun e w' => e = .returned (.bool (nanB b)) ∧ w' = w := by
  have h := order_self b
  go_enter Tryd.func50, Tryd.ntmps50
  go_wp2_with fail
  go_ret
  refine ⟨?_, rfl⟩
  have e : (FloatKind.f64.format.order b b != some .eq) = nanB b := by
    rw [f64_format, bne, h, Bool.not_not]
  rw [← e]
  rfl

theorem order_infC : (Ieee.double.order 9218868437227405312 9218868437227405311 == some .gt) = true := by decide +kernel
theorem inf_test (b : Nat) (hn : nanB b = false) : (FloatKind.f64.format.order (rungB b) 9218868437227405311 == some .gt) = !finB b := by
  have hn' : ¬ 9218868437227405312 < rungB b := of_decide_eq_false hn
  rw [f64_format]
  by_cases h : finB b = true
  · have e : finB (rungB b) = true := by unfold finB rungB at h ⊢; rw [Nat.mod_mod]; exact h
    rw [h]
    exact order_max e
  · have e : rungB b = 9218868437227405312 := by
      have : ¬ rungB b < 9218868437227405312 := fun hc => h (decide_eq_true hc)
      omega
    rw [e, (Bool.not_eq_true _).mp h]
    exact order_infC
set_option maxHeartbeats 400000 in
theorem isInf_any (b : Nat) (hb : b < 18446744073709551616) (hn : nanB b = false) (w : World) :
    Calls Tryd.prog 51 #[.float .f64 b, .int .i64 0] w fun e w' => e = .returned (.bool (!finB b)) ∧ w' = w := by
  have hA := abs_any b hb
  have h := inf_test b hn
  go_enter Tryd.func51, Tryd.ntmps51
  go_wp2_with (go_at_call 74; refine (hA _).mono ?_; rintro _ _ ⟨rfl, rfl⟩)
  go_ret
  refine ⟨?_, rfl⟩
  rw [← h]
  rfl

theorem nan_cut (t : Nat) : nanB ((t % 2) * 2 ^ 63 + 0x7ff0000000000000 + 1 + (t / 2) % (2 ^ 52 - 1)) = true := by
  refine decide_eq_true ?_
  unfold rungB
  have h1 : (t / 2) % (2 ^ 52 - 1) < 2 ^ 52 - 1 := Nat.mod_lt _ (by decide)
  have h2 : t % 2 < 2 := Nat.mod_lt _ (by decide)
  generalize (t / 2) % (2 ^ 52 - 1) = m at *
  generalize t % 2 = q at *
  omega
/-- 'f - f'. -/
theorem sub_run (b : Nat) (hn : nanB b = false) (w : World) : ∃ r m, (binOp .sub 92 (.float .f64 b) (.float .f64 b)).run Tryd.prog w = .ok (.float .f64 r) (w.drewN m) ∧ (FloatKind.f64.format.order r 0 == some .eq) = finB b := by
  have hn' : ¬ 9218868437227405312 < rungB b := of_decide_eq_false hn
  cases h : finB b with
  | true =>
    exact ⟨0, 0, run_float_arith w .sub _ .f64 b b 0 (fsub_self h), order_zero⟩
  | false =>
    have e : rungB b = 9218868437227405312 := by
      have : ¬ rungB b < 9218868437227405312 := fun hc => by rw [show finB b = true from decide_eq_true hc] at h; cases h
      omega
    have hs := sub_inf e
    refine ⟨(Question.nanBits .f64 b b).cut (w.tape w.drawn (.nanBits .f64 b b)), 1, ?_, ?_⟩
    · simp [binOp, Op.floatArith, hs, Question.forced]
      rfl
    · have hq : nanB ((Question.nanBits .f64 b b).cut (w.tape w.drawn (.nanBits .f64 b b))) = true := nan_cut _
      rw [f64_format, order_nan hq]
      rfl

set_option maxHeartbeats 1000000 in
theorem formed_any (v : Va) (hv : v.b < 18446744073709551616) (w : World) :
    Calls Tryd.prog 32 #[.agg #[.int .i64 v.k, .int .u64 (v.b : Int), .string v.t]] w fun e w' => e = .returned (.bool (formV v)) ∧ Below w.heap.size w w' := by
  have hf := frombits_run
  have hN := fun w => isNaN_any v.b w
  have hI := fun hn w => isInf_any v.b hv hn w
  obtain ⟨k, b, t⟩ := v
  dsimp only at *
  have hts : (t.size = 0) = (t.toList = []) := by rw [← toList_len, List.length_eq_zero_iff]
  by_cases h1 : k = 1
  · subst h1
    rw [formV_1 rfl]
    dsimp only
    simp only [hts]
    by_cases ht : t.toList = []
    · cases hn : nanB b with
      | true =>
        rw [hn] at hN
        have hfin : finB b = false := by
          cases hh : finB b with
          | false => rfl
          | true => rw [fin_nan hh] at hn; cases hn
        go_enter Tryd.func32, Tryd.ntmps32
        go_wp2_with (go_at_call 50; refine (hN _).mono ?_; rintro _ _ ⟨rfl, rfl⟩)
        go_ret
        exact ⟨by simp [hfin], (Below.refl _ _).alloc (Nat.le_refl _) _⟩
      | false =>
        rw [hn] at hN
        have hI' := hI hn
        clear hI
        go_enter Tryd.func32, Tryd.ntmps32
        go_wp2_with (first | (go_at_call 50; refine (hN _).mono ?_; rintro _ _ ⟨rfl, rfl⟩) | (go_at_call 51; refine (hI' _).mono ?_; rintro _ _ ⟨rfl, rfl⟩))
        go_ret
        exact ⟨by simp [ht] <;> omega, (Below.refl _ _).alloc (Nat.le_refl _) _⟩
    · go_enter Tryd.func32, Tryd.ntmps32
      go_wp2_with fail
      go_ret
      exact ⟨by simp [ht] <;> omega, (Below.refl _ _).alloc (Nat.le_refl _) _⟩
  · by_cases h2 : k = 2
    · subst h2
      rw [formV_2 rfl]
      dsimp only
      simp only [hts]
      go_enter Tryd.func32, Tryd.ntmps32
      by_cases ht : t.toList = []
      · go_wp2_with fail
        go_ret
        exact ⟨by simp [ht] <;> omega, (Below.refl _ _).alloc (Nat.le_refl _) _⟩
      · go_wp2_with fail
        go_ret
        exact ⟨by simp [ht] <;> omega, (Below.refl _ _).alloc (Nat.le_refl _) _⟩
    · by_cases h3 : k = 3
      · subst h3
        rw [formV_3 rfl]
        dsimp only
        simp only [hts]
        go_enter Tryd.func32, Tryd.ntmps32
        by_cases ht : t.toList = []
        · go_wp2_with fail
          go_ret
          exact ⟨by simp [ht] <;> omega, (Below.refl _ _).alloc (Nat.le_refl _) _⟩
        · go_wp2_with fail
          go_ret
          exact ⟨by simp [ht] <;> omega, (Below.refl _ _).alloc (Nat.le_refl _) _⟩
      · by_cases h4 : k = 4
        · subst h4
          rw [formV_4 rfl]
          dsimp only
          go_enter Tryd.func32, Tryd.ntmps32
          by_cases hb : b = 0
          · go_wp2_with fail
            go_ret
            exact ⟨by simp [hb] <;> omega, (Below.refl _ _).alloc (Nat.le_refl _) _⟩
          · go_wp2_with fail
            go_ret
            exact ⟨by simp [hb] <;> omega, (Below.refl _ _).alloc (Nat.le_refl _) _⟩
        · rw [formV_no h1 h2 h3 h4]
          go_enter Tryd.func32, Tryd.ntmps32
          go_wp2_with fail
          go_ret
          exact ⟨rfl, (Below.refl _ _).alloc (Nat.le_refl _) _⟩

set_option maxHeartbeats 1000000 in
theorem rformed_any (v : Va) (hv : v.b < 18446744073709551616) (w : World) :
    Calls Tryd.prog 38 #[.agg #[.int .i64 v.k, .int .u64 (v.b : Int), .string v.t]] w fun e w' => e = .returned (.bool (formV v)) ∧ Below w.heap.size w w' := by
  have hf := frombits_run
  obtain ⟨k, b, t⟩ := v
  dsimp only at *
  have hts : (t.size = 0) = (t.toList = []) := by rw [← toList_len, List.length_eq_zero_iff]
  by_cases h1 : k = 1
  · subst h1
    rw [formV_1 rfl]
    dsimp only
    simp only [hts]
    by_cases ht : t.toList = []
    · cases hn : nanB b with
      | true =>
        have hfin : finB b = false := by
          cases hh : finB b with
          | false => rfl
          | true => rw [fin_nan hh] at hn; cases hn
        have hO : (FloatKind.f64.format.order b b == some .eq) = false := by rw [f64_format, order_self, hn]; rfl
        go_enter Tryd.func38, Tryd.ntmps38
        go_wp2_with fail
        go_ret
        exact ⟨by simp [hfin], (Below.refl _ _).alloc (Nat.le_refl _) _⟩
      | false =>
        have hO : (FloatKind.f64.format.order b b == some .eq) = true := by rw [f64_format, order_self, hn]; rfl
        have hS := sub_run b hn
        go_enter Tryd.func38, Tryd.ntmps38
        obtain ⟨r, m, hr, hq⟩ := hS (w.alloc (.cells #[.int .i64 1, .int .u64 (b : Int), .string t] 27))
        go_wp2_with fail
        go_ret
        have hb := (Below.refl w.heap.size w).alloc (Nat.le_refl _) (.cells #[.int .i64 1, .int .u64 (b : Int), .string t] 27)
        exact ⟨by simp [ht], hb.trans ((below_drewN _).mono hb.size)⟩
    · go_enter Tryd.func38, Tryd.ntmps38
      go_wp2_with fail
      go_ret
      exact ⟨by simp [ht] <;> omega, (Below.refl _ _).alloc (Nat.le_refl _) _⟩
  · by_cases h2 : k = 2
    · subst h2
      rw [formV_2 rfl]
      dsimp only
      simp only [hts]
      go_enter Tryd.func38, Tryd.ntmps38
      by_cases ht : t.toList = []
      · go_wp2_with fail
        go_ret
        exact ⟨by simp [ht] <;> omega, (Below.refl _ _).alloc (Nat.le_refl _) _⟩
      · go_wp2_with fail
        go_ret
        exact ⟨by simp [ht] <;> omega, (Below.refl _ _).alloc (Nat.le_refl _) _⟩
    · by_cases h3 : k = 3
      · subst h3
        rw [formV_3 rfl]
        dsimp only
        simp only [hts]
        go_enter Tryd.func38, Tryd.ntmps38
        by_cases ht : t.toList = []
        · go_wp2_with fail
          go_ret
          exact ⟨by simp [ht] <;> omega, (Below.refl _ _).alloc (Nat.le_refl _) _⟩
        · go_wp2_with fail
          go_ret
          exact ⟨by simp [ht] <;> omega, (Below.refl _ _).alloc (Nat.le_refl _) _⟩
      · by_cases h4 : k = 4
        · subst h4
          rw [formV_4 rfl]
          dsimp only
          go_enter Tryd.func38, Tryd.ntmps38
          by_cases hb : b = 0
          · go_wp2_with fail
            go_ret
            exact ⟨by simp [hb] <;> omega, (Below.refl _ _).alloc (Nat.le_refl _) _⟩
          · go_wp2_with fail
            go_ret
            exact ⟨by simp [hb] <;> omega, (Below.refl _ _).alloc (Nat.le_refl _) _⟩
        · rw [formV_no h1 h2 h3 h4]
          go_enter Tryd.func38, Tryd.ntmps38
          go_wp2_with fail
          go_ret
          exact ⟨rfl, (Below.refl _ _).alloc (Nat.le_refl _) _⟩
end Go.Proofs.YthcgalpabjjkoaaDoor

/- XVals07: A slice of values in memory. -/
namespace Go.Proofs.YthcgalpabjjkoaaDoor
open Go.RowKit
set_option linter.unusedVariables false

/-- The values of a slice. -/
def Vals (w : World) (v : Value) (l : List Va) : Prop := RdV w 3 v l.length (l.flatMap Va.cells)
theorem Vals.below {w w' : World} {v : Value} {l : List Va} (h : Vals w v l) (hb : Below w.heap.size w w') : Vals w' v l := RdV.below h hb
theorem val_at {w : World} {v : Value} {l : List Va} (h : Vals w v l) (i : Nat) (hi : i < l.length) :
    ∃ b off cap, v = .slice (some ⟨b, off, none⟩) l.length cap ∧ b < w.heap.size ∧ w.cell? ⟨b, off + i * 3, none⟩ = some (.int .i64 (l.getD i v0).k) ∧ w.cell? ⟨b, off + i * 3 + 1, none⟩ = some (.int .u64 ((l.getD i v0).b : Int)) ∧ w.cell? ⟨b, off + i * 3 + 2, none⟩ = some (.string (l.getD i v0).t) := by
  obtain ⟨b, off, cap, rfl, _, _, hb, hc⟩ := RdV.some h (by omega) (by decide)
  have e0 := flat_at Va.cells 3 (fun _ => rfl) l i hi 0 (by omega)
  have e1 := flat_at Va.cells 3 (fun _ => rfl) l i hi 1 (by omega)
  have e2 := flat_at Va.cells 3 (fun _ => rfl) l i hi 2 (by omega)
  rw [getD_get l i v0 hi]
  refine ⟨b, off, cap, rfl, hb, ?_, ?_, ?_⟩
  · have := hc (i * 3 + 0) _ e0
    simpa [Va.cells] using this
  · have := hc (i * 3 + 1) _ e1
    simpa [Va.cells, Nat.add_assoc] using this
  · have := hc (i * 3 + 2) _ e2
    simpa [Va.cells, Nat.add_assoc] using this
theorem bitsV_len (l : List Va) : (bitsV l).length = l.length := by simp [bitsV]
theorem bitsV_get (l : List Va) (i : Nat) : (bitsV l).getD i 0 = (l.getD i v0).b := by
  unfold bitsV
  rw [List.getD_eq_getElem?_getD, List.getD_eq_getElem?_getD, List.getElem?_map]
  cases l[i]? <;> rfl
theorem getD_mem {α : Type} (l : List α) (i : Nat) (d : α) (h : i < l.length) : l.getD i d ∈ l := by rw [getD_get l i d h]; exact List.getElem_mem h
theorem bitsV_lt {l : List Va} (hok : ∀ x ∈ l, x.ok) : ∀ b ∈ bitsV l, b < 18446744073709551616 := by
  intro b hb
  obtain ⟨x, hx, rfl⟩ := List.mem_map.1 hb
  exact (hok x hx).2
theorem infoVal : (Tryd.prog.info? 27).map (fun i => (i.zero, i.size, i.bytes)) = some (some (.agg #[.int .i64 0, .int .u64 0, .string .empty]), 3, 32) := by kernel_rfl
/-- Bytes behind one another: a slice's rest. -/
theorem Vals.tail {w : World} {ao' : Option Addr} {cap' : Nat} {l : List Va} (h : RdV w 3 (.slice ao' (l.length - 1) cap') (l.length - 1) (List.take ((l.length - 1) * 3) (List.drop (1 * 3) (l.flatMap Va.cells)))) : Vals w (.slice ao' (l.length - 1) cap') (l.drop 1) := by
  unfold Vals
  cases l with
  | nil => simpa using h
  | cons x r =>
    have e : List.take (((x :: r).length - 1) * 3) (List.drop (1 * 3) ((x :: r).flatMap Va.cells)) = r.flatMap Va.cells := by
      have h1 : (r.flatMap Va.cells).length = r.length * 3 := flat_len Va.cells 3 (fun _ => rfl) r
      rw [List.flatMap_cons]
      have : (Va.cells x ++ r.flatMap Va.cells).drop (1 * 3) = r.flatMap Va.cells := rfl
      rw [this, List.take_of_length_le (by simp [h1])]
    rw [e] at h
    exact h
theorem dropV (l : List Va) (k : Nat) : (l.drop 1).getD k v0 = l.getD (k + 1) v0 := by simp [List.getD_eq_getElem?_getD]
end Go.Proofs.YthcgalpabjjkoaaDoor

/- XFloats07: column.floats. -/
namespace Go.Proofs.YthcgalpabjjkoaaDoor
open Go.RowKit
set_option linter.unusedVariables false

theorem u64_xor (a b : Nat) (ha : a < 18446744073709551616) (hb : b < 18446744073709551616) : Go.bits .xor .u64 (a : Int) (b : Int) = ((a ^^^ b : Nat) : Int) := u64_xor_nat a b ha hb
theorem getD_lt {l : List Nat} (hl : ∀ x ∈ l, x < 18446744073709551616) (i : Nat) : l.getD i 0 < 18446744073709551616 := by
  by_cases hi : i < l.length
  · exact hl _ (getD_mem l i 0 hi)
  · rw [List.getD_eq_getElem?_getD, List.getElem?_eq_none (by omega)]; decide
theorem fbT_big {l : List Nat} (hl : ∀ x ∈ l, x < 18446744073709551616) (i : Nat) (h : i ≤ 1000) : (bitsOf (l.getD 0 0) 64 ++ fbT l i).length ≤ 77064 := by
  have := (fbT_len hl i).2
  rw [List.length_append, length_bitsOf]
  omega

set_option maxHeartbeats 2000000 in
theorem floats_any (l : List Va) (v : Value) (w : World) (h1 : 1 ≤ l.length) (h2 : l.length ≤ 1000) (hok : ∀ x ∈ l, x.ok) (ht : Tab w) (hr : Vals w v l) :
    Calls Tryd.prog 57 #[v] w fun e w' => ∃ ao cap, e = .returned (.slice ao (encF (bitsV l)).length cap) ∧ Own w' w.heap.size (.slice ao (encF (bitsV l)).length cap) (encF (bitsV l)) ∧ Below w.heap.size w w' := by
  obtain ⟨b, off, cap, rfl, hb, _, hc1, _⟩ := val_at hr 0 (by omega)
  simp only [Nat.zero_mul, Nat.add_zero] at hc1
  have hlt := bitsV_lt hok
  have hb0 : (l.getD 0 v0).b < 18446744073709551616 := (hok _ (getD_mem l 0 v0 (by omega))).2
  have e0 := bitsV_get l 0
  rw [← e0] at hc1 hb0
  have hput0 := fun sv w => put_any w.heap.size ((bitsV l).getD 0 0) 64 (by decide) (by decide) sv [] w
  obtain ⟨wA, hwA⟩ : ∃ wA, wA = w.alloc newWr := ⟨_, rfl⟩
  have hW := newWr_wr w
  rw [← hwA] at hW
  have hbA : Below w.heap.size w wA := by rw [hwA]; exact (Below.refl _ _).alloc (Nat.le_refl _) _
  have hlA : w.heap.size < wA.heap.size := hW.lt
  have hcA : wA.cell? ⟨b, off + 1, none⟩ = some (.int .u64 (((bitsV l).getD 0 0 : Nat) : Int)) := (hbA.cell (p := ⟨b, off + 1, none⟩) hb).trans hc1
  have hP := put_any w.heap.size ((bitsV l).getD 0 0) 64 (by decide) (by decide) _ [] wA hb0 (by simp) hW
  rw [List.nil_append] at hP
  have hrr : RdV w 3 (.slice (some ⟨b, off, none⟩) l.length cap) l.length (l.flatMap Va.cells) := hr
  generalize hx0 : (bitsV l).getD 0 0 = x0 at *
  have HX0 := Lib.hid hx0
  have HLT := Lib.hid hlt
  have HWA := Lib.hid hwA
  clear hx0 hlt hok hc1 hput0 e0 hwA
  go_enter Tryd.func57, Tryd.ntmps57
  go_wp2_with (first
    | (go_at_call 52; refine (newWriter_any _).mono ?_; rintro _ _ ⟨rfl, rfl⟩; rw [← HWA.out])
    | (go_at_call 53; refine hP.mono ?_; rintro _ w2 ⟨rfl, sv2, hW2, hS2⟩; have HW2 := Lib.hid hW2; have HB2 := Lib.hid (hbA.trans (hS2.below hW)); clear hW2 hS2 hP)
    | (with_reducible refine wpList_slice_at w _ rfl (.tmp 19) (some (.const (.int .i64 1))) none 77 rfl 27 3 _ 32 Tryd.underlying77 infoVal _ _ _ _ rfl hrr 1 l.length ?hb h1 (Nat.le_refl _) ?hk))
  case hb => exact bounds_lo _ _ .i64 1 h1
  case hk =>
  intro ao1 cap1 hr1 hxx
  clear hxx
  have HT := Lib.hid (Vals.tail hr1)
  have HDL : (l.drop 1).length = l.length - 1 := by rw [List.length_drop]
  obtain ⟨n, hn⟩ : ∃ n, n = l.length - 1 := ⟨_, rfl⟩
  rw [← hn] at HT HDL ⊢
  replace HDL := Lib.hid HDL
  have HN := Lib.hid hn
  have hn1 : n ≤ 999 := by omega
  clear hr1 hn hr hrr hcA
  go_wp2_with fail
  go_loopg [22, 4] n (fun m s22 s4 wr => ∃ (k : Nat) (sv : Value), k + m = n ∧ s22 = .int .i64 (k : Int) ∧ s4 = .int .u64 (((bitsV l).getD k 0 : Nat) : Int) ∧ Hid (Wr wr w.heap.size sv (bitsOf x0 64 ++ fbT (bitsV l) k)) ∧ Hid (Below w.heap.size w wr))
  case atStart => exact ⟨0, sv2, by omega, rfl, by rw [HX0.out], Lib.hid (by rw [fbT_zero, List.append_nil]; exact HW2.out), HB2⟩
  case round =>
    obtain ⟨k, sv, hk, rfl, rfl, HW, HB⟩ := hrel
    by_cases h0 : gk = 0
    · obtain rfl : k = n := by omega
      clear hk
      have hBy := bytes_any w.heap.size sv (bitsOf x0 64 ++ fbT (bitsV l) k) wr (by have := fbT_big HLT.out k (by omega); rw [HX0.out] at this; omega) HW.out
      have hE : pack8 (bitsOf x0 64 ++ fbT (bitsV l) k) = encF (bitsV l) := by unfold encF; rw [bitsV_len, HX0.out, ← HN.out]
      rw [hE] at hBy
      go_wp2_with (go_at_call 59; refine hBy.mono ?_; rintro _ w3 ⟨ao3, cap3, rfl, ho3, hb3⟩)
      go_ret
      exact ⟨ao3, cap3, rfl, ho3.mono HB.out.size, HB.out.trans (hb3.mono HB.out.size)⟩
    · obtain ⟨b1, off1, c1, he1, hb1, hv0, hv1, hv2⟩ := val_at (HT.out.below HB.out) k (by rw [HDL.out]; omega)
      simp only [Value.slice.injEq] at he1
      obtain ⟨rfl, hxx, rfl⟩ := he1
      clear hxx
      have hkn : k < n := by omega
      rw [dropV] at hv0 hv1 hv2
      rw [← bitsV_get] at hv1
      generalize (l.getD (k + 1) v0).k = kk at *
      generalize (l.getD (k + 1) v0).t = tt at *
      have HX : Hid (xAt (bitsV l) k = (bitsV l).getD (k + 1) 0 ^^^ (bitsV l).getD k 0) := Lib.hid rfl
      have hxl := xAt_lt HLT.out k
      have hya := u64_xor ((bitsV l).getD (k + 1) 0) ((bitsV l).getD k 0) (getD_lt HLT.out _) (getD_lt HLT.out _)
      rw [← HX.out] at hya
      have hyl := getD_lt HLT.out (k + 1)
      have HBG := Lib.hid (fbT_big HLT.out k (by omega))
      have HNX := Lib.hid (fbT_next (bitsV l) k)
      generalize hg1 : (bitsV l).getD (k + 1) 0 = y1 at *
      generalize (bitsV l).getD k 0 = y0 at *
      generalize xAt (bitsV l) k = x at *
      go_upto_region 9 with fail
      have hbl : Below wr.heap.size wr (wr.alloc (Obj.cells #[Value.int IntKind.i64 kk, Value.int IntKind.u64 (y1 : Int), Value.string tt] 27)) := (Below.refl _ _).alloc (Nat.le_refl _) _
      have HW1 := Lib.hid (HW.out.below hbl)
      have HB1 := Lib.hid (HB.out.trans (hbl.mono HB.out.size))
      have hT1 := ht.below HB1.out
      generalize wr.alloc (Obj.cells #[Value.int IntKind.i64 kk, Value.int IntKind.u64 (y1 : Int), Value.string tt] 27) = wB at *
      generalize hcur : bitsOf x0 64 ++ fbT (bitsV l) k = cur at *
      have hcl : cur.length ≤ 77064 := by have := HBG.out; rw [HX0.out, hcur] at this; exact this
      have HCUR := Lib.hid hcur
      clear hcur hbl hya HW HB
      by_cases hx0 : x = 0
      · subst hx0
        have HP : Calls Tryd.prog 53 #[.pointer (some ⟨w.heap.size, 0, none⟩), .int .u64 0, .int .i64 1] wB _ := put_any w.heap.size 0 1 (by decide) (by decide) sv cur wB (by decide) (by omega) HW1.out
        go_wp2_with (go_at_call 53; refine HP.mono ?_; rintro _ w3 ⟨rfl, sv3, hw3, hs3⟩; have HW3 := Lib.hid hw3; have HB3 := Lib.hid (HB1.out.trans (hs3.below HW1.out)); clear hw3 hs3 HP)
        go_roundg (gk - 1)
        case measure => go_light; omega
        case rel =>
          go_light
          exact ⟨k + 1, sv3, by omega, by congr 1, by rw [hg1], Lib.hid (by rw [HNX.out, ← List.append_assoc, HCUR.out]; exact HW3.out), HB3⟩
      · have hz0 : ((x : Int) == 0) = false := by simp; omega
        obtain ⟨z1, z2, z3, z4, z5, _⟩ := zz_facts hx0 hxl
        have HST := Lib.hid (fstep_some hx0)
        have hLZ := fun w => lz_any x hxl w
        have hTZ := fun w hw => tz_any x hx0 hxl w hw
        generalize hiZ x = z at *
        generalize loZ x = t at *
        generalize szZ x = s at *
        obtain ⟨m, hm⟩ : ∃ m, m = s - 1 := ⟨_, rfl⟩
        obtain ⟨q, hq⟩ : ∃ q, q = x / 2 ^ t := ⟨_, rfl⟩
        have e1 : (64 : Int) - (z : Int) - (t : Int) = (s : Int) := by omega
        have e2 : (s : Int) - 1 = (m : Int) := by omega
        have e3 : (x : Int) / 2 ^ t = (q : Int) := by rw [hq]; simp
        have hql : q < 18446744073709551616 := by rw [hq]; exact Nat.lt_of_le_of_lt (Nat.div_le_self _ _) hxl
        have u1 : IntKind.u64.wrap (z : Int) = (z : Int) := IntWalk.u64_in _ (by omega)
        have u2 : IntKind.u64.wrap (m : Int) = (m : Int) := IntWalk.u64_in _ (by omega)
        rw [← hm, ← hq] at HST
        have HM := Lib.hid hm
        clear hm hq z5
        have HP1 : Calls Tryd.prog 53 #[.pointer (some ⟨w.heap.size, 0, none⟩), .int .u64 1, .int .i64 1] wB _ := put_any w.heap.size 1 1 (by decide) (by decide) sv cur wB (by decide) (by omega) HW1.out
        have HP2 := fun sv w' (h : Wr w' w.heap.size sv (cur ++ [true])) => put_any w.heap.size z 6 (by decide) (by decide) sv (cur ++ [true]) w' (by omega) (by simp; omega) h
        have HP3 := fun sv w' (h : Wr w' w.heap.size sv (cur ++ [true] ++ bitsOf z 6)) => put_any w.heap.size m 6 (by decide) (by decide) sv (cur ++ [true] ++ bitsOf z 6) w' (by omega) (by simp; omega) h
        have HP4 := fun sv w' (h : Wr w' w.heap.size sv (cur ++ [true] ++ bitsOf z 6 ++ bitsOf m 6)) => put_any w.heap.size q s (by omega) (by omega) sv (cur ++ [true] ++ bitsOf z 6 ++ bitsOf m 6) w' hql (by simp; omega) h
        go_upto_region 13 with (first
          | (go_at_call 77; refine (hLZ _).mono ?_; rintro _ _ ⟨rfl, rfl⟩)
          | (go_at_call 78; refine (hTZ _ hT1).mono ?_; rintro _ _ ⟨rfl, rfl⟩))
        go_upto_region 14 with (go_at_call 53; refine HP1.mono ?_; rintro _ w3 ⟨rfl, sv3, hw3, hs3⟩; have HW3 := Lib.hid hw3; have HB3 := Lib.hid (HB1.out.trans (hs3.below HW1.out)); clear hw3 hs3 HP1)
        go_upto_region 15 with (go_at_call 53; refine (HP2 _ _ HW3.out).mono ?_; rintro _ w4 ⟨rfl, sv4, hw4, hs4⟩; have HW4 := Lib.hid hw4; have HB4 := Lib.hid (HB3.out.trans (hs4.below HW3.out)); clear hw4 hs4 HP2)
        go_upto_region 16 with (go_at_call 53; refine (HP3 _ _ HW4.out).mono ?_; rintro _ w5 ⟨rfl, sv5, hw5, hs5⟩; have HW5 := Lib.hid hw5; have HB5 := Lib.hid (HB4.out.trans (hs5.below HW4.out)); clear hw5 hs5 HP3)
        go_wp2_with (go_at_call 53; refine (HP4 _ _ HW5.out).mono ?_; rintro _ w6 ⟨rfl, sv6, hw6, hs6⟩; have HW6 := Lib.hid hw6; have HB6 := Lib.hid (HB5.out.trans (hs6.below HW5.out)); clear hw6 hs6 HP4)
        go_roundg (gk - 1)
        case measure => go_light; omega
        case rel =>
          go_light
          exact ⟨k + 1, sv6, by omega, by congr 1, by rw [hg1], Lib.hid (by rw [HNX.out, HST.out, ← List.append_assoc, HCUR.out]; simpa using HW6.out), HB6⟩
end Go.Proofs.YthcgalpabjjkoaaDoor

/- XOwnV07: Values of the call's own; 'append(values, api.Value{..})'. -/
namespace Go.Proofs.YthcgalpabjjkoaaDoor
open Go.RowKit
set_option linter.unusedVariables false

def OwnV (w : World) (base : Nat) (v : Value) (l : List Va) : Prop := w.ownsRow base 27 3 v l.length (l.flatMap Va.cells)
theorem OwnV.vals {w : World} {base : Nat} {v : Value} {l : List Va} (h : OwnV w base v l) : Vals w v l := RdV.ofOwns h
theorem OwnV.nil (w : World) (base : Nat) : OwnV w base (.slice none 0 0) [] := World.ownsRow_nil _ _ _ _
theorem OwnV.shape {w : World} {base : Nat} {v : Value} {l : List Va} (h : OwnV w base v l) : ∃ ao cap, v = .slice ao l.length cap := ownsRow_shape h
theorem OwnV.chg {S : Nat → Prop} {w w' : World} {base : Nat} {v : Value} {l : List Va} (h : OwnV w base v l) (hc : Chg S w w') (hs : ∀ k, base ≤ k → ¬ S k) : OwnV w' base v l :=
  hc.owns h (fun k hk e => hs k (World.ownsRow.lt h k hk).1 e)
theorem OwnV.below {w w' : World} {base : Nat} {v : Value} {l : List Va} (h : OwnV w base v l) (hc : Below w.heap.size w w') : OwnV w' base v l :=
  h.chg (S := fun _ => False) (Chg.ofBelowAny hc) (fun _ _ h => h)
theorem OwnV.mono {w : World} {base base' : Nat} {v : Value} {l : List Va} (h : OwnV w base v l) (hb : base' ≤ base) : OwnV w base' v l := ownsRow_mono h hb
theorem cells_one (u : Va) : ∀ x ∈ u.cells, x.oneCell' = true := by
  intro x hx
  simp only [Va.cells, List.mem_cons, List.not_mem_nil, or_false] at hx
  rcases hx with rfl | rfl | rfl <;> rfl
theorem flatV_snoc (l : List Va) (u : Va) : (l ++ [u]).flatMap Va.cells = l.flatMap Va.cells ++ u.cells := by simp

theorem wpList_append_val (w0 : World) {ops : Array Oper} {rest : List Oper} {o : Oper} {a : Act} {Q : Exit → Act → World → Prop} (hgd : o.guard = none) (s x : Operand)
    (ho : o.op = .call { callee := .builtin .append, args := #[s, x], argTypes := #[77, 77] })
    (base : Nat) (v : Value) (l : List Va) (u : Va) (hs : a.eval s = v) (hown : OwnV w0 base v l) (hx : a.eval x = .slice (some ⟨w0.heap.size, 0, none⟩) 1 1)
    (hl : l.length ≤ 1000000000) (hbase : base ≤ w0.heap.size)
    (h : ∀ ao cap w', OwnV w' base (.slice ao (l.length + 1) cap) (l ++ [u]) → Chg (fun k => base ≤ k) w0 w' → wpList Tryd.prog ops Q rest (a.put o.dst (.slice ao (l.length + 1) cap)) w') :
    wpList Tryd.prog ops Q (o :: rest) a (w0.alloc (.cells #[.int .i64 u.k, .int .u64 (u.b : Int), .string u.t] 27)) := by
  refine wpList_append_rd _ hgd s x 77 ho base 27 (.agg #[.int .i64 0, .int .u64 0, .string .empty]) 3 32 Tryd.underlying77 infoVal rfl (by decide) v l.length (l.flatMap Va.cells) hs (World.ownsRow.alloc hown _) _ 1 u.cells hx
    (RdV.lit w0 #[.int .i64 u.k, .int .u64 (u.b : Int), .string u.t] 27 1 3 (by decide) rfl) (cells_one u) (by unfold maxLen; omega) (by omega) (by simp; omega) ?_
  intro ao cap w' hg
  have hg' := hg.ofAlloc
  refine h ao cap w' ?_ ((hg'.chg).mono (fun i _ hi => (World.ownsRow.lt hown i hi).1))
  unfold OwnV
  rw [flatV_snoc, List.length_append]
  exact hg'.owns
end Go.Proofs.YthcgalpabjjkoaaDoor

/- XInts07: column.integers. -/
namespace Go.Proofs.YthcgalpabjjkoaaDoor
open Go.RowKit
set_option linter.unusedVariables false

def pvI (l : List Nat) (k : Nat) : Nat := if k = 0 then 0 else l.getD (k - 1) 0
theorem pvI_next (l : List Nat) (k : Nat) : pvI l (k + 1) = l.getD k 0 := rfl
theorem pvI_lt {l : List Nat} (hl : ∀ x ∈ l, x < 18446744073709551616) (k : Nat) : pvI l k < 18446744073709551616 := by
  unfold pvI
  split
  · decide
  · exact getD_lt hl _
theorem zgAt_eq (l : List Nat) (k : Nat) : zgAt l k = zigN (sI ((l.getD k 0 : Int) - (pvI l k : Int))) := rfl
theorem zgs_next (l : List Nat) (n : Nat) : zgs l (n + 1) = zgs l n ++ [zgAt l n] := upto_next _ _
theorem zgs_len (l : List Nat) (n : Nat) : (zgs l n).length = n := upto_len _ _
theorem zgs_lt (l : List Nat) (n : Nat) : ∀ x ∈ zgs l n, x < 18446744073709551616 := by
  intro x hx
  unfold zgs upto at hx
  obtain ⟨i, _, rfl⟩ := List.mem_map.1 hx
  exact zgAt_lt l i
theorem rawI_next (l : List Nat) (k : Nat) (h : k < l.length) : rawI (l.take (k + 1)) = rawI (l.take k) ++ be8 (l.getD k 0) := by
  unfold rawI
  rw [List.take_succ_eq_append_getElem h, List.flatMap_append, getD_get l k 0 h]
  simp
theorem rawI_size (l : List Nat) (k : Nat) : (rawI (l.take k)).length ≤ 8 * k := by
  have key : ∀ m : List Nat, (rawI m).length = 8 * m.length := by
    intro m
    induction m with
    | nil => rfl
    | cons x r ih => unfold rawI at ih ⊢; rw [List.flatMap_cons, List.length_append, ih, be8_len, List.length_cons]; omega
  rw [key, List.length_take]
  omega
theorem encI_pk {l : List Nat} {p : List UInt8} (h : pkA (zgs l l.length) = some p) : encI l = [1] ++ p := by unfold encI; rw [h]; rfl
theorem encI_raw {l : List Nat} (h : pkA (zgs l l.length) = none) : encI l = 0 :: rawI (l.take l.length) := by unfold encI; rw [h, List.take_length]

set_option maxHeartbeats 2000000 in
theorem integers_any (l : List Va) (v : Value) (w : World) (h1 : 1 ≤ l.length) (h2 : l.length ≤ 1000) (hok : ∀ x ∈ l, x.ok) (hr : Vals w v l) :
    Calls Tryd.prog 58 #[v] w fun e w' => ∃ ao cap, e = .returned (.slice ao (encI (bitsV l)).length cap) ∧ Own w' w.heap.size (.slice ao (encI (bitsV l)).length cap) (encI (bitsV l)) ∧ Below w.heap.size w w' := by
  obtain ⟨b, off, cap, rfl, _, _, _, _⟩ := val_at hr 0 (by omega)
  have HLT := Lib.hid (bitsV_lt hok)
  obtain ⟨n, hn⟩ : ∃ n, n = l.length := ⟨_, rfl⟩
  have HN := Lib.hid hn
  have HBL : Hid ((bitsV l).length = n) := Lib.hid (by rw [bitsV_len, hn])
  have HR := Lib.hid hr
  rw [← hn] at h1 h2 ⊢
  clear hr hn hok
  go_enter Tryd.func58, Tryd.ntmps58
  go_wp2_with fail
  go_loopg [3, 4, 14] n (fun m s3 s4 s14 wr => ∃ (k : Nat) (zo : Option Addr) (zc : Nat), k + m = n ∧ s14 = .int .i64 (k : Int) ∧ s4 = .int .u64 ((pvI (bitsV l) k : Nat) : Int) ∧ s3 = .slice zo k zc ∧ Hid (OwnN wr w.heap.size (.slice zo k zc) (zgs (bitsV l) k)) ∧ Hid (Below w.heap.size w wr))
  case atStart => exact ⟨0, none, 0, by omega, rfl, rfl, rfl, Lib.hid (World.ownsRow_nil _ _ _ _), Lib.hid (Below.refl _ _)⟩
  case round =>
    obtain ⟨k, zo, zc, hk, rfl, rfl, rfl, HZ, HB⟩ := hrel
    by_cases h0 : gk = 0
    · obtain rfl : k = n := by omega
      clear hk h0
      have hnums : Nums wr (.slice zo k zc) (zgs (bitsV l) k) := by have := HZ.out.nums; unfold Nums at this; rw [zgs_len] at this; unfold Nums; rw [zgs_len]; exact this
      have HPK := pack_any (zgs (bitsV l) k) _ wr (by rw [zgs_len]; omega) (zgs_lt _ _) hnums
      have HL10 : Hid ((zgs (bitsV l) k).length = k) := Lib.hid (zgs_len _ _)
      obtain ⟨pm, hpm⟩ : ∃ pm, pm = pkO (zgs (bitsV l) k) := ⟨_, rfl⟩
      have HPM := Lib.hid hpm
      clear hpm hnums
      go_upto_region 10 with (go_at_call 56; refine HPK.mono ?_; intro e w10 h; obtain ⟨hb10, po, pc, rfl, hr10, hl10⟩ := pkO_one h; rw [← HPM.out] at hr10 hl10 ⊢; have HR10 := Lib.hid hr10; have HLL := Lib.hid (show pm.1.length ≤ 8000 by have := HL10.out; rw [this] at hl10; omega); have HB10 := Lib.hid (HB.out.trans (hb10.mono HB.out.size)); clear h hb10 hr10 hl10 HPK)
      obtain ⟨p, m⟩ := pm
      dsimp only at *
      rcases pkO_ok HPM.out with ⟨rfl, hp⟩ | ⟨rfl, hp⟩
      · have HE : Hid (encI (bitsV l) = [1] ++ p) := Lib.hid (encI_pk (by rw [HBL.out]; exact hp))
        have hO1 : Hid (Own (w10.alloc (.cells #[.int .u8 1] 5)) w10.heap.size (.slice (some ⟨w10.heap.size, 0, none⟩) 1 1) [1]) := Lib.hid (World.ownsRow_lit w10 #[.int .u8 1] 1 (Nat.le_refl _) (by decide) rfl)
        have hP1 : Hid (Rd (w10.alloc (.cells #[.int .u8 1] 5)) (.slice po p.length pc) p) := Lib.hid (RdV.alloc HR10.out.rd.v _)
        have hsum : Hid (([1] : List UInt8).length + p.length ≤ 140737488355328) := Lib.hid (by have := HLL.out; simp; omega)
        have hbs : Hid (w10.heap.size ≤ (w10.alloc (.cells #[.int .u8 1] 5)).heap.size) := Lib.hid (by simp)
        have HBa := Lib.hid (HB10.out.alloc HB10.out.size (.cells #[.int .u8 1] 5))
        have HBS := HB10.out.size
        clear hp HPM
        go_wp2_with (at_builtin; refine wpList_append_bs _ rfl (.tmp 37) (.tmp 38) rfl w10.heap.size (.slice (some ⟨w10.heap.size, 0, none⟩) 1 1) [1] rfl hO1.out (.slice po p.length pc) p rfl hP1.out hsum.out hbs.out ?_; intro ao9 cap9 w12 hg9; have HO12 := Lib.hid hg9.owns; have HB12 := Lib.hid (hg9.below hbs.out (fun j hj => (World.ownsRow.lt hO1.out j hj).1)); clear hg9)
        go_ret
        rw [HE.out]
        exact ⟨ao9, cap9, rfl, ownsRow_mono HO12.out HBS, HBa.out.trans (HB12.out.mono HBS)⟩
      · have HE : Hid (encI (bitsV l) = 0 :: rawI ((bitsV l).take k)) := Lib.hid (by rw [← HBL.out]; exact encI_raw (by rw [HBL.out]; exact hp))
        clear hp HPM HR10 HLL
        have hO1 : Hid (Own (w10.alloc (.cells #[.int .u8 0] 5)) w.heap.size (.slice (some ⟨w10.heap.size, 0, none⟩) 1 1) [0]) := Lib.hid (World.ownsRow_lit w10 #[.int .u8 0] 1 HB10.out.size (by decide) rfl)
        have HBa := Lib.hid (HB10.out.alloc HB10.out.size (.cells #[.int .u8 0] 5))
        go_wp2_with fail
        generalize w10.alloc (.cells #[.int .u8 0] 5) = w11 at *
        go_loopg [9, 43] k (fun m s9 s43 wr => ∃ (i : Nat) (cs : List UInt8) (co : Option Addr) (cc : Nat), i + m = k ∧ s43 = .int .i64 (i : Int) ∧ s9 = .slice co cs.length cc ∧ Hid (cs = 0 :: rawI ((bitsV l).take i)) ∧ Hid (Own wr w.heap.size (.slice co cs.length cc) cs) ∧ Hid (Below w.heap.size w wr))
        case atStart => exact ⟨0, [0], _, 1, by omega, rfl, rfl, Lib.hid (by rfl), hO1, HBa⟩
        case round =>
          obtain ⟨i, cs, co, cc, hi, rfl, rfl, HC, HO, HBx⟩ := hrel
          by_cases h3 : gk = 0
          · obtain rfl : i = k := by omega
            clear hi h3
            have HCE := Lib.hid (show encI (bitsV l) = cs by rw [HE.out, HC.out])
            go_wp2_with fail
            go_ret
            rw [HCE.out]
            exact ⟨co, cc, rfl, HO.out, HBx.out⟩
          · have hki : i < k := by omega
            obtain ⟨b1, off1, c1, he1, hb1, hv0, hv1, hv2⟩ := val_at (HR.out.below HBx.out) i (by rw [← HN.out]; omega)
            rw [← HN.out] at he1
            simp only [Value.slice.injEq, Option.some.injEq, Addr.mk.injEq, and_true, true_and] at he1
            obtain ⟨⟨rfl, rfl⟩, rfl⟩ := he1
            rw [← bitsV_get] at hv1
            generalize (l.getD i v0).k = kk at *
            generalize (l.getD i v0).t = tt at *
            have hyl := getD_lt HLT.out i
            have hnx := Lib.hid (rawI_next (bitsV l) i (by rw [HBL.out]; exact hki))
            have hcl : cs.length ≤ 8 * i + 1 := by rw [HC.out, List.length_cons]; have := rawI_size (bitsV l) i; omega
            generalize (bitsV l).getD i 0 = y1 at *
            go_upto_region 16 with fail
            have hbl : Below wr.heap.size wr (wr.alloc (Obj.cells #[Value.int IntKind.i64 kk, Value.int IntKind.u64 (y1 : Int), Value.string tt] 27)) := (Below.refl _ _).alloc (Nat.le_refl _) _
            have HO1 := Lib.hid ((Chg.ofBelowAny (S := fun _ => False) hbl).owns HO.out (fun _ _ h => h))
            have HB1 := Lib.hid (HBx.out.trans (hbl.mono HBx.out.size))
            have hwB : (wr.alloc (Obj.cells #[Value.int IntKind.i64 kk, Value.int IntKind.u64 (y1 : Int), Value.string tt] 27)).cell? ⟨wr.heap.size, 1, none⟩ = some (.int .u64 (y1 : Int)) := by simp [World.cell?_alloc_new]
            have hsB : wr.heap.size < (wr.alloc (Obj.cells #[Value.int IntKind.i64 kk, Value.int IntKind.u64 (y1 : Int), Value.string tt] 27)).heap.size := by simp
            generalize wr.alloc (Obj.cells #[Value.int IntKind.i64 kk, Value.int IntKind.u64 (y1 : Int), Value.string tt] 27) = wB at *
            have hTd := fun w => tailn_any y1 8 (by decide) (by decide) hyl w
            rw [beN_8] at hTd
            have hsum : Hid (cs.length + (be8 y1).length ≤ 140737488355328) := Lib.hid (by rw [be8_len]; omega)
            clear hbl HO HBx
            go_wp2_with (first
              | (go_at_call 33; refine (hTd _).mono ?_; rintro _ w11 ⟨to7, tc7, rfl, ho7, hb7⟩; have HO7 := Lib.hid ho7; have HO8 := Lib.hid ((Chg.ofBelowAny (S := fun _ => False) hb7).owns HO1.out (fun _ _ h => h)); have HB7 := Lib.hid (HB1.out.trans (hb7.mono HB1.out.size)); clear ho7 hb7 HO1 HB1)
              | (at_builtin; refine wpList_append_bs _ rfl (.tmp 47) (.tmp 50) rfl w.heap.size (.slice co cs.length cc) cs rfl HO8.out (.slice to7 (be8 y1).length tc7) (be8 y1) rfl HO7.out.rd hsum.out HB7.out.size ?_; intro ao9 cap9 w12 hg9; have HG := Lib.hid hg9; clear hg9))
            go_roundg (gk - 1)
            case measure => go_light; omega
            case rel =>
              go_light
              exact ⟨i + 1, cs ++ be8 y1, ao9, cap9, by omega, by congr 1, by rw [List.length_append], Lib.hid (by rw [hnx.out, HC.out]; rfl), Lib.hid HG.out.owns, Lib.hid (HB7.out.trans (HG.out.below HB7.out.size (fun j hj => (World.ownsRow.lt HO8.out j hj).1)))⟩
    · have hkn : k < n := by omega
      obtain ⟨b1, off1, c1, he1, hb1, hv0, hv1, hv2⟩ := val_at (HR.out.below HB.out) k (by rw [← HN.out]; omega)
      rw [← HN.out] at he1
      simp only [Value.slice.injEq, Option.some.injEq, Addr.mk.injEq, and_true, true_and] at he1
      obtain ⟨⟨rfl, rfl⟩, rfl⟩ := he1
      rw [← bitsV_get] at hv1
      generalize (l.getD k v0).k = kk at *
      generalize (l.getD k v0).t = tt at *
      have hyl := getD_lt HLT.out k
      have hpl := pvI_lt HLT.out k
      have hnx := Lib.hid (zgs_next (bitsV l) k)
      have HPN := Lib.hid (pvI_next (bitsV l) k)
      have hzz := zgAt_eq (bitsV l) k
      have hq := sub_sI ((bitsV l).getD k 0) (pvI (bitsV l) k)
      have hqok := sI_ok (((bitsV l).getD k 0 : Int) - (pvI (bitsV l) k : Int))
      have hzc := fun (w : World) => zig_any _ hqok w
      rw [← hzz] at hzc
      have hul := zgs_len (bitsV l) k
      generalize sI (((bitsV l).getD k 0 : Int) - (pvI (bitsV l) k : Int)) = q at *
      generalize zgAt (bitsV l) k = ZA at *
      generalize (bitsV l).getD k 0 = y1 at *
      generalize pvI (bitsV l) k = y0 at *
      go_upto_region 6 with fail
      have hbl : Below wr.heap.size wr (wr.alloc (Obj.cells #[Value.int IntKind.i64 kk, Value.int IntKind.u64 (y1 : Int), Value.string tt] 27)) := (Below.refl _ _).alloc (Nat.le_refl _) _
      have hO1 : Hid ((wr.alloc (Obj.cells #[Value.int IntKind.i64 kk, Value.int IntKind.u64 (y1 : Int), Value.string tt] 27)).ownsRow w.heap.size 25 1 (.slice zo k zc) k ((zgs (bitsV l) k).map uV)) := Lib.hid (by have h := HZ.out; unfold OwnN at h; rw [hul] at h; exact World.ownsRow.alloc h _)
      have HB1 := Lib.hid (HB.out.trans (hbl.mono HB.out.size))
      have hwB : (wr.alloc (Obj.cells #[Value.int IntKind.i64 kk, Value.int IntKind.u64 (y1 : Int), Value.string tt] 27)).cell? ⟨wr.heap.size, 1, none⟩ = some (.int .u64 (y1 : Int)) := by simp [World.cell?_alloc_new]
      have hsB : wr.heap.size < (wr.alloc (Obj.cells #[Value.int IntKind.i64 kk, Value.int IntKind.u64 (y1 : Int), Value.string tt] 27)).heap.size := by simp
      generalize wr.alloc (Obj.cells #[Value.int IntKind.i64 kk, Value.int IntKind.u64 (y1 : Int), Value.string tt] 27) = wB at *
      have hZlt : ∀ j, (Value.slice zo k zc).ownBlock = some j → j < wr.heap.size := fun j hj => (World.ownsRow.lt (show wr.ownsRow w.heap.size 25 1 (.slice zo k zc) (zgs (bitsV l) k).length ((zgs (bitsV l) k).map uV) from by have h := HZ.out; unfold OwnN at h; exact h) j hj).2
      have h63 : Hid (k + 1 ≤ maxLen) := Lib.hid (by unfold maxLen; omega)
      have hby : Hid ((k + 1) * 8 ≤ 140737488355328) := Lib.hid (by omega)
      have hba : Hid (∀ o, w.heap.size ≤ (wB.alloc o).heap.size) := Lib.hid (fun o => by have h6 := HB1.out.size; have e2 : (wB.alloc o).heap.size = wB.heap.size + 1 := (by simp); omega)
      clear hbl hul HZ HB hzz hqok
      go_upto_region 7 with (first
        | (go_at_call 55; refine (hzc _).mono ?_; rintro _ _ ⟨rfl, rfl⟩)
        | (at_builtin; refine wpList_append_rd _ rfl (.tmp 18) (.tmp 25) 101 rfl w.heap.size 25 (.int .u64 0) 1 8 Tryd.underlying101 infoU64 rfl (by decide) (.slice zo k zc) k ((zgs (bitsV l) k).map uV) rfl (World.ownsRow.alloc hO1.out _) (.slice (some ⟨wB.heap.size, 0, none⟩) 1 1) 1 [uV ZA] rfl (RdV.one wB _ 25) (one_one _ rfl) h63.out hby.out (hba.out _) ?_; intro ao6 cap6 w6 hg6; have HG := Lib.hid hg6.ofAlloc; clear hg6))
      have hw6 : w6.cell? ⟨wr.heap.size, 1, none⟩ = some (.int .u64 (y1 : Int)) := (HG.out.chg.cell (p := ⟨wr.heap.size, 1, none⟩) hsB (fun h => Nat.lt_irrefl _ (hZlt _ h))).trans hwB
      go_wp2_with fail
      go_roundg (gk - 1)
      case measure => go_light; omega
      case rel =>
        go_light
        refine ⟨k + 1, ao6, cap6, by omega, by congr 1, by rw [HPN.out], rfl, Lib.hid ?_, Lib.hid (HB1.out.trans (HG.out.below HB1.out.size (fun j hj => (World.ownsRow.lt hO1.out j hj).1)))⟩
        unfold OwnN
        rw [zgs_len, hnx.out, List.map_append]
        exact HG.out.owns
end Go.Proofs.YthcgalpabjjkoaaDoor

/- XStr07: column.strings. -/
namespace Go.Proofs.YthcgalpabjjkoaaDoor
open Go.RowKit
set_option linter.unusedVariables false

/-- What strings gives: bytes and an error's number. -/
def strP (l : List Va) : List UInt8 × Nat := if 4194304 < (txt (textsV l)).length then ([], 4) else (encS4 (txt (textsV l)), 0)
theorem textsV_len (l : List Va) : (textsV l).length = l.length := by simp [textsV]
theorem textsV_get (l : List Va) (i : Nat) (h : i < l.length) : (textsV l)[i]'(by rw [textsV_len]; exact h) = (l.getD i v0).t := by
  rw [getD_get l i v0 h]
  simp [textsV]
theorem txt_at (l : List Va) (i : Nat) (h : i < l.length) : txt ((textsV l).take (i + 1)) = txt ((textsV l).take i) ++ (short (l.getD i v0).t.size ++ (l.getD i v0).t.toList) := by
  rw [txt_next (textsV l) i (by rw [textsV_len]; exact h), textsV_get l i h]
theorem txt_take_le (l : List Va) (hl : ∀ x ∈ l, x.t.size ≤ 65536) (i : Nat) : (txt ((textsV l).take i)).length ≤ 65546 * i := by
  have h1 := txt_le ((textsV l).take i) (fun t ht => by
    obtain ⟨x, hx, rfl⟩ := List.mem_map.1 (List.mem_of_mem_take ht)
    exact hl x hx)
  have h2 : ((textsV l).take i).length ≤ i := List.length_take_le _ _
  omega
theorem encS4_pk {b P : List UInt8} (hp : P = pk b 0 0) (h : P.length < b.length) : encS4 b = [1] ++ P := by subst hp; unfold encS4; rw [if_pos h]; rfl
theorem encS4_raw {b P : List UInt8} (hp : P = pk b 0 0) (h : ¬ P.length < b.length) : encS4 b = [0] ++ b := by subst hp; unfold encS4; rw [if_neg h]; rfl

set_option maxHeartbeats 2000000 in
theorem strings_any (l : List Va) (v : Value) (w : World) (h2 : l.length ≤ 1000) (hT : ∀ x ∈ l, x.t.size ≤ 65536) (hr : Vals w v l) :
    Calls Tryd.prog 60 #[v] w fun e w' => Below w.heap.size w w' ∧ ∃ ao cap, e = .returned (.tuple #[.slice ao (strP l).1.length cap, .int .i64 ((strP l).2 : Int)]) ∧ Own w' w.heap.size (.slice ao (strP l).1.length cap) (strP l).1 := by
  obtain ⟨ao0, cap0, rfl, hnc, hcm⟩ := RdV.shape hr
  unfold maxLen at hcm
  obtain ⟨n, hn⟩ : ∃ n, n = l.length := ⟨_, rfl⟩
  have HN := Lib.hid hn
  have HT := Lib.hid hT
  have HR := Lib.hid hr
  rw [← hn] at h2 hnc ⊢
  clear hr hn hT
  go_enter Tryd.func60, Tryd.ntmps60
  go_wp2_with fail
  go_loopg [4, 10] n (fun m s4 s10 wr => ∃ (i : Nat) (cs : List UInt8) (co : Option Addr) (cc : Nat), i + m = n ∧ s10 = .int .i64 (i : Int) ∧ s4 = .slice co cs.length cc ∧ Hid (cs = txt ((textsV l).take i)) ∧ Hid (Own wr w.heap.size (.slice co cs.length cc) cs) ∧ Hid (Below w.heap.size w wr))
  case atStart => exact ⟨0, [], none, 0, by omega, rfl, rfl, Lib.hid rfl, Lib.hid (Own.nil _ _), Lib.hid (Below.refl _ _)⟩
  case round =>
    obtain ⟨i, cs, co, cc, hi, rfl, rfl, HC, HO, HB⟩ := hrel
    have hcl : cs.length ≤ 65546 * i := by rw [HC.out]; exact txt_take_le l HT.out i
    by_cases h3 : gk = 0
    · obtain rfl : i = n := by omega
      clear hi h3
      have HCF : Hid (cs = txt (textsV l)) := Lib.hid (by rw [HC.out, List.take_of_length_le (by rw [textsV_len, ← HN.out]; exact Nat.le_refl _)])
      by_cases hbig : 4194304 < cs.length
      · have HP : Hid (strP l = ([], 4)) := Lib.hid (by unfold strP; rw [← HCF.out, if_pos hbig])
        go_wp2_with fail
        go_ret2
        rw [HP.out]
        exact ⟨HB.out, none, 0, rfl, Own.nil _ _⟩
      · have hsm : cs.length ≤ 4194304 := by omega
        have HP : Hid (strP l = (encS4 cs, 0)) := Lib.hid (by unfold strP; rw [← HCF.out, if_neg hbig])
        have hK := lzpack_any cs _ wr hsm HO.out.rd
        obtain ⟨P, hP⟩ : ∃ P, P = pk cs 0 0 := ⟨_, rfl⟩
        have hPl : P.length ≤ 8388608 := by have := pk_len cs 0 0 (Nat.le_refl _) (Nat.zero_le _); rw [hP]; omega
        rw [← hP] at hK
        have HPP := Lib.hid hP
        clear hP
        go_upto_region 11 with (go_at_call 80; refine hK.mono ?_; rintro e w7 ⟨ao7, cap7, rfl, ho7, hb7⟩; have HO7 := Lib.hid ho7; have HOC := Lib.hid (show Own w7 w.heap.size (.slice co cs.length cc) cs from (Chg.ofBelowAny (S := fun _ => False) hb7).owns HO.out (fun _ _ h => h)); have HB7 := Lib.hid (HB.out.trans (hb7.mono HB.out.size)); clear ho7 hb7 hK)
        have HBS := HB7.out.size
        by_cases hlt : P.length < cs.length
        · have HE := Lib.hid (encS4_pk HPP.out hlt)
          have hO1 : Hid (Own (w7.alloc (.cells #[.int .u8 1] 5)) w7.heap.size (.slice (some ⟨w7.heap.size, 0, none⟩) 1 1) [1]) := Lib.hid (World.ownsRow_lit w7 #[.int .u8 1] 1 (Nat.le_refl _) (by decide) rfl)
          have hP1 : Hid (Rd (w7.alloc (.cells #[.int .u8 1] 5)) (.slice ao7 P.length cap7) P) := Lib.hid (RdV.alloc HO7.out.rd.v _)
          have hsum : Hid (([1] : List UInt8).length + P.length ≤ 140737488355328) := Lib.hid (by simp; omega)
          have hbs : Hid (w7.heap.size ≤ (w7.alloc (.cells #[.int .u8 1] 5)).heap.size) := Lib.hid (by simp)
          have HBa := Lib.hid (HB7.out.alloc HB7.out.size (.cells #[.int .u8 1] 5))
          go_wp2_with (at_builtin; refine wpList_append_bs _ rfl (.tmp 36) (.tmp 37) rfl w7.heap.size (.slice (some ⟨w7.heap.size, 0, none⟩) 1 1) [1] rfl hO1.out (.slice ao7 P.length cap7) P rfl hP1.out hsum.out hbs.out ?_; intro ao9 cap9 w12 hg9; have HO12 := Lib.hid hg9.owns; have HB12 := Lib.hid (hg9.below hbs.out (fun j hj => (World.ownsRow.lt hO1.out j hj).1)); clear hg9)
          go_ret2
          rw [HP.out, HE.out]
          exact ⟨HBa.out.trans (HB12.out.mono HBS), ao9, cap9, rfl, ownsRow_mono HO12.out HBS⟩
        · have HE := Lib.hid (encS4_raw HPP.out hlt)
          have hO1 : Hid (Own (w7.alloc (.cells #[.int .u8 0] 5)) w7.heap.size (.slice (some ⟨w7.heap.size, 0, none⟩) 1 1) [0]) := Lib.hid (World.ownsRow_lit w7 #[.int .u8 0] 1 (Nat.le_refl _) (by decide) rfl)
          have hP1 : Hid (Rd (w7.alloc (.cells #[.int .u8 0] 5)) (.slice co cs.length cc) cs) := Lib.hid (RdV.alloc HOC.out.rd.v _)
          have hsum : Hid (([0] : List UInt8).length + cs.length ≤ 140737488355328) := Lib.hid (by simp; omega)
          have hbs : Hid (w7.heap.size ≤ (w7.alloc (.cells #[.int .u8 0] 5)).heap.size) := Lib.hid (by simp)
          have HBa := Lib.hid (HB7.out.alloc HB7.out.size (.cells #[.int .u8 0] 5))
          go_wp2_with (at_builtin; refine wpList_append_bs _ rfl (.tmp 39) (.tmp 40) rfl w7.heap.size (.slice (some ⟨w7.heap.size, 0, none⟩) 1 1) [0] rfl hO1.out (.slice co cs.length cc) cs rfl hP1.out hsum.out hbs.out ?_; intro ao9 cap9 w12 hg9; have HO12 := Lib.hid hg9.owns; have HB12 := Lib.hid (hg9.below hbs.out (fun j hj => (World.ownsRow.lt hO1.out j hj).1)); clear hg9)
          go_ret2
          rw [HP.out, HE.out]
          exact ⟨HBa.out.trans (HB12.out.mono HBS), ao9, cap9, rfl, ownsRow_mono HO12.out HBS⟩
    · have hin : i < n := by omega
      obtain ⟨b1, off1, c1, he1, hb1, hv0, hv1, hv2⟩ := val_at (HR.out.below HB.out) i (by rw [← HN.out]; omega)
      rw [← HN.out] at he1
      simp only [Value.slice.injEq, true_and] at he1
      obtain ⟨rfl, rfl⟩ := he1
      have htl : (l.getD i v0).t.size ≤ 65536 := HT.out _ (getD_mem l i v0 (by rw [← HN.out]; exact hin))
      have hnx := Lib.hid (txt_at l i (by rw [← HN.out]; exact hin))
      generalize (l.getD i v0).k = kk at *
      generalize (l.getD i v0).t = tt at *
      generalize (l.getD i v0).b = y1 at *
      go_upto_region 5 with fail
      have hbl : Below wr.heap.size wr (wr.alloc (Obj.cells #[Value.int IntKind.i64 kk, Value.int IntKind.u64 (y1 : Int), Value.string tt] 27)) := (Below.refl _ _).alloc (Nat.le_refl _) _
      have HO1 := Lib.hid ((Chg.ofBelowAny (S := fun _ => False) hbl).owns HO.out (fun _ _ h => h))
      have HB1 := Lib.hid (HB.out.trans (hbl.mono HB.out.size))
      have hwB : (wr.alloc (Obj.cells #[Value.int IntKind.i64 kk, Value.int IntKind.u64 (y1 : Int), Value.string tt] 27)).cell? ⟨wr.heap.size, 2, none⟩ = some (.string tt) := by simp [World.cell?_alloc_new]
      have hsB : wr.heap.size < (wr.alloc (Obj.cells #[Value.int IntKind.i64 kk, Value.int IntKind.u64 (y1 : Int), Value.string tt] 27)).heap.size := by simp
      have hZlt : ∀ j, (Value.slice co cs.length cc).ownBlock = some j → j < wr.heap.size := fun j hj => (World.ownsRow.lt HO.out j hj).2
      generalize wr.alloc (Obj.cells #[Value.int IntKind.i64 kk, Value.int IntKind.u64 (y1 : Int), Value.string tt] 27) = wB at *
      have hsh := fun w => short_any tt.size (by omega) w
      have hsl : (short tt.size).length ≤ 10 := short_le _ (by omega)
      have hU : IntKind.u64.wrap (tt.size : Int) = (tt.size : Int) := IntWalk.u64_in _ (by omega)
      obtain ⟨sh, hshe⟩ : ∃ sh, sh = short tt.size := ⟨_, rfl⟩
      rw [← hshe] at hsh hsl
      have HSH := Lib.hid hshe
      have hsum : Hid (cs.length + sh.length ≤ 140737488355328) := Lib.hid (by omega)
      obtain ⟨c2, hc2⟩ : ∃ c2, c2 = cs ++ sh := ⟨_, rfl⟩
      have HC2 := Lib.hid hc2
      have hsum2 : Hid (c2.length + tt.size ≤ 140737488355328) := Lib.hid (by rw [hc2, List.length_append]; omega)
      clear hc2
      clear hbl HO HB hshe
      go_upto_region 6 with (first
        | (go_at_call 79; refine (hsh _).mono ?_; rintro _ w11 ⟨to7, tc7, rfl, ho7, hb7⟩; have HO7 := Lib.hid ho7; have HO8 := Lib.hid ((Chg.ofBelowAny (S := fun _ => False) hb7).owns HO1.out (fun _ _ h => h)); have HB7 := Lib.hid (HB1.out.trans (hb7.mono HB1.out.size)); have hwC := (hb7.cell (p := ⟨wr.heap.size, 2, none⟩) hsB).trans hwB; have hsC := Nat.lt_of_lt_of_le hsB hb7.size; clear ho7 hb7 HO1 HB1 hwB)
        | (at_builtin; refine wpList_append_bs _ rfl (.tmp 14) (.tmp 19) rfl w.heap.size (.slice co cs.length cc) cs rfl HO8.out (.slice to7 sh.length tc7) sh rfl HO7.out.rd hsum.out HB7.out.size ?_; intro ao9 cap9 w12 hg9; rw [← HC2.out] at hg9 ⊢; have HG := Lib.hid hg9; clear hg9))
      have hw12 : w12.cell? ⟨wr.heap.size, 2, none⟩ = some (.string tt) := (HG.out.chg.cell (p := ⟨wr.heap.size, 2, none⟩) hsC (fun h => Nat.lt_irrefl _ (hZlt _ h))).trans hwC
      have HB12 := Lib.hid (HB7.out.trans (HG.out.below HB7.out.size (fun j hj => (World.ownsRow.lt HO8.out j hj).1)))
      have HO12 : Hid (Own w12 w.heap.size (.slice ao9 c2.length cap9) c2) := Lib.hid HG.out.owns
      clear HG hwC HO8 HO7 HB7
      go_wp2_with (at_builtin; refine wpList_append_str _ rfl (.tmp 21) (.tmp 23) rfl w.heap.size (.slice ao9 c2.length cap9) c2 rfl HO12.out tt rfl hsum2.out HB12.out.size ?_; intro ao13 cap13 w13 hg13; have HG := Lib.hid hg13; clear hg13)
      go_roundg (gk - 1)
      case measure => go_light; omega
      case rel =>
        go_light
        exact ⟨i + 1, c2 ++ tt.toList, ao13, cap13, by omega, by congr 1, by rw [List.length_append], Lib.hid (by rw [hnx.out, HC2.out, HC.out, HSH.out, List.append_assoc]), Lib.hid HG.out.owns, Lib.hid (HB12.out.trans (HG.out.below HB12.out.size (fun j hj => (World.ownsRow.lt HO12.out j hj).1)))⟩
end Go.Proofs.YthcgalpabjjkoaaDoor

/- XEnc07: column.Encode. -/
namespace Go.Proofs.YthcgalpabjjkoaaDoor
open Go.RowKit
set_option linter.unusedVariables false

def alkV (l : List Va) (k : Nat) : Bool := (l.take k).all fun v => decide (v.k = (l.getD 0 v0).k)
theorem alkV_next (l : List Va) (k : Nat) (h : k < l.length) : alkV l (k + 1) = (alkV l k && decide ((l.getD k v0).k = (l.getD 0 v0).k)) := by
  unfold alkV
  rw [List.take_succ_eq_append_getElem h, List.all_append, getD_get l k v0 h]
  simp
theorem alkV_all {l : List Va} {k : Nat} (h : k = l.length) : alkV l k = (l.all fun v => decide (v.k = (l.getD 0 v0).k)) := by subst h; unfold alkV; rw [List.take_length]
def frmV (l : List Va) (k : Nat) : Prop := (l.take k).all formV = true
theorem frmV_zero (l : List Va) : frmV l 0 := rfl
theorem frmV_next {l : List Va} {k : Nat} (h : k < l.length) (hf : frmV l k) (hk : formV (l.getD k v0) = true) : frmV l (k + 1) := by
  unfold frmV at hf ⊢
  rw [getD_get l k v0 h] at hk
  rw [List.take_succ_eq_append_getElem h, List.all_append, hf]
  simp [hk]
theorem frmV_all {l : List Va} {k : Nat} (h : k = l.length) (hf : frmV l k) : l.all formV = true := by subst h; unfold frmV at hf; rwa [List.take_length] at hf
theorem form_bad {l : List Va} {k : Nat} (h : k < l.length) (hk : formV (l.getD k v0) = false) : l.all formV = false := by
  rw [getD_get l k v0 h] at hk
  cases hh : l.all formV with
  | false => rfl
  | true => rw [List.all_eq_true.1 hh _ (List.getElem_mem h)] at hk; cases hk
def boT (l : List Nat) (i : Nat) : List Bool := (l.take i).flatMap fun b => bitsOf b 1
theorem boT_next (l : List Nat) (i : Nat) (h : i < l.length) : boT l (i + 1) = boT l i ++ bitsOf (l.getD i 0) 1 := by
  unfold boT
  rw [List.take_succ_eq_append_getElem h, List.flatMap_append, getD_get l i 0 h]
  simp
theorem boT_len (l : List Nat) (i : Nat) : (boT l i).length ≤ i := by
  have key : ∀ m : List Nat, (m.flatMap fun b => bitsOf b 1).length = m.length := by
    intro m
    induction m with
    | nil => rfl
    | cons y r ih => rw [List.flatMap_cons, List.length_append, ih, length_bitsOf, List.length_cons]; omega
  unfold boT
  rw [key]
  exact List.length_take_le _ _
theorem encBo_all {l : List Nat} {k : Nat} (h : k = l.length) : encBo l = pack8 (boT l k) := by subst h; unfold encBo boT; rw [List.take_length]

set_option maxHeartbeats 2000000 in
set_option maxRecDepth 100000 in
theorem encodeC_any (l : List Va) (v : Value) (w : World) (hok : ∀ x ∈ l, x.ok) (ht : Tab w) (hr : Vals w v l) :
    Calls Tryd.prog 37 #[v] w fun e w' => CeEnd l w e w' := by
  obtain ⟨ao0, cap0, rfl, hnc, hcm⟩ := RdV.shape hr
  unfold maxLen at hcm
  by_cases hlen : l.length = 0 ∨ 1000 < l.length
  · have HE := Lib.hid (encC_len hlen)
    go_enter Tryd.func37, Tryd.ntmps37
    rcases hlen with h | h
    · go_wp2_with fail
      go_ret2
      unfold CeEnd
      rw [HE.out]
      exact ⟨Below.refl _ _, none, 0, rfl, Own.nil _ _⟩
    · have hz : ((l.length : Int) == 0) = false := decide_eq_false (by omega)
      have hz2 : (1000 : Int) < (l.length : Int) := by omega
      go_wp2_with fail
      go_ret2
      unfold CeEnd
      rw [HE.out]
      exact ⟨Below.refl _ _, none, 0, rfl, Own.nil _ _⟩
  · obtain ⟨n, hn⟩ : ∃ n, n = l.length := ⟨_, rfl⟩
    have HN := Lib.hid hn
    have h1 : 1 ≤ n := by omega
    have h2 : n ≤ 1000 := by omega
    have HLEN := Lib.hid hlen
    have HR := Lib.hid hr
    have HOK := Lib.hid hok
    have HTB := Lib.hid ht
    have HBL : Hid ((bitsV l).length = n) := Lib.hid (by rw [bitsV_len, hn])
    rw [← hn] at hnc ⊢
    clear hr hn hok hlen ht
    have hz : ((n : Int) == 0) = false := decide_eq_false (by omega)
    have hz2 : ¬ (1000 : Int) < (n : Int) := by omega
    go_enter Tryd.func37, Tryd.ntmps37
    go_wp2_with fail
    go_loopg [4, 20] n (fun m s4 s20 wr => ∃ (k : Nat), k + m = n ∧ s20 = .int .i64 (k : Int) ∧ s4 = .bool (alkV l k) ∧ Hid (frmV l k) ∧ Hid (Below w.heap.size w wr))
    case atStart => exact ⟨0, by omega, rfl, rfl, Lib.hid (frmV_zero l), Lib.hid (Below.refl _ _)⟩
    case round =>
      obtain ⟨k, hk, rfl, rfl, HF, HB⟩ := hrel
      by_cases h0 : gk = 0
      · obtain rfl : k = n := by omega
        clear hk h0 hz hz2
        have HFA := Lib.hid (frmV_all HN.out HF.out)
        have hall := alkV_all HN.out
        cases hA : alkV l k with
        | false =>
          rw [hA] at hall
          have HE := Lib.hid (encC_type (by have := HLEN.out; exact this) HFA.out hall.symm)
          clear hall hA
          go_wp2_with fail
          go_ret2
          unfold CeEnd
          rw [HE.out]
          exact ⟨HB.out, none, 0, rfl, Own.nil _ _⟩
        | true =>
          rw [hA] at hall
          have HE := Lib.hid (encC_ok HLEN.out HFA.out hall.symm)
          have hkind := formV_kind (List.all_eq_true.1 HFA.out _ (getD_mem l 0 v0 (by rw [← HN.out]; omega)))
          have HT4 : Hid ((l.getD 0 v0).k = 4 → ∀ x ∈ l, x.t.size ≤ 65536) := Lib.hid (fun h4 x hx => by
            have hf := List.all_eq_true.1 HFA.out x hx
            have hkx := of_decide_eq_true (List.all_eq_true.1 hall.symm x hx)
            rw [formV_4 (by rw [hkx, h4]), Bool.and_eq_true, decide_eq_true_eq, decide_eq_true_eq] at hf
            exact hf.2)
          clear hall hA
          have HRW := Lib.hid (HR.out.below HB.out)
          obtain ⟨b1, off1, c1, he1, hb1, hv0, hv1, hv2⟩ := val_at HRW.out 0 (by rw [← HN.out]; omega)
          rw [← HN.out] at he1
          simp only [Value.slice.injEq, true_and] at he1
          obtain ⟨rfl, rfl⟩ := he1
          simp only [Nat.zero_mul, Nat.add_zero] at hv0
          clear hv1 hv2
          have HTW := Lib.hid (HTB.out.below HB.out)
          have HBS := HB.out.size
          generalize hq : (l.getD 0 v0).k = q at *
          have HQ := Lib.hid hq
          clear hq
          have hl1 : Hid (1 ≤ l.length) := Lib.hid (by rw [← HN.out]; exact h1)
          have hl2 : Hid (l.length ≤ 1000) := Lib.hid (by rw [← HN.out]; exact h2)
          rcases hkind with rfl | rfl | rfl | rfl
          · have hK := floats_any l (.slice (some ⟨b1, off1, none⟩) k cap0) wr hl1.out hl2.out HOK.out HTW.out (by rw [HN.out]; exact HRW.out)
            rw [if_pos rfl] at HE
            go_wp2_with (go_at_call 57; refine hK.mono ?_; rintro _ w5 ⟨ao5, cap5, rfl, ho5, hb5⟩; have HO5 := Lib.hid ho5; have HB5 := Lib.hid hb5; clear ho5 hb5 hK)
            go_ret2
            unfold CeEnd
            rw [HE.out]
            exact ⟨HB.out.trans (HB5.out.mono HBS), ao5, cap5, rfl, HO5.out.mono HBS⟩
          · have hK := integers_any l (.slice (some ⟨b1, off1, none⟩) k cap0) wr hl1.out hl2.out HOK.out (by rw [HN.out]; exact HRW.out)
            rw [if_neg (by decide), if_pos rfl] at HE
            go_wp2_with (go_at_call 58; refine hK.mono ?_; rintro _ w5 ⟨ao5, cap5, rfl, ho5, hb5⟩; have HO5 := Lib.hid ho5; have HB5 := Lib.hid hb5; clear ho5 hb5 hK)
            go_ret2
            unfold CeEnd
            rw [HE.out]
            exact ⟨HB.out.trans (HB5.out.mono HBS), ao5, cap5, rfl, HO5.out.mono HBS⟩
          · rw [if_neg (by decide), if_neg (by decide), if_pos rfl] at HE
            obtain ⟨wA, hwA⟩ : ∃ wA, wA = wr.alloc newWr := ⟨_, rfl⟩
            have hW := newWr_wr wr
            rw [← hwA] at hW
            have hbA : Below wr.heap.size wr wA := by rw [hwA]; exact (Below.refl _ _).alloc (Nat.le_refl _) _
            have HW0 := Lib.hid hW
            have HBA := Lib.hid hbA
            have HWA := Lib.hid hwA
            clear hW hbA hwA
            go_wp2_with (go_at_call 52; refine (newWriter_any _).mono ?_; rintro _ _ ⟨rfl, rfl⟩; rw [← HWA.out])
            generalize wr = wo at *
            go_loopg [57] k (fun m s57 wr => ∃ (i : Nat) (sv : Value), i + m = k ∧ s57 = .int .i64 (i : Int) ∧ Hid (Wr wr wo.heap.size sv (boT (bitsV l) i)) ∧ Hid (Below wo.heap.size wo wr))
            case atStart => exact ⟨0, _, by omega, rfl, HW0, HBA⟩
            case round =>
              obtain ⟨i, sv, hi, rfl, HW, HBx⟩ := hrel
              by_cases h3 : gk = 0
              · obtain rfl : i = k := by omega
                clear hi h3
                have hlen := boT_len (bitsV l) i
                have hBy := bytes_any wo.heap.size sv (boT (bitsV l) i) wr (by omega) HW.out
                have HEB := Lib.hid (encBo_all (l := bitsV l) HBL.out.symm)
                rw [← HEB.out] at hBy
                go_wp2_with (go_at_call 59; refine hBy.mono ?_; rintro _ w3 ⟨ao3, cap3, rfl, ho3, hb3⟩; have HO3 := Lib.hid ho3; have HB3 := Lib.hid hb3; clear ho3 hb3 hBy)
                go_ret2
                unfold CeEnd
                rw [HE.out]
                exact ⟨HB.out.trans ((HBx.out.trans (HB3.out.mono HBx.out.size)).mono HBS), ao3, cap3, rfl, HO3.out.mono (Nat.le_trans HBS HBx.out.size)⟩
              · have hik : i < k := by omega
                obtain ⟨b2, off2, c2, he2, hb2, hw0, hw1, hw2⟩ := val_at (HRW.out.below HBx.out) i (by rw [← HN.out]; exact hik)
                rw [← HN.out] at he2
                simp only [Value.slice.injEq, Option.some.injEq, Addr.mk.injEq, and_true, true_and] at he2
                obtain ⟨⟨rfl, rfl⟩, rfl⟩ := he2
                rw [← bitsV_get] at hw1
                have hyl := getD_lt (bitsV_lt HOK.out) i
                have hnx := Lib.hid (boT_next (bitsV l) i (by rw [HBL.out]; exact hik))
                have hlen := boT_len (bitsV l) i
                generalize (l.getD i v0).k = kk at *
                generalize (l.getD i v0).t = tt at *
                generalize (bitsV l).getD i 0 = y1 at *
                go_upto_region 23 with fail
                have hbl : Below wr.heap.size wr (wr.alloc (Obj.cells #[Value.int IntKind.i64 kk, Value.int IntKind.u64 (y1 : Int), Value.string tt] 27)) := (Below.refl _ _).alloc (Nat.le_refl _) _
                have HW1 := Lib.hid (HW.out.below hbl)
                have HB1 := Lib.hid (HBx.out.trans (hbl.mono HBx.out.size))
                have hwB : (wr.alloc (Obj.cells #[Value.int IntKind.i64 kk, Value.int IntKind.u64 (y1 : Int), Value.string tt] 27)).cell? ⟨wr.heap.size, 1, none⟩ = some (.int .u64 (y1 : Int)) := by simp [World.cell?_alloc_new]
                have hsB : wr.heap.size < (wr.alloc (Obj.cells #[Value.int IntKind.i64 kk, Value.int IntKind.u64 (y1 : Int), Value.string tt] 27)).heap.size := by simp
                generalize wr.alloc (Obj.cells #[Value.int IntKind.i64 kk, Value.int IntKind.u64 (y1 : Int), Value.string tt] 27) = wB at *
                have HP := put_any wo.heap.size y1 1 (by decide) (by decide) sv (boT (bitsV l) i) wB hyl (by omega) HW1.out
                clear hbl HW HBx
                go_wp2_with (go_at_call 53; refine HP.mono ?_; rintro _ w3 ⟨rfl, sv3, hw3, hs3⟩; have HW3 := Lib.hid hw3; have HB3 := Lib.hid (HB1.out.trans (hs3.below HW1.out)); clear hw3 hs3 HP)
                go_roundg (gk - 1)
                case measure => go_light; omega
                case rel =>
                  go_light
                  exact ⟨i + 1, sv3, by omega, by congr 1, Lib.hid (by rw [hnx.out]; exact HW3.out), HB3⟩
          · rw [if_neg (by decide), if_neg (by decide), if_neg (by decide)] at HE
            have hK := strings_any l (.slice (some ⟨b1, off1, none⟩) k cap0) wr hl2.out (HT4.out rfl) (by rw [HN.out]; exact HRW.out)
            have HEP : Hid (encC l = strP l) := Lib.hid (by rw [HE.out]; unfold strP; rfl)
            go_wp2_with (go_at_call 60; refine hK.mono ?_; rintro _ w5 ⟨hb5, ao5, cap5, rfl, ho5⟩; have HO5 := Lib.hid ho5; have HB5 := Lib.hid hb5; clear ho5 hb5 hK)
            go_ret2
            unfold CeEnd
            rw [HEP.out]
            exact ⟨HB.out.trans (HB5.out.mono HBS), ao5, cap5, rfl, HO5.out.mono HBS⟩
      · have hkn : k < n := by omega
        clear hz hz2
        obtain ⟨b1, off1, c1, he1, hb1, hv0, hv1, hv2⟩ := val_at (HR.out.below HB.out) k (by rw [← HN.out]; omega)
        obtain ⟨b3, off3, c3, he3, hb3, hz0, _, _⟩ := val_at (HR.out.below HB.out) 0 (by rw [← HN.out]; omega)
        rw [← HN.out] at he1 he3
        simp only [Value.slice.injEq, true_and] at he1
        obtain ⟨rfl, rfl⟩ := he1
        simp only [Value.slice.injEq, Option.some.injEq, Addr.mk.injEq, and_true, true_and] at he3
        obtain ⟨⟨rfl, rfl⟩, rfl⟩ := he3
        simp only [Nat.zero_mul, Nat.add_zero] at hz0
        have hF := formed_any (l.getD k v0) (HOK.out _ (getD_mem l k v0 (by rw [← HN.out]; exact hkn))).2
        have hnx := Lib.hid (alkV_next l k (by rw [← HN.out]; exact hkn))
        have HKL : Hid (k < l.length) := Lib.hid (by rw [← HN.out]; exact hkn)
        obtain ⟨fm, hfm⟩ : ∃ fm, fm = formV (l.getD k v0) := ⟨_, rfl⟩
        rw [← hfm] at hF
        have HFM := Lib.hid hfm
        clear hfm
        generalize (l.getD k v0).k = kk at *
        generalize (l.getD k v0).t = tt at *
        generalize (l.getD k v0).b = y1 at *
        generalize (l.getD 0 v0).k = k0 at *
        go_upto_region 7 with fail
        have hbl : Below wr.heap.size wr (wr.alloc (Obj.cells #[Value.int IntKind.i64 kk, Value.int IntKind.u64 (y1 : Int), Value.string tt] 27)) := (Below.refl _ _).alloc (Nat.le_refl _) _
        have HB1 := Lib.hid (HB.out.trans (hbl.mono HB.out.size))
        have hw0 : (wr.alloc (Obj.cells #[Value.int IntKind.i64 kk, Value.int IntKind.u64 (y1 : Int), Value.string tt] 27)).cell? ⟨wr.heap.size, 0, none⟩ = some (.int .i64 kk) := by simp [World.cell?_alloc_new]
        have hw1 : (wr.alloc (Obj.cells #[Value.int IntKind.i64 kk, Value.int IntKind.u64 (y1 : Int), Value.string tt] 27)).cell? ⟨wr.heap.size, 1, none⟩ = some (.int .u64 (y1 : Int)) := by simp [World.cell?_alloc_new]
        have hw2 : (wr.alloc (Obj.cells #[Value.int IntKind.i64 kk, Value.int IntKind.u64 (y1 : Int), Value.string tt] 27)).cell? ⟨wr.heap.size, 2, none⟩ = some (.string tt) := by simp [World.cell?_alloc_new]
        have hsB : wr.heap.size < (wr.alloc (Obj.cells #[Value.int IntKind.i64 kk, Value.int IntKind.u64 (y1 : Int), Value.string tt] 27)).heap.size := by simp
        have hz1 : (wr.alloc (Obj.cells #[Value.int IntKind.i64 kk, Value.int IntKind.u64 (y1 : Int), Value.string tt] 27)).cell? ⟨b1, off1, none⟩ = some (.int .i64 k0) := (hbl.cell (p := ⟨b1, off1, none⟩) hb3).trans hz0
        have hbB : b1 < (wr.alloc (Obj.cells #[Value.int IntKind.i64 kk, Value.int IntKind.u64 (y1 : Int), Value.string tt] 27)).heap.size := Nat.lt_of_lt_of_le hb3 hbl.size
        generalize wr.alloc (Obj.cells #[Value.int IntKind.i64 kk, Value.int IntKind.u64 (y1 : Int), Value.string tt] 27) = wB at *
        clear hbl hz0 hb3 hb1 hv0 hv1 hv2
        cases fm with
        | false =>
          have HE := Lib.hid (encC_form (form_bad HKL.out HFM.out.symm))
          go_upto_region 8 with (go_at_call 32; refine (hF _).mono ?_; rintro _ w5 ⟨rfl, hb5⟩; have HB5 := Lib.hid (HB1.out.trans (hb5.mono HB1.out.size)); have hx0 := (hb5.cell (p := ⟨wr.heap.size, 0, none⟩) hsB).trans hw0; have hx3 := (hb5.cell (p := ⟨b1, off1, none⟩) hbB).trans hz1; clear hb5 hF hw0 hw1 hw2 hz1)
          clear hx0 hx3
          go_wp2_with fail
          go_ret2
          unfold CeEnd
          rw [HE.out]
          exact ⟨HB5.out, none, 0, rfl, Own.nil _ _⟩
        | true =>
          have HF2 := Lib.hid (frmV_next HKL.out HF.out HFM.out.symm)
          go_upto_region 8 with (go_at_call 32; refine (hF _).mono ?_; rintro _ w5 ⟨rfl, hb5⟩; have HB5 := Lib.hid (HB1.out.trans (hb5.mono HB1.out.size)); have hx0 := (hb5.cell (p := ⟨wr.heap.size, 0, none⟩) hsB).trans hw0; have hx3 := (hb5.cell (p := ⟨b1, off1, none⟩) hbB).trans hz1; clear hb5 hF hw0 hw1 hw2 hz1)
          obtain ⟨A, hA⟩ : ∃ A, A = alkV l k := ⟨_, rfl⟩
          rw [← hA] at hnx ⊢
          have HA := Lib.hid hA
          have hs5 : wr.heap.size < w5.heap.size := World.block_lt_of_cell? w5 _ hx0
          have hb5 : b1 < w5.heap.size := World.block_lt_of_cell? w5 _ hx3
          clear hA
          cases A with
          | false =>
            go_upto_region 9 with fail
            go_quiet (fail)
            go_wp2_with fail
            go_roundg (gk - 1)
            case measure => go_light; omega
            case rel =>
              go_light
              exact ⟨k + 1, by omega, by congr 1, by rw [hnx.out]; rfl, HF2, Lib.hid (HB5.out.trans ((below_drewN _).mono HB5.out.size))⟩
          | true =>
            go_upto_region 9 with fail
            go_quiet (fail)
            go_wp2_with fail
            go_roundg (gk - 1)
            case measure => go_light; omega
            case rel =>
              go_light
              exact ⟨k + 1, by omega, by congr 1, by rw [hnx.out]; rfl, HF2, Lib.hid (HB5.out.trans ((below_drewN _).mono HB5.out.size))⟩
end Go.Proofs.YthcgalpabjjkoaaDoor
