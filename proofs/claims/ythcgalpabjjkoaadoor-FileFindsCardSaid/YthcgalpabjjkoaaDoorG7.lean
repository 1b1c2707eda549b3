/- Texts of ours, behind one another: ColRd, CutBs, UnState, Unflo07, Unint07, LzUnI, LzUnAny, Unstr07. No conditions but those that each states. -/
import Derived.Test.YthcgalpabjjkoaaDoorG5
import Derived.Test.YthcgalpabjjkoaaDoorG3
import Derived.Test.YthcgalpabjjkoaaDoorG4
import Derived.Test.YthcgalpabjjkoaaDoorG2
import Derived.Test.YthcgalpabjjkoaaDoorG1
/- XColRd: What the two Decodes of a column read, in plain words: that of good bytes it is just the values. -/
namespace Go.Proofs.YthcgalpabjjkoaaDoor
open Go.RowKit
set_option linter.unusedVariables false

/-- A value that is a number, of a kind. -/
def vaN (k : Int) (x : Nat) : Va := ⟨k, x, ⟨#[]⟩⟩
def vaT (t : ByteArray) : Va := ⟨4, 0, t⟩
theorem vaN_map {k : Int} {l : List Va} (hk : ∀ v ∈ l, v.k = k) (ht : ∀ v ∈ l, v.t.size = 0) : (bitsV l).map (vaN k) = l := by
  induction l with
  | nil => rfl
  | cons v r ih =>
    have h1 := hk v (by simp)
    have h2 := size0.1 (ht v (by simp))
    have h3 := ih (fun x hx => hk x (by simp [hx])) (fun x hx => ht x (by simp [hx]))
    unfold bitsV at h3 ⊢
    rw [List.map_cons, List.map_cons, h3]
    congr 1
    obtain ⟨k', b, t⟩ := v
    dsimp only at h1 h2
    subst h1 h2
    rfl
theorem vaT_map {l : List Va} (hk : ∀ v ∈ l, v.k = 4) (ht : ∀ v ∈ l, v.b = 0) : (textsV l).map vaT = l := by
  induction l with
  | nil => rfl
  | cons v r ih =>
    have h1 := hk v (by simp)
    have h2 := ht v (by simp)
    have h3 := ih (fun x hx => hk x (by simp [hx])) (fun x hx => ht x (by simp [hx]))
    unfold textsV at h3 ⊢
    rw [List.map_cons, List.map_cons, h3]
    congr 1
    obtain ⟨k', b, t⟩ := v
    dsimp only at h1 h2
    subst h1 h2
    rfl
theorem bitsV_map (k : Int) (xs : List Nat) : bitsV (xs.map (vaN k)) = xs := by simp [bitsV, vaN, Function.comp_def]
theorem textsV_map (ts : List ByteArray) : textsV (ts.map vaT) = ts := by simp [textsV, vaT, Function.comp_def]

/-- Good numbers: of floats, of integers, of booleans. -/
def NumG (enc : List Nat → List UInt8) (n : Nat) (b : List UInt8) (xs : List Nat) : Prop := xs.length = n ∧ (∀ x ∈ xs, x < 18446744073709551616) ∧ enc xs = b
def TxtG (n : Nat) (b : List UInt8) (ts : List ByteArray) : Prop := ts.length = n ∧ (∀ t ∈ ts, t.size ≤ 65536) ∧ (txt ts).length ≤ 4194304 ∧ encS4 (txt ts) = b

theorem getD_mem' {α : Type} (l : List α) (i : Nat) (d : α) (h : i < l.length) : l.getD i d ∈ l := by rw [getD_get l i d h]; exact List.getElem_mem h
theorem bitsV_len' (l : List Va) : (bitsV l).length = l.length := by simp [bitsV]
theorem gV_pow (bs : List UInt8) (pos : Nat) (bad : Bool) (N : Nat) : gV bs pos bad N < 2 ^ N := by
  unfold gV
  split
  · exact Nat.two_pow_pos _
  · split
    · exact Nat.lt_of_lt_of_le (num_lt _) (Nat.pow_le_pow_right (by omega) (List.length_take_le _ _))
    · exact Nat.two_pow_pos _
theorem encC_fits {l : List Va} {b : List UInt8} (h : encC l = (b, 0)) : ¬ (l.length = 0 ∨ 1000 < l.length) ∧ l.all formV = true ∧ (l.all fun v => decide (v.k = (l.getD 0 v0).k)) = true := by
  by_cases h1 : l.length = 0 ∨ 1000 < l.length
  · rw [encC_len h1] at h; simp at h
  · refine ⟨h1, ?_⟩
    cases h2 : l.all formV with
    | false => rw [encC_form h2] at h; simp at h
    | true =>
      refine ⟨rfl, ?_⟩
      cases h3 : (l.all fun v => decide (v.k = (l.getD 0 v0).k)) with
      | false => rw [encC_type h1 h2 h3] at h; simp at h
      | true => rfl
theorem good_head {k : Int} {n : Nat} {b : List UInt8} {l : List Va} (h : CdGood k n b l) : 1 ≤ n ∧ n ≤ 1000 ∧ (l.getD 0 v0).k = k ∧ (∀ v ∈ l, formV v = true) ∧ (k = 1 ∨ k = 2 ∨ k = 3 ∨ k = 4) := by
  obtain ⟨h1, h2, h3, h4⟩ := h
  obtain ⟨f1, f2, f3⟩ := encC_fits h1
  have hm := getD_mem' l 0 v0 (by omega)
  have hk := h3 _ hm
  have hf := List.all_eq_true.1 f2
  exact ⟨by omega, by omega, hk, hf, by rw [← hk]; exact formV_kind (hf _ hm)⟩
theorem good_ok {k : Int} {n : Nat} {b : List UInt8} {l : List Va} (h : CdGood k n b l) :
    (if k = 1 then (encF (bitsV l), 0) else if k = 2 then (encI (bitsV l), 0) else if k = 3 then (encBo (bitsV l), 0) else if 4194304 < (txt (textsV l)).length then ([], 4) else (encS4 (txt (textsV l)), 0)) = (b, 0) := by
  obtain ⟨f1, f2, f3⟩ := encC_fits h.1
  have := encC_ok f1 f2 f3
  rw [(good_head h).2.2.1, h.1] at this
  exact this.symm
theorem good_num {k : Int} {n : Nat} {b : List UInt8} {l : List Va} (hk : k = 1 ∨ k = 2 ∨ k = 3) (h : CdGood k n b l) : (bitsV l).map (vaN k) = l ∧ NumG (if k = 1 then encF else if k = 2 then encI else encBo) n b (bitsV l) := by
  have hh := good_head h
  have ho := good_ok h
  obtain ⟨h1, h2, h3, h4⟩ := h
  refine ⟨vaN_map h3 fun v hv => ?_, by rw [bitsV_len']; exact h2, fun x hx => ?_, ?_⟩
  · have hf := hh.2.2.2.1 v hv
    have hkv := h3 v hv
    rcases hk with rfl | rfl | rfl
    · rw [formV_1 hkv, Bool.and_eq_true, decide_eq_true_eq] at hf; exact hf.1
    · rw [formV_2 hkv, decide_eq_true_eq] at hf; exact hf
    · rw [formV_3 hkv, Bool.and_eq_true, decide_eq_true_eq] at hf; exact hf.1
  · obtain ⟨v, hv, rfl⟩ := List.mem_map.1 hx
    exact (h4 v hv).2
  · rcases hk with rfl | rfl | rfl
    · rw [if_pos rfl] at ho ⊢; simpa using ho
    · rw [if_neg (by decide), if_pos rfl] at ho ⊢; simpa using ho
    · rw [if_neg (by decide), if_neg (by decide)] at ho ⊢; rw [if_pos rfl] at ho; simpa using ho
theorem good_txt {n : Nat} {b : List UInt8} {l : List Va} (h : CdGood 4 n b l) : (textsV l).map vaT = l ∧ TxtG n b (textsV l) := by
  have hh := good_head h
  have ho := good_ok h
  obtain ⟨h1, h2, h3, h4⟩ := h
  have hv4 : ∀ v ∈ l, v.b = 0 ∧ v.t.size ≤ 65536 := fun v hv => by
    have hf := hh.2.2.2.1 v hv
    rw [formV_4 (h3 v hv), Bool.and_eq_true, decide_eq_true_eq, decide_eq_true_eq] at hf
    exact hf
  rw [if_neg (by decide), if_neg (by decide), if_neg (by decide)] at ho
  have hle : ¬ 4194304 < (txt (textsV l)).length := fun hc => by rw [if_pos hc] at ho; simp at ho
  rw [if_neg hle] at ho
  refine ⟨vaT_map h3 fun v hv => (hv4 v hv).1, by simp [textsV, h2], fun t ht => ?_, by omega, by simpa using ho⟩
  obtain ⟨v, hv, rfl⟩ := List.mem_map.1 ht
  exact (hv4 v hv).2

/-- What a reading ends with: the values, of this kind; if bytes are good, they are just those. -/
def RdEnd (k : Int) (n : Nat) (b : List UInt8) (l : List Va) : Prop := (∀ v ∈ l, v.k = k ∧ v.ok) ∧ ∀ l', CdGood k n b l' → l' = l
theorem rdEnd_num {k : Int} {n : Nat} {b : List UInt8} {xs : List Nat} (hk : k = 1 ∨ k = 2 ∨ k = 3) (hx : ∀ x ∈ xs, x < 18446744073709551616)
    (h : ∀ ys, NumG (if k = 1 then encF else if k = 2 then encI else encBo) n b ys → ys = xs) : RdEnd k n b (xs.map (vaN k)) := by
  refine ⟨fun v hv => ?_, fun l' hl' => ?_⟩
  · obtain ⟨x, hx2, rfl⟩ := List.mem_map.1 hv
    exact ⟨rfl, by unfold Va.ok i64ok vaN; dsimp only; refine ⟨by omega, hx x hx2⟩⟩
  · obtain ⟨h1, h2⟩ := good_num hk hl'
    rw [← h _ h2, h1]
theorem rdEnd_txt {n : Nat} {b : List UInt8} {ts : List ByteArray} (h : ∀ ys, TxtG n b ys → ys = ts) : RdEnd 4 n b (ts.map vaT) := by
  refine ⟨fun v hv => ?_, fun l' hl' => ?_⟩
  · obtain ⟨x, hx2, rfl⟩ := List.mem_map.1 hv
    exact ⟨rfl, by unfold Va.ok i64ok vaT; dsimp only; omega⟩
  · obtain ⟨h1, h2⟩ := good_txt hl'
    rw [← h _ h2, h1]
theorem rdEnd_none {k : Int} {n : Nat} {b : List UInt8} (hk : ¬ (k = 1 ∨ k = 2 ∨ k = 3 ∨ k = 4)) : RdEnd k n b [] :=
  ⟨fun v hv => by simp at hv, fun l' hl' => absurd (good_head hl').2.2.2.2 hk⟩

/-! ### floats -/
abbrev FlG := NumG encF
theorem take_next {ys : List Nat} {k : Nat} (h : k + 1 < ys.length) : ys.take (k + 2) = ys.take (k + 1) ++ [ys.getD (k + 1) 0] := by
  rw [List.take_succ_eq_append_getElem h, getD_get ys (k + 1) 0 h]
theorem take_last {ys xs : List Nat} {k : Nat} (h : ys.take (k + 1) = xs) (hk : k < ys.length) : xs.getD k 0 = ys.getD k 0 := by
  rw [← h]
  simp [List.getD_eq_getElem?_getD]
theorem xor_lt64 {a b : Nat} (ha : a < 18446744073709551616) (hb : b < 18446744073709551616) : a ^^^ b < 18446744073709551616 := Nat.xor_lt_two_pow (n := 64) ha hb
theorem mem_snoc {xs : List Nat} {y : Nat} {B : Nat} (h : ∀ x ∈ xs, x < B) (hy : y < B) : ∀ x ∈ xs ++ [y], x < B := by
  intro x hx
  rw [List.mem_append, List.mem_singleton] at hx
  rcases hx with hx | rfl
  · exact h x hx
  · exact hy
theorem getD_lt' {xs : List Nat} {B : Nat} (h : ∀ x ∈ xs, x < B) (hB : 0 < B) (i : Nat) : xs.getD i 0 < B := by
  by_cases hi : i < xs.length
  · rw [getD_get xs i 0 hi]; exact h _ (List.getElem_mem hi)
  · rw [List.getD_eq_getElem?_getD, List.getElem?_eq_none (by omega)]; exact hB

def FuI (n : Nat) (b : List UInt8) (k : Nat) (xs : List Nat) (pos : Nat) (bad : Bool) : Prop :=
  xs.length = k + 1 ∧ (∀ x ∈ xs, x < 18446744073709551616) ∧ ∀ ys, FlG n b ys → ys.take (k + 1) = xs ∧ pos = fPos ys k ∧ bad = false
theorem FuI.start (n : Nat) (b : List UInt8) (h : 1 ≤ n) : FuI n b 0 [gV b 0 false 64] (gP b 0 false 64) (gB b 0 false 64) := by
  refine ⟨rfl, mem_snoc (xs := []) (by simp) (gV_lt _ _ _ _ (by omega)), fun ys ⟨h1, h2, h3⟩ => ?_⟩
  subst h3
  obtain ⟨e1, e2, e3⟩ := fl_first ys h2 (by omega)
  rw [e1, e2, e3]
  refine ⟨?_, rfl, rfl⟩
  rw [List.take_succ_eq_append_getElem (by omega), getD_get ys 0 0 (by omega)]
  rfl
theorem FuI.same {n : Nat} {b : List UInt8} {k : Nat} {xs : List Nat} {pos : Nat} {bad : Bool} (h : FuI n b k xs pos bad) (hk : k + 1 < n) (h1 : gV b pos bad 1 ≠ 1) :
    (gB b pos bad 1 = true → ∀ ys, ¬ FlG n b ys) ∧ (gB b pos bad 1 = false → FuI n b (k + 1) (xs ++ [xs.getD k 0]) (gP b pos bad 1) false) := by
  obtain ⟨a1, a2, a3⟩ := h
  have key : ∀ ys, FlG n b ys → gP b pos bad 1 = fPos ys (k + 1) ∧ gB b pos bad 1 = false ∧ ys.take (k + 2) = xs ++ [xs.getD k 0] := by
    intro ys hy
    obtain ⟨e1, rfl, rfl⟩ := a3 ys hy
    obtain ⟨b1, b2, rfl⟩ := hy
    by_cases hx : xAt ys k = 0
    · obtain ⟨c1, c2, c3⟩ := fl_same ys k (by omega) hx
      refine ⟨c2, c3, ?_⟩
      rw [take_next (by omega), e1, take_last e1 (by omega)]
      congr 2
      have := x_back (ys.getD k 0) (ys.getD (k + 1) 0)
      unfold xAt at hx
      rw [hx, Nat.xor_zero] at this
      exact this.symm
    · exact absurd (fl_step ys b2 k (by omega) hx).1.1 h1
  refine ⟨fun hb ys hy => ?_, fun hb => ⟨by rw [List.length_append]; simp [a1], mem_snoc a2 (getD_lt' a2 (by decide) _), fun ys hy => ?_⟩⟩
  · rw [(key ys hy).2.1] at hb; cases hb
  · obtain ⟨k1, k2, k3⟩ := key ys hy
    exact ⟨k3, k1, rfl⟩
theorem FuI.step {n : Nat} {b : List UInt8} {k : Nat} {xs : List Nat} {pos : Nat} {bad : Bool} (h : FuI n b k xs pos bad) (hk : k + 1 < n) (h1 : gV b pos bad 1 = 1)
    (p1 p2 p3 : Nat) (d1 d2 d3 : Bool) (z s : Nat) (e1 : p1 = gP b pos bad 1) (f1 : d1 = gB b pos bad 1) (e2 : p2 = gP b p1 d1 6) (f2 : d2 = gB b p1 d1 6) (ez : z = gV b p1 d1 6)
    (e3 : p3 = gP b p2 d2 6) (f3 : d3 = gB b p2 d2 6) (es : s = gV b p2 d2 6 + 1) :
    (64 < z + s → ∀ ys, ¬ FlG n b ys) ∧ (z + s ≤ 64 → gB b p3 d3 s = true → ∀ ys, ¬ FlG n b ys) ∧ (z + s ≤ 64 → gB b p3 d3 s = false → FuI n b (k + 1) (xs ++ [xs.getD k 0 ^^^ gV b p3 d3 s * 2 ^ (64 - z - s)]) (gP b p3 d3 s) false) := by
  obtain ⟨a1, a2, a3⟩ := h
  have key : ∀ ys, FlG n b ys → z + s ≤ 64 ∧ gP b p3 d3 s = fPos ys (k + 1) ∧ gB b p3 d3 s = false ∧ ys.take (k + 2) = xs ++ [xs.getD k 0 ^^^ gV b p3 d3 s * 2 ^ (64 - z - s)] := by
    intro ys hy
    obtain ⟨g1, rfl, rfl⟩ := a3 ys hy
    obtain ⟨b1, b2, rfl⟩ := hy
    by_cases hx : xAt ys k = 0
    · have := (fl_same ys k (by omega) hx).1
      omega
    · obtain ⟨⟨_, c2, c3⟩, ⟨c4, c5, c6⟩, ⟨c7, c8, c9⟩, ⟨c10, c11, c12⟩⟩ := fl_step ys b2 k (by omega) hx
      obtain ⟨z1, z2, z3, z4, z5, z6⟩ := zz_facts hx (xAt_lt b2 k)
      rw [c2] at e1
      rw [c3] at f1
      subst e1 f1
      rw [c5] at e2
      rw [c6] at f2
      rw [c4] at ez
      subst e2 f2
      rw [c8] at e3
      rw [c9] at f3
      rw [c7] at es
      subst e3 f3
      have hs : s = szZ (xAt ys k) := by omega
      subst hs ez
      rw [c10, c11, c12]
      refine ⟨by omega, rfl, rfl, ?_⟩
      have e : 64 - hiZ (xAt ys k) - szZ (xAt ys k) = loZ (xAt ys k) := by omega
      rw [e, z6, take_next (by omega), g1, take_last g1 (by omega)]
      congr 2
      exact (x_back _ _).symm
  refine ⟨(fun hc ys hy => by have := (key ys hy).1; omega), (fun _ hb ys hy => by rw [(key ys hy).2.2.1] at hb; cases hb), fun hz hb => ⟨by rw [List.length_append]; simp [a1], mem_snoc a2 (xor_lt64 (getD_lt' a2 (by decide) _) ?_), fun ys hy => ?_⟩⟩
  · have hg : gV b p3 d3 s < 2 ^ s := gV_pow _ _ _ _
    have : gV b p3 d3 s * 2 ^ (64 - z - s) < 2 ^ s * 2 ^ (64 - z - s) := (Nat.mul_lt_mul_right (Nat.two_pow_pos _)).2 hg
    rw [← Nat.pow_add] at this
    exact Nat.lt_of_lt_of_le this (Nat.pow_le_pow_right (by omega) (show s + (64 - z - s) ≤ 64 by omega))
  · obtain ⟨_, k1, k2, k3⟩ := key ys hy
    exact ⟨k3, k1, rfl⟩
theorem FuI.done {n : Nat} {b : List UInt8} {k : Nat} {xs : List Nat} {pos : Nat} {bad : Bool} (h : FuI n b k xs pos bad) (hk : k + 1 = n) : ∀ ys, FlG n b ys → ys = xs := by
  intro ys hy
  have := (h.2.2 ys hy).1
  rw [← this, List.take_of_length_le (by rw [hy.1]; omega)]

/-- The reference's reading: the bits that are left. -/
def FrI (n : Nat) (b : List UInt8) (k : Nat) (xs : List Nat) (L : List Bool) : Prop :=
  xs.length = k + 1 ∧ (∀ x ∈ xs, x < 18446744073709551616) ∧ L.length ≤ 8 * b.length ∧ ∀ ys, FlG n b ys → ys.take (k + 1) = xs ∧ L = (bits8 b).drop (fPos ys k)
theorem FrI.start (n : Nat) (b : List UInt8) (h : 1 ≤ n) (h8 : 8 ≤ b.length) : FrI n b 0 [rdN 8 b] (bits8 (b.drop 8)) := by
  refine ⟨rfl, mem_snoc (xs := []) (by simp) (by have := rdN_lt 8 b; simpa using this), by simp; omega, fun ys ⟨h1, h2, h3⟩ => ?_⟩
  subst h3
  refine ⟨?_, ?_⟩
  · rw [encF_ref, rd_be8 _ (getD_lt' h2 (by decide) _), List.take_succ_eq_append_getElem (by omega), getD_get ys 0 0 (by omega)]
    rfl
  · rw [fPos_zero, ← bits8_drop]
theorem FrI.few8 (n : Nat) (b : List UInt8) (h8 : b.length < 8) : ∀ ys, ¬ FlG n b ys := by
  rintro ys ⟨h1, h2, rfl⟩
  rw [encF_ref, List.length_append, be8_len] at h8
  omega
theorem encF_bits_at {ys : List Nat} {k : Nat} (h : k + 1 < ys.length) : ∃ post, (bits8 (encF ys)).drop (fPos ys k) = fstep (xAt ys k) ++ post ∧ post = (bits8 (encF ys)).drop (fPos ys (k + 1)) := by
  obtain ⟨post, h1, h2⟩ := encF_at ys k h
  refine ⟨post, ?_, ?_⟩
  · rw [h1, ← h2, List.drop_left]
  · rw [h1, fPos_next, ← h2, ← List.append_assoc, ← List.length_append, List.drop_left]
theorem FrI.empty {n : Nat} {b : List UInt8} {k : Nat} {xs : List Nat} (h : FrI n b k xs []) (hk : k + 1 < n) : ∀ ys, ¬ FlG n b ys := by
  intro ys hy
  obtain ⟨e1, e2⟩ := h.2.2.2 ys hy
  obtain ⟨b1, b2, rfl⟩ := hy
  obtain ⟨post, h1, _⟩ := encF_bits_at (ys := ys) (k := k) (by omega)
  rw [h1] at e2
  have := congrArg List.length e2
  have := (fstep_len (xAt_lt b2 k)).1
  rw [List.length_append, List.length_nil] at *
  omega
theorem FrI.same {n : Nat} {b : List UInt8} {k : Nat} {xs : List Nat} {R : List Bool} (h : FrI n b k xs (false :: R)) (hk : k + 1 < n) : FrI n b (k + 1) (xs ++ [xs.getD k 0]) R := by
  obtain ⟨a1, a2, a4, a3⟩ := h
  refine ⟨by rw [List.length_append]; simp [a1], mem_snoc a2 (getD_lt' a2 (by decide) _), by simp at a4; omega, fun ys hy => ?_⟩
  obtain ⟨e1, e2⟩ := a3 ys hy
  obtain ⟨b1, b2, rfl⟩ := hy
  obtain ⟨post, h1, h2⟩ := encF_bits_at (ys := ys) (k := k) (by omega)
  rw [h1] at e2
  by_cases hx : xAt ys k = 0
  · rw [hx, fstep_zero] at e2
    refine ⟨?_, ?_⟩
    · rw [take_next (by omega), e1, take_last e1 (by omega)]
      congr 2
      have := x_back (ys.getD k 0) (ys.getD (k + 1) 0)
      unfold xAt at hx
      rw [hx, Nat.xor_zero] at this
      exact this.symm
    · rw [← h2]
      simpa using e2
  · rw [fstep_some hx] at e2
    simp at e2
theorem FrI.step {n : Nat} {b : List UInt8} {k : Nat} {xs : List Nat} {R : List Bool} (h : FrI n b k xs (true :: R)) (hk : k + 1 < n) :
    (R.length < 12 → ∀ ys, ¬ FlG n b ys) ∧ ∀ z s, z = num (R.take 6) → s = num ((R.drop 6).take 6) + 1 →
    (((R.drop 12).length < s ∨ 64 < z + s) → ∀ ys, ¬ FlG n b ys) ∧ (s ≤ (R.drop 12).length → z + s ≤ 64 → FrI n b (k + 1) (xs ++ [xs.getD k 0 ^^^ num ((R.drop 12).take s) * 2 ^ (64 - z - s)]) ((R.drop 12).drop s)) := by
  obtain ⟨a1, a2, a4, a3⟩ := h
  have key : ∀ ys, FlG n b ys → 12 ≤ R.length ∧ num (R.take 6) = hiZ (xAt ys k) ∧ num ((R.drop 6).take 6) + 1 = szZ (xAt ys k) ∧ szZ (xAt ys k) ≤ (R.drop 12).length ∧ num ((R.drop 12).take (szZ (xAt ys k))) = xAt ys k / 2 ^ loZ (xAt ys k) ∧
      (R.drop 12).drop (szZ (xAt ys k)) = (bits8 b).drop (fPos ys (k + 1)) ∧ (hiZ (xAt ys k) ≤ 63 ∧ loZ (xAt ys k) ≤ 63 ∧ hiZ (xAt ys k) + loZ (xAt ys k) + szZ (xAt ys k) = 64 ∧ 1 ≤ szZ (xAt ys k) ∧ xAt ys k / 2 ^ loZ (xAt ys k) < 2 ^ szZ (xAt ys k) ∧ xAt ys k / 2 ^ loZ (xAt ys k) * 2 ^ loZ (xAt ys k) = xAt ys k) ∧
      ys.take (k + 2) = xs ++ [xs.getD k 0 ^^^ xAt ys k] := by
    intro ys hy
    obtain ⟨e1, e2⟩ := a3 ys hy
    obtain ⟨b1, b2, rfl⟩ := hy
    obtain ⟨post, h1, h2⟩ := encF_bits_at (ys := ys) (k := k) (by omega)
    rw [h1] at e2
    by_cases hx : xAt ys k = 0
    · rw [hx, fstep_zero] at e2
      simp at e2
    · have hz := zz_facts hx (xAt_lt b2 k)
      have hT : ys.take (k + 2) = xs ++ [xs.getD k 0 ^^^ xAt ys k] := by
        rw [take_next (by omega), e1, take_last e1 (by omega)]
        congr 2
        exact (x_back _ _).symm
      rw [fstep_some hx, List.append_assoc] at e2
      simp only [List.cons_append, List.nil_append, List.cons.injEq, true_and, List.append_assoc] at e2
      generalize hxx : xAt ys k = x at *
      obtain ⟨z1, z2, z3, z4, z5, z6⟩ := hz
      have l6 : ∀ v, (bitsOf v 6).length = 6 := fun v => length_bitsOf v 6
      have d6 : R.drop 6 = bitsOf (szZ x - 1) 6 ++ (bitsOf (x / 2 ^ loZ x) (szZ x) ++ post) := by rw [e2]; exact List.drop_left' (l6 _)
      have d12 : R.drop 12 = bitsOf (x / 2 ^ loZ x) (szZ x) ++ post := by
        rw [show (12 : Nat) = 6 + 6 from rfl, ← List.drop_drop, d6]; exact List.drop_left' (l6 _)
      have ls : (bitsOf (x / 2 ^ loZ x) (szZ x)).length = szZ x := length_bitsOf _ _
      refine ⟨?_, ?_, ?_, ?_, ?_, ?_, ⟨z1, z2, z3, z4, z5, z6⟩, hT⟩
      · rw [e2, List.length_append, List.length_append, l6, l6]; omega
      · rw [e2, List.take_left' (l6 _), num_bitsOf, Nat.mod_eq_of_lt]; omega
      · rw [d6, List.take_left' (l6 _), num_bitsOf, Nat.mod_eq_of_lt] <;> omega
      · rw [d12, List.length_append, ls]; omega
      · rw [d12, List.take_left' ls, num_bitsOf, Nat.mod_eq_of_lt z5]
      · rw [d12, List.drop_left' ls, h2]
  refine ⟨fun hc ys hy => by have := (key ys hy).1; omega, fun z s hz hs => ⟨fun hc ys hy => ?_, fun h1 h2 => ⟨by rw [List.length_append]; simp [a1], mem_snoc a2 (xor_lt64 (getD_lt' a2 (by decide) _) ?_), ?_, fun ys hy => ?_⟩⟩⟩
  · obtain ⟨k1, k2, k3, k4, k5, k6, k7, k8⟩ := key ys hy
    rw [k2] at hz
    rw [k3] at hs
    subst hz hs
    omega
  · have hg : num ((R.drop 12).take s) < 2 ^ s := Nat.lt_of_lt_of_le (num_lt _) (Nat.pow_le_pow_right (by omega) (List.length_take_le _ _))
    have : num ((R.drop 12).take s) * 2 ^ (64 - z - s) < 2 ^ s * 2 ^ (64 - z - s) := (Nat.mul_lt_mul_right (Nat.two_pow_pos _)).2 hg
    rw [← Nat.pow_add] at this
    exact Nat.lt_of_lt_of_le this (Nat.pow_le_pow_right (by omega) (show s + (64 - z - s) ≤ 64 by omega))
  · simp at a4 ⊢; omega
  · obtain ⟨k1, k2, k3, k4, k5, k6, k7, k8⟩ := key ys hy
    rw [k2] at hz
    rw [k3] at hs
    subst hz hs
    refine ⟨?_, k6⟩
    rw [k8, k5]
    have e : 64 - hiZ (xAt ys k) - szZ (xAt ys k) = loZ (xAt ys k) := by omega
    rw [e, k7.2.2.2.2.2]
theorem FrI.done {n : Nat} {b : List UInt8} {k : Nat} {xs : List Nat} {L : List Bool} (h : FrI n b k xs L) (hk : k + 1 = n) : ∀ ys, FlG n b ys → ys = xs := by
  intro ys hy
  have := (h.2.2.2 ys hy).1
  rw [← this, List.take_of_length_le (by rw [hy.1]; omega)]

/-! ### integers -/
abbrev IntG := NumG encI
/-- What comes of steps. -/
def itA (z : List Nat) : Nat → Nat
  | 0 => 0
  | i + 1 => uT ((itA z i : Int) + (uT (zagZ (z.getD i 0)) : Int))
theorem itA_lt (z : List Nat) : ∀ i, itA z i < 18446744073709551616
  | 0 => (show (0 : Nat) < _ by decide)
  | i + 1 => uT_lt _
theorem eq_upto {l : List Nat} {f : Nat → Nat} {n : Nat} (h1 : l.length = n) (h2 : ∀ i, i < n → l.getD i 0 = f i) : l = upto f n := by
  have e : ∀ (g : Nat → Nat) (m i : Nat) (h : i < (upto g m).length), (upto g m)[i] = g i := fun g m i h => by simp [upto]
  apply List.ext_getElem
  · rw [upto_len, h1]
  · intro i g1 g2
    rw [e, ← getD_get l i 0 g1]
    exact h2 i (by omega)
theorem zgs_getD (l : List Nat) (n i : Nat) (h : i < n) : (zgs l n).getD i 0 = zgAt l i := upto_getD _ _ _ h
theorem itA_zgs {l : List Nat} (hl : ∀ x ∈ l, x < 18446744073709551616) (n : Nat) : ∀ i, i ≤ n → i ≤ l.length → itA (zgs l n) i = if i = 0 then 0 else l.getD (i - 1) 0
  | 0, _, _ => rfl
  | i + 1, hn, hi => by
    have ih := itA_zgs hl n i (by omega) (by omega)
    have h1 := getD_lt' hl (by decide) i
    have h2 : (if i = 0 then 0 else l.getD (i - 1) 0) < 18446744073709551616 := by
      split
      · decide
      · exact getD_lt' hl (by decide) _
    have hz : zgAt l i = zigN (sI ((l.getD i 0 : Int) - ((if i = 0 then 0 else l.getD (i - 1) 0 : Nat) : Int))) := rfl
    unfold itA
    rw [zgs_getD l n i (by omega), ih, if_neg (Nat.succ_ne_zero i), Nat.add_sub_cancel, hz, zag_zig]
    generalize (if i = 0 then 0 else l.getD (i - 1) 0) = p at *
    generalize l.getD i 0 = q at *
    rw [uT_sI]
    have := uT_cast ((q : Int) - (p : Int))
    clear ih hz
    unfold uT at *
    omega
def itL (z : List Nat) : List Nat := upto (fun i => itA z (i + 1)) z.length
theorem itL_lt (z : List Nat) : ∀ x ∈ itL z, x < 18446744073709551616 := by
  intro x hx
  unfold itL upto at hx
  obtain ⟨i, _, rfl⟩ := List.mem_map.1 hx
  exact itA_lt _ _
theorem itL_zgs {l : List Nat} (hl : ∀ x ∈ l, x < 18446744073709551616) : itL (zgs l l.length) = l := by
  have e : (zgs l l.length).length = l.length := upto_len _ _
  unfold itL
  rw [e]
  symm
  refine eq_upto rfl fun i hi => ?_
  rw [itA_zgs hl l.length (i + 1) (by omega) (by omega), if_neg (Nat.succ_ne_zero i), Nat.add_sub_cancel]
theorem rawI_len (l : List Nat) : (rawI l).length = 8 * l.length := by
  induction l with
  | nil => rfl
  | cons x r ih => unfold rawI at ih ⊢; rw [List.flatMap_cons, List.length_append, ih, be8_len, List.length_cons]; omega
theorem rawI_at {l : List Nat} (hl : ∀ x ∈ l, x < 18446744073709551616) : ∀ i, i < l.length → rdN 8 ((rawI l).drop (8 * i)) = l.getD i 0 := by
  induction l with
  | nil => intro i h; simp at h
  | cons x r ih =>
    intro i h
    have hx := hl x (by simp)
    unfold rawI
    rw [List.flatMap_cons]
    cases i with
    | zero => rw [Nat.mul_zero, List.drop_zero, rd_be8 x hx]; rfl
    | succ i =>
      have e : 8 * (i + 1) = (be8 x).length + 8 * i := by rw [be8_len]; omega
      rw [e, List.drop_length_add_append]
      exact ih (fun y hy => hl y (by simp [hy])) i (by simpa using h)
/-- Good integers' bytes. -/
theorem int_good {n : Nat} {b : List UInt8} {ys : List Nat} (h : IntG n b ys) : b ≠ [] ∧ ((b.getD 0 0 = 1 ∧ pkA (zgs ys ys.length) = some (b.drop 1) ∧ unA (b.drop 1) n = some (zgs ys ys.length)) ∨ (b.getD 0 0 = 0 ∧ b.drop 1 = rawI ys)) := by
  obtain ⟨h1, h2, rfl⟩ := h
  unfold encI
  cases hp : pkA (zgs ys ys.length) with
  | none => exact ⟨by simp, .inr ⟨rfl, rfl⟩⟩
  | some p =>
    refine ⟨by simp, .inl ⟨rfl, rfl, ?_⟩⟩
    have := unA_back hp
    rw [show (zgs ys ys.length).length = n by rw [← h1]; exact upto_len _ _] at this
    exact this

/-! ### readings of whole steps: N bits each, whatever the reader's state -/
def gS (b : List UInt8) (N : Nat) : Nat → Nat × Bool
  | 0 => (0, false)
  | i + 1 => (gP b (gS b N i).1 (gS b N i).2 N, gB b (gS b N i).1 (gS b N i).2 N)
def gN (b : List UInt8) (N i : Nat) : Nat := gV b (gS b N i).1 (gS b N i).2 N
theorem gN_lt (b : List UInt8) (N i : Nat) (h : N ≤ 64) : gN b N i < 18446744073709551616 := gV_lt _ _ _ _ h
theorem gS_in (b : List UInt8) (N : Nat) : ∀ i, N * i ≤ 8 * b.length → gS b N i = (N * i, false)
  | 0, _ => rfl
  | i + 1, h => by
    have e : N * (i + 1) = N * i + N := by rw [Nat.mul_succ]
    have ih := gS_in b N i (by omega)
    unfold gS
    rw [ih]
    have hN : N ≤ 8 * b.length - N * i := by omega
    simp [gP, gB, hN, e]
theorem gN_64 (b : List UInt8) (i : Nat) (h : 8 * (i + 1) ≤ b.length) : gN b 64 i = rdN 8 (b.drop (8 * i)) := by
  unfold gN
  rw [gS_in b 64 i (by omega)]
  have := (gV_bytes b (8 * i) 8 (by omega)).1
  rw [show 8 * (8 * i) = 64 * i by omega] at this
  exact this
/-- Good integers, read as they stand: by the reader, and by place. -/
theorem raw_ys {n : Nat} {b : List UInt8} {ys : List Nat} (h : IntG n b ys) (h0 : b.getD 0 0 = 0) : ys = upto (gN (b.drop 1) 64) n ∧ ys = upto (fun i => rdN 8 (b.drop (1 + 8 * i))) n ∧ b.length = 1 + 8 * n := by
  have hb := int_good h
  obtain ⟨h1, h2, h3⟩ := h
  rcases hb.2 with ⟨hc, _⟩ | ⟨_, hr⟩
  · rw [h0] at hc; cases hc
  · have hlen : (b.drop 1).length = 8 * n := by rw [hr, rawI_len, h1]
    have hpos : 0 < b.length := List.length_pos_iff.2 hb.1
    have hbl : b.length = 1 + 8 * n := by rw [List.length_drop] at hlen; omega
    have key : ∀ i, i < n → rdN 8 ((b.drop 1).drop (8 * i)) = ys.getD i 0 := fun i hi => by rw [hr]; exact rawI_at h2 i (by omega)
    refine ⟨?_, ?_, hbl⟩
    · refine eq_upto h1 fun i hi => ?_
      rw [gN_64 _ _ (by omega), key i hi]
    · refine eq_upto h1 fun i hi => ?_
      have := key i hi
      rw [List.drop_drop] at this
      exact this.symm
/-- Good integers that were packed. -/
theorem pk_ys {n : Nat} {b : List UInt8} {ys : List Nat} (h : IntG n b ys) (h0 : b.getD 0 0 ≠ 0) : ∃ z, unA (b.drop 1) n = some z ∧ itL z = ys := by
  rcases (int_good h).2 with ⟨_, _, hu⟩ | ⟨hc, _⟩
  · exact ⟨_, hu, itL_zgs h.2.1⟩
  · exact absurd hc h0

/-! ### booleans -/
abbrev BooG := NumG encBo
theorem bo_bits (ys : List Nat) : (ys.flatMap fun b => bitsOf b 1).length = ys.length := by
  induction ys with
  | nil => rfl
  | cons y r ih => rw [List.flatMap_cons, List.length_append, ih, length_bitsOf, List.length_cons]; omega
theorem bo_at : ∀ (ys : List Nat) (r : List Bool) (i : Nat) (h : i < ys.length), ((ys.flatMap fun b => bitsOf b 1) ++ r).drop i = (ys[i] % 2 == 1) :: ((ys.flatMap fun b => bitsOf b 1) ++ r).drop (i + 1)
  | y :: ys, r, 0, h => by
    simp [bitsOf, Nat.testBit]
  | y :: ys, r, i + 1, h => by
    have ih := bo_at ys r i (by simpa using h)
    have e : (bitsOf y 1) = [y.testBit 0] := rfl
    simp only [List.flatMap_cons, e, List.cons_append, List.nil_append, List.drop_succ_cons, List.getElem_cons_succ]
    exact ih
/-- Good booleans: what the reader gives, what the bits are. -/
theorem boo_ys {n : Nat} {b : List UInt8} {ys : List Nat} (h : BooG n b ys) (h2 : ∀ y ∈ ys, y < 2) : n ≤ 8 * b.length ∧ ys = upto (gN b 1) n ∧ ys = upto (fun i => ((bits8 b).getD i false).toNat) n := by
  obtain ⟨h1, _, rfl⟩ := h
  have hl : (encBo ys).length = (n + 7) / 8 := by unfold encBo; rw [length_pack8, bo_bits, h1]
  have hn : n ≤ 8 * (encBo ys).length := by omega
  have hbits : ∃ r, bits8 (encBo ys) = (ys.flatMap fun b => bitsOf b 1) ++ r := ⟨_, by unfold encBo; rw [bits8_pack8]⟩
  obtain ⟨r, hr⟩ := hbits
  have key : ∀ i (hi : i < ys.length), (bits8 (encBo ys)).drop i = (ys[i] % 2 == 1) :: (bits8 (encBo ys)).drop (i + 1) := fun i hi => by rw [hr]; exact bo_at ys r i hi
  have hb : ∀ i (hi : i < ys.length), (ys[i] % 2 == 1).toNat = ys[i] := fun i hi => by
    have := h2 _ (List.getElem_mem hi)
    rcases (show ys[i] = 0 ∨ ys[i] = 1 by omega) with h | h <;> rw [h] <;> rfl
  refine ⟨hn, ?_, ?_⟩
  · refine eq_upto h1 fun i hi => ?_
    have g1 : i < ys.length := by omega
    unfold gN
    rw [gS_in _ 1 i (by omega), Nat.one_mul]
    unfold gV
    rw [if_neg (by simp), if_pos (by omega), key i g1, List.take_succ_cons, List.take_zero]
    simp only [num, List.length_nil, Nat.pow_zero, Nat.mul_one, Nat.add_zero]
    rw [hb i g1, getD_get ys i 0 g1]
  · refine eq_upto h1 fun i hi => ?_
    have g1 : i < ys.length := by omega
    have := congrArg (fun l => l.head?) (key i g1)
    simp only [List.head?_drop, List.head?_cons] at this
    rw [getD_get ys i 0 g1, List.getD_eq_getElem?_getD, this]
    exact (hb i g1).symm

/-! ### texts -/
theorem txt_cons (t : ByteArray) (r : List ByteArray) : txt (t :: r) = short t.size ++ (t.toList ++ txt r) := by unfold txt; rw [List.flatMap_cons, List.append_assoc]
theorem txt_app (l r : List ByteArray) : txt (l ++ r) = txt l ++ txt r := by unfold txt; rw [List.flatMap_append]
theorem short_pos (n : Nat) : 1 ≤ (short n).length := by
  by_cases h : n < 128
  · rw [short_lt n h]; simp
  · rw [short_ge n h]; simp
theorem txt_pos {t : ByteArray} {r : List ByteArray} : txt (t :: r) ≠ [] := by
  intro h
  have h1 := congrArg List.length h
  rw [txt_cons, List.length_append, List.length_nil] at h1
  have h2 := short_pos t.size
  omega
/-- What was read so far, and what is left, of good texts whose bytes are these. -/
def TxI (n : Nat) (body : List UInt8) (ts : List ByteArray) (R : List UInt8) : Prop :=
  ∀ ys, ys.length = n → (∀ t ∈ ys, t.size ≤ 65536) → txt ys = body → ∃ q, ys = ts ++ q ∧ R = txt q
theorem TxI.start (n : Nat) (body : List UInt8) : TxI n body [] body := fun ys _ _ h => ⟨ys, rfl, h.symm⟩
theorem TxI.none {n : Nat} {body R : List UInt8} {ts : List ByteArray} (h : TxI n body ts R) (hk : ts.length < n) (hc : (rs R 0 0).2 = 0 ∨ R.length - (rs R 0 0).2 < (rs R 0 0).1) :
    ∀ ys, ys.length = n → (∀ t ∈ ys, t.size ≤ 65536) → txt ys ≠ body := by
  intro ys h1 h2 h3
  obtain ⟨q, rfl, rfl⟩ := h ys h1 h2 h3
  cases q with
  | nil => simp at h1; omega
  | cons t r =>
    have ht := h2 t (by simp)
    rw [txt_cons, rs_short t.size (by omega)] at hc
    dsimp only at hc
    have := short_pos t.size
    simp only [List.length_append, toList_len] at hc
    omega
theorem TxI.next {n : Nat} {body R : List UInt8} {ts : List ByteArray} (h : TxI n body ts R) (hk : ts.length < n) (m k : Nat) (hm : m = (rs R 0 0).1) (hk2 : k = (rs R 0 0).2) :
    TxI n body (ts ++ [strOf ((R.drop k).take m)]) (R.drop (k + m)) := by
  intro ys h1 h2 h3
  obtain ⟨q, rfl, rfl⟩ := h ys h1 h2 h3
  cases q with
  | nil => simp at h1; omega
  | cons t r =>
    have ht := h2 t (by simp)
    rw [txt_cons, rs_short t.size (by omega)] at hm hk2
    dsimp only at hm hk2
    subst hm hk2
    refine ⟨r, ?_, ?_⟩
    · rw [txt_cons, List.drop_left, List.take_left' (toList_len t), str_of, List.append_assoc, List.singleton_append]
    · have e : (short t.size ++ t.toList).length = (short t.size).length + t.size := by rw [List.length_append, toList_len]
      rw [txt_cons, ← List.append_assoc]
      exact List.drop_left' e
theorem TxI.done {n : Nat} {body R : List UInt8} {ts : List ByteArray} (h : TxI n body ts R) (hk : ts.length = n) : ∀ ys, ys.length = n → (∀ t ∈ ys, t.size ≤ 65536) → txt ys = body → ys = ts := by
  intro ys h1 h2 h3
  obtain ⟨q, rfl, _⟩ := h ys h1 h2 h3
  cases q with
  | nil => simp
  | cons t r => simp at h1; omega
theorem TxI.empty {n : Nat} {body : List UInt8} {ts : List ByteArray} (h : TxI n body ts []) (hk : ts.length < n) : ∀ ys, ys.length = n → (∀ t ∈ ys, t.size ≤ 65536) → txt ys ≠ body :=
  h.none hk (.inl rfl)
/-- Good texts' bytes: as they stand, or packed. -/
theorem txt_good {n : Nat} {b : List UInt8} {ys : List ByteArray} (h : TxtG n b ys) : b ≠ [] ∧ ((b.getD 0 0 = 1 ∧ b.drop 1 = pk (txt ys) 0 0 ∧ Dec (txt ys) 0 (b.drop 1) ∧ (b.drop 1).length < (txt ys).length) ∨ (b.getD 0 0 = 0 ∧ b.drop 1 = txt ys)) := by
  obtain ⟨h1, h2, h3, rfl⟩ := h
  unfold encS4
  split
  · rename_i hc
    exact ⟨by simp, .inl ⟨rfl, rfl, dec_pk _ _ 0 0 rfl (Nat.le_refl _) (Nat.zero_le _), hc⟩⟩
  · exact ⟨by simp, .inr ⟨rfl, rfl⟩⟩
end Go.Proofs.YthcgalpabjjkoaaDoor

/- XCutBs: 'b[lo:]', 'b[:hi]', 'b[lo:hi]' of bytes that read. -/
namespace Go.Proofs.YthcgalpabjjkoaaDoor
open Go.RowKit
set_option linter.unusedVariables false

theorem infoB : (Tryd.prog.info? 5).map (fun i => (i.zero, i.size, i.bytes)) = some (some (.int .u8 0), 1, 1) := by kernel_rfl
theorem wpList_cut_bs (w : World) {ops : Array Oper} {rest : List Oper} {o : Oper} {a : Act} {Q : Exit → Act → World → Prop} (hgd : o.guard = none) (x : Operand) (lo hi : Option Operand) (t : TypeId)
    (ho : o.op = .slice t x lo hi none) (ht : Tryd.prog.underlying t = some (.slice 5)) (ao : Option Addr) (cap : Nat) (bs : List UInt8) (n : Nat) (hn : n = bs.length) (hx : a.eval x = .slice ao n cap) (hr : Rd w (.slice ao bs.length cap) bs)
    (l m : Nat) (hb : (Instr.sliceBounds true n cap (lo.map a.eval) (hi.map a.eval) none).run Tryd.prog w = .ok (l, m, cap) w) (hl : l ≤ m) (hm : m ≤ bs.length) (c : List UInt8) (hc : c = (bs.drop l).take (m - l))
    (h : ∀ ao' cap', Rd w (.slice ao' c.length cap') c → (∀ k, (Value.slice ao' c.length cap').ownBlock = some k → (Value.slice ao n cap).ownBlock = some k) → wpList Tryd.prog ops Q rest (a.put o.dst (.slice ao' c.length cap')) w) : wpList Tryd.prog ops Q (o :: rest) a w := by
  have hcl : c.length = m - l := by rw [hc, List.length_take, List.length_drop]; omega
  subst hn
  refine wpList_slice_rd w hgd x lo hi t ho 5 1 (.int .u8 0) 1 ht infoB ao bs.length cap (bs.map bV) hx hr l m hb hl hm ?_
  intro ao' cap' h1 h2
  have h3 := h ao' cap'
  rw [hcl] at h3
  refine h3 ?_ h2
  unfold Rd
  rw [hcl, hc]
  rw [Nat.mul_one, Nat.mul_one, ← List.map_drop, ← List.map_take] at h1
  exact h1
theorem drop_all (bs : List UInt8) (l : Nat) : bs.drop l = (bs.drop l).take (bs.length - l) := by rw [List.take_of_length_le (by simp)]
theorem take_all (bs : List UInt8) (m : Nat) : bs.take m = (bs.drop 0).take (m - 0) := by simp
/-- 'b[lo:]'. -/
theorem wpList_cut_lo (w : World) {ops : Array Oper} {rest : List Oper} {o : Oper} {a : Act} {Q : Exit → Act → World → Prop} (hgd : o.guard = none) (x lo : Operand) (t : TypeId)
    (ho : o.op = .slice t x (some lo) none none) (ht : Tryd.prog.underlying t = some (.slice 5)) (ao : Option Addr) (cap : Nat) (bs : List UInt8) (n : Nat) (hn : n = bs.length) (hx : a.eval x = .slice ao n cap) (k : IntKind) (li : Int) (hlo : a.eval lo = .int k li) (hr : Rd w (.slice ao bs.length cap) bs)
    (l : Nat) (hli : li = (l : Int)) (hl : l ≤ bs.length) (c : List UInt8) (hc : c = bs.drop l)
    (h : ∀ ao' cap', Rd w (.slice ao' c.length cap') c → (∀ k, (Value.slice ao' c.length cap').ownBlock = some k → (Value.slice ao n cap).ownBlock = some k) → wpList Tryd.prog ops Q rest (a.put o.dst (.slice ao' c.length cap')) w) : wpList Tryd.prog ops Q (o :: rest) a w := by
  subst hn hli
  refine wpList_cut_bs w hgd x (some lo) none t ho ht ao cap bs bs.length rfl hx hr l bs.length ?_ hl (Nat.le_refl _) c (by rw [hc]; exact drop_all bs l) h
  rw [Option.map_some, hlo]
  exact bounds_lo bs.length cap k l hl
/-- 'b[:hi]'. -/
theorem wpList_cut_hi (w : World) {ops : Array Oper} {rest : List Oper} {o : Oper} {a : Act} {Q : Exit → Act → World → Prop} (hgd : o.guard = none) (x hi : Operand) (t : TypeId)
    (ho : o.op = .slice t x none (some hi) none) (ht : Tryd.prog.underlying t = some (.slice 5)) (ao : Option Addr) (cap : Nat) (bs : List UInt8) (n : Nat) (hn : n = bs.length) (hx : a.eval x = .slice ao n cap) (k : IntKind) (mi : Int) (hhi : a.eval hi = .int k mi) (hr : Rd w (.slice ao bs.length cap) bs)
    (m : Nat) (hmi : mi = (m : Int)) (hm : m ≤ bs.length) (c : List UInt8) (hc : c = bs.take m)
    (h : ∀ ao' cap', Rd w (.slice ao' c.length cap') c → (∀ k, (Value.slice ao' c.length cap').ownBlock = some k → (Value.slice ao n cap).ownBlock = some k) → wpList Tryd.prog ops Q rest (a.put o.dst (.slice ao' c.length cap')) w) : wpList Tryd.prog ops Q (o :: rest) a w := by
  subst hn hmi
  obtain ⟨_, _, he, hnc, _⟩ := RdV.shape hr
  simp only [Value.slice.injEq, true_and] at he
  obtain ⟨_, rfl⟩ := he
  refine wpList_cut_bs w hgd x none (some hi) t ho ht ao cap bs bs.length rfl hx hr 0 m ?_ (Nat.zero_le _) hm c (by rw [hc]; exact take_all bs m) h
  rw [Option.map_some, hhi]
  exact bounds_hi bs.length cap k m (by omega)
/-- 'b[lo:hi]'. -/
theorem wpList_cut_both (w : World) {ops : Array Oper} {rest : List Oper} {o : Oper} {a : Act} {Q : Exit → Act → World → Prop} (hgd : o.guard = none) (x lo hi : Operand) (t : TypeId)
    (ho : o.op = .slice t x (some lo) (some hi) none) (ht : Tryd.prog.underlying t = some (.slice 5)) (ao : Option Addr) (cap : Nat) (bs : List UInt8) (n : Nat) (hn : n = bs.length) (hx : a.eval x = .slice ao n cap) (k k' : IntKind) (li mi : Int) (hlo : a.eval lo = .int k li) (hhi : a.eval hi = .int k' mi) (hr : Rd w (.slice ao bs.length cap) bs)
    (l m : Nat) (hli : li = (l : Int)) (hmi : mi = (m : Int)) (hl : l ≤ m) (hm : m ≤ bs.length) (c : List UInt8) (hc : c = (bs.drop l).take (m - l))
    (h : ∀ ao' cap', Rd w (.slice ao' c.length cap') c → (∀ k, (Value.slice ao' c.length cap').ownBlock = some k → (Value.slice ao n cap).ownBlock = some k) → wpList Tryd.prog ops Q rest (a.put o.dst (.slice ao' c.length cap')) w) : wpList Tryd.prog ops Q (o :: rest) a w := by
  subst hn hli hmi
  obtain ⟨_, _, he, hnc, _⟩ := RdV.shape hr
  simp only [Value.slice.injEq, true_and] at he
  obtain ⟨_, rfl⟩ := he
  refine wpList_cut_bs w hgd x (some lo) (some hi) t ho ht ao cap bs bs.length rfl hx hr l m ?_ hl hm c hc h
  rw [Option.map_some, Option.map_some, hlo, hhi]
  exact bounds_both bs.length cap k k' l m hl (by omega)
end Go.Proofs.YthcgalpabjjkoaaDoor

/- XUnState: What a reading of values keeps in memory: a reader, the values so far. -/
namespace Go.Proofs.YthcgalpabjjkoaaDoor
open Go.RowKit
set_option linter.unusedVariables false

structure RS (w0 w : World) (H blk : Nat) (b : List UInt8) (pos : Nat) (bad : Bool) (v : Value) (l : List Va) : Prop where
  rdr : Rdr w blk w0.heap.size H b pos bad
  own : OwnV w H v l
  bel : Below w0.heap.size w0 w
theorem RS.size {w0 w : World} {H blk : Nat} {b : List UInt8} {pos : Nat} {bad : Bool} {v : Value} {l : List Va} (h : RS w0 w H blk b pos bad v l) : w0.heap.size ≤ H ∧ H ≤ w.heap.size := by
  have h1 := h.rdr.lo
  have h2 := h.rdr.hi
  omega
theorem RS.start {w0 w : World} {blk : Nat} {b : List UInt8} (hr : Rdr w blk w0.heap.size w.heap.size b 0 false) (hb : Below w0.heap.size w0 w) : RS w0 w w.heap.size blk b 0 false (.slice none 0 0) [] :=
  ⟨hr, OwnV.nil _ _, hb⟩
theorem RS.app {w0 w w' : World} {H blk : Nat} {b : List UInt8} {pos : Nat} {bad : Bool} {v v' : Value} {l l' : List Va} (h : RS w0 w H blk b pos bad v l) (ho : OwnV w' H v' l') (hc : Chg (fun k => H ≤ k) w w') : RS w0 w' H blk b pos bad v' l' := by
  have hs := h.size
  exact ⟨h.rdr.keep hc (fun k _ h2 h3 => by omega), ho, h.bel.trans (hc.below h.bel.size (fun k hk => Nat.le_trans hs.1 hk))⟩
theorem RS.more {w0 w w' : World} {H blk : Nat} {b : List UInt8} {pos : Nat} {bad : Bool} {v : Value} {l : List Va} (h : RS w0 w H blk b pos bad v l) (hc : Below w.heap.size w w') : RS w0 w' H blk b pos bad v l :=
  ⟨h.rdr.below hc, h.own.below hc, h.bel.trans (hc.mono h.bel.size)⟩
theorem get_rs {w0 w : World} {H blk : Nat} {b : List UInt8} {pos : Nat} {bad : Bool} {v : Value} {l : List Va} (h : RS w0 w H blk b pos bad v l) (n : Int) (N : Nat) (hn : n = (N : Int)) (h1 : 1 ≤ N) (h64 : N ≤ 64) :
    Calls Tryd.prog 43 #[.pointer (some ⟨blk, 0, none⟩), .int .i64 n] w fun e w' => e = .returned (.int .u64 ((gV b pos bad N : Nat) : Int)) ∧ RS w0 w' H blk b (gP b pos bad N) (gB b pos bad N) v l := by
  subst hn
  refine (get_all blk w0.heap.size H pos b bad N h1 h64 w h.rdr).mono ?_
  rintro e w' ⟨rfl, hr, hc⟩
  have hlo := h.rdr.lo
  have hhi := h.rdr.hi
  exact ⟨rfl, hr, h.own.chg hc (fun k h1 h2 => by omega), h.bel.trans (hc.below h.bel.size (fun k hk => by omega))⟩

/-- What a reading ends with. -/
def RvEnd (k : Int) (n : Nat) (b : List UInt8) (w : World) (e : Ending) (w' : World) : Prop :=
  Below w.heap.size w w' ∧ ∃ l ao cap, e = .returned (.slice ao l.length cap) ∧ Vals w' (.slice ao l.length cap) l ∧ RdEnd k n b l
theorem RvEnd.nil {k : Int} {n : Nat} {b : List UInt8} {w w' : World} (hb : Below w.heap.size w w') (h : ∀ l, ¬ CdGood k n b l) : RvEnd k n b w (.returned (.slice none 0 0)) w' :=
  ⟨hb, [], none, 0, rfl, RdV.nil _ _, fun v hv => by simp at hv, fun l' hl' => absurd hl' (h l')⟩
theorem RvEnd.num {k : Int} {n : Nat} {b : List UInt8} {w w' : World} {xs : List Nat} {ao : Option Addr} {cap m base : Nat} (hk : k = 1 ∨ k = 2 ∨ k = 3) (hb : Below w.heap.size w w') (hm : xs.length = m) (ho : OwnV w' base (.slice ao m cap) (xs.map (vaN k)))
    (hx : ∀ x ∈ xs, x < 18446744073709551616) (h : ∀ ys, NumG (if k = 1 then encF else if k = 2 then encI else encBo) n b ys → ys = xs) : RvEnd k n b w (.returned (.slice ao m cap)) w' := by
  have e : (xs.map (vaN k)).length = m := by rw [List.length_map, hm]
  refine ⟨hb, xs.map (vaN k), ao, cap, by rw [e], ?_, rdEnd_num hk hx h⟩
  rw [e]
  exact ho.vals
theorem good_noneN {k : Int} {n : Nat} {b : List UInt8} (hk : k = 1 ∨ k = 2 ∨ k = 3) (h : ∀ ys, ¬ NumG (if k = 1 then encF else if k = 2 then encI else encBo) n b ys) : ∀ l, ¬ CdGood k n b l :=
  fun l hl => h _ (good_num hk hl).2
end Go.Proofs.YthcgalpabjjkoaaDoor

/- XUnflo07: column.unfloats. -/
namespace Go.Proofs.YthcgalpabjjkoaaDoor
open Go.RowKit
set_option linter.unusedVariables false

theorem shl_num (d e : Nat) (h : d * 2 ^ e < 18446744073709551616) : IntKind.u64.wrap ((d : Int) * 2 ^ e) = ((d * 2 ^ e : Nat) : Int) := by
  have e1 : (d : Int) * 2 ^ e = ((d * 2 ^ e : Nat) : Int) := by simp
  rw [e1]
  exact IntWalk.u64_in _ (by omega)

set_option maxHeartbeats 2000000 in
set_option maxRecDepth 100000 in
theorem unfloats_any (n : Nat) (b : List UInt8) (v : Value) (w : World) (h1 : 1 ≤ n) (h2 : n ≤ 1000) (hl : b.length ≤ 140737488355328) (hr : Rd w v b) :
    Calls Tryd.prog 89 #[.int .i64 (n : Int), v] w fun e w' => RvEnd 1 n b w e w' := by
  have hnr := newReader_any v b w hl hr
  obtain ⟨ao0, cap0, rfl, hnc, hcm⟩ := RdV.shape hr
  clear hr hnc hcm
  go_enter Tryd.func89, Tryd.ntmps89
  go_upto_region 2 with (go_at_call 42; refine hnr.mono ?_; rintro _ w1 ⟨blk, rfl, hr1, hb1⟩; have HS := Lib.hid (RS.start hr1 hb1); clear hr1 hb1 hnr)
  have hx0 : gV b 0 false 64 < 18446744073709551616 := gV_lt _ _ _ _ (by decide)
  have HI := Lib.hid (FuI.start n b h1)
  generalize w1.heap.size = H at *
  have HG := get_rs HS.out 64 64 rfl (by decide) (by decide)
  generalize gV b 0 false 64 = x0 at *
  generalize gP b 0 false 64 = p0 at *
  generalize gB b 0 false 64 = d0 at *
  go_upto_region 3 with (go_at_call 43; refine HG.mono ?_; rintro _ w2 ⟨rfl, hs2⟩; have HS2 := Lib.hid hs2; clear hs2 HG)
  have hsz := HS2.out.size
  have HO3 : Hid (OwnV (w2.alloc (.cells #[.int .i64 1, .int .u64 (x0 : Int), .string ⟨#[]⟩] 27)) H (.slice (some ⟨w2.heap.size, 0, none⟩) 1 1) ([x0].map (vaN 1))) := Lib.hid (World.ownsRow_lit w2 #[.int .i64 1, .int .u64 (x0 : Int), .string ⟨#[]⟩] 1 hsz.2 (by decide) rfl)
  have HS3 := Lib.hid (HS2.out.app HO3.out ((Chg.refl _ _).alloc _))
  have hn1 : (n : Int) - 1 = ((n - 1 : Nat) : Int) := by omega
  clear HO3
  go_wp2_with fail
  generalize w2.alloc (.cells #[.int .i64 1, .int .u64 (x0 : Int), .string ⟨#[]⟩] 27) = w3 at *
  go_loopg [6, 7, 19] (n - 1) (fun m s6 s7 s19 wr => ∃ (k : Nat) (xs : List Nat) (pos : Nat) (bad : Bool) (x : Nat) (ao : Option Addr) (cap : Nat), k + 1 + m = n ∧ s19 = .int .i64 (k : Int) ∧ s6 = .int .u64 (x : Int) ∧ x < 18446744073709551616 ∧ Hid (xs.getD k 0 = x) ∧ s7 = .slice ao (k + 1) cap ∧ Hid (FuI n b k xs pos bad) ∧ Hid (RS w wr H blk b pos bad (.slice ao (k + 1) cap) (xs.map (vaN 1))))
  case atStart => exact ⟨0, [x0], p0, d0, x0, _, 1, by omega, rfl, rfl, hx0, Lib.hid rfl, rfl, HI, HS3⟩
  case round =>
    obtain ⟨k, xs, pos, bad, x, ao, cap, hk, rfl, rfl, hxl, HX, rfl, HI, HS⟩ := hrel
    by_cases h0 : gk = 0
    · have hkn : k + 1 = n := by omega
      have hkn2 : ¬ ((k : Int) < (n : Int) - 1) := by omega
      have HD := Lib.hid (HI.out.done hkn)
      clear hkn
      go_wp2_with fail
      go_ret
      exact RvEnd.num (.inl rfl) HS.out.bel HI.out.1 HS.out.own HI.out.2.1 HD.out
    · have hkn : k + 1 < n := by omega
      have hkn2 : (k : Int) < (n : Int) - 1 := by omega
      have HG := get_rs HS.out 1 1 rfl (by decide) (by decide)
      have hxk : xs.getD k 0 = x := HX.out
      by_cases hv1 : gV b pos bad 1 = 1
      · obtain ⟨p1, hp1⟩ : ∃ p1, p1 = gP b pos bad 1 := ⟨_, rfl⟩
        obtain ⟨d1, hd1⟩ : ∃ d1, d1 = gB b pos bad 1 := ⟨_, rfl⟩
        obtain ⟨z, hz⟩ : ∃ z, z = gV b p1 d1 6 := ⟨_, rfl⟩
        obtain ⟨p2, hp2⟩ : ∃ p2, p2 = gP b p1 d1 6 := ⟨_, rfl⟩
        obtain ⟨d2, hd2⟩ : ∃ d2, d2 = gB b p1 d1 6 := ⟨_, rfl⟩
        obtain ⟨s0, hs0⟩ : ∃ s0, s0 = gV b p2 d2 6 := ⟨_, rfl⟩
        obtain ⟨s, hs⟩ : ∃ s, s = s0 + 1 := ⟨_, rfl⟩
        obtain ⟨p3, hp3⟩ : ∃ p3, p3 = gP b p2 d2 6 := ⟨_, rfl⟩
        obtain ⟨d3, hd3⟩ : ∃ d3, d3 = gB b p2 d2 6 := ⟨_, rfl⟩
        have hz64 : z < 64 := by rw [hz]; exact gV_pow _ _ _ 6
        have hs64 : s0 < 64 := by rw [hs0]; exact gV_pow _ _ _ 6
        have HST := HI.out.step hkn hv1 p1 p2 p3 d1 d2 d3 z s hp1 hd1 hp2 hd2 hz hp3 hd3 (by rw [hs, hs0])
        rw [hxk] at HST
        have HG6 := fun w1 h => get_rs (w0 := w) (w := w1) (H := H) (blk := blk) (b := b) (pos := p1) (bad := d1) (v := .slice ao (k + 1) cap) (l := xs.map (vaN 1)) h 6 6 rfl (by decide) (by decide)
        have HG7 := fun w1 h => get_rs (w0 := w) (w := w1) (H := H) (blk := blk) (b := b) (pos := p2) (bad := d2) (v := .slice ao (k + 1) cap) (l := xs.map (vaN 1)) h 6 6 rfl (by decide) (by decide)
        rw [hv1, ← hp1, ← hd1] at HG
        simp only [← hz, ← hp2, ← hd2] at HG6
        simp only [← hs0, ← hp3, ← hd3] at HG7
        have e1 : (s0 : Int) + 1 = (s : Int) := by omega
        have HST1 := Lib.hid HST
        have HSS := Lib.hid hs
        clear HST hp1 hd1 hz hp2 hd2 hs0 hp3 hd3 hv1 hxk hs
        go_upto_region 7 with (go_at_call 43; refine HG.mono ?_; rintro _ w4 ⟨rfl, hs4⟩; have HS4 := Lib.hid hs4; clear hs4 HG)
        have HG6' := HG6 _ HS4.out
        clear HG6
        go_upto_region 8 with (first
          | (with_reducible refine HG6'.mono ?_; rintro _ w5 ⟨rfl, hs5⟩; have HS5 := Lib.hid hs5; have HG7' := HG7 _ HS5.out; clear hs5 HG6' HG7)
          | (with_reducible refine HG7'.mono ?_; rintro _ w6 ⟨rfl, hs6⟩; have HS6 := Lib.hid hs6; clear hs6 HG7'))
        have hz64' : (z : Int) < 64 := by omega
        by_cases hbig : 64 < z + s
        · have hbigI : (64 : Int) < (z : Int) + (s : Int) := by omega
          have HD := Lib.hid (HST1.out.1 hbig)
          go_wp2_with fail
          go_ret
          exact RvEnd.nil HS6.out.bel (good_noneN (.inl rfl) HD.out)
        · have hsm : z + s ≤ 64 := by omega
          have hsmI : ¬ (64 : Int) < (z : Int) + (s : Int) := by omega
          have hs1 : 1 ≤ s := by have := HSS.out; omega
          have HG8 := get_rs HS6.out (s : Int) s rfl hs1 (by omega)
          have HNO := Lib.hid (HST1.out.2.1 hsm)
          have HYES := Lib.hid (HST1.out.2.2 hsm)
          have hdl : gV b p3 d3 s < 2 ^ s := gV_pow _ _ _ _
          clear HST1 hbig
          obtain ⟨t, ht⟩ : ∃ t, t = 64 - z - s := ⟨_, rfl⟩
          have hdt : gV b p3 d3 s * 2 ^ t < 18446744073709551616 := by
            have h3 : gV b p3 d3 s * 2 ^ t < 2 ^ s * 2 ^ t := (Nat.mul_lt_mul_right (Nat.two_pow_pos _)).2 hdl
            rw [← Nat.pow_add] at h3
            exact Nat.lt_of_lt_of_le h3 (Nat.pow_le_pow_right (by omega) (show s + t ≤ 64 by omega))
          rw [← ht] at HYES
          have e2 : (64 : Int) - (z : Int) - (s : Int) = (t : Int) := by omega
          have ht64 : t < 64 := by omega
          clear hdl
          generalize gV b p3 d3 s = d at *
          generalize gP b p3 d3 s = p4 at *
          generalize gB b p3 d3 s = d4 at *
          have hsl := shl_num d t hdt
          have hxo := u64_xor x (d * 2 ^ t) hxl hdt
          have hyl := xor_lt64 hxl hdt
          generalize x ^^^ (d * 2 ^ t) = y at *
          generalize d * 2 ^ t = D at *
          clear ht hdt
          cases d4 with
          | true =>
            have HD := Lib.hid (HNO.out rfl)
            go_wp2_with (first
              | (with_reducible refine HG8.mono ?_; rintro _ w7 ⟨rfl, hs7⟩; have HS7 := Lib.hid hs7; have HBD := bad_any _ _ _ _ _ _ _ hs7.rdr; clear hs7 HG8)
              | (with_reducible refine HBD.mono ?_; rintro _ _ ⟨rfl, rfl⟩; clear HBD))
            go_ret
            exact RvEnd.nil HS7.out.bel (good_noneN (.inl rfl) HD.out)
          | false =>
            have HI2 := Lib.hid (HYES.out rfl)
            have hlen : (xs.map (vaN 1)).length = k + 1 := by rw [List.length_map]; exact HI.out.1
            have HLEN := Lib.hid hlen
            have hap : Hid (∀ z, xs.map (vaN 1) ++ [vaN 1 z] = (xs ++ [z]).map (vaN 1)) := Lib.hid (fun z => by rw [List.map_append]; rfl)
            clear hlen
            go_wp2_with (first
              | (with_reducible refine HG8.mono ?_; rintro _ w7 ⟨rfl, hs7⟩; have HS7 := Lib.hid hs7; have HBD := bad_any _ _ _ _ _ _ _ hs7.rdr; clear hs7 HG8)
              | (with_reducible refine HBD.mono ?_; rintro _ _ ⟨rfl, rfl⟩; clear HBD)
              | (at_builtin; refine wpList_append_val _ rfl (.tmp 47) (.tmp 50) rfl H (.slice ao (k + 1) cap) (xs.map (vaN 1)) (vaN 1 y) rfl HS7.out.own rfl (by rw [HLEN.out]; omega) HS7.out.size.2 ?_; intro ao8 cap8 w8 ho8 hc8; rw [HLEN.out] at ho8 ⊢; rw [hap.out] at ho8; have HS8 := Lib.hid (HS7.out.app ho8 hc8); clear ho8 hc8))
            go_roundg (gk - 1)
            case measure => go_light; omega
            case rel =>
              go_light
              exact ⟨k + 1, xs ++ [y], _, _, y, ao8, cap8, by omega, by congr 1, rfl, hyl, Lib.hid (by have := HI.out.1; rw [List.getD_eq_getElem?_getD, List.getElem?_append_right (by omega)]; simp [this]), rfl, HI2, HS8⟩
      · have HST := Lib.hid (HI.out.same hkn hv1)
        have hv1I : ((gV b pos bad 1 : Int) == 1) = false := by simp; omega
        rw [hxk] at HST
        generalize gV b pos bad 1 = g1 at *
        generalize gP b pos bad 1 = p4 at *
        generalize gB b pos bad 1 = d4 at *
        clear hv1 hxk
        cases d4 with
        | true =>
          have HD := Lib.hid (HST.out.1 rfl)
          go_wp2_with (first
            | (with_reducible refine HG.mono ?_; rintro _ w7 ⟨rfl, hs7⟩; have HS7 := Lib.hid hs7; have HBD := bad_any _ _ _ _ _ _ _ hs7.rdr; clear hs7 HG)
            | (with_reducible refine HBD.mono ?_; rintro _ _ ⟨rfl, rfl⟩; clear HBD))
          go_ret
          exact RvEnd.nil HS7.out.bel (good_noneN (.inl rfl) HD.out)
        | false =>
          have HI2 := Lib.hid (HST.out.2 rfl)
          have hlen : (xs.map (vaN 1)).length = k + 1 := by rw [List.length_map]; exact HI.out.1
          have HLEN := Lib.hid hlen
          have hap : Hid (∀ z, xs.map (vaN 1) ++ [vaN 1 z] = (xs ++ [z]).map (vaN 1)) := Lib.hid (fun z => by rw [List.map_append]; rfl)
          clear hlen
          go_wp2_with (first
            | (with_reducible refine HG.mono ?_; rintro _ w7 ⟨rfl, hs7⟩; have HS7 := Lib.hid hs7; have HBD := bad_any _ _ _ _ _ _ _ hs7.rdr; clear hs7 HG)
            | (with_reducible refine HBD.mono ?_; rintro _ _ ⟨rfl, rfl⟩; clear HBD)
            | (at_builtin; refine wpList_append_val _ rfl (.tmp 47) (.tmp 50) rfl H (.slice ao (k + 1) cap) (xs.map (vaN 1)) (vaN 1 x) rfl HS7.out.own rfl (by rw [HLEN.out]; omega) HS7.out.size.2 ?_; intro ao8 cap8 w8 ho8 hc8; rw [HLEN.out] at ho8 ⊢; rw [hap.out] at ho8; have HS8 := Lib.hid (HS7.out.app ho8 hc8); clear ho8 hc8))
          go_roundg (gk - 1)
          case measure => go_light; omega
          case rel =>
            go_light
            exact ⟨k + 1, xs ++ [x], _, _, x, ao8, cap8, by omega, by congr 1, rfl, hxl, Lib.hid (by have := HI.out.1; rw [List.getD_eq_getElem?_getD, List.getElem?_append_right (by omega)]; simp [this]), rfl, HI2, HS8⟩
end Go.Proofs.YthcgalpabjjkoaaDoor

/- XUnint07: column.unintegers. -/
namespace Go.Proofs.YthcgalpabjjkoaaDoor
open Go.RowKit
set_option linter.unusedVariables false

theorem itA_next (z : List Nat) (i : Nat) : itA z (i + 1) = uT ((itA z i : Int) + (uT (zagZ (z.getD i 0)) : Int)) := rfl
def itP (z : List Nat) (i : Nat) : List Nat := upto (fun j => itA z (j + 1)) i
theorem itP_next (z : List Nat) (i : Nat) : itP z (i + 1) = itP z i ++ [itA z (i + 1)] := upto_next _ _
theorem itP_len (z : List Nat) (i : Nat) : (itP z i).length = i := upto_len _ _
theorem itP_lt (z : List Nat) (i : Nat) : ∀ x ∈ itP z i, x < 18446744073709551616 := by
  intro x hx
  unfold itP upto at hx
  obtain ⟨i, _, rfl⟩ := List.mem_map.1 hx
  exact itA_lt _ _
theorem itP_all (z : List Nat) : itP z z.length = itL z := rfl
def gNs (b : List UInt8) (N i : Nat) : List Nat := upto (gN b N) i
theorem gNs_next (b : List UInt8) (N i : Nat) : gNs b N (i + 1) = gNs b N i ++ [gN b N i] := upto_next _ _
theorem gNs_len (b : List UInt8) (N i : Nat) : (gNs b N i).length = i := upto_len _ _
theorem gNs_lt (b : List UInt8) (N i : Nat) (h : N ≤ 64) : ∀ x ∈ gNs b N i, x < 18446744073709551616 := by
  intro x hx
  unfold gNs upto at hx
  obtain ⟨i, _, rfl⟩ := List.mem_map.1 hx
  exact gN_lt _ _ _ h
theorem map_va (k : Int) (xs : List Nat) (x : Nat) : (xs ++ [x]).map (vaN k) = xs.map (vaN k) ++ [vaN k x] := by rw [List.map_append]; rfl

theorem unEnd_one {c : List UInt8} {n : Nat} {w w' : World} {e : Ending} (h : UnEnd c (n : Int) w e w') : ∃ (zs : List Nat) (ao : Option Addr) (cap : Nat) (er : Int), e = .returned (.tuple #[.slice ao zs.length cap, .int .i64 er]) ∧ OwnN w' w.heap.size (.slice ao zs.length cap) zs ∧ Below w.heap.size w w' ∧ zs.length ≤ n ∧ (∀ z, unA c (n : Int) = some z → z = zs) ∧ (∀ i, zs.getD i 0 < 18446744073709551616) := by
  obtain ⟨hb, h⟩ := h
  rcases h with ⟨hn, rfl⟩ | ⟨l, ao, cap, hs, hl, hln, rfl, ho⟩
  · exact ⟨[], none, 0, 2, rfl, World.ownsRow_nil _ _ _ _, hb, Nat.zero_le _, (fun z hz => by rw [hn] at hz; cases hz), fun i => by simp⟩
  · exact ⟨l, ao, cap, 0, rfl, ho, hb, by omega, (fun z hz => by rw [hs] at hz; exact (Option.some.inj hz).symm), fun i => getD_lt (unA_lt hs) i⟩

set_option maxHeartbeats 2000000 in
set_option maxRecDepth 100000 in
theorem unintegers_any (n : Nat) (b : List UInt8) (v : Value) (w : World) (h1 : 1 ≤ n) (h2 : n ≤ 1000) (hl : b.length ≤ 140737488355328) (hr : Rd w v b) :
    Calls Tryd.prog 90 #[.int .i64 (n : Int), v] w fun e w' => RvEnd 2 n b w e w' := by
  obtain ⟨ao0, cap0, rfl, hnc, hcm⟩ := RdV.shape hr
  unfold maxLen at hcm
  by_cases hb0 : b = []
  · subst hb0
    have HD := Lib.hid (good_noneN (k := 2) (n := n) (b := []) (.inr (.inl rfl)) (fun ys hy => (int_good hy).1 rfl))
    clear hr
    go_enter Tryd.func90, Tryd.ntmps90
    go_wp2_with fail
    go_ret
    exact RvEnd.nil (Below.refl _ _) HD.out
  · have hpos : 0 < b.length := List.length_pos_iff.2 hb0
    obtain ⟨m, hm⟩ : ∃ m, m = b.length := ⟨_, rfl⟩
    have HM := Lib.hid hm
    obtain ⟨c, hc⟩ : ∃ c, c = b.drop 1 := ⟨_, rfl⟩
    have hcl : c.length + 1 = m := by rw [hc, List.length_drop]; omega
    have HC := Lib.hid hc
    obtain ⟨bb, off, bcap, hbe, _, _, hbb, hcc⟩ := RdV.some hr.v hpos (by decide)
    simp only [Value.slice.injEq, true_and] at hbe
    obtain ⟨rfl, rfl⟩ := hbe
    obtain ⟨y, hy⟩ : ∃ y : UInt8, b[0]? = some y := ⟨b[0], List.getElem?_eq_getElem hpos⟩
    have hc0 : w.cell? ⟨bb, off, none⟩ = some (.int .u8 (y.toNat : Int)) := by
      have := hcc 0 (bV y) (by rw [List.getElem?_map, hy]; rfl)
      simpa [bV] using this
    have HY : Hid (b.getD 0 0 = y) := Lib.hid (by rw [List.getD_eq_getElem?_getD, hy]; rfl)
    have HR := Lib.hid hr
    rw [← hm] at hl hnc ⊢
    have hm0 : ((m : Int) == 0) = false := by simp; omega
    have h1m : Hid (1 ≤ b.length) := Lib.hid hpos
    clear hr hm hc hb0 hpos hcc hy
    by_cases hy0 : y = 0
    · subst hy0
      have hc1 : w.cell? ⟨bb, off, none⟩ = some (.int .u8 0) := hc0
      clear hc0
      go_enter Tryd.func90, Tryd.ntmps90
      go_upto_region 5 with (first
        | (with_reducible refine wpList_cut_lo w rfl (.tmp 15) (.const (.int .i64 1)) 33 rfl Tryd.underlying33 (some ⟨bb, off, none⟩) cap0 b m HM.out rfl .i64 1 rfl HR.out 1 rfl h1m.out c HC.out ?_; intro ao1 cap1 hr1 hk1; have hnr := newReader_any (.slice ao1 c.length cap1) c w (by omega) hr1; clear hr1 hk1)
        | (go_at_call 42; refine hnr.mono ?_; rintro _ w1 ⟨blk, rfl, hr1, hb1⟩; have HS := Lib.hid (RS.start hr1 hb1); have hcw1 := (hb1.cell (p := ⟨bb, off, none⟩) hbb).trans hc1; clear hr1 hb1 hnr hc1))
      have hc2 : c.length ≤ 140737488355328 := by omega
      have HRAW : Hid (∀ ys, IntG n b ys → ys = gNs c 64 n) := Lib.hid (fun ys hy => by rw [HC.out]; exact (raw_ys hy HY.out).1)
      generalize w1.heap.size = H at *
      go_wp2_with fail
      go_loopg [5, 23] n (fun m s5 s23 wr => ∃ (k : Nat) (ao : Option Addr) (cap : Nat), k + m = n ∧ s23 = .int .i64 (k : Int) ∧ s5 = .slice ao k cap ∧ Hid (RS w wr H blk c (gS c 64 k).1 (gS c 64 k).2 (.slice ao k cap) ((gNs c 64 k).map (vaN 2))))
      case atStart => exact ⟨0, none, 0, by omega, rfl, rfl, HS⟩
      case round =>
        obtain ⟨k, ao, cap, hk, rfl, rfl, HS⟩ := hrel
        by_cases h0 : gk = 0
        · obtain rfl : k = n := by omega
          go_wp2_with fail
          go_ret
          exact RvEnd.num (.inr (.inl rfl)) HS.out.bel (gNs_len _ _ _) HS.out.own (gNs_lt _ _ _ (by decide)) HRAW.out
        · have hkn : k < n := by omega
          have HG : Calls Tryd.prog 43 #[.pointer (some ⟨blk, 0, none⟩), .int .i64 64] wr _ := get_rs HS.out 64 64 rfl (by decide) (by decide)
          have hx : gV c (gS c 64 k).1 (gS c 64 k).2 64 = gN c 64 k := rfl
          rw [hx] at HG
          have hlen : ((gNs c 64 k).map (vaN 2)).length = k := by rw [List.length_map, gNs_len]
          have HLEN := Lib.hid hlen
          have hnx := Lib.hid (show (gNs c 64 (k + 1)).map (vaN 2) = (gNs c 64 k).map (vaN 2) ++ [vaN 2 (gN c 64 k)] from by rw [gNs_next, map_va])
          have hst : Hid (gS c 64 (k + 1) = (gP c (gS c 64 k).1 (gS c 64 k).2 64, gB c (gS c 64 k).1 (gS c 64 k).2 64)) := Lib.hid rfl
          clear hx hlen HS
          generalize gN c 64 k = x at *
          generalize gP c (gS c 64 k).1 (gS c 64 k).2 64 = p1 at *
          generalize gB c (gS c 64 k).1 (gS c 64 k).2 64 = d1 at *
          go_wp2_with (first
            | (with_reducible refine HG.mono ?_; rintro _ w7 ⟨rfl, hs7⟩; have HS7 := Lib.hid hs7; clear hs7 HG)
            | (at_builtin; refine wpList_append_val _ rfl (.tmp 25) (.tmp 29) rfl H (.slice ao k cap) ((gNs c 64 k).map (vaN 2)) (vaN 2 x) rfl HS7.out.own rfl (by rw [HLEN.out]; omega) HS7.out.size.2 ?_; intro ao8 cap8 w8 ho8 hc8; rw [HLEN.out] at ho8 ⊢; rw [← hnx.out] at ho8; have HS8 := Lib.hid (HS7.out.app ho8 hc8); clear ho8 hc8))
          go_roundg (gk - 1)
          case measure => go_light; omega
          case rel =>
            go_light
            exact ⟨k + 1, ao8, cap8, by omega, by congr 1, rfl, Lib.hid (by rw [hst.out]; exact HS8.out)⟩
    · have hy1 : ((y.toNat : Int) == 0) = false := by
        rw [beq_eq_false_iff_ne]
        intro h
        apply hy0
        apply UInt8.toNat_inj.1
        simpa using h
      have HY0 : Hid (b.getD 0 0 ≠ 0) := Lib.hid (by rw [HY.out]; exact hy0)
      have HU0 : Hid (∀ ys, IntG n b ys → ∃ z, unA c n = some z ∧ itL z = ys) := Lib.hid (fun ys hyy => by rw [HC.out]; exact pk_ys hyy HY0.out)
      clear hy0
      have hR1 := Lib.hid (fun w1 (hb : Below w.heap.size w w1) => show Rd w1 (.slice (some ⟨bb, off, none⟩) b.length cap0) b from RdV.below HR.out hb)
      go_enter Tryd.func90, Tryd.ntmps90
      go_upto_region 5 with (first
        | (with_reducible refine wpList_cut_lo w rfl (.tmp 15) (.const (.int .i64 1)) 33 rfl Tryd.underlying33 (some ⟨bb, off, none⟩) cap0 b m HM.out rfl .i64 1 rfl HR.out 1 rfl h1m.out c HC.out ?_; intro ao1 cap1 hr1 hk1; have hnr := newReader_any (.slice ao1 c.length cap1) c w (by omega) hr1; clear hr1 hk1)
        | (go_at_call 42; refine hnr.mono ?_; rintro _ w1 ⟨blk, rfl, hr1, hb1⟩; have HB1 := Lib.hid hb1; have hcw1 := (hb1.cell (p := ⟨bb, off, none⟩) hbb).trans hc0; have HR1 := Lib.hid (hR1.out _ hb1); clear hr1 hb1 hnr hc0))
      have hU := fun ao1 cap1 (h : Rd w1 (.slice ao1 c.length cap1) c) => unpack_any c (n : Int) (by omega) (by omega) (.slice ao1 c.length cap1) w1 (by omega) ⟨1000, by omega, .inl (by omega)⟩ h
      go_upto_region 12 with (first
        | (with_reducible refine wpList_cut_lo w1 rfl (.tmp 34) (.const (.int .i64 1)) 33 rfl Tryd.underlying33 (some ⟨bb, off, none⟩) cap0 b m HM.out rfl .i64 1 rfl HR1.out 1 rfl h1m.out c HC.out ?_; intro ao1 cap1 hr1 hk1; have hU1 := hU _ _ hr1; clear hr1 hk1 hU)
        | (go_at_call 87; refine hU1.mono ?_; intro e w2 h2; obtain ⟨zs, ao2, cap2, er, rfl, ho2, hb2, hzl, hzu, hzlt⟩ := unEnd_one h2; have HZL := Lib.hid hzlt; have HO2 := Lib.hid ho2; have HB2 := Lib.hid (HB1.out.trans (hb2.mono HB1.out.size)); have HZU := Lib.hid hzu; clear ho2 hb2 h2 hU1 hzu hzlt))
      have HN2 := Lib.hid HO2.out.nums
      have HRAW : Hid (∀ ys, IntG n b ys → ys = itL zs) := Lib.hid (fun ys hy => by
        obtain ⟨z, hz, rfl⟩ := HU0.out ys hy
        rw [HZU.out z hz])
      have h2B := HB2.out.size
      obtain ⟨q, hq⟩ : ∃ q, q = zs.length := ⟨_, rfl⟩
      rw [← hq] at hzl HN2 ⊢
      have HQ := Lib.hid hq
      clear hq HZU HO2
      obtain ⟨H, hH⟩ : ∃ H, H = w2.heap.size := ⟨_, rfl⟩
      have HH := Lib.hid hH
      have hH1 : w.heap.size ≤ H := by omega
      clear hH
      go_wp2_with fail
      go_loopg [5, 9, 42] q (fun m s5 s9 s42 wr => ∃ (k : Nat) (ao : Option Addr) (cap : Nat), k + m = q ∧ s42 = .int .i64 (k : Int) ∧ s9 = .int .u64 ((itA zs k : Nat) : Int) ∧ s5 = .slice ao k cap ∧ Hid (OwnV wr H (.slice ao k cap) ((itP zs k).map (vaN 2))) ∧ Hid (Chg (fun k => H ≤ k) w2 wr))
      case atStart => exact ⟨0, none, 0, by omega, rfl, rfl, rfl, Lib.hid (OwnV.nil _ _), Lib.hid (Chg.refl _ _)⟩
      case round =>
        obtain ⟨k, ao, cap, hk, rfl, rfl, rfl, HO, HC2⟩ := hrel
        have HBw := Lib.hid (HB2.out.trans (HC2.out.below HB2.out.size (fun k h => Nat.le_trans hH1 h)))
        by_cases h0 : gk = 0
        · obtain rfl : k = q := by omega
          have HALL : Hid (itP zs k = itL zs) := Lib.hid (by rw [HQ.out]; exact itP_all zs)
          go_wp2_with fail
          go_ret
          exact RvEnd.num (.inr (.inl rfl)) HBw.out (itP_len _ _) HO.out (itP_lt _ _) (by rw [HALL.out]; exact HRAW.out)
        · have hkn : k < q := by omega
          obtain ⟨b3, off3, c3, he3, hb3, hc3⟩ := num_at HN2.out k (by rw [← HQ.out]; exact hkn)
          rw [← HQ.out] at he3
          simp only [Value.slice.injEq, true_and] at he3
          obtain ⟨rfl, rfl⟩ := he3
          have hcz := (HC2.out.cell (p := ⟨b3, off3 + k, none⟩) hb3 (fun h => by have h9 : H ≤ b3 := h; rw [HH.out] at h9; omega)).trans hc3
          have hzl2 : zs.getD k 0 < 18446744073709551616 := HZL.out k
          have hzg := fun w => zag_any (zs.getD k 0) hzl2 w
          have hu1 := u64_wrap (zagZ (zs.getD k 0))
          have hu2 := u64_wrap ((itA zs k : Int) + (uT (zagZ (zs.getD k 0)) : Int))
          have hnA := itA_next zs k
          rw [← hnA] at hu2
          have hlen : ((itP zs k).map (vaN 2)).length = k := by rw [List.length_map, itP_len]
          have HLEN := Lib.hid hlen
          have hnx := Lib.hid (show (itP zs (k + 1)).map (vaN 2) = (itP zs k).map (vaN 2) ++ [vaN 2 (itA zs (k + 1))] from by rw [itP_next, map_va])
          have hHs : Hid (H ≤ wr.heap.size) := Lib.hid (by rw [HH.out]; exact HC2.out.size)
          clear hnA hlen hc3 hb3
          generalize zagZ (zs.getD k 0) = Z at *
          generalize uT Z = U at *
          generalize zs.getD k 0 = x at *
          generalize hA2 : itA zs (k + 1) = A2 at *
          have HA2 := Lib.hid hA2
          clear hA2
          generalize itA zs k = A at *
          go_wp2_with (first
            | (go_at_call 88; refine (hzg _).mono ?_; rintro _ _ ⟨rfl, rfl⟩)
            | (at_builtin; refine wpList_append_val _ rfl (.tmp 51) (.tmp 54) rfl H (.slice ao k cap) ((itP zs k).map (vaN 2)) (vaN 2 A2) rfl HO.out rfl (by rw [HLEN.out]; omega) hHs.out ?_; intro ao8 cap8 w8 ho8 hc8; rw [HLEN.out] at ho8 ⊢; rw [← hnx.out] at ho8; have HO8 := Lib.hid ho8; have HC8 := Lib.hid (HC2.out.trans hc8); clear ho8 hc8))
          go_roundg (gk - 1)
          case measure => go_light; omega
          case rel =>
            go_light
            exact ⟨k + 1, ao8, cap8, by omega, by congr 1, by rw [HA2.out], rfl, HO8, HC8⟩
end Go.Proofs.YthcgalpabjjkoaaDoor

/- XLzUnI: What the two Unpacks know of bytes that can be read back, while they read; nothing of the program is in sight here. -/
namespace Go.Proofs.YthcgalpabjjkoaaDoor
set_option linter.unusedVariables false

/-- If bytes can be read back as at most lim, they are these. -/
def LzOut (lim : Nat) (P out : List UInt8) : Prop := ∀ bs, Dec bs 0 P → bs.length ≤ lim → bs = out
def LzI (lim : Nat) (P os R : List UInt8) : Prop := ∀ bs, Dec bs 0 P → bs.length ≤ lim → os = bs.take os.length ∧ os.length ≤ bs.length ∧ Dec bs os.length R
def LzNo (lim : Nat) (P : List UInt8) : Prop := ∀ bs, Dec bs 0 P → ¬ bs.length ≤ lim
theorem LzNo.out {lim : Nat} {P : List UInt8} (h : LzNo lim P) (o : List UInt8) : LzOut lim P o := fun bs h1 h2 => absurd h2 (h bs h1)
theorem LzI.start (lim : Nat) (P : List UInt8) : LzI lim P [] P := fun bs h1 h2 => ⟨by simp, by simp, h1⟩
theorem LzI.done {lim : Nat} {P os : List UInt8} (h : LzI lim P os []) : LzOut lim P os := by
  intro bs h1 h2
  obtain ⟨e1, e2, e3⟩ := h bs h1 h2
  rcases dec_cases e3 with ⟨_, e4⟩ | ⟨n, R', _, _, _, e, _⟩ | ⟨r, far, R', _, _, _, _, _, _, e, _⟩
  · rw [e1, List.take_of_length_le (by omega)]
  · cases e
  · unfold piece at e; simp at e
theorem u8N (n : Nat) (h : n < 256) : (UInt8.ofNat n).toNat = n := by rw [UInt8.toNat_ofNat']; omega
/-- A piece's first byte: nought, or too few bytes behind it: none. -/
theorem LzI.bad {lim : Nat} {P os R : List UInt8} {x : UInt8} (h : LzI lim P os (x :: R)) (hx : x.toNat = 0 ∨ (x.toNat < 128 ∧ R.length < x.toNat) ∨ (128 ≤ x.toNat ∧ R.length < 2)) : LzNo lim P := by
  intro bs h1 h2
  obtain ⟨e1, e2, e3⟩ := h bs h1 h2
  rcases dec_cases e3 with ⟨e, _⟩ | ⟨n, R', a1, a2, a3, e, _⟩ | ⟨r, far, R', a1, a2, a3, a4, a5, a6, e, _⟩
  · cases e
  · simp only [List.cons.injEq] at e
    obtain ⟨rfl, rfl⟩ := e
    rw [u8N n (by omega), List.length_append, sub_len _ _ _ a3] at hx
    omega
  · unfold piece at e
    simp only [List.cons_append, List.nil_append, List.cons.injEq] at e
    obtain ⟨rfl, rfl⟩ := e
    rw [u8N (128 + r) (by omega), List.length_cons, List.length_cons] at hx
    omega
/-- Bytes that stand for themselves. -/
theorem LzI.lit {lim : Nat} {P os R : List UInt8} {x : UInt8} (h : LzI lim P os (x :: R)) (h1 : 1 ≤ x.toNat) (h2 : x.toNat < 128) (h3 : x.toNat ≤ R.length) :
    (lim < os.length + x.toNat → LzNo lim P) ∧ LzI lim P (os ++ R.take x.toNat) (R.drop x.toNat) := by
  have key : ∀ bs, Dec bs 0 P → bs.length ≤ lim → os = bs.take os.length ∧ os.length + x.toNat ≤ bs.length ∧ R.take x.toNat = sub bs os.length (os.length + x.toNat) ∧ Dec bs (os.length + x.toNat) (R.drop x.toNat) := by
    intro bs b1 b2
    obtain ⟨e1, e2, e3⟩ := h bs b1 b2
    rcases dec_cases e3 with ⟨e, _⟩ | ⟨n, R', a1, a2, a3, e, a4⟩ | ⟨r, far, R', a1, a2, a3, a4, a5, a6, e, _⟩
    · cases e
    · simp only [List.cons.injEq] at e
      obtain ⟨rfl, rfl⟩ := e
      rw [u8N n (by omega)]
      have hl : (sub bs os.length (os.length + n)).length = n := by rw [sub_len _ _ _ a3]; omega
      exact ⟨e1, a3, List.take_left' hl, by rw [List.drop_left' hl]; exact a4⟩
    · unfold piece at e
      simp only [List.cons_append, List.nil_append, List.cons.injEq] at e
      obtain ⟨rfl, rfl⟩ := e
      rw [u8N (128 + r) (by omega)] at h2
      omega
  refine ⟨fun hc bs b1 b2 => by have := (key bs b1 b2).2.1; omega, fun bs b1 b2 => ?_⟩
  obtain ⟨e1, e2, e3, e4⟩ := key bs b1 b2
  have hl : (os ++ R.take x.toNat).length = os.length + x.toNat := by rw [List.length_append, List.length_take]; omega
  rw [hl]
  refine ⟨?_, e2, e4⟩
  rw [e3, take_sub bs os.length x.toNat e2, ← e1]
/-- Bytes that were there: the distance is none of them. -/
theorem LzI.far {lim : Nat} {P os R : List UInt8} {x a b : UInt8} (h : LzI lim P os (x :: a :: b :: R)) (h2 : 128 ≤ x.toNat) (hf : a.toNat * 256 + b.toNat = 0 ∨ os.length < a.toNat * 256 + b.toNat) : LzNo lim P := by
  intro bs b1 b2
  obtain ⟨e1, e2, e3⟩ := h bs b1 b2
  rcases dec_cases e3 with ⟨e, _⟩ | ⟨n, R', a1, a2, a3, e, a4⟩ | ⟨r, far, R', a1, a2, a3, a4, a5, a6, e, _⟩
  · cases e
  · simp only [List.cons.injEq] at e
    obtain ⟨rfl, _⟩ := e
    rw [u8N n (by omega)] at h2
    omega
  · unfold piece at e
    simp only [List.cons_append, List.nil_append, List.cons.injEq] at e
    obtain ⟨rfl, rfl, rfl, rfl⟩ := e
    rw [u8N (far / 256) (by omega), show (UInt8.ofNat far).toNat = far % 256 by rw [UInt8.toNat_ofNat']] at hf
    omega
/-- While they are laid: i of r + 4. -/
def LzJ (lim : Nat) (P os R : List UInt8) (t far c i : Nat) : Prop := os.length = t + i ∧ 1 ≤ far ∧ far ≤ t ∧ ∀ bs, Dec bs 0 P → bs.length ≤ lim → os = bs.take (t + i) ∧ t + c ≤ bs.length ∧ (∀ j, j < c → bs[t - far + j]? = bs[t + j]?) ∧ Dec bs (t + c) R
theorem LzI.rep {lim : Nat} {P os R : List UInt8} {x a b : UInt8} (h : LzI lim P os (x :: a :: b :: R)) (h2 : 128 ≤ x.toNat) (far : Nat) (hf : far = a.toNat * 256 + b.toNat) (f1 : 1 ≤ far) (f2 : far ≤ os.length) (c : Nat) (hc : c = x.toNat - 124) : LzJ lim P os R os.length far c 0 := by
  refine ⟨rfl, f1, f2, fun bs b1 b2 => ?_⟩
  obtain ⟨e1, e2, e3⟩ := h bs b1 b2
  rcases dec_cases e3 with ⟨e, _⟩ | ⟨n, R', a1, a2, a3, e, a4⟩ | ⟨r, far', R', a1, a2, a3, a4, a5, a6, e, a7⟩
  · cases e
  · simp only [List.cons.injEq] at e
    obtain ⟨rfl, _⟩ := e
    rw [u8N n (by omega)] at h2
    omega
  · unfold piece at e
    simp only [List.cons_append, List.nil_append, List.cons.injEq] at e
    obtain ⟨rfl, rfl, rfl, rfl⟩ := e
    rw [u8N (far' / 256) (by omega), show (UInt8.ofNat far').toNat = far' % 256 by rw [UInt8.toNat_ofNat']] at hf
    rw [u8N (128 + r) (by omega)] at hc
    have hff : far = far' := by omega
    have hcc : c = 4 + r := by omega
    subst hff hcc
    exact ⟨e1, a5, a6, a7⟩
theorem LzJ.next {lim : Nat} {P os R : List UInt8} {t far c i : Nat} (h : LzJ lim P os R t far c i) (hi : i < c) (y : UInt8) (hy : os[os.length - far]? = some y) : LzJ lim P (os ++ [y]) R t far c (i + 1) := by
  obtain ⟨h1, f1, f2, h3⟩ := h
  refine ⟨by rw [List.length_append, h1]; rfl, f1, f2, fun bs b1 b2 => ?_⟩
  obtain ⟨e1, e2, e3, e4⟩ := h3 bs b1 b2
  refine ⟨?_, e2, e3, e4⟩
  have hj := e3 i hi
  rw [e1, List.getElem?_take, if_pos (by rw [← e1]; omega), ← e1, h1, show t + i - far = t - far + i by omega, hj] at hy
  rw [show t + (i + 1) = (t + i) + 1 by omega, List.take_add_one, hy, ← e1]
  rfl
theorem LzJ.done {lim : Nat} {P os R : List UInt8} {t far c : Nat} (h : LzJ lim P os R t far c c) : (lim < os.length → LzNo lim P) ∧ LzI lim P os R := by
  obtain ⟨h1, f1, f2, h3⟩ := h
  refine ⟨fun hc bs b1 b2 => by have := (h3 bs b1 b2).2.1; omega, fun bs b1 b2 => ?_⟩
  obtain ⟨e1, e2, e3, e4⟩ := h3 bs b1 b2
  rw [h1]
  exact ⟨e1, e2, e4⟩
end Go.Proofs.YthcgalpabjjkoaaDoor

/- XLzUnAny: lz.Unpack of any bytes. -/
namespace Go.Proofs.YthcgalpabjjkoaaDoor
open Go.RowKit
set_option linter.unusedVariables false

/-- What an Unpack ends with. -/
def LzEnd (lim : Nat) (P : List UInt8) (w : World) (e : Ending) (w' : World) : Prop :=
  Below w.heap.size w w' ∧ ∃ (out : List UInt8) (ao : Option Addr) (cap : Nat) (er : Int), e = .returned (.tuple #[.slice ao out.length cap, .int .i64 er]) ∧ Own w' w.heap.size (.slice ao out.length cap) out ∧ out.length ≤ lim ∧ LzOut lim P out
theorem LzEnd.no {lim : Nat} {P : List UInt8} {w w' : World} (hb : Below w.heap.size w w') (h : LzNo lim P) (er : Int) : LzEnd lim P w (.returned (.tuple #[.slice none 0 0, .int .i64 er])) w' :=
  ⟨hb, [], none, 0, er, rfl, Own.nil _ _, Nat.zero_le _, h.out []⟩

set_option maxHeartbeats 2000000 in
set_option maxRecDepth 100000 in
theorem unlz_any (P : List UInt8) (lim : Nat) (hlim : lim ≤ 100000000) (v : Value) (w : World) (hP : P.length ≤ 140737488355328) (hr : Rd w v P) :
    Calls Tryd.prog 95 #[v, .int .i64 (lim : Int)] w fun e w' => LzEnd lim P w e w' := by
  obtain ⟨ao0, cap0, rfl, hnc, hcm⟩ := RdV.shape hr
  unfold maxLen at hcm
  go_enter Tryd.func95, Tryd.ntmps95
  go_wp2_with fail
  go_loopg [0, 6] P.length (fun m s0 s6 wr => ∃ (R os : List UInt8) (ao : Option Addr) (cap : Nat) (ap : Option Addr) (cp : Nat), R.length = m ∧ s0 = .slice ap R.length cp ∧ s6 = .slice ao os.length cap ∧ os.length ≤ lim ∧ Hid (LzI lim P os R) ∧ R.length ≤ P.length ∧
    Hid (Rd wr (.slice ap R.length cp) R) ∧ Hid (∀ k, (Value.slice ap R.length cp).ownBlock = some k → (Value.slice ao0 P.length cap0).ownBlock = some k) ∧ Hid (Own wr w.heap.size (.slice ao os.length cap) os) ∧ Hid (Below w.heap.size w wr))
  case atStart => exact ⟨P, [], none, 0, ao0, cap0, rfl, rfl, rfl, Nat.zero_le _, Lib.hid (LzI.start _ _), Nat.le_refl _, Lib.hid hr, Lib.hid (fun k h => h), Lib.hid (Own.nil _ _), Lib.hid (Below.refl _ _)⟩
  case round =>
    obtain ⟨R, os, ao, cap, ap, cp, hm, rfl, rfl, hol, HI, hRP, hR, hblk, hO, hB⟩ := hrel
    have HRB := Lib.hid (fun (h : 0 < R.length) k (hk : (Value.slice ap R.length cp).ownBlock = some k) => Rd.blk hr (by omega) k (hblk.out k hk))
    have HM := Lib.hid hm
    cases R with
    | nil =>
      clear hm hRP hR hblk HRB
      have HD := Lib.hid HI.out.done
      go_wp2_with fail
      go_ret2
      exact ⟨hB.out, os, ao, cap, 0, rfl, hO.out, hol, HD.out⟩
    | cons x R =>
      obtain ⟨q, hq⟩ : ∃ q, q = R.length := ⟨_, rfl⟩
      have hql : (x :: R).length = q + 1 := by rw [List.length_cons, hq]
      obtain ⟨X, hX⟩ : ∃ X, X = x :: R := ⟨_, rfl⟩
      rw [← hX] at hm hR hblk HRB hRP hql HI ⊢
      have HX := Lib.hid hX
      obtain ⟨b, off, bcap, hbv, hbn, hbm, hbl, _⟩ := RdV.some hR.out.v (by omega) (by decide)
      simp only [Value.slice.injEq, true_and] at hbv
      obtain ⟨rfl, rfl⟩ := hbv
      have e0 : wr.cell? ⟨b, off, none⟩ = some (.int .u8 (x.toNat : Int)) := rd_cells hR.out 0 x (by rw [hX]; rfl)
      have hRb := HRB.out (by omega) b rfl
      have hne : (Value.slice ao os.length cap).ownBlock ≠ some b := fun h => by have := (hO.out.lt b h).1; omega
      have HNE := Lib.hid hne
      have HQ := Lib.hid hq
      obtain ⟨N, hN⟩ : ∃ N, N = x.toNat := ⟨_, rfl⟩
      have hN255 : N < 256 := by rw [hN]; exact x.toNat_lt
      rw [← hN] at e0
      have HN := Lib.hid hN
      have hXP : X.length ≤ 140737488355328 := by omega
      have hlen : (X.length : Int) = (q : Int) + 1 := by omega
      have HQL := Lib.hid hql
      have hq1 : X.length = q + 1 := hql
      unfold maxLen at hbm
      have hX0 : 0 < X.length := by omega
      clear hm hX hq hN hne
      by_cases h0 : N = 0
      · subst h0
        have HNO := Lib.hid (LzI.bad (by have := HI.out; rw [HX.out] at this; exact this) (.inl HN.out.symm))
        clear hql hq1
        go_wp2_with fail
        go_ret2
        exact LzEnd.no hB.out HNO.out _
      · by_cases h128 : N < 128
        · have hn0 : ((N : Int) == 0) = false := by simp; omega
          by_cases hsh : q < N
          · have HNO := Lib.hid (LzI.bad (by have := HI.out; rw [HX.out] at this; exact this) (.inr (.inl ⟨by rw [← HN.out]; exact h128, by rw [← HN.out, ← HQ.out]; exact hsh⟩)))
            have hle : X.length ≤ N := by omega
            go_wp2_with fail
            go_ret2
            exact LzEnd.no hB.out HNO.out _
          · have hgt : ¬ X.length ≤ N := by omega
            have hle := hgt
            have HL := Lib.hid (LzI.lit (by have := HI.out; rw [HX.out] at this; exact this) (by rw [← HN.out]; omega) (by rw [← HN.out]; exact h128) (by rw [← HN.out, ← HQ.out]; omega))
            obtain ⟨c, hc⟩ : ∃ c, c = R.take N := ⟨_, rfl⟩
            obtain ⟨R2, hR2⟩ : ∃ R2, R2 = R.drop N := ⟨_, rfl⟩
            have HL2 : Hid ((lim < os.length + N → LzNo lim P) ∧ LzI lim P (os ++ c) R2) := Lib.hid (by have := HL.out; rw [← HN.out, ← hc, ← hR2] at this; exact this)
            have hcl : c.length = N := by rw [hc, List.length_take, ← HQ.out]; omega
            have hR2l : R2.length + N = q := by rw [hR2, List.length_drop, ← HQ.out]; omega
            have HC : Hid (c = (X.drop 1).take (N + 1 - 1)) := Lib.hid (by rw [HX.out, hc]; rfl)
            have HR2 : Hid (R2 = X.drop (N + 1)) := Lib.hid (by rw [HX.out, hR2]; rfl)
            obtain ⟨o2, ho2⟩ : ∃ o2, o2 = os ++ c := ⟨_, rfl⟩
            have ho2l : o2.length = os.length + N := by rw [ho2, List.length_append, hcl]
            have HO2 := Lib.hid ho2
            rw [← ho2] at HL2
            have hN1 : N + 1 ≤ X.length := by omega
            have hsum : Hid (os.length + c.length ≤ 140737488355328) := Lib.hid (by omega)
            have hba := hB.out.size
            have HCL := Lib.hid hcl
            have HR2L := Lib.hid hR2l
            have HO2L := Lib.hid ho2l
            have hle0 : 1 ≤ N + 1 := by omega
            clear HL hc hR2 ho2 hql hcl hR2l ho2l hq1 hlen hle
            go_upto_region 18 with (first
              | (with_reducible refine wpList_cut_both wr rfl (.tmp 74) (.const (.int .i64 1)) (.tmp 76) 33 rfl Tryd.underlying33 (some ⟨b, off, none⟩) cp X X.length rfl rfl .i64 .i64 1 ((N : Int) + 1) rfl rfl hR.out 1 (N + 1) rfl rfl hle0 hN1 c HC.out ?_; intro ao5 cap5 hr5 hk5; have HR5 := Lib.hid hr5; clear hr5 hk5)
              | (at_builtin; refine wpList_append_bs _ rfl (.tmp 73) (.tmp 77) rfl w.heap.size (.slice ao os.length cap) os rfl hO.out (.slice ao5 c.length cap5) c rfl HR5.out hsum.out hba ?_; intro ao6 cap6 w6 hg6; rw [← HO2.out] at hg6 ⊢; have HG6 := Lib.hid hg6; clear hg6))
            have HR6 := Lib.hid (show Rd w6 (.slice (some ⟨b, off, none⟩) X.length cp) X from RdV.chg hR.out.v HG6.out.chg (fun k hk h => by cases hk; exact HNE.out h))
            have HB6 := Lib.hid (hB.out.trans (HG6.out.below hba (fun k hk => (hO.out.lt k hk).1)))
            by_cases hbig : lim < o2.length
            · have HNO := Lib.hid (HL2.out.1 (by have := HO2L.out; omega))
              go_upto_region 19 with (with_reducible refine wpList_cut_lo w6 rfl (.tmp 79) (.tmp 81) 33 rfl Tryd.underlying33 (some ⟨b, off, none⟩) cp X X.length rfl rfl .i64 ((N : Int) + 1) rfl HR6.out (N + 1) rfl hN1 R2 HR2.out ?_; intro ao7 cap7 hr7 hk7; clear hr7 hk7)
              go_wp2_with fail
              go_ret2
              exact LzEnd.no HB6.out HNO.out _
            · go_upto_region 19 with (with_reducible refine wpList_cut_lo w6 rfl (.tmp 79) (.tmp 81) 33 rfl Tryd.underlying33 (some ⟨b, off, none⟩) cp X X.length rfl rfl .i64 ((N : Int) + 1) rfl HR6.out (N + 1) rfl hN1 R2 HR2.out ?_; intro ao7 cap7 hr7 hk7; have HR7 := Lib.hid hr7; have HK7 := Lib.hid hk7; clear hr7 hk7)
              go_wp2_with fail
              go_roundg R2.length
              case measure => go_light; have h9 := HM.out; rw [List.length_cons, ← HQ.out] at h9; have := HR2L.out; omega
              case rel =>
                go_light
                exact ⟨R2, o2, ao6, cap6, ao7, cap7, rfl, rfl, rfl, by omega, Lib.hid HL2.out.2, by have := HR2L.out; have := HQL.out; omega, HR7, Lib.hid (fun k hk => hblk.out k (HK7.out k hk)), Lib.hid HG6.out.owns, HB6⟩
        · have hn0 : ((N : Int) == 0) = false := by simp; omega
          have hnI : ¬ (N : Int) < 128 := by omega
          have hnJ : (128 : Int) ≤ (N : Int) := by omega
          by_cases hsh : q < 2
          · have HNO := Lib.hid (LzI.bad (by have := HI.out; rw [HX.out] at this; exact this) (.inr (.inr ⟨by rw [← HN.out]; omega, by rw [← HQ.out]; exact hsh⟩)))
            have hle : (X.length : Int) < 3 := by omega
            clear hql hq1 hlen
            go_wp2_with fail
            go_ret2
            exact LzEnd.no hB.out HNO.out _
          · have hgt : ¬ (X.length : Int) < 3 := by omega
            have hgI : (3 : Int) ≤ (X.length : Int) := by omega
            have h3X : 3 ≤ X.length := by omega
            obtain ⟨a, c, R2, hRe⟩ : ∃ a c R2, R = a :: c :: R2 := by
              match R, HQ.out with
              | [], h => simp at h; omega
              | [a], h => simp at h; omega
              | a :: c :: R2, h => exact ⟨a, c, R2, rfl⟩
            have e1 : wr.cell? ⟨b, off + 1, none⟩ = some (.int .u8 (a.toNat : Int)) := rd_cells hR.out 1 a (by rw [HX.out, hRe]; rfl)
            have e2 : wr.cell? ⟨b, off + 2, none⟩ = some (.int .u8 (c.toNat : Int)) := rd_cells hR.out 2 c (by rw [HX.out, hRe]; rfl)
            have HI2 : Hid (LzI lim P os (x :: a :: c :: R2)) := Lib.hid (by have := HI.out; rw [HX.out, hRe] at this; exact this)
            have HR2L : Hid (R2.length + 2 = q) := Lib.hid (by rw [HQ.out, hRe]; rfl)
            have HR2 : Hid (R2 = X.drop 3) := Lib.hid (by rw [HX.out, hRe]; rfl)
            have h128x : Hid (128 ≤ x.toNat) := Lib.hid (by rw [← HN.out]; omega)
            obtain ⟨f1, hf1⟩ : ∃ f, f = a.toNat := ⟨_, rfl⟩
            obtain ⟨f2, hf2⟩ : ∃ f, f = c.toNat := ⟨_, rfl⟩
            have hfa : f1 < 256 := by rw [hf1]; exact a.toNat_lt
            have hfb : f2 < 256 := by rw [hf2]; exact c.toNat_lt
            rw [← hf1] at e1
            rw [← hf2] at e2
            obtain ⟨far, hfar⟩ : ∃ far, far = f1 * 256 + f2 := ⟨_, rfl⟩
            have HFAR : Hid (far = a.toNat * 256 + c.toNat) := Lib.hid (by rw [hfar, hf1, hf2])
            have HF12 := Lib.hid hfar
            have hf65 : far < 65536 := by omega
            clear hRe hf1 hf2 hfar hql hq1 hlen
            go_upto_region 4 with fail
            go_quiet (fail)
            rw [i64_pair f1 f2 hfa hfb, ← HF12.out]
            have hRq : Hid (Rd (wr.drewN nq) (.slice (some ⟨b, off, none⟩) X.length cp) X) := hR
            have hOq : Hid (Own (wr.drewN nq) w.heap.size (.slice ao os.length cap) os) := hO
            have hBq : Hid (Below w.heap.size w (wr.drewN nq)) := Lib.hid ⟨hB.out.os, hB.out.tape, hB.out.output, hB.out.size, hB.out.block⟩
            clear e0 e1 e2 hR hO hB
            generalize wr.drewN nq = wd at *
            by_cases hbad : far = 0 ∨ os.length < far
            · have HNO := Lib.hid (HI2.out.far h128x.out (by rw [← HFAR.out]; exact hbad))
              rcases hbad with rfl | hbad
              · go_wp2_with fail
                go_ret2
                exact LzEnd.no hBq.out HNO.out _
              · have hz : ((far : Int) == 0) = false := by simp; omega
                have hfd : os.length < far := hbad
                go_wp2_with fail
                go_ret2
                exact LzEnd.no hBq.out HNO.out _
            · have hfar1 : 1 ≤ far := by omega
              have hfaro : far ≤ os.length := by omega
              have hz : ((far : Int) == 0) = false := by simp; omega
              have hfd2 : ¬ os.length < far := by omega
              obtain ⟨C, hC⟩ : ∃ C, C = N - 124 := ⟨_, rfl⟩
              have hC1 : C ≤ 131 := by omega
              have hCI : (N : Int) - 128 + 4 = (C : Int) := by omega
              have HJ := Lib.hid (HI2.out.rep h128x.out far HFAR.out hfar1 hfaro C (by rw [hC, HN.out]))
              obtain ⟨g0, hg0⟩ : ∃ g, g = gk := ⟨gk, rfl⟩
              have HG0 := Lib.hid hg0
              obtain ⟨t, ht⟩ : ∃ t, t = os.length := ⟨_, rfl⟩
              have HTT := Lib.hid ht
              rw [← ht] at HJ
              have htl : t ≤ lim := by omega
              clear hg0 ht hC hbad
              go_wp2_with fail
              go_loopg [6, 37] C (fun m s6 s37 wr => ∃ (i : Nat) (os' : List UInt8) (ao : Option Addr) (cap : Nat), i + m = C ∧ s37 = .int .i64 (i : Int) ∧ s6 = .slice ao os'.length cap ∧ Hid (LzJ lim P os' R2 t far C i) ∧
                Hid (Rd wr (.slice (some ⟨b, off, none⟩) X.length cp) X) ∧ Hid (Own wr w.heap.size (.slice ao os'.length cap) os') ∧ Hid (Below w.heap.size w wr))
              case atStart => exact ⟨0, os, ao, cap, by omega, rfl, rfl, HJ, hRq, hOq, hBq⟩
              case round =>
                obtain ⟨i, os', ao1, cap1, hi, rfl, rfl, HJ, hR1, hO1, hB1⟩ := hrel
                have hl1 : Hid (os'.length = t + i) := Lib.hid HJ.out.1
                have hob : os'.length ≤ 200000000 := by have := hl1.out; omega
                by_cases h0 : gk = 0
                · obtain rfl : i = C := by omega
                  clear hi h0
                  have HDN := Lib.hid HJ.out.done
                  by_cases hbig : lim < os'.length
                  · have HNO := Lib.hid (HDN.out.1 hbig)
                    go_upto_region 19 with (with_reducible refine wpList_cut_lo wr rfl (.tmp 50) (.const (.int .i64 3)) 33 rfl Tryd.underlying33 (some ⟨b, off, none⟩) cp X X.length rfl rfl .i64 3 rfl hR1.out 3 rfl h3X R2 HR2.out ?_; intro ao7 cap7 hr7 hk7; clear hr7 hk7)
                    go_wp2_with fail
                    go_ret2
                    exact LzEnd.no hB1.out HNO.out _
                  · go_upto_region 19 with (with_reducible refine wpList_cut_lo wr rfl (.tmp 50) (.const (.int .i64 3)) 33 rfl Tryd.underlying33 (some ⟨b, off, none⟩) cp X X.length rfl rfl .i64 3 rfl hR1.out 3 rfl h3X R2 HR2.out ?_; intro ao7 cap7 hr7 hk7; have HR7 := Lib.hid hr7; have HK7 := Lib.hid hk7; clear hr7 hk7)
                    go_wp2_with fail
                    go_roundg R2.length
                    case measure => go_light; have h9 := HM.out; rw [List.length_cons, ← HQ.out] at h9; have := HR2L.out; have := HG0.out; omega
                    case rel =>
                      go_light
                      exact ⟨R2, os', ao1, cap1, ao7, cap7, rfl, rfl, rfl, by omega, Lib.hid HDN.out.2, by have := HR2L.out; have := HQL.out; omega, HR7, Lib.hid (fun k hk => hblk.out k (HK7.out k hk)), hO1, hB1⟩
                · have hiC : i < C := by omega
                  have hle : far ≤ os'.length := by have := hl1.out; have := HTT.out; omega
                  obtain ⟨g, gc, he, hg1, hg2, hc, hf, _⟩ := rowAt hO1.out (os'.length - far) (by omega)
                  obtain ⟨y, hy⟩ : ∃ y, os'[os'.length - far]? = some y := ⟨os'[os'.length - far]'(by omega), List.getElem?_eq_getElem (by omega)⟩
                  rw [List.getElem?_map, hy] at hc
                  simp only [Value.slice.injEq, true_and] at he
                  obtain ⟨rfl, rfl⟩ := he
                  have hc' : wr.cell? ⟨g, os'.length - far, none⟩ = some (.int .u8 (y.toNat : Int)) := hc
                  have t1 : ((os'.length : Int) - (far : Int)).toNat = os'.length - far := by omega
                  have t2 : (0 : Int) ≤ (os'.length : Int) - (far : Int) := by omega
                  have t3 : (os'.length : Int) - (far : Int) < (os'.length : Int) := by omega
                  have h63 : os'.length + 1 ≤ maxLen := by unfold maxLen; omega
                  have hby1 : (os'.length + 1) * 1 ≤ 140737488355328 := by omega
                  have hba : ∀ o, w.heap.size ≤ (wr.alloc o).heap.size := fun o => by have := hB1.out.size; simp; omega
                  have HJ2 := Lib.hid (HJ.out.next hiC y hy)
                  have HI3 := Lib.hid hi
                  clear hc hy hi
                  go_wp2_with (at_builtin; refine wpList_append_rd _ rfl (.tmp 39) (.tmp 47) 33 rfl w.heap.size 5 (.int .u8 0) 1 1 Tryd.underlying33 infoU8 rfl (by decide) (.slice (some ⟨g, 0, none⟩) os'.length cap1) os'.length (os'.map bV) rfl (World.ownsRow.alloc hO1.out _) (.slice (some ⟨wr.heap.size, 0, none⟩) 1 1) 1 [.int .u8 (y.toNat : Int)] rfl (RdV.one _ _ _) (one_one _ rfl) h63 hby1 (hba _) ?_; intro ao6 cap6 w6 hg6; have HG6 := Lib.hid hg6.ofAlloc; clear hg6)
                  go_roundg (gk - 1)
                  case measure => go_light; omega
                  case rel =>
                    go_light
                    have hg := HG6.out
                    rw [show os'.map bV ++ [.int .u8 (y.toNat : Int)] = (os' ++ [y]).map bV by simp [bV], show os'.length + 1 = (os' ++ [y]).length by simp] at hg
                    rw [show os'.length + 1 = (os' ++ [y]).length by simp]
                    refine ⟨i + 1, os' ++ [y], ao6, cap6, by have := HI3.out; omega, by congr 1, rfl, HJ2, Lib.hid (RdV.chg hR1.out.v hg.chg (fun k hk h => ?_)), Lib.hid hg.owns, Lib.hid (hB1.out.trans (hg.below hB1.out.size (fun k hk => (World.ownsRow.lt hO1.out k hk).1)))⟩
                    have k1 : b = k := Option.some.inj hk
                    have k2 : g = k := Option.some.inj h
                    rw [← k1] at k2
                    exact absurd (k2 ▸ hg1) (Nat.not_le.2 hRb)
end Go.Proofs.YthcgalpabjjkoaaDoor

/- XUnstr07: column.unstrings. -/
namespace Go.Proofs.YthcgalpabjjkoaaDoor
open Go.RowKit
set_option linter.unusedVariables false

theorem rs_le : ∀ (bs : List UInt8) (i n : Nat), (rs bs i n).2 ≤ i + bs.length
  | [], i, n => by simp [rs]
  | c :: r, i, n => by
    have ih := rs_le r (i + 1) (n + c.toNat % 128 * 2 ^ (7 * i))
    unfold rs
    split
    · simp
    · split
      · split
        · simp
        · simp
      · rw [List.length_cons]; omega
theorem txt_body {n : Nat} {b c out : List UInt8} (hc : c = b.drop 1) (hb : b.getD 0 0 ≠ 0) (h : LzOut 4194304 c out) : ∀ ys, TxtG n b ys → txt ys = out := by
  intro ys hy
  rcases (txt_good hy).2 with ⟨_, _, hd, _⟩ | ⟨h0, _⟩
  · rw [← hc] at hd
    exact h _ hd hy.2.2.1
  · exact absurd h0 hb
theorem txt_body0 {n : Nat} {b c : List UInt8} (hc : c = b.drop 1) (hb : b.getD 0 0 = 0) : ∀ ys, TxtG n b ys → txt ys = c := by
  intro ys hy
  rcases (txt_good hy).2 with ⟨h1, _⟩ | ⟨_, hr⟩
  · rw [hb] at h1; cases h1
  · rw [hc, hr]
theorem good_noneT {n : Nat} {b body : List UInt8} (hb : ∀ ys, TxtG n b ys → txt ys = body) (h : ∀ ys, ys.length = n → (∀ t ∈ ys, t.size ≤ 65536) → txt ys ≠ body) : ∀ l, ¬ CdGood 4 n b l :=
  fun l hl => by
    have hg := (good_txt hl).2
    exact h _ hg.1 hg.2.1 (hb _ hg)
theorem RvEnd.txt {n : Nat} {b body : List UInt8} {w w' : World} {ts : List ByteArray} {ao : Option Addr} {cap m base : Nat} (hb : Below w.heap.size w w') (hm : ts.length = m) (ho : OwnV w' base (.slice ao m cap) (ts.map vaT))
    (hbd : ∀ ys, TxtG n b ys → txt ys = body) (h : ∀ ys, ys.length = n → (∀ t ∈ ys, t.size ≤ 65536) → txt ys = body → ys = ts) : RvEnd 4 n b w (.returned (.slice ao m cap)) w' := by
  have e : (ts.map vaT).length = m := by rw [List.length_map, hm]
  refine ⟨hb, ts.map vaT, ao, cap, by rw [e], ?_, rdEnd_txt (fun ys hy => h ys hy.1 hy.2.1 (hbd ys hy))⟩
  rw [e]
  exact ho.vals
/-- What is left of the texts' bytes. -/
def Rest (w : World) (H : Nat) (ap : Option Addr) (cp : Nat) (R : List UInt8) : Prop := Rd w (.slice ap R.length cp) R ∧ ∀ k, (Value.slice ap R.length cp).ownBlock = some k → k < H
theorem Rest.chg {w w' : World} {H : Nat} {ap : Option Addr} {cp : Nat} {R : List UInt8} (h : Rest w H ap cp R) (hc : Chg (fun k => H ≤ k) w w') : Rest w' H ap cp R :=
  ⟨RdV.chg h.1.v hc (fun k hk h9 => by have := h.2 k hk; omega), h.2⟩

set_option maxHeartbeats 2000000 in
set_option maxRecDepth 100000 in
theorem unstrings_any (n : Nat) (b : List UInt8) (v : Value) (w : World) (h1 : 1 ≤ n) (h2 : n ≤ 1000) (hl : b.length ≤ 140737488355328) (hr : Rd w v b) :
    Calls Tryd.prog 91 #[.int .i64 (n : Int), v] w fun e w' => RvEnd 4 n b w e w' := by
  obtain ⟨ao0, cap0, rfl, hnc, hcm⟩ := RdV.shape hr
  unfold maxLen at hcm
  by_cases hb0 : b = []
  · subst hb0
    have HD := Lib.hid (fun l (hl : CdGood 4 n [] l) => (txt_good (good_txt hl).2).1 rfl)
    clear hr
    go_enter Tryd.func91, Tryd.ntmps91
    go_wp2_with fail
    go_ret
    exact RvEnd.nil (Below.refl _ _) HD.out
  · have hpos : 0 < b.length := List.length_pos_iff.2 hb0
    obtain ⟨m, hm⟩ : ∃ m, m = b.length := ⟨_, rfl⟩
    have HM := Lib.hid hm
    obtain ⟨c, hc⟩ : ∃ c, c = b.drop 1 := ⟨_, rfl⟩
    have hcl : c.length ≤ 140737488355328 := by rw [hc, List.length_drop]; omega
    have HC := Lib.hid hc
    obtain ⟨bb, off, bcap, hbe, _, _, hbb, hcc⟩ := RdV.some hr.v hpos (by decide)
    simp only [Value.slice.injEq, true_and] at hbe
    obtain ⟨rfl, rfl⟩ := hbe
    obtain ⟨y, hy⟩ : ∃ y : UInt8, b[0]? = some y := ⟨b[0], List.getElem?_eq_getElem hpos⟩
    have hc0 : w.cell? ⟨bb, off, none⟩ = some (.int .u8 (y.toNat : Int)) := by
      have := hcc 0 (bV y) (by rw [List.getElem?_map, hy]; rfl)
      simpa [bV] using this
    have HY : Hid (b.getD 0 0 = y) := Lib.hid (by rw [List.getD_eq_getElem?_getD, hy]; rfl)
    have HR := Lib.hid hr
    rw [← hm] at hl hnc ⊢
    have hm0 : ((m : Int) == 0) = false := by simp; omega
    have h1m : Hid (1 ≤ b.length) := Lib.hid hpos
    have hm1 : 0 < m := by omega
    clear hr hm hc hb0 hpos hcc hy
    go_enter Tryd.func91, Tryd.ntmps91
    go_upto_if 17 with (with_reducible refine wpList_cut_lo w rfl (.tmp 12) (.const (.int .i64 1)) 33 rfl Tryd.underlying33 (some ⟨bb, off, none⟩) cap0 b m HM.out rfl .i64 1 rfl HR.out 1 rfl h1m.out c HC.out ?_; intro ao1 cap1 hr1 hk1; have HR1 := Lib.hid hr1; have HK1 := Lib.hid hk1; clear hr1 hk1)
    go_cut [5] (fun s5 wx => ∃ (body : List UInt8) (ap : Option Addr) (cp : Nat), s5 = .slice ap body.length cp ∧ body.length ≤ 140737488355328 ∧ Hid (∀ ys, TxtG n b ys → txt ys = body) ∧ Hid (Rest wx wx.heap.size ap cp body) ∧ Hid (Below w.heap.size w wx))
    case first =>
      by_cases hy0 : y = 0
      · subst hy0
        have hc1 : w.cell? ⟨bb, off, none⟩ = some (.int .u8 0) := hc0
        clear hc0
        go_wp2_with fail
        go_meet
        go_light
        exact ⟨c, ao1, cap1, rfl, hcl, Lib.hid (txt_body0 HC.out HY.out), Lib.hid ⟨HR1.out, fun k hk => by have := HK1.out k hk; cases this; exact hbb⟩, Lib.hid (Below.refl _ _)⟩
      · obtain ⟨N, hN⟩ : ∃ N, N = y.toNat := ⟨_, rfl⟩
        have hNe : N ≠ 0 := by
          intro h
          apply hy0
          apply UInt8.toNat_inj.1
          rw [← hN, h]
          rfl
        rw [← hN] at hc0
        have hy1 : ((N : Int) != 0) = true := by simp; omega
        have hy2 : ((N : Int) == 0) = false := by simp; omega
        generalize y.toNat = N2 at *
        subst hN
        have HY0 : Hid (b.getD 0 0 ≠ 0) := Lib.hid (by rw [HY.out]; exact hy0)
        have hK : Calls Tryd.prog 95 #[.slice ao1 c.length cap1, .int .i64 4194304] w _ := unlz_any c 4194304 (by decide) (.slice ao1 c.length cap1) w hcl HR1.out
        clear hy0
        go_wp2_with (go_at_call 95; refine hK.mono ?_; rintro _ w2 ⟨hb2, out, ao2, cap2, er, rfl, ho2, hl2, hout⟩; have HB2 := Lib.hid hb2; have HO2 := Lib.hid ho2; have HU2 := Lib.hid hout; clear hb2 ho2 hout hK)
        go_meet
        go_light
        exact ⟨out, ao2, cap2, rfl, by omega, Lib.hid (txt_body HC.out HY0.out HU2.out), Lib.hid ⟨HO2.out.rd, fun k hk => (World.ownsRow.lt HO2.out k hk).2⟩, HB2⟩
    case rest =>
    obtain ⟨body, ap, cp, rfl, hbl, HBD, HRS, HB⟩ := hcut
    obtain ⟨H, hH⟩ : ∃ H, H = wc.heap.size := ⟨_, rfl⟩
    rw [← hH] at HRS
    have hHw : w.heap.size ≤ H := by rw [hH]; exact HB.out.size
    have HH := Lib.hid hH
    clear hc0 hm0 hH
    generalize wc = w5 at *
    go_wp2_with fail
    go_loopg [5, 6, 24] n (fun m s5 s6 s24 wr => ∃ (k : Nat) (ts : List ByteArray) (R : List UInt8) (ap : Option Addr) (cp : Nat) (ao : Option Addr) (cap : Nat), k + m = n ∧ Hid (ts.length = k) ∧ s24 = .int .i64 (k : Int) ∧ s5 = .slice ap R.length cp ∧ s6 = .slice ao k cap ∧ R.length ≤ 140737488355328 ∧ Hid (TxI n body ts R) ∧ Hid (Rest wr H ap cp R) ∧ Hid (OwnV wr H (.slice ao k cap) (ts.map vaT)) ∧ Hid (Chg (fun k => H ≤ k) w5 wr))
    case atStart => exact ⟨0, [], body, ap, cp, none, 0, by omega, Lib.hid rfl, rfl, rfl, rfl, hbl, Lib.hid (TxI.start _ _), HRS, Lib.hid (OwnV.nil _ _), Lib.hid (Chg.refl _ _)⟩
    case round =>
      obtain ⟨k, ts, R, ap, cp, ao, cap, hk, HTL, rfl, rfl, rfl, hRl, HI, HRS, HO, HC2⟩ := hrel
      have HBw := Lib.hid (HB.out.trans (HC2.out.below HB.out.size (fun k h => Nat.le_trans hHw h)))
      by_cases h0 : gk = 0
      · obtain rfl : k = n := by omega
        have HD := Lib.hid (HI.out.done HTL.out)
        go_wp2_with fail
        go_ret
        exact RvEnd.txt HBw.out HTL.out HO.out HBD.out HD.out
      · have hkn : k < n := by omega
        have hRS := readShort_any (.slice ap R.length cp) R wr hRl HRS.out.1
        have hle := rs_le R 0 0
        rw [Nat.zero_add] at hle
        have HNO := Lib.hid (HI.out.none (by rw [HTL.out]; exact hkn))
        have HNX := Lib.hid (HI.out.next (by rw [HTL.out]; exact hkn) (rs R 0 0).1 (rs R 0 0).2 rfl rfl)
        generalize (rs R 0 0).1 = q at *
        generalize (rs R 0 0).2 = z at *
        have hHs : Hid (H ≤ wr.heap.size) := Lib.hid (by rw [HH.out]; exact HC2.out.size)
        by_cases hz : z = 0
        · have HN := Lib.hid (good_noneT HBD.out (HNO.out (.inl hz)))
          subst hz
          go_wp2_with (go_at_call 96; refine hRS.mono ?_; rintro _ _ ⟨rfl, rfl⟩)
          go_ret
          exact RvEnd.nil HBw.out HN.out
        · have hz0 : ((z : Int) == 0) = false := by simp; omega
          have hu : IntKind.u64.wrap ((R.length : Int) - (z : Int)) = ((R.length - z : Nat) : Int) := by rw [IntWalk.u64_in _ (by omega)]; omega
          by_cases hbig : R.length - z < q
          · have HN := Lib.hid (good_noneT HBD.out (HNO.out (.inr hbig)))
            go_wp2_with (go_at_call 96; refine hRS.mono ?_; rintro _ _ ⟨rfl, rfl⟩)
            go_ret
            exact RvEnd.nil HBw.out HN.out
          · have hu2 : IntKind.i64.wrap (q : Int) = (q : Int) := IntWalk.i64_in _ (by omega)
            obtain ⟨T, hT⟩ : ∃ T, T = (R.drop z).take q := ⟨_, rfl⟩
            obtain ⟨R2, hR2⟩ : ∃ R2, R2 = R.drop (z + q) := ⟨_, rfl⟩
            rw [← hT, ← hR2] at HNX
            have HT : Hid (T = (R.drop z).take (z + q - z)) := Lib.hid (by rw [Nat.add_sub_cancel_left]; exact hT)
            have HR2 := Lib.hid hR2
            have hR2l : R2.length ≤ 140737488355328 := by rw [hR2, List.length_drop]; omega
            have hzq : z + q ≤ R.length := by omega
            have hzz : z ≤ z + q := by omega
            have hRd := HRS.out.1
            have hstr := fun ao1 cap1 (h : Rd wr (.slice ao1 T.length cap1) T) => run_str h 33 5 9 Tryd.underlying33 Tryd.underlying5 Tryd.underlying9
            have HLEN : Hid ((ts.map vaT).length = k) := Lib.hid (by rw [List.length_map, HTL.out])
            have HSN : Hid (ts.map vaT ++ [vaT (strOf T)] = (ts ++ [strOf T]).map vaT) := Lib.hid (by rw [List.map_append]; rfl)
            have HTL2 : Hid ((ts ++ [strOf T]).length = k + 1) := Lib.hid (by rw [List.length_append, HTL.out]; rfl)
            have HRd := Lib.hid hRd
            have hkb : k ≤ 1000 := by omega
            clear hT hR2 hRd HNO hle
            go_upto_region 12 with (go_at_call 96; refine hRS.mono ?_; rintro _ _ ⟨rfl, rfl⟩; clear hRS)
            go_upto_region 13 with (first
              | (with_reducible refine wpList_cut_both _ rfl (.tmp 43) (.tmp 44) (.tmp 48) 33 rfl Tryd.underlying33 ap cp R R.length rfl rfl .i64 .i64 (z : Int) ((z : Int) + (q : Int)) rfl rfl HRd.out z (z + q) rfl rfl hzz hzq T HT.out ?_; intro ao7 cap7 hr7 hk7; have hst := hstr _ _ hr7; clear hr7 hk7 hstr)
              | (at_builtin; refine wpList_append_val _ rfl (.tmp 42) (.tmp 52) rfl H (.slice ao k cap) (ts.map vaT) (vaT (strOf T)) rfl HO.out rfl (by rw [HLEN.out]; omega) hHs.out ?_; intro ao8 cap8 w8 ho8 hc8; rw [HLEN.out] at ho8 ⊢; rw [HSN.out] at ho8; have HO8 := Lib.hid ho8; have HC8 := Lib.hid hc8; clear ho8 hc8))
            have HRS8 := Lib.hid (HRS.out.chg HC8.out)
            have HRd8 := Lib.hid HRS8.out.1
            go_upto_region 14 with (with_reducible refine wpList_cut_lo _ rfl (.tmp 54) (.tmp 58) 33 rfl Tryd.underlying33 ap cp R R.length rfl rfl .i64 ((z : Int) + (q : Int)) rfl HRd8.out (z + q) rfl hzq R2 HR2.out ?_; intro ao7 cap7 hr7 hk7; have HR7 := Lib.hid hr7; have HK7 := Lib.hid hk7; clear hr7 hk7)
            go_wp2_with fail
            go_roundg (gk - 1)
            case measure => go_light; omega
            case rel =>
              go_light
              exact ⟨k + 1, ts ++ [strOf T], R2, ao7, cap7, ao8, cap8, by omega, HTL2, by congr 1, rfl, rfl, hR2l, HNX, Lib.hid ⟨HR7.out, fun j hj => HRS.out.2 j (HK7.out j hj)⟩, HO8, Lib.hid (HC2.out.trans HC8.out)⟩
end Go.Proofs.YthcgalpabjjkoaaDoor
