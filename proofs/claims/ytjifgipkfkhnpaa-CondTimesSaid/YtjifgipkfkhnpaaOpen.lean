/- What an argument reads as, in our words: slices whose elements are flat; the bulk of what is read. -/
import Derived.Test.YtjifgipkfkhnpaaRows
import Derived.Test.YtjifgipkfkhnpaaMem
import Derived.ProofKit
import Derived.OpenShut
import Derived.SizedLaws
import Derived.Deep.Slices
namespace Go.Proofs.Ytjifgipkfkhnpaa
open Go.RowKit Go.ChangeShapes Go.WideShapes Go.ChangeAt

/-! ### The bulk -/
theorem bulk_one {H : Type} (d : DataW H) : 1 ≤ Rows.uptoBulk d := by
  cases d with
  | lit l => cases l <;> simp [Rows.uptoBulk]
  | nil => simp [Rows.uptoBulk]
  | ptr d => simp [Rows.uptoBulk]
  | slice elems spare => simp [Rows.uptoBulk]
  | agg parts => simp [Rows.uptoBulk]
  | iface t d => simp [Rows.uptoBulk]
  | map entries => simp [Rows.uptoBulk]
  | held h => simp [Rows.uptoBulk]

theorem bulk_all {H : Type} (l : List (DataW H)) (f : DataW H → Nat) (h : ∀ d ∈ l, f d ≤ Rows.uptoBulk d) : (l.map f).sum ≤ Rows.uptoBulkAll l := by
  induction l with
  | nil => simp [Rows.uptoBulkAll]
  | cons x r ih =>
    have h1 := h x (by simp)
    have h2 := ih (fun d hd => h d (by simp [hd]))
    simp only [List.map_cons, List.sum_cons, Rows.uptoBulkAll]
    omega

theorem bulk_small {H : Type} {l : List (DataW H)} (hk : Rows.uptoSmall H l = true) : Rows.uptoBulkAll l ≤ 1048576 := of_decide_eq_true hk

/-! ### Integers -/
theorem wf_u8 {n : Int} (h : (Lit.int .u8 n).wf = true) : 0 ≤ n ∧ n ≤ 255 := by simpa [Lit.wf, IntKind.min, IntKind.max, IntKind.signed, IntKind.bits] using h
theorem wf_u16' {n : Int} (h : (Lit.int .u16 n).wf = true) : 0 ≤ n ∧ n ≤ 65535 := by simpa [Lit.wf, IntKind.min, IntKind.max, IntKind.signed, IntKind.bits] using h
theorem wf_u64' {n : Int} (h : (Lit.int .u64 n).wf = true) : 0 ≤ n ∧ n ≤ 18446744073709551615 := by simpa [Lit.wf, IntKind.min, IntKind.max, IntKind.signed, IntKind.bits] using h
theorem wf_i64' {n : Int} (h : (Lit.int .i64 n).wf = true) : -9223372036854775808 ≤ n ∧ n ≤ 9223372036854775807 := by simpa [Lit.wf, IntKind.min, IntKind.max, IntKind.signed, IntKind.bits] using h

/-! ### A slice of flat elements -/
section
variable {H : Type} {enc : TypeId × Value → H} {P : Program} {W : World}

theorem list_choose {α : Type} {q : Nat → α → Prop} : ∀ (n : Nat), (∀ i, i < n → ∃ x, q i x) → ∃ l : List α, l.length = n ∧ ∀ i x, l[i]? = some x → q i x
  | 0, _ => ⟨[], rfl, fun i x h => by simp at h⟩
  | n + 1, h => by
    obtain ⟨l, hl, hq⟩ := list_choose n (fun i hi => h i (by omega))
    obtain ⟨x, hx⟩ := h n (by omega)
    refine ⟨l ++ [x], by simp [hl], fun i y hy => ?_⟩
    by_cases hi : i < n
    · rw [List.getElem?_append_left (by omega)] at hy
      exact hq i y hy
    · rw [List.getElem?_append_right (by omega)] at hy
      have : i - l.length = 0 := by
        cases hk : i - l.length with
        | zero => rfl
        | succ k => rw [hk] at hy; simp at hy
      rw [this] at hy
      simp at hy
      subst hy
      have : i = n := by omega
      subst this
      exact hx

theorem flat_get {α β : Type} (f : α → List β) (size : Nat) (hs : ∀ x, (f x).length = size) : ∀ (l : List α) (j : Nat) (u : β), (l.flatMap f)[j]? = some u → ∃ x, l[j / size]? = some x ∧ (f x)[j % size]? = some u
  | [], j, u, h => by simp at h
  | x :: r, j, u, h => by
    have hx := hs x
    rw [List.flatMap_cons] at h
    by_cases hj : j < size
    · rw [List.getElem?_append_left (by omega)] at h
      rw [Nat.div_eq_of_lt hj, Nat.mod_eq_of_lt hj]
      exact ⟨x, rfl, h⟩
    · rw [List.getElem?_append_right (by omega), hx] at h
      obtain ⟨y, hy, hu⟩ := flat_get f size hs r (j - size) u h
      have hp : 0 < size := by
        rcases Nat.eq_zero_or_pos size with h0 | h0
        · have := hs y; rw [h0] at this; rw [List.length_eq_zero_iff] at this; rw [this] at hu; simp at hu
        · exact h0
      have e1 : j / size = (j - size) / size + 1 := Nat.div_eq_sub_div hp (by omega)
      have e2 : j % size = (j - size) % size := (Nat.mod_eq_sub_mod (by omega))
      rw [e1, e2]
      exact ⟨y, by simpa using hy, hu⟩

theorem flat_len {α β : Type} (f : α → List β) (size : Nat) (hs : ∀ x, (f x).length = size) (l : List α) : (l.flatMap f).length = l.length * size := by
  induction l with
  | nil => simp
  | cons x r ih => rw [List.flatMap_cons, List.length_append, ih, hs, List.length_cons, Nat.add_mul]; omega

theorem flat_at {α β : Type} (f : α → List β) (size : Nat) (hs : ∀ x, (f x).length = size) : ∀ (l : List α) (i : Nat) (hi : i < l.length) (j : Nat) (hj : j < size), (l.flatMap f)[i * size + j]? = some ((f l[i])[j]'(by rw [hs]; exact hj))
  | x :: r, 0, hi, j, hj => by
    rw [List.flatMap_cons, List.getElem?_append_left (by rw [hs]; omega)]
    simp [hs, hj]
  | x :: r, i + 1, hi, j, hj => by
    have e : (i + 1) * size + j = size + (i * size + j) := by rw [Nat.add_mul]; omega
    rw [List.flatMap_cons, e, List.getElem?_append_right (by rw [hs]; omega), hs, Nat.add_sub_cancel_left]
    exact flat_at f size hs r i (by simpa using hi) j hj

/-- Each element, read by its own law 'helem' into an x, of weight 'wt x' (that its datum's bulk bears): the slice reads as the x's. -/
theorem open_flat {X : Type} (encX : X → List Value) (ok : X → Prop) (wt : X → Nat) {t e : TypeId} {size : Nat} (ht : P.underlying t = some (.slice e)) (hsz : P.cellsOf e = size) (hX : ∀ x, (encX x).length = size)
    (helem : ∀ n cs (y : DataW H × List MemPlace), DataW.trod enc P W 0 (fun _ => true) true n e cs = some y → ∃ x, cs = encX x ∧ ok x ∧ wt x ≤ Rows.uptoBulk y.1)
    {v : Value} {b0 : Nat} {d : DataW H} {ps : List MemPlace} (o : Value.okWide P W .any b0 t v) (h : DataW.Trod enc P W 0 (fun _ => true) true t v d ps) :
    ∃ xs : List X, RdV W size v xs.length (xs.flatMap encX) ∧ (∀ x ∈ xs, ok x) ∧ (xs.map wt).sum + 1 ≤ Rows.uptoBulk d ∧ ((v = .slice none 0 0 ∧ d = .nil ∧ xs = []) ∨ ∃ els sp, d = .slice els sp ∧ els.length = xs.length) := by
  obtain ⟨a0, len, cap, rfl⟩ := okWide_slice ht o
  obtain ⟨fuel, hf⟩ := h
  rcases Go.Deep.open_slice ht hf with ⟨hcs, hx⟩ | ⟨a, len', cap', m, n, D, Pl, hcs, _, hl, hm, hmm, hx, hel⟩
  · simp [Value.cells] at hcs
    obtain ⟨rfl, rfl, rfl⟩ := hcs
    simp only [Prod.mk.injEq] at hx
    obtain ⟨rfl, rfl⟩ := hx
    exact ⟨[], by simpa using RdV.nil W size, by simp, by simp [Rows.uptoBulk], .inl ⟨rfl, rfl, rfl⟩⟩
  · simp [Value.cells] at hcs
    obtain ⟨rfl, rfl, rfl⟩ := hcs
    simp only [if_true] at hmm
    simp only [Prod.mk.injEq] at hx
    obtain ⟨rfl, rfl⟩ := hx
    obtain ⟨xs, hxl, hxq⟩ := list_choose (q := fun i x => W.cells? 0 (a.add (i * P.cellsOf e)) (P.cellsOf e) = some (encX x) ∧ ok x ∧ wt x ≤ Rows.uptoBulk (D i)) len (fun i hi => by
      obtain ⟨cs', h1, h2⟩ := hel i (by omega)
      obtain ⟨x, rfl, h3, h4⟩ := helem _ _ _ h2
      exact ⟨x, h1, h3, h4⟩)
    refine ⟨xs, ⟨flat_len encX size hX xs, some a, cap, by rw [hxl], by omega, hm, (fun h => by cases h), fun a' ha j u hu => ?_⟩, ?_, ?_, .inr ⟨_, _, rfl, by simp [hxl]⟩⟩
    · cases ha
      obtain ⟨x, hxj, hxu⟩ := flat_get encX size hX xs j u hu
      obtain ⟨hc, _, _⟩ := hxq _ _ hxj
      rw [hsz] at hc
      obtain ⟨_, hlen, hcell⟩ := World.cells?_some hc
      have hlt : j % size < size := by have := (List.getElem?_eq_some_iff.1 hxu).1; rw [hX] at this; exact this
      have hc2 := hcell (j % size) hlt
      rw [hxu, Go.Deep.add_add] at hc2
      have e : j / size * size + j % size = j := by rw [Nat.mul_comm]; exact Nat.div_add_mod j size
      rw [e] at hc2
      have hb := World.block_lt_of_cell? W _ hc2
      obtain ⟨b, off, spot⟩ := a
      have hsp : spot = none := by
        have hx0 : 0 < xs.length := Nat.lt_of_le_of_lt (Nat.zero_le _) (List.getElem?_eq_some_iff.1 hxj).1
        obtain ⟨_, _, hcell0⟩ := World.cells?_some (hxq 0 (xs[0]'hx0) (List.getElem?_eq_getElem hx0)).1
        have h00 := hcell0 0 (by rw [hsz]; omega)
        simp only [Nat.zero_mul, Addr.add, if_true] at h00
        cases spot with
        | none => rfl
        | some sp =>
          exfalso
          have hne : (encX (xs[0]'hx0))[0]? ≠ none := by
            simp [hX]; omega
          rw [← h00] at hne
          apply hne
          simp only [World.cell?]
          split <;> simp
      subst hsp
      refine ⟨rfl, ?_, ?_⟩
      · simp only [Addr.add] at hb; split at hb <;> simpa using hb
      · rw [Addr.add_lit] at hc2; exact hc2
    · intro x hx
      obtain ⟨i, hi⟩ := List.getElem?_of_mem hx
      exact (hxq i x hi).2.1
    · simp only [Rows.uptoBulk]
      have h1 : ∀ (l : List X) (f : Nat → DataW H), (∀ i x, l[i]? = some x → wt x ≤ Rows.uptoBulk (f i)) → (l.map wt).sum ≤ Rows.uptoBulkAll ((List.range l.length).map f) := by
        intro l
        induction l with
        | nil => intro f _; simp
        | cons x r ih =>
          intro f hf
          have h0 := hf 0 x rfl
          have h2 := ih (fun i => f (i + 1)) (fun i y hy => hf (i + 1) y (by simpa using hy))
          rw [List.length_cons, List.range_succ_eq_map, List.map_cons, List.map_cons, List.sum_cons, List.map_map, Rows.uptoBulkAll]
          have : (List.map (f ∘ Nat.succ) (List.range r.length)) = (List.range r.length).map (fun i => f (i + 1)) := rfl
          rw [this]
          omega
      have h2 := h1 xs D (fun i x hi => (hxq i x hi).2.2)
      rw [hxl] at h2
      omega
end

/-! ### []byte -/
section
variable {H : Type} {enc : TypeId × Value → H} {W : World}

theorem u8_of {n : Int} (h : (Lit.int .u8 n).wf = true) : ∃ x : UInt8, n = (x.toNat : Int) := by
  have := wf_u8 h
  refine ⟨UInt8.ofNat n.toNat, ?_⟩
  simp
  omega


end
end Go.Proofs.Ytjifgipkfkhnpaa
