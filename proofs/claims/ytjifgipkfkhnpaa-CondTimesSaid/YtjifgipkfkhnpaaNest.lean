/- A slice whose elements are read with their data: for nested slices. -/
import Derived.Test.YtjifgipkfkhnpaaOpen
namespace Go.Proofs.Ytjifgipkfkhnpaa
open Go.RowKit Go.ChangeShapes Go.WideShapes Go.ChangeAt
set_option linter.unusedVariables false

section
variable {H : Type} {enc : TypeId × Value → H} {P : Program} {W : World}

theorem open_nest {X : Type} (encX : X → List Value) (ok : X → DataW H → Prop) {t e : TypeId} {size : Nat} (ht : P.underlying t = some (.slice e)) (hsz : P.cellsOf e = size) (hX : ∀ x, (encX x).length = size)
    (helem : ∀ n cs (y : DataW H × List MemPlace), DataW.trod enc P W 0 (fun _ => true) true n e cs = some y → ∃ x, cs = encX x ∧ ok x y.1)
    {v : Value} {d : DataW H} {ps : List MemPlace} {fuel : Nat} (hf : DataW.trod enc P W 0 (fun _ => true) true fuel t [v] = some (d, ps)) :
    ∃ xs : List X, RdV W size v xs.length (xs.flatMap encX) ∧ ((v = .slice none 0 0 ∧ d = .nil ∧ xs = []) ∨ ∃ els sp, d = .slice els sp ∧ els.length = xs.length ∧ ∀ (i : Nat) (x : X), xs[i]? = some x → ∃ y : DataW H, els[i]? = some y ∧ ok x y) := by
  rcases Go.Deep.open_slice ht hf with ⟨hcs, hx⟩ | ⟨a, len', cap', m, n, D, Pl, hcs, _, hl, hm, hmm, hx, hel⟩
  · simp at hcs
    subst hcs
    simp only [Prod.mk.injEq] at hx
    obtain ⟨rfl, rfl⟩ := hx
    exact ⟨[], by simpa using RdV.nil W size, .inl ⟨rfl, rfl, rfl⟩⟩
  · simp at hcs
    subst hcs
    simp only [if_true] at hmm
    simp only [Prod.mk.injEq] at hx
    obtain ⟨rfl, rfl⟩ := hx
    obtain ⟨xs, hxl, hxq⟩ := list_choose (q := fun i x => W.cells? 0 (a.add (i * P.cellsOf e)) (P.cellsOf e) = some (encX x) ∧ ok x (D i)) len' (fun i hi => by
      obtain ⟨cs', h1, h2⟩ := hel i (by omega)
      obtain ⟨x, rfl, h3⟩ := helem _ _ _ h2
      exact ⟨x, h1, h3⟩)
    refine ⟨xs, ⟨flat_len encX size hX xs, some a, cap', by rw [hxl], by omega, hm, (fun h => by cases h), fun a' ha j u hu => ?_⟩, .inr ⟨_, _, rfl, by simp [hxl], ?_⟩⟩
    · cases ha
      obtain ⟨x, hxj, hxu⟩ := flat_get encX size hX xs j u hu
      obtain ⟨hc, _⟩ := hxq _ _ hxj
      rw [hsz] at hc
      obtain ⟨_, hlen, hcell⟩ := World.cells?_some hc
      have hlt : j % size < size := by have := (List.getElem?_eq_some_iff.1 hxu).1; rw [hX] at this; exact this
      have hc2 := hcell (j % size) hlt
      rw [hxu, Go.Deep.add_add] at hc2
      have e : j / size * size + j % size = j := by rw [Nat.mul_comm]; exact Nat.div_add_mod j size
      rw [e] at hc2
      have hb := World.block_lt_of_cell? W _ hc2
      obtain ⟨b, off, spot⟩ := a
      have hsp : spot = none := by
        have hx0 : 0 < xs.length := Nat.lt_of_le_of_lt (Nat.zero_le _) (List.getElem?_eq_some_iff.1 hxj).1
        obtain ⟨_, _, hcell0⟩ := World.cells?_some (hxq 0 (xs[0]'hx0) (List.getElem?_eq_getElem hx0)).1
        have h00 := hcell0 0 (by rw [hsz]; omega)
        simp only [Nat.zero_mul, Addr.add, if_true] at h00
        cases spot with
        | none => rfl
        | some sp =>
          exfalso
          have hne : (encX (xs[0]'hx0))[0]? ≠ none := by
            simp [hX]; omega
          rw [← h00] at hne
          apply hne
          simp only [World.cell?]
          split <;> simp
      subst hsp
      refine ⟨rfl, ?_, ?_⟩
      · simp only [Addr.add] at hb; split at hb <;> simpa using hb
      · rw [Addr.add_lit] at hc2; exact hc2
    · intro i x hi
      have hlt := (List.getElem?_eq_some_iff.1 hi).1
      exact ⟨D i, by rw [List.getElem?_map, List.getElem?_range (by omega)]; rfl, (hxq i x hi).2⟩

theorem weights_el {t e : TypeId} (ht : P.underlying t = some (.slice e)) {els sp : List (DataW H)} {i : Nat} {y : DataW H} (hy : els[i]? = some y) {n : Nat} (hn : n ∈ y.weights P e) : n ∈ DataW.weights P t (.slice els sp) := by
  have key : ∀ (els : List (DataW H)) (i : Nat), els[i]? = some y → n ∈ DataW.weightsAll P e els := by
    intro els
    induction els with
    | nil => intro i h; simp at h
    | cons x r ih =>
      intro i h
      rw [DataW.weightsAll, List.mem_append]
      cases i with
      | zero => simp at h; subst h; exact .inl hn
      | succ i => exact .inr (ih i (by simpa using h))
  simp only [DataW.weights, ht, List.mem_cons, List.mem_append]
  exact .inr (.inl (key els i hy))

theorem weights_all {t : TypeId} {d : DataW H} (h : (DataW.weights P t d).all (· ≤ reachBytes) = true) {n : Nat} (hn : n ∈ DataW.weights P t d) : n ≤ reachBytes := by
  simpa using List.all_eq_true.1 h n hn

theorem trod_struct3 {base : Nat} {spare : Nat → Bool} {held : Bool} {t : TypeId} {f0 f1 f2 : Field} {fuel : Nat} {cs : List Value} {x : DataW H × List MemPlace} (ht : P.underlying t = some (.struct #[f0, f1, f2])) (h : DataW.trod enc P W base spare held fuel t cs = some x) :
    ∃ y0 y1 y2 n, x = (.agg [y0.1, y1.1, y2.1], y0.2 ++ (y1.2 ++ y2.2)) ∧ cs.length = P.cellsOf t ∧ DataW.trod enc P W base spare held n f0.type ((cs.drop f0.offset).take (P.cellsOf f0.type)) = some y0 ∧
      DataW.trod enc P W base spare held n f1.type ((cs.drop f1.offset).take (P.cellsOf f1.type)) = some y1 ∧ DataW.trod enc P W base spare held n f2.type ((cs.drop f2.offset).take (P.cellsOf f2.type)) = some y2 := by
  obtain ⟨xs, n, _, rfl, hl, hlen, hf⟩ := DataW.trod_struct ht h
  match xs, hlen with
  | [y0, y1, y2], _ => exact ⟨y0, y1, y2, n, by simp, hl, by simpa using hf 0 f0 rfl, by simpa using hf 1 f1 rfl, by simpa using hf 2 f2 rfl⟩

theorem trod_struct2 {base : Nat} {spare : Nat → Bool} {held : Bool} {t : TypeId} {f0 f1 : Field} {fuel : Nat} {cs : List Value} {x : DataW H × List MemPlace} (ht : P.underlying t = some (.struct #[f0, f1])) (h : DataW.trod enc P W base spare held fuel t cs = some x) :
    ∃ y0 y1 n, x = (.agg [y0.1, y1.1], y0.2 ++ y1.2) ∧ cs.length = P.cellsOf t ∧ DataW.trod enc P W base spare held n f0.type ((cs.drop f0.offset).take (P.cellsOf f0.type)) = some y0 ∧
      DataW.trod enc P W base spare held n f1.type ((cs.drop f1.offset).take (P.cellsOf f1.type)) = some y1 := by
  obtain ⟨xs, n, _, rfl, hl, hlen, hf⟩ := DataW.trod_struct ht h
  match xs, hlen with
  | [y0, y1], _ => exact ⟨y0, y1, n, by simp, hl, by simpa using hf 0 f0 rfl, by simpa using hf 1 f1 rfl⟩
end
end Go.Proofs.Ytjifgipkfkhnpaa
