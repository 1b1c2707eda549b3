/- Texts of ours, behind one another: FlPlain, Ord12, Nest, Cols12, Frm12, FrmP12, EncL12, Num12, App12, Seq12, Prt12, ClmP12, Get12, Cst12, Short12, Dst12, Coll12, Bes12, Text12. No conditions but those that each states. -/
import Derived.Test.YthcgalpabjjkoaaDoorG12
import Derived.Test.YthcgalpabjjkoaaDoorG5
import Derived.Test.YthcgalpabjjkoaaDoorG10
import Derived.Test.YthcgalpabjjkoaaDoorG2
import Derived.Test.YthcgalpabjjkoaaDoorG1
import Derived.Lib.AppendStr
import Derived.RangeFuncBox
import Derived.RangeFuncLeaves
import Derived.RangeFuncWrites
import Derived.Shelf.Abstract
import Derived.WalkKit
import Derived.OwnWalkIn
import Derived.TacticsInMore
import Derived.LoopNIn
import Derived.LoopIn
import Derived.Maps.AppendAt
import Derived.Sort.QuietIn
/- XFlPlain: What file.Encode writes, in plain words. -/
namespace Go.Proofs.YthcgalpabjjkoaaDoor
open Go.RowKit
set_option linter.unusedVariables false

/-- A column. -/
structure Cn where
  s : ByteArray
  f : ByteArray
  p : List Pn
def Cn.ok (c : Cn) : Prop := ∀ x ∈ c.p, x.ok
def c0 : Cn := ⟨.empty, .empty, []⟩
def magB : List UInt8 := [71, 82, 83, 84, 49]
/-- Texts' order: the first that differs; then the shorter. -/
def nParts (n : Nat) : Nat := (n + 999) / 1000
def partP (p : List Pn) (j : Nat) : List Pn := (p.drop (1000 * j)).take 1000
def partsP (p : List Pn) : List (List Pn) := upto (partP p) (nParts p.length)
/-- What a file's text says ahead of a column's blocks. -/
def hdC (c : Cn) : List UInt8 := beN 2 c.s.toList.length ++ c.s.toList ++ (beN 2 c.f.toList.length ++ c.f.toList) ++ beN 4 (nParts c.p.length)
def entP (o : List UInt8) (q : List Pn) : List UInt8 := be8 (uT (q.getD 0 p0).t) ++ be8 (uT (q.getD (q.length - 1) p0).t) ++ (beN 4 o.length ++ beN 4 (encP q).1.length)
/-- A part more: the blocks and the index; or too long. -/
def stP (s : Option (List UInt8 × List UInt8)) (q : List Pn) : Option (List UInt8 × List UInt8) :=
  match s with
  | none => none
  | some (o, x) => if (encP q).2 ≠ 0 ∨ 1073741824 ≤ o.length + (encP q).1.length then none else some (o ++ (encP q).1, x ++ entP o q)
/-- A column more. -/
def stC (s : Option (List UInt8 × List UInt8)) (c : Cn) : Option (List UInt8 × List UInt8) :=
  match s with
  | none => none
  | some (o, x) => match (partsP c.p).foldl stP (some (o, x ++ hdC c)) with
    | none => none
    | some (o', x') => if 1073741824 ≤ o'.length + x'.length + 8 then none else some (o', x')
def fin (o x : List UInt8) : List UInt8 := o ++ (x ++ (beN 4 o.length ++ beN 4 (crc x)))
theorem foldP_none (l : List (List Pn)) : l.foldl stP none = none := by
  induction l with
  | nil => rfl
  | cons a l ih => exact ih
theorem foldC_none (l : List Cn) : l.foldl stC none = none := by
  induction l with
  | nil => rfl
  | cons a l ih => exact ih
theorem stP_some {s : Option (List UInt8 × List UInt8)} {q : List Pn} {o' x' : List UInt8} (h : stP s q = some (o', x')) :
    ∃ o x, s = some (o, x) ∧ (encP q).2 = 0 ∧ o.length + (encP q).1.length < 1073741824 ∧ o' = o ++ (encP q).1 ∧ x' = x ++ entP o q := by
  unfold stP at h
  split at h
  · cases h
  · rename_i o x
    split at h
    · cases h
    · rename_i hn
      simp only [Option.some.injEq, Prod.mk.injEq] at h
      exact ⟨o, x, rfl, by omega, by omega, h.1.symm, h.2.symm⟩
theorem stC_some {s : Option (List UInt8 × List UInt8)} {c : Cn} {o' x' : List UInt8} (h : stC s c = some (o', x')) :
    ∃ o x, s = some (o, x) ∧ (partsP c.p).foldl stP (some (o, x ++ hdC c)) = some (o', x') ∧ o'.length + x'.length + 8 < 1073741824 := by
  unfold stC at h
  split at h
  · cases h
  · rename_i o x
    split at h
    · cases h
    · rename_i o2 x2 hf
      split at h
      · cases h
      · rename_i hn
        simp only [Option.some.injEq, Prod.mk.injEq] at h
        obtain ⟨rfl, rfl⟩ := h
        exact ⟨o, x, rfl, hf, by omega⟩
theorem fold_take {α β : Type} (f : β → α → β) (l : List α) (k : Nat) (d : α) (h : k < l.length) (s : β) : (l.take (k + 1)).foldl f s = f ((l.take k).foldl f s) (l.getD k d) := by
  rw [List.take_add_one, List.foldl_append, List.getElem?_eq_getElem h]
  simp only [Option.toList_some, List.foldl_cons, List.foldl_nil]
  rw [getD_get l k d h]
theorem partsP_len (p : List Pn) : (partsP p).length = nParts p.length := upto_len _ _
theorem partsP_get (p : List Pn) (j : Nat) (h : j < nParts p.length) : (partsP p).getD j [] = partP p j := upto_getDG _ _ _ _ h
end Go.Proofs.YthcgalpabjjkoaaDoor

/- XOrd12: The order of texts and of columns; file.order. -/
namespace Go.Proofs.YthcgalpabjjkoaaDoor
open Go.RowKit
set_option linter.unusedVariables false

theorem bl_irrefl : ∀ (x : List UInt8), Op.bytesLess x x = false
  | [] => rfl
  | a :: x => by simp [Op.bytesLess, bl_irrefl x]
theorem bl_trans : ∀ (x y z : List UInt8), Op.bytesLess x y = true → Op.bytesLess y z = true → Op.bytesLess x z = true
  | [], [], _, h, _ => by simp [Op.bytesLess] at h
  | [], _ :: _, [], _, h => by simp [Op.bytesLess] at h
  | [], _ :: _, _ :: _, _, _ => by simp [Op.bytesLess]
  | _ :: _, [], _, h, _ => by simp [Op.bytesLess] at h
  | _ :: _, _ :: _, [], _, h => by simp [Op.bytesLess] at h
  | a :: x, b :: y, c :: z, h, k => by
    simp only [Op.bytesLess, Bool.or_eq_true, Bool.and_eq_true, decide_eq_true_eq, beq_iff_eq] at h k ⊢
    rcases h with h | ⟨rfl, h⟩
    · rcases k with k | ⟨rfl, k⟩
      · exact .inl (UInt8.lt_trans h k)
      · exact .inl h
    · rcases k with k | ⟨rfl, k⟩
      · exact .inl k
      · exact .inr ⟨rfl, bl_trans x y z h k⟩
theorem bl_total : ∀ (x y : List UInt8), Op.bytesLess x y = false → x ≠ y → Op.bytesLess y x = true
  | [], [], _, h => absurd rfl h
  | [], _ :: _, h, _ => by simp [Op.bytesLess] at h
  | _ :: _, [], _, _ => by simp [Op.bytesLess]
  | a :: x, b :: y, h, k => by
    simp only [Op.bytesLess, Bool.or_eq_false_iff, Bool.and_eq_false_iff, decide_eq_false_iff_not, beq_eq_false_iff_ne] at h
    simp only [Op.bytesLess, Bool.or_eq_true, Bool.and_eq_true, decide_eq_true_eq, beq_iff_eq]
    obtain ⟨h1, h2⟩ := h
    by_cases e : a = b
    · subst e
      refine .inr ⟨rfl, bl_total x y ?_ (fun e => k (by rw [e]))⟩
      rcases h2 with h2 | h2
      · exact absurd rfl h2
      · exact h2
    · refine .inl ?_
      have h3 : ¬ a.toNat < b.toNat := fun h => h1 (UInt8.lt_iff_toNat_lt.2 h)
      have h4 : a.toNat ≠ b.toNat := fun h => e (UInt8.toNat_inj.1 h)
      exact UInt8.lt_iff_toNat_lt.2 (by omega)
theorem ba_ext {a b : ByteArray} (h : a.toList = b.toList) : a = b := by
  have e : ∀ s : ByteArray, s = strOf s.toList := fun s => by
    have e1 : s = strOf s.data.toList := by cases s; simp [strOf]
    have e2 : s.toList = s.data.toList := by conv => lhs; rw [e1, strOf_toList]
    rw [e2, ← e1]
  rw [e a, e b, h]

/-- A column's name stands ahead of another's. -/
def ltC (a b : Cn) : Bool := Op.bytesLess a.s.toList b.s.toList || (a.s.toList == b.s.toList && Op.bytesLess a.f.toList b.f.toList)
theorem ltC_trans {a b c : Cn} (h : ltC a b = true) (k : ltC b c = true) : ltC a c = true := by
  unfold ltC at *
  simp only [Bool.or_eq_true, Bool.and_eq_true, beq_iff_eq] at *
  rcases h with h | ⟨e, h⟩
  · rcases k with k | ⟨e2, k⟩
    · exact .inl (bl_trans _ _ _ h k)
    · exact .inl (by rw [← e2]; exact h)
  · rcases k with k | ⟨e2, k⟩
    · exact .inl (by rw [e]; exact k)
    · exact .inr ⟨e.trans e2, bl_trans _ _ _ h k⟩
theorem ltC_ne {a b : Cn} (h : ltC a b = true) : ¬ (a.s = b.s ∧ a.f = b.f) := by
  rintro ⟨e1, e2⟩
  unfold ltC at h
  rw [e1, e2, bl_irrefl, bl_irrefl] at h
  simp at h
theorem ltC_total {a b : Cn} (h : ltC a b = false) (k : ¬ (a.s = b.s ∧ a.f = b.f)) : ltC b a = true := by
  unfold ltC at *
  simp only [Bool.or_eq_false_iff, Bool.and_eq_false_iff, beq_eq_false_iff_ne] at h
  simp only [Bool.or_eq_true, Bool.and_eq_true, beq_iff_eq]
  by_cases e : a.s.toList = b.s.toList
  · refine .inr ⟨e.symm, bl_total _ _ ?_ (fun e2 => k ⟨ba_ext e, ba_ext e2⟩)⟩
    rcases h.2 with h2 | h2
    · exact absurd e h2
    · exact h2
  · exact .inl (bl_total _ _ h.1 e)

def cmpS (a b : ByteArray) : Int := if Op.bytesLess a.toList b.toList then -1 else if a.toList == b.toList then 0 else 1
theorem cmpS_zero {a b : ByteArray} : cmpS a b = 0 ↔ a = b := by
  unfold cmpS
  constructor
  · intro h
    split at h
    · cases h
    · split at h
      · rename_i h2
        exact ba_ext (by simpa using h2)
      · cases h
  · rintro rfl
    rw [bl_irrefl]
    simp
def ordC (a b : Cn) : Int := if cmpS a.s b.s ≠ 0 then cmpS a.s b.s else cmpS a.f b.f
theorem cmpS_neg (a b : ByteArray) : cmpS a b < 0 ↔ Op.bytesLess a.toList b.toList = true := by
  unfold cmpS
  split
  · rename_i h; simp [h]
  · rename_i h
    split <;> simp [h]
theorem cmpS_range (a b : ByteArray) : cmpS a b = -1 ∨ cmpS a b = 0 ∨ cmpS a b = 1 := by
  unfold cmpS
  split
  · simp
  · split <;> simp
theorem ordC_range (a b : Cn) : ordC a b = -1 ∨ ordC a b = 0 ∨ ordC a b = 1 := by
  unfold ordC
  split
  · exact cmpS_range _ _
  · exact cmpS_range _ _
theorem ordC_neg (a b : Cn) : ordC a b < 0 ↔ ltC a b = true := by
  unfold ordC ltC
  by_cases h : cmpS a.s b.s = 0
  · have e := cmpS_zero.1 h
    rw [if_neg (by simp [h]), cmpS_neg, e, bl_irrefl]
    simp
  · rw [if_pos h, cmpS_neg]
    have e : ¬ a.s.toList = b.s.toList := fun e => h (cmpS_zero.2 (ba_ext e))
    simp [e]
theorem ordC_zero (a b : Cn) : ordC a b = 0 ↔ a.s = b.s ∧ a.f = b.f := by
  unfold ordC
  by_cases h : cmpS a.s b.s = 0
  · rw [if_neg (by simp [h]), cmpS_zero]
    simp [cmpS_zero.1 h]
  · rw [if_pos h]
    constructor
    · intro e; exact absurd e h
    · rintro ⟨e, _⟩; exact absurd (cmpS_zero.2 e) h

theorem cmpS_any (a b : ByteArray) (w : World) :
    Calls Tryd.prog 47 #[.string a, .string b] w fun e w' => e = .returned (.int .i64 (cmpS a b)) ∧ w' = w := by
  have hn : ∀ x (w : World), Calls Tryd.prog 73 #[.string x] w fun e w' => e = .returned (.bool false) ∧ w' = w := by
    intro x w
    go_enter Tryd.func73, Tryd.ntmps73
    go_wp2_with fail
    go_ret
    exact ⟨by simp, rfl⟩
  go_enter Tryd.func47, Tryd.ntmps47
  go_wp2_with (go_at_call 73; refine (hn _ _).mono ?_; rintro _ _ ⟨rfl, rfl⟩)
  all_goals (go_ret; refine ⟨?_, rfl⟩)
  all_goals (unfold cmpS; simp_all)
end Go.Proofs.YthcgalpabjjkoaaDoor

/- XNest: A slice whose elements are read with their data: for nested slices. -/
namespace Go.Proofs.YthcgalpabjjkoaaDoor
open Go.RowKit Go.ChangeShapes Go.WideShapes Go.ChangeAt
set_option linter.unusedVariables false

section
variable {H : Type} {enc : TypeId × Value → H} {P : Program} {W : World}

theorem open_nest {X : Type} (encX : X → List Value) (ok : X → DataW H → Prop) {t e : TypeId} {size : Nat} (ht : P.underlying t = some (.slice e)) (hsz : P.cellsOf e = size) (hX : ∀ x, (encX x).length = size)
    (helem : ∀ n cs (y : DataW H × List MemPlace), DataW.trod enc P W 0 (fun _ => true) true n e cs = some y → ∃ x, cs = encX x ∧ ok x y.1)
    {v : Value} {d : DataW H} {ps : List MemPlace} {fuel : Nat} (hf : DataW.trod enc P W 0 (fun _ => true) true fuel t [v] = some (d, ps)) :
    ∃ xs : List X, RdV W size v xs.length (xs.flatMap encX) ∧ ((v = .slice none 0 0 ∧ d = .nil ∧ xs = []) ∨ ∃ els sp, d = .slice els sp ∧ els.length = xs.length ∧ ∀ (i : Nat) (x : X), xs[i]? = some x → ∃ y : DataW H, els[i]? = some y ∧ ok x y) := by
  rcases Go.Deep.open_slice ht hf with ⟨hcs, hx⟩ | ⟨a, len', cap', m, n, D, Pl, hcs, _, hl, hm, hmm, hx, hel⟩
  · simp at hcs
    subst hcs
    simp only [Prod.mk.injEq] at hx
    obtain ⟨rfl, rfl⟩ := hx
    exact ⟨[], by simpa using RdV.nil W size, .inl ⟨rfl, rfl, rfl⟩⟩
  · simp at hcs
    subst hcs
    simp only [if_true] at hmm
    simp only [Prod.mk.injEq] at hx
    obtain ⟨rfl, rfl⟩ := hx
    obtain ⟨xs, hxl, hxq⟩ := list_choose (q := fun i x => W.cells? 0 (a.add (i * P.cellsOf e)) (P.cellsOf e) = some (encX x) ∧ ok x (D i)) len' (fun i hi => by
      obtain ⟨cs', h1, h2⟩ := hel i (by omega)
      obtain ⟨x, rfl, h3⟩ := helem _ _ _ h2
      exact ⟨x, h1, h3⟩)
    refine ⟨xs, ⟨flat_len encX size hX xs, some a, cap', by rw [hxl], by omega, hm, (fun h => by cases h), fun a' ha j u hu => ?_⟩, .inr ⟨_, _, rfl, by simp [hxl], ?_⟩⟩
    · cases ha
      obtain ⟨x, hxj, hxu⟩ := flat_get encX size hX xs j u hu
      obtain ⟨hc, _⟩ := hxq _ _ hxj
      rw [hsz] at hc
      obtain ⟨_, hlen, hcell⟩ := World.cells?_some hc
      have hlt : j % size < size := by have := (List.getElem?_eq_some_iff.1 hxu).1; rw [hX] at this; exact this
      have hc2 := hcell (j % size) hlt
      rw [hxu, Go.Deep.add_add] at hc2
      have e : j / size * size + j % size = j := by rw [Nat.mul_comm]; exact Nat.div_add_mod j size
      rw [e] at hc2
      have hb := World.block_lt_of_cell? W _ hc2
      obtain ⟨b, off, spot⟩ := a
      have hsp : spot = none := by
        have hx0 : 0 < xs.length := Nat.lt_of_le_of_lt (Nat.zero_le _) (List.getElem?_eq_some_iff.1 hxj).1
        obtain ⟨_, _, hcell0⟩ := World.cells?_some (hxq 0 (xs[0]'hx0) (List.getElem?_eq_getElem hx0)).1
        have h00 := hcell0 0 (by rw [hsz]; omega)
        simp only [Nat.zero_mul, Addr.add, if_true] at h00
        cases spot with
        | none => rfl
        | some sp =>
          exfalso
          have hne : (encX (xs[0]'hx0))[0]? ≠ none := by
            simp [hX]; omega
          rw [← h00] at hne
          apply hne
          simp only [World.cell?]
          split <;> simp
      subst hsp
      refine ⟨rfl, ?_, ?_⟩
      · simp only [Addr.add] at hb; split at hb <;> simpa using hb
      · rw [Addr.add_lit] at hc2; exact hc2
    · intro i x hi
      have hlt := (List.getElem?_eq_some_iff.1 hi).1
      exact ⟨D i, by rw [List.getElem?_map, List.getElem?_range (by omega)]; rfl, (hxq i x hi).2⟩

theorem weights_el {t e : TypeId} (ht : P.underlying t = some (.slice e)) {els sp : List (DataW H)} {i : Nat} {y : DataW H} (hy : els[i]? = some y) {n : Nat} (hn : n ∈ y.weights P e) : n ∈ DataW.weights P t (.slice els sp) := by
  have key : ∀ (els : List (DataW H)) (i : Nat), els[i]? = some y → n ∈ DataW.weightsAll P e els := by
    intro els
    induction els with
    | nil => intro i h; simp at h
    | cons x r ih =>
      intro i h
      rw [DataW.weightsAll, List.mem_append]
      cases i with
      | zero => simp at h; subst h; exact .inl hn
      | succ i => exact .inr (ih i (by simpa using h))
  simp only [DataW.weights, ht, List.mem_cons, List.mem_append]
  exact .inr (.inl (key els i hy))

theorem weights_all {t : TypeId} {d : DataW H} (h : (DataW.weights P t d).all (· ≤ reachBytes) = true) {n : Nat} (hn : n ∈ DataW.weights P t d) : n ≤ reachBytes := by
  simpa using List.all_eq_true.1 h n hn

theorem trod_struct3 {base : Nat} {spare : Nat → Bool} {held : Bool} {t : TypeId} {f0 f1 f2 : Field} {fuel : Nat} {cs : List Value} {x : DataW H × List MemPlace} (ht : P.underlying t = some (.struct #[f0, f1, f2])) (h : DataW.trod enc P W base spare held fuel t cs = some x) :
    ∃ y0 y1 y2 n, x = (.agg [y0.1, y1.1, y2.1], y0.2 ++ (y1.2 ++ y2.2)) ∧ cs.length = P.cellsOf t ∧ DataW.trod enc P W base spare held n f0.type ((cs.drop f0.offset).take (P.cellsOf f0.type)) = some y0 ∧
      DataW.trod enc P W base spare held n f1.type ((cs.drop f1.offset).take (P.cellsOf f1.type)) = some y1 ∧ DataW.trod enc P W base spare held n f2.type ((cs.drop f2.offset).take (P.cellsOf f2.type)) = some y2 := by
  obtain ⟨xs, n, _, rfl, hl, hlen, hf⟩ := DataW.trod_struct ht h
  match xs, hlen with
  | [y0, y1, y2], _ => exact ⟨y0, y1, y2, n, by simp, hl, by simpa using hf 0 f0 rfl, by simpa using hf 1 f1 rfl, by simpa using hf 2 f2 rfl⟩

theorem trod_struct2 {base : Nat} {spare : Nat → Bool} {held : Bool} {t : TypeId} {f0 f1 : Field} {fuel : Nat} {cs : List Value} {x : DataW H × List MemPlace} (ht : P.underlying t = some (.struct #[f0, f1])) (h : DataW.trod enc P W base spare held fuel t cs = some x) :
    ∃ y0 y1 n, x = (.agg [y0.1, y1.1], y0.2 ++ y1.2) ∧ cs.length = P.cellsOf t ∧ DataW.trod enc P W base spare held n f0.type ((cs.drop f0.offset).take (P.cellsOf f0.type)) = some y0 ∧
      DataW.trod enc P W base spare held n f1.type ((cs.drop f1.offset).take (P.cellsOf f1.type)) = some y1 := by
  obtain ⟨xs, n, _, rfl, hl, hlen, hf⟩ := DataW.trod_struct ht h
  match xs, hlen with
  | [y0, y1], _ => exact ⟨y0, y1, n, by simp, hl, by simpa using hf 0 f0 rfl, by simpa using hf 1 f1 rfl⟩
end
end Go.Proofs.YthcgalpabjjkoaaDoor

/- XCols12: Columns, as an argument: what they read as, and how many they may be; SameColumns of what reads alike. -/
namespace Go.Proofs.YthcgalpabjjkoaaDoor
open Go.RowKit Go.ChangeShapes Go.WideShapes Go.ChangeAt
set_option linter.unusedVariables false
set_option maxRecDepth 20000

/-- A column in memory: its points' slice beside it. -/
structure Cb where
  c : Cn
  pv : Value
def Cb.cells (b : Cb) : List Value := [.string b.c.s, .string b.c.f, b.pv]
def b0 : Cb := ⟨c0, .slice none 0 0⟩
def Cols (w : World) (v : Value) (cs : List Cb) : Prop := RdV w 3 v cs.length (cs.flatMap Cb.cells) ∧ ∀ c ∈ cs, Pns w c.pv c.c.p
def cnS (cs : List Cb) : List Cn := cs.map Cb.c
theorem cnS_len (cs : List Cb) : (cnS cs).length = cs.length := List.length_map _
theorem cnS_get (cs : List Cb) (i : Nat) (h : i < cs.length) : (cnS cs).getD i c0 = (cs.getD i b0).c := by
  unfold cnS
  rw [List.getD_eq_getElem?_getD, List.getD_eq_getElem?_getD, List.getElem?_map, List.getElem?_eq_getElem h]
  rfl
theorem Cols.below {w w' : World} {v : Value} {cs : List Cb} (h : Cols w v cs) (hb : Below w.heap.size w w') : Cols w' v cs := ⟨h.1.below hb, fun c hc => RdV.below (h.2 c hc) hb⟩
theorem Cols.drewN {w : World} {v : Value} {cs : List Cb} (h : Cols w v cs) (n : Nat) : Cols (w.drewN n) v cs := h
theorem col_at {w : World} {v : Value} {cs : List Cb} (h : Cols w v cs) (i : Nat) (hi : i < cs.length) :
    ∃ b off cap, v = .slice (some ⟨b, off, none⟩) cs.length cap ∧ b < w.heap.size ∧ w.cell? ⟨b, off + i * 3, none⟩ = some (.string (cs.getD i b0).c.s) ∧ w.cell? ⟨b, off + i * 3 + 1, none⟩ = some (.string (cs.getD i b0).c.f) ∧
      w.cell? ⟨b, off + i * 3 + 2, none⟩ = some (cs.getD i b0).pv ∧ Pns w (cs.getD i b0).pv (cs.getD i b0).c.p := by
  obtain ⟨b, off, cap, rfl, _, _, hb, hc⟩ := RdV.some h.1 (by omega) (by decide)
  have e0 := flat_at Cb.cells 3 (fun _ => rfl) cs i hi 0 (by omega)
  have e1 := flat_at Cb.cells 3 (fun _ => rfl) cs i hi 1 (by omega)
  have e2 := flat_at Cb.cells 3 (fun _ => rfl) cs i hi 2 (by omega)
  rw [getD_get cs i b0 hi]
  exact ⟨b, off, cap, rfl, hb, hc _ _ e0, hc _ _ e1, hc _ _ e2, h.2 _ (List.getElem_mem hi)⟩

section
variable {H : Type} {enc : TypeId × Value → H} {W : World}
theorem cb_elem (n : Nat) (cs : List Value) (y : DataW H × List MemPlace) (hy : DataW.trod enc Tryd.prog W 0 (fun _ => true) true n 31 cs = some y) :
    ∃ c : Cb, cs = c.cells ∧ ((Pns W c.pv c.c.p ∧ c.c.ok) ∧ ((∀ n ∈ DataW.weights Tryd.prog 31 y.1, n ≤ reachBytes) → c.c.p.length * 40 ≤ 140737488351232)) := by
  obtain ⟨y0, y1, y2, m, rfl, hl, e0, e1, e2⟩ := trod_struct3 Tryd.underlying31 hy
  obtain ⟨a, ha, _, _⟩ := DataW.trod_string Tryd.underlying9 e0
  obtain ⟨b, hb, _, _⟩ := DataW.trod_string Tryd.underlying9 e1
  have hcl : Tryd.prog.cellsOf 31 = 3 := by kernel_rfl
  have h1c : Tryd.prog.cellsOf 9 = 1 := by kernel_rfl
  have h2c : Tryd.prog.cellsOf 24 = 1 := by kernel_rfl
  rw [hcl] at hl
  simp only [h1c, h2c] at ha hb e2
  match cs, hl with
  | [k0, k1, k2], _ =>
    simp at ha hb
    subst ha; subst hb
    simp only [List.drop_succ_cons, List.drop_zero, List.take_succ_cons, List.take_zero] at e2
    obtain ⟨xs, hr, hd⟩ := open_nest Pn.cells (fun p _ => p.ok) Tryd.underlying24 (by kernel_rfl : Tryd.prog.cellsOf 29 = 4) (fun _ => rfl) (fun n cs y hy => trod_pn hy) (v := k2) (d := y2.1) (ps := y2.2) e2
    refine ⟨⟨⟨a, b, xs⟩, k2⟩, rfl, ⟨hr, fun p hp => ?_⟩, fun hw => ?_⟩
    · rcases hd with ⟨_, _, rfl⟩ | ⟨els, sp, hd, hlen, hel⟩
      · cases hp
      · obtain ⟨i, hi⟩ := List.getElem?_of_mem hp
        obtain ⟨_, _, h⟩ := hel i p hi
        exact h
    rcases hd with ⟨_, _, rfl⟩ | ⟨els, sp, hd, hlen, _⟩
    · simp
    · have hb : Tryd.prog.bytesOf 29 = 40 := by kernel_rfl
      have := hw ((els.length + sp.length) * Tryd.prog.bytesOf 29) (by
        simp [DataW.weights, Tryd.underlying31, DataW.weightsEach, hd, Tryd.underlying24])
      rw [hb] at this
      unfold reachBytes at this
      dsimp only
      omega

theorem open_cols {v : Value} {b0' : Nat} {d : DataW H} {ps : List MemPlace} (o : Value.okWide Tryd.prog W .any b0' 32 v) (h : DataW.Trod enc Tryd.prog W 0 (fun _ => true) true 32 v d ps)
    (hsz : (DataW.weights Tryd.prog 32 d).all (· ≤ reachBytes) = true) :
    ∃ cs : List Cb, Cols W v cs ∧ cs.length * 56 ≤ 140737488351232 ∧ (∀ c ∈ cs, c.c.p.length * 40 ≤ 140737488351232) ∧ ∀ c ∈ cs, c.c.ok := by
  obtain ⟨a0, len, cap, rfl⟩ := okWide_slice Tryd.underlying32 o
  obtain ⟨fuel, hf⟩ := h
  obtain ⟨cs, hr, hd⟩ := open_nest Cb.cells (fun c y => (Pns W c.pv c.c.p ∧ c.c.ok) ∧ ((∀ n ∈ DataW.weights Tryd.prog 31 y, n ≤ reachBytes) → c.c.p.length * 40 ≤ 140737488351232)) Tryd.underlying32 (by kernel_rfl : Tryd.prog.cellsOf 31 = 3) (fun _ => rfl) cb_elem (v := .slice a0 len cap) (d := d) (ps := ps) hf
  refine ⟨cs, ⟨hr, fun c hc => ?_⟩, ?_, fun c hc => ?_, fun c hc => ?_⟩
  · obtain ⟨i, hi⟩ := List.getElem?_of_mem hc
    rcases hd with ⟨_, _, rfl⟩ | ⟨els, sp, rfl, hlen, hel⟩
    · cases hc
    · obtain ⟨y, _, h1, _⟩ := hel i c hi
      exact h1.1
  · rcases hd with ⟨_, _, rfl⟩ | ⟨els, sp, rfl, hlen, hel⟩
    · simp
    · have hb : Tryd.prog.bytesOf 31 = 56 := by kernel_rfl
      have := weights_all hsz (n := (els.length + sp.length) * Tryd.prog.bytesOf 31) (by simp [DataW.weights, Tryd.underlying32])
      rw [hb] at this
      unfold reachBytes at this
      omega
  · obtain ⟨i, hi⟩ := List.getElem?_of_mem hc
    rcases hd with ⟨_, _, rfl⟩ | ⟨els, sp, rfl, hlen, hel⟩
    · cases hc
    · obtain ⟨y, hy, _, h2⟩ := hel i c hi
      exact h2 fun n hn => weights_all hsz (weights_el Tryd.underlying32 hy hn)
  · obtain ⟨i, hi⟩ := List.getElem?_of_mem hc
    rcases hd with ⟨_, _, rfl⟩ | ⟨els, sp, rfl, hlen, hel⟩
    · cases hc
    · obtain ⟨y, _, h1, _⟩ := hel i c hi
      exact h1.2
end

theorem quiet_at {P : Program} {f : FuncId} {args : Array Value} {w : World} {q n : Nat} {v : Value}
    (h : Calls P f args (w.drewN (q + n)) fun e w' => e = .returned v ∧ ∃ m, w' = (w.drewN (q + n)).drewN m) : Calls P f args (w.drewN (q + n)) fun e w'' => e = .returned v ∧ ∃ m, w'' = w.drewN (q + m) :=
  h.mono fun _ _ ⟨he, m, hm⟩ => ⟨he, n + m, by rw [hm, World.drewN_drewN, Nat.add_assoc]⟩

set_option maxHeartbeats 1000000 in
theorem sameColumns_any (cs ds : List Cb) (a b : Value) (w : World) (ha : Cols w a cs) (hb : Cols w b ds) (ht : cnS cs = cnS ds) :
    Calls Tryd.prog 9 #[a, b] w fun e w' => e = .returned (.bool true) ∧ ∃ m, w' = w.drewN m := by
  obtain ⟨ao, ac, rfl, hn, hac⟩ := RdV.shape ha.1
  obtain ⟨bo, bc, rfl, hbn, hbc⟩ := RdV.shape hb.1
  unfold maxLen at hac hbc
  have hlen : cs.length = ds.length := by rw [← cnS_len cs, ← cnS_len ds, ht]
  have HT := Lib.hid ht
  clear ht
  go_enter Tryd.func9, Tryd.ntmps9
  go_wp2_with fail
  go_loopg [13] cs.length (fun m s13 wr => ∃ k : Nat, k + m = cs.length ∧ s13 = .int .i64 k ∧ ∃ q, wr = w.drewN q)
  case atStart => exact ⟨0, by omega, rfl, 0, rfl⟩
  case round =>
    obtain ⟨k, hk, rfl, q, rfl⟩ := hrel
    by_cases h0 : gk = 0
    · obtain rfl : k = cs.length := by omega
      clear hk
      go_wp2_with fail
      go_ret
      exact ⟨rfl, q, rfl⟩
    · have hlt : k < cs.length := by omega
      have hlt2 : k < ds.length := by omega
      obtain ⟨b1, off1, cap1, he, _, e0, e1, e2, hp1⟩ := col_at ha k hlt
      simp only [Value.slice.injEq, true_and] at he
      obtain ⟨rfl, rfl⟩ := he
      obtain ⟨b2, off2, cap2, he, _, f0, f1, f2, hp2⟩ := col_at hb k hlt2
      simp only [Value.slice.injEq, true_and] at he
      obtain ⟨rfl, rfl⟩ := he
      have hk2 : (cs.getD k b0).c = (ds.getD k b0).c := by rw [← cnS_get cs k hlt, ← cnS_get ds k hlt2, HT.out]
      generalize cs.getD k b0 = c at *
      generalize ds.getD k b0 = d at *
      obtain ⟨cc, cpv⟩ := c
      obtain ⟨dc, dpv⟩ := d
      obtain rfl : cc = dc := hk2
      obtain ⟨ccs, ccf, ccp⟩ := cc
      dsimp only at *
      have hB : ∀ n, Calls Tryd.prog 11 #[cpv, dpv] (w.drewN n) fun e w' => e = .returned (.bool true) ∧ ∃ m, w' = (w.drewN n).drewN m := fun n => samePn_any ccp cpv dpv _ hp1 hp2
      clear hp1 hp2
      go_upto_region 6 with fail
      go_quiet ((go_at_call 11; exact quiet_at (hB _)))
      go_wp2_with fail
      go_roundg (gk - 1)
      case measure => go_light; omega
      case rel =>
        go_light
        exact ⟨k + 1, by omega, by go_num, _, rfl⟩
end Go.Proofs.YthcgalpabjjkoaaDoor

/- XFrm12: cmp.Or, file.order; formed. -/
namespace Go.Proofs.YthcgalpabjjkoaaDoor
open Go.RowKit
set_option linter.unusedVariables false
set_option maxRecDepth 100000

set_option maxHeartbeats 400000 in
theorem or_any (x y : Int) (g : Nat) (w : World) (h0 : w.cell? ⟨g, 0, none⟩ = some (.int .i64 x)) (h1 : w.cell? ⟨g, 1, none⟩ = some (.int .i64 y)) :
    Calls Tryd.prog 46 #[.slice (some ⟨g, 0, none⟩) 2 2] w fun e w' => e = .returned (.int .i64 (if x ≠ 0 then x else y)) ∧ w' = w := by
  obtain ⟨R, hR⟩ : ∃ R, R = if x ≠ 0 then x else y := ⟨_, rfl⟩
  rw [← hR]
  have HR := Lib.hid hR
  clear hR
  go_enter Tryd.func46, Tryd.ntmps46
  go_wp2_with fail
  go_loopg [8] 2 (fun m s8 wr => wr = w ∧ ((m = 2 ∧ s8 = .int .i64 0) ∨ (m = 1 ∧ s8 = .int .i64 1 ∧ x = 0) ∨ (m = 0 ∧ s8 = .int .i64 2 ∧ x = 0 ∧ y = 0)))
  case atStart => exact ⟨rfl, .inl ⟨rfl, rfl⟩⟩
  case round =>
    obtain ⟨rfl, ⟨rfl, rfl⟩ | ⟨rfl, rfl, hx⟩ | ⟨rfl, rfl, hx, hy⟩⟩ := hrel
    · by_cases hx : x = 0
      · have hxI : (x != 0) = false := by simp [hx]
        go_wp2_with fail
        go_roundg 1
        case measure => go_light; omega
        case rel =>
          go_light
          exact ⟨rfl, .inr (.inl ⟨rfl, rfl, hx⟩)⟩
      · have hxI : (x != 0) = true := by simp [hx]
        go_wp2_with fail
        go_ret
        exact ⟨by rw [HR.out, if_pos hx]; rfl, rfl⟩
    · by_cases hy : y = 0
      · have hyI : (y != 0) = false := by simp [hy]
        go_wp2_with fail
        go_roundg 0
        case measure => go_light; omega
        case rel =>
          go_light
          exact ⟨rfl, .inr (.inr ⟨rfl, rfl, hx, hy⟩)⟩
      · have hyI : (y != 0) = true := by simp [hy]
        go_wp2_with fail
        go_ret
        exact ⟨by rw [HR.out, if_neg (by simp [hx])]; rfl, rfl⟩
    · go_wp2_with fail
      go_ret
      exact ⟨by rw [HR.out, if_neg (by simp [hx]), hy]; rfl, rfl⟩

set_option maxHeartbeats 1000000 in
theorem order_any (a b : Cn) (pa pb : Value) (w : World) :
    Calls Tryd.prog 29 #[.agg #[.string a.s, .string a.f, pa], .agg #[.string b.s, .string b.f, pb]] w fun e w' => e = .returned (.int .i64 (ordC a b)) ∧ Below w.heap.size w w' := by
  have h1 := fun (w' : World) => cmpS_any a.s b.s w'
  have h2 := fun (w' : World) => cmpS_any a.f b.f w'
  have HD : Hid (ordC a b = if cmpS a.s b.s ≠ 0 then cmpS a.s b.s else cmpS a.f b.f) := Lib.hid rfl
  generalize ordC a b = O at *
  generalize cmpS a.s b.s = X at *
  generalize cmpS a.f b.f = Y at *
  go_enter Tryd.func29, Tryd.ntmps29
  have hc0 : ((w.alloc (.cells #[.string a.s, .string a.f, pa] 31)).alloc (.cells #[.string b.s, .string b.f, pb] 31)).cell? ⟨w.heap.size, 0, none⟩ = some (.string a.s) := by simp [go_sem]
  have hc1 : ((w.alloc (.cells #[.string a.s, .string a.f, pa] 31)).alloc (.cells #[.string b.s, .string b.f, pb] 31)).cell? ⟨w.heap.size, 1, none⟩ = some (.string a.f) := by simp [go_sem]
  have hc2 : ((w.alloc (.cells #[.string a.s, .string a.f, pa] 31)).alloc (.cells #[.string b.s, .string b.f, pb] 31)).cell? ⟨w.heap.size + 1, 0, none⟩ = some (.string b.s) := by simp [go_sem]
  have hc3 : ((w.alloc (.cells #[.string a.s, .string a.f, pa] 31)).alloc (.cells #[.string b.s, .string b.f, pb] 31)).cell? ⟨w.heap.size + 1, 1, none⟩ = some (.string b.f) := by simp [go_sem]
  have hB1 : Below w.heap.size w ((w.alloc (.cells #[.string a.s, .string a.f, pa] 31)).alloc (.cells #[.string b.s, .string b.f, pb] 31)) := ((Below.refl _ w).alloc (Nat.le_refl _) _).alloc (by simp) _
  have hlt : w.heap.size + 1 < ((w.alloc (.cells #[.string a.s, .string a.f, pa] 31)).alloc (.cells #[.string b.s, .string b.f, pb] 31)).heap.size := by simp
  go_upto_region 1 with fail
  generalize (w.alloc (.cells #[.string a.s, .string a.f, pa] 31)).alloc (.cells #[.string b.s, .string b.f, pb] 31) = w1 at *
  have hS : w1.drew.cell? ⟨w.heap.size, 0, none⟩ = some (.string a.s) ∧ w1.drew.cell? ⟨w.heap.size, 1, none⟩ = some (.string a.f) ∧ w1.drew.cell? ⟨w.heap.size + 1, 0, none⟩ = some (.string b.s) ∧ w1.drew.cell? ⟨w.heap.size + 1, 1, none⟩ = some (.string b.f) := ⟨hc0, hc1, hc2, hc3⟩
  have hB : Below w.heap.size w w1.drew := hB1.drew
  have hl2 : w.heap.size + 1 < w1.drew.heap.size := hlt
  refine wp_region_held_drew (S := fun wz => wz.cell? ⟨w.heap.size, 0, none⟩ = some (.string a.s) ∧ wz.cell? ⟨w.heap.size, 1, none⟩ = some (.string a.f) ∧ wz.cell? ⟨w.heap.size + 1, 0, none⟩ = some (.string b.s) ∧ wz.cell? ⟨w.heap.size + 1, 1, none⟩ = some (.string b.f)) (by kernel_rfl) hS (fun hh => ?_)
  clear hh hc0 hc1 hc2 hc3 hB1 hlt
  generalize w1.drew = x0 at *
  refine wpAnyH_take (i := 0) (oi := { dst := some 5, op := Op.fieldAddr 31 (Operand.tmp 2) 0, type := 0, pos := "file.go:24", after := #[], guard := none }) (v := ?_) rfl (by kernel_rfl) (by kernel_rfl) (by kernel_rfl) (fun _ _ _ h => h) (Or.inl ⟨by rfl, ?_⟩) hS ?_
  rotate_left
  · intro w hSw; (try dsimp only at hSw); go_simp; try with_reducible rfl
  try simp only [Act.put, List.setIfInBounds_toArray, List.set_cons_zero, List.set_cons_succ]
  refine wpAnyH_take (i := 1) (oi := { dst := some 6, op := Op.load 9 (Operand.tmp 5), type := 9, pos := "file.go:24", after := #[{ on := 0, ground := Ground.data }], guard := none }) (v := ?_) rfl (by kernel_rfl) (by kernel_rfl) (by kernel_rfl) (fun _ _ _ h => h) (Or.inl ⟨by rfl, ?_⟩) hS ?_
  rotate_left
  · intro w hSw; (try dsimp only at hSw); go_simp; try with_reducible rfl
  try simp only [Act.put, List.setIfInBounds_toArray, List.set_cons_zero, List.set_cons_succ]
  refine wpAnyH_take (i := 2) (oi := { dst := some 7, op := Op.fieldAddr 31 (Operand.tmp 3) 0, type := 0, pos := "file.go:24", after := #[], guard := none }) (v := ?_) rfl (by kernel_rfl) (by kernel_rfl) (by kernel_rfl) (fun _ _ _ h => h) (Or.inl ⟨by rfl, ?_⟩) hS ?_
  rotate_left
  · intro w hSw; (try dsimp only at hSw); go_simp; try with_reducible rfl
  try simp only [Act.put, List.setIfInBounds_toArray, List.set_cons_zero, List.set_cons_succ]
  refine wpAnyH_take (i := 3) (oi := { dst := some 8, op := Op.load 9 (Operand.tmp 7), type := 9, pos := "file.go:24", after := #[{ on := 2, ground := Ground.data }], guard := none }) (v := ?_) rfl (by kernel_rfl) (by kernel_rfl) (by kernel_rfl) (fun _ _ _ h => h) (Or.inl ⟨by rfl, ?_⟩) hS ?_
  rotate_left
  · intro w hSw; (try dsimp only at hSw); go_simp; try with_reducible rfl
  try simp only [Act.put, List.setIfInBounds_toArray, List.set_cons_zero, List.set_cons_succ]
  refine wpAnyH_take (i := 5) (oi := { dst := some 10, op := Op.fieldAddr 31 (Operand.tmp 2) 1, type := 0, pos := "file.go:24", after := #[], guard := none }) (v := ?_) rfl (by kernel_rfl) (by kernel_rfl) (by kernel_rfl) (fun _ _ _ h => h) (Or.inl ⟨by rfl, ?_⟩) hS ?_
  rotate_left
  · intro w hSw; (try dsimp only at hSw); go_simp; try with_reducible rfl
  try simp only [Act.put, List.setIfInBounds_toArray, List.set_cons_zero, List.set_cons_succ]
  refine wpAnyH_take (i := 6) (oi := { dst := some 11, op := Op.load 9 (Operand.tmp 10), type := 9, pos := "file.go:24", after := #[{ on := 5, ground := Ground.data }], guard := none }) (v := ?_) rfl (by kernel_rfl) (by kernel_rfl) (by kernel_rfl) (fun _ _ _ h => h) (Or.inl ⟨by rfl, ?_⟩) hS ?_
  rotate_left
  · intro w hSw; (try dsimp only at hSw); go_simp; try with_reducible rfl
  try simp only [Act.put, List.setIfInBounds_toArray, List.set_cons_zero, List.set_cons_succ]
  refine wpAnyH_take (i := 7) (oi := { dst := some 12, op := Op.fieldAddr 31 (Operand.tmp 3) 1, type := 0, pos := "file.go:24", after := #[], guard := none }) (v := ?_) rfl (by kernel_rfl) (by kernel_rfl) (by kernel_rfl) (fun _ _ _ h => h) (Or.inl ⟨by rfl, ?_⟩) hS ?_
  rotate_left
  · intro w hSw; (try dsimp only at hSw); go_simp; try with_reducible rfl
  try simp only [Act.put, List.setIfInBounds_toArray, List.set_cons_zero, List.set_cons_succ]
  refine wpAnyH_take (i := 8) (oi := { dst := some 13, op := Op.load 9 (Operand.tmp 12), type := 9, pos := "file.go:24", after := #[{ on := 7, ground := Ground.data }], guard := none }) (v := ?_) rfl (by kernel_rfl) (by kernel_rfl) (by kernel_rfl) (fun _ _ _ h => h) (Or.inl ⟨by rfl, ?_⟩) hS ?_
  rotate_left
  · intro w hSw; (try dsimp only at hSw); go_simp; try with_reducible rfl
  try simp only [Act.put, List.setIfInBounds_toArray, List.set_cons_zero, List.set_cons_succ]
  refine wpAnyH_ready (rs := [4]) (by kernel_rfl) (by simp) (AllReadyH.cons (o := { dst := some 9, op := Op.call { callee := Callee.value (Operand.func 47), args := #[Operand.tmp 6, Operand.tmp 8], argTypes := #[9, 9] }, type := 3, pos := "file.go:24", after := #[{ on := 1, ground := Ground.data }, { on := 3, ground := Ground.data }], guard := none }) rfl (fun K hK => ?_) AllReadyH.nil)
  go_simp
  go_at_call 47
  refine (h1 _).mono ?_
  rintro _ x1 ⟨rfl, hw⟩
  replace hS : x1.cell? ⟨w.heap.size, 0, none⟩ = some (.string a.s) ∧ x1.cell? ⟨w.heap.size, 1, none⟩ = some (.string a.f) ∧ x1.cell? ⟨w.heap.size + 1, 0, none⟩ = some (.string b.s) ∧ x1.cell? ⟨w.heap.size + 1, 1, none⟩ = some (.string b.f) := by rw [hw]; exact hS
  replace hB : Below w.heap.size w x1 := by rw [hw]; exact hB
  replace hl2 : w.heap.size + 1 < x1.heap.size := by rw [hw]; exact hl2
  clear hw
  dsimp only
  refine hK.out _ _ hS (fun hh => ?_)
  clear hK K hh
  try simp only [Act.put, List.setIfInBounds_toArray, List.set_cons_zero, List.set_cons_succ]
  refine wpAnyH_ready (rs := [9]) (by kernel_rfl) (by simp) (AllReadyH.cons (o := { dst := some 14, op := Op.call { callee := Callee.value (Operand.func 47), args := #[Operand.tmp 11, Operand.tmp 13], argTypes := #[9, 9] }, type := 3, pos := "file.go:24", after := #[{ on := 6, ground := Ground.data }, { on := 8, ground := Ground.data }, { on := 4, ground := Ground.chain }], guard := none }) rfl (fun K hK => ?_) AllReadyH.nil)
  go_simp
  go_at_call 47
  refine (h2 _).mono ?_
  rintro _ x2 ⟨rfl, hw⟩
  replace hS : x2.cell? ⟨w.heap.size, 0, none⟩ = some (.string a.s) ∧ x2.cell? ⟨w.heap.size, 1, none⟩ = some (.string a.f) ∧ x2.cell? ⟨w.heap.size + 1, 0, none⟩ = some (.string b.s) ∧ x2.cell? ⟨w.heap.size + 1, 1, none⟩ = some (.string b.f) := by rw [hw]; exact hS
  replace hB : Below w.heap.size w x2 := by rw [hw]; exact hB
  replace hl2 : w.heap.size + 1 < x2.heap.size := by rw [hw]; exact hl2
  clear hw
  dsimp only
  refine hK.out _ _ hS (fun hh => ?_)
  clear hK K hh
  try simp only [Act.put, List.setIfInBounds_toArray, List.set_cons_zero, List.set_cons_succ]
  refine wpAnyH_ready (rs := [10]) (by kernel_rfl) (by simp) (AllReadyH.cons (o := { dst := some 15, op := Op.buildSlice 117 2 #[(0, Operand.tmp 9), (1, Operand.tmp 14)], type := 117, pos := "file.go:24", after := #[{ on := 4, ground := Ground.data }, { on := 9, ground := Ground.data }], guard := none }) rfl (fun K hK => ?_) AllReadyH.nil)
  go_simp
  have hb : Below x2.heap.size x2 (x2.alloc (.cells #[.int .i64 X, .int .i64 Y] 3)) := (Below.refl _ _).alloc (Nat.le_refl _) _
  replace hS := And.intro ((hb.cell (p := ⟨w.heap.size, 0, none⟩) (by show w.heap.size < _; omega)).trans hS.1) (And.intro ((hb.cell (p := ⟨w.heap.size, 1, none⟩) (by show w.heap.size < _; omega)).trans hS.2.1) (And.intro ((hb.cell (p := ⟨w.heap.size + 1, 0, none⟩) hl2).trans hS.2.2.1) ((hb.cell (p := ⟨w.heap.size + 1, 1, none⟩) hl2).trans hS.2.2.2)))
  have k0 : (x2.alloc (.cells #[.int .i64 X, .int .i64 Y] 3)).cell? ⟨x2.heap.size, 0, none⟩ = some (.int .i64 X) := by simp [go_sem]
  have k1 : (x2.alloc (.cells #[.int .i64 X, .int .i64 Y] 3)).cell? ⟨x2.heap.size, 1, none⟩ = some (.int .i64 Y) := by simp [go_sem]
  replace hB := hB.trans (hb.mono hB.size)
  replace hl2 := Nat.lt_of_lt_of_le hl2 hb.size
  clear hb
  refine hK.out _ _ hS (fun hh => ?_)
  clear hK K hh
  generalize x2.alloc (.cells #[.int .i64 X, .int .i64 Y] 3) = x3 at *
  generalize x2.heap.size = g at *
  try simp only [Act.put, List.setIfInBounds_toArray, List.set_cons_zero, List.set_cons_succ]
  refine wpAnyH_ready (rs := [11]) (by kernel_rfl) (by simp) (AllReadyH.cons (o := { dst := some 16, op := Op.call { callee := Callee.value (Operand.func 46), args := #[Operand.tmp 15], argTypes := #[117] }, type := 3, pos := "file.go:24", after := #[{ on := 10, ground := Ground.data }, { on := 9, ground := Ground.chain }], guard := none }) rfl (fun K hK => ?_) AllReadyH.nil)
  go_simp
  go_at_call 46
  refine (or_any X Y g x3 k0 k1).mono ?_
  rintro _ x4 ⟨rfl, hw⟩
  replace hS : x4.cell? ⟨w.heap.size, 0, none⟩ = some (.string a.s) ∧ x4.cell? ⟨w.heap.size, 1, none⟩ = some (.string a.f) ∧ x4.cell? ⟨w.heap.size + 1, 0, none⟩ = some (.string b.s) ∧ x4.cell? ⟨w.heap.size + 1, 1, none⟩ = some (.string b.f) := by rw [hw]; exact hS
  replace hB : Below w.heap.size w x4 := by rw [hw]; exact hB
  clear hw
  rw [← HD.out]
  dsimp only
  refine hK.out _ _ hS (fun hh => ?_)
  clear hK K hh
  try simp only [Act.put, List.setIfInBounds_toArray, List.set_cons_zero, List.set_cons_succ]
  refine wpAnyH_take (i := 12) (oi := { dst := some 4, op := Op.assign (Operand.tmp 16), type := 3, pos := "file.go:24", after := #[{ on := 11, ground := Ground.data }, { on := 11, ground := Ground.chain }, { on := 0, ground := Ground.phase }, { on := 1, ground := Ground.phase }, { on := 2, ground := Ground.phase }, { on := 3, ground := Ground.phase }, { on := 4, ground := Ground.phase }, { on := 5, ground := Ground.phase }, { on := 6, ground := Ground.phase }, { on := 7, ground := Ground.phase }, { on := 8, ground := Ground.phase }, { on := 9, ground := Ground.phase }, { on := 10, ground := Ground.phase }, { on := 11, ground := Ground.phase }], guard := none }) (v := ?_) rfl (by kernel_rfl) (by kernel_rfl) (by kernel_rfl) (fun _ _ _ h => h) (Or.inl ⟨by rfl, ?_⟩) hS ?_
  rotate_left
  · intro w hSw; (try dsimp only at hSw); go_simp; try with_reducible rfl
  try simp only [Act.put, List.setIfInBounds_toArray, List.set_cons_zero, List.set_cons_succ]
  refine wpAnyH_done (by kernel_rfl) ?_ _
  go_wp2_with fail
  go_ret
  exact ⟨rfl, hB⟩
end Go.Proofs.YthcgalpabjjkoaaDoor


/- XFrmP12: When columns are well formed, in plain words. -/
namespace Go.Proofs.YthcgalpabjjkoaaDoor
open Go.RowKit
set_option linter.unusedVariables false

def pkF (p : List Pn) (k : Nat) : Bool := (formV (p.getD k p0).v && decide ((p.getD k p0).v.k = (p.getD 0 p0).v.k)) && (decide (k = 0) || decide ((p.getD (k - 1) p0).t < (p.getD k p0).t))
def ptF (p : List Pn) (n : Nat) : Bool := (List.range n).all (pkF p)
def hdF (l : List Cn) (i : Nat) : Bool :=
  (decide (i = 0) || ltC (l.getD (i - 1) c0) (l.getD i c0)) && (decide ((l.getD i c0).s.size ≤ 4000) && (decide ((l.getD i c0).f.size ≤ 4000) && (decide (1 ≤ (l.getD i c0).p.length) && decide ((l.getD i c0).p.length ≤ 1000000))))
def colF (l : List Cn) (i : Nat) : Bool := hdF l i && ptF (l.getD i c0).p (l.getD i c0).p.length
def colsF (l : List Cn) (n : Nat) : Bool := (List.range n).all (colF l)
def frmC (l : List Cn) : Bool := colsF l l.length && decide (l.length ≤ 1048576)
theorem all_next (f : Nat → Bool) (n : Nat) : (List.range (n + 1)).all f = ((List.range n).all f && f n) := by
  rw [List.range_succ, List.all_append]
  simp
theorem all_false {f : Nat → Bool} {n k : Nat} (h : k < n) (hf : f k = false) : (List.range n).all f = false := by
  rw [List.all_eq_false]
  exact ⟨k, List.mem_range.2 h, by simp [hf]⟩
theorem ptF_next (p : List Pn) (n : Nat) : ptF p (n + 1) = (ptF p n && pkF p n) := all_next _ _
theorem colsF_next (l : List Cn) (n : Nat) : colsF l (n + 1) = (colsF l n && colF l n) := all_next _ _
theorem colsF_false {l : List Cn} {n k : Nat} (h : k < n) (hf : colF l k = false) : colsF l n = false := all_false h hf
theorem ptF_false {p : List Pn} {n k : Nat} (h : k < n) (hf : pkF p k = false) : ptF p n = false := all_false h hf
theorem frmC_col {l : List Cn} {k : Nat} (h : k < l.length) (hf : colF l k = false) : frmC l = false := by
  unfold frmC
  rw [colsF_false h hf]
  rfl
end Go.Proofs.YthcgalpabjjkoaaDoor

/- XEncL12: What file.Encode answers, in plain words. -/
namespace Go.Proofs.YthcgalpabjjkoaaDoor
open Go.RowKit
set_option linter.unusedVariables false

def encL (l : List Cn) : List UInt8 × Nat :=
  if frmC l = true then match l.foldl stC (some (magB, [])) with
    | none => ([], 4)
    | some (o, x) => (fin o x, 0)
  else ([], 1)
theorem encL_bad {l : List Cn} (h : frmC l = false) : encL l = ([], 1) := by unfold encL; rw [if_neg (by simp [h])]
theorem encL_long {l : List Cn} (h : frmC l = true) (k : l.foldl stC (some (magB, [])) = none) : encL l = ([], 4) := by unfold encL; rw [if_pos h, k]
theorem encL_ok {l : List Cn} {o x : List UInt8} (h : frmC l = true) (k : l.foldl stC (some (magB, [])) = some (o, x)) : encL l = (fin o x, 0) := by unfold encL; rw [if_pos h, k]
theorem foldC_take_none {l : List Cn} {k : Nat} (h : (l.take k).foldl stC (some (magB, [])) = none) : l.foldl stC (some (magB, [])) = none := by
  rw [← List.take_append_drop k l, List.foldl_append, h, foldC_none]
theorem foldP_take_none {l : List (List Pn)} {k : Nat} {s : Option (List UInt8 × List UInt8)} (h : (l.take k).foldl stP s = none) : l.foldl stP s = none := by
  rw [← List.take_append_drop k l, List.foldl_append, h, foldP_none]
theorem foldC_next {l : List Cn} {k : Nat} {o x : List UInt8} (hk : k < l.length) (h : (l.take k).foldl stC (some (magB, [])) = some (o, x)) : (l.take (k + 1)).foldl stC (some (magB, [])) = stC (some (o, x)) (l.getD k c0) := by
  rw [fold_take stC l k c0 hk, h]
theorem foldP_next {l : List (List Pn)} {k : Nat} {o x : List UInt8} {s : Option (List UInt8 × List UInt8)} (hk : k < l.length) (h : (l.take k).foldl stP s = some (o, x)) : (l.take (k + 1)).foldl stP s = stP (some (o, x)) (l.getD k []) := by
  rw [fold_take stP l k [] hk, h]
theorem hdC_len (c : Cn) : (hdC c).length = c.s.toList.length + c.f.toList.length + 8 := by
  unfold hdC
  simp only [List.length_append, beN_len]
  omega
theorem entP_len (o : List UInt8) (q : List Pn) : (entP o q).length = 24 := by
  unfold entP
  simp only [List.length_append, be8_len, beN_len]
theorem foldP_len {c : Cn} {o x : List UInt8} {k : Nat} {o2 x2 : List UInt8} (h : ((partsP c.p).take k).foldl stP (some (o, x ++ hdC c)) = some (o2, x2)) (hk : k ≤ nParts c.p.length) (ho : o.length < 1073741824) :
    o2.length < 1073741824 ∧ x2.length = x.length + (c.s.toList.length + c.f.toList.length + 8) + 24 * k := by
  induction k generalizing o2 x2 with
  | zero =>
    simp only [List.take_zero, List.foldl_nil, Option.some.injEq, Prod.mk.injEq] at h
    obtain ⟨rfl, rfl⟩ := h
    exact ⟨ho, by rw [List.length_append, hdC_len]; omega⟩
  | succ k ih =>
    rw [fold_take stP _ k [] (by rw [partsP_len]; omega)] at h
    obtain ⟨o1, x1, h1, _, h3, rfl, rfl⟩ := stP_some h
    obtain ⟨h4, h5⟩ := ih h1 (by omega)
    exact ⟨by rw [List.length_append]; exact h3, by rw [List.length_append, entP_len, h5]; omega⟩
theorem foldC_len {l : List Cn} {k : Nat} {o x : List UInt8} (hk : k ≤ l.length) (h : (l.take k).foldl stC (some (magB, [])) = some (o, x)) : o.length + x.length + 8 < 1073741824 ∨ (o = magB ∧ x = []) := by
  cases k with
  | zero =>
    simp only [List.take_zero, List.foldl_nil, Option.some.injEq, Prod.mk.injEq] at h
    exact .inr ⟨h.1.symm, h.2.symm⟩
  | succ k =>
    rw [fold_take stC l k c0 (by omega)] at h
    obtain ⟨_, _, _, _, h3⟩ := stC_some h
    exact .inl h3
theorem foldC_small {l : List Cn} {k : Nat} {o x : List UInt8} (hk : k ≤ l.length) (h : (l.take k).foldl stC (some (magB, [])) = some (o, x)) : o.length + x.length + 8 < 1073741824 := by
  rcases foldC_len hk h with h | ⟨rfl, rfl⟩
  · exact h
  · decide

/-- How an Encode of columns ends. -/
def FeEnd (l : List Cn) (w : World) (e : Ending) (w' : World) : Prop :=
  Below w.heap.size w w' ∧ ∃ ao cap, e = .returned (.tuple #[.slice ao (encL l).1.length cap, .int .i64 ((encL l).2 : Int)]) ∧ Own w' w.heap.size (.slice ao (encL l).1.length cap) (encL l).1
end Go.Proofs.YthcgalpabjjkoaaDoor

/- XNum12: Two lists of bytes of the call's own; file.number. -/
namespace Go.Proofs.YthcgalpabjjkoaaDoor
open Go.RowKit
set_option linter.unusedVariables false

/-- Two lists of bytes, each in a row of its own. -/
structure Two (w : World) (B : Nat) (vo vx : Value) (o x : List UInt8) : Prop where
  oo : Own w B vo o
  ox : Own w B vx x
  ne : ∀ k, vo.ownBlock = some k → vx.ownBlock ≠ some k
theorem own_lt {w : World} {B : Nat} {v : Value} {o : List UInt8} (h : Own w B v o) (k : Nat) (hk : v.ownBlock = some k) : B ≤ k ∧ k < w.heap.size := World.ownsRow.lt h k hk
theorem Two.growX {w w' : World} {B : Nat} {vo vx vx' : Value} {o x x' : List UInt8} (h : Two w B vo vx o x) (hg : Grew w w' B 5 1 vx vx' x'.length (x'.map bV)) : Two w' B vo vx' o x' := by
  refine ⟨hg.chg.owns h.oo (fun k hk e => h.ne k hk e), hg.owns, fun k hk e => ?_⟩
  rcases hg.row k e with h1 | h1
  · exact h.ne k hk h1
  · have := (own_lt h.oo k hk).2; omega
theorem Two.growO {w w' : World} {B : Nat} {vo vx vo' : Value} {o x o' : List UInt8} (h : Two w B vo vx o x) (hg : Grew w w' B 5 1 vo vo' o'.length (o'.map bV)) : Two w' B vo' vx o' x := by
  refine ⟨hg.owns, hg.chg.owns h.ox (fun k hk e => h.ne k e hk), fun k hk e => ?_⟩
  rcases hg.row k hk with h1 | h1
  · exact h.ne k h1 e
  · have := (own_lt h.ox k e).2; omega
theorem Two.below {w w' : World} {B : Nat} {vo vx : Value} {o x : List UInt8} (h : Two w B vo vx o x) (hb : Below w.heap.size w w') : Two w' B vo vx o x :=
  ⟨(Chg.ofBelowAny (S := fun _ => False) hb).owns h.oo (fun _ _ h => h), (Chg.ofBelowAny (S := fun _ => False) hb).owns h.ox (fun _ _ h => h), h.ne⟩
theorem Grew.belowB {w w' : World} {B e size n : Nat} {v v' : Value} {xs : List Value} (h : Grew w w' B e size v v' n xs) (hB : B ≤ w.heap.size) (hv : ∀ k, v.ownBlock = some k → B ≤ k) : Below B w w' := h.below hB hv
theorem own_grew {w w1 w2 : World} {B : Nat} {v v' : Value} {x x' : List UInt8} (hb : Below w.heap.size w w1) (hg : Grew w1 w2 B 5 1 v v' x'.length (x'.map bV)) (hv : ∀ k, v.ownBlock = some k → k < w.heap.size) : Grew w w2 B 5 1 v v' x'.length (x'.map bV) := by
  refine ⟨hg.owns, ⟨hg.grown.os.trans hb.os, hg.grown.tape.trans hb.tape, hg.grown.output.trans hb.output, Nat.le_trans hb.size hg.grown.size, fun i hi hne => ?_⟩, fun r hr => ?_⟩
  · exact (hg.grown.block i (Nat.lt_of_lt_of_le hi hb.size) hne).trans (hb.block i hi)
  · rcases hg.row r hr with h2 | h2
    · exact .inl h2
    · exact .inr (Nat.le_trans hb.size h2)

set_option maxHeartbeats 400000 in
/-- number(b, v, n): b, and v in n bytes behind it. -/
theorem number_any (B : Nat) (bs : List UInt8) (x n : Nat) (h1 : 1 ≤ n) (h8 : n ≤ 8) (hx : x < 18446744073709551616) (hl : bs.length ≤ 100000000000) (v : Value) (w : World) (hB : B ≤ w.heap.size) (ho : Own w B v bs) :
    Calls Tryd.prog 13 #[v, .int .u64 (x : Int), .int .i64 (n : Int)] w fun e w' => ∃ ao cap, e = .returned (.slice ao (bs ++ beN n x).length cap) ∧ Grew w w' B 5 1 v (.slice ao (bs ++ beN n x).length cap) (bs ++ beN n x).length ((bs ++ beN n x).map bV) := by
  have hT := tailn_any x n h1 h8 hx w
  have HO := Lib.hid ho
  have HBL : Hid ((beN n x).length = n) := Lib.hid (beN_len n x)
  obtain ⟨ao0, cap0, rfl⟩ := ownsRow_shape ho
  clear ho
  generalize beN n x = c at *
  go_enter Tryd.func13, Tryd.ntmps13
  go_wp2_with (first
    | (go_at_call 33; refine hT.mono ?_; rintro _ w2 ⟨ao2, cap2, rfl, ho2, hb2⟩; have HB2 := Lib.hid hb2; have HR2 := Lib.hid ho2.rd; have HO2 := Lib.hid (show Own w2 B (.slice ao0 bs.length cap0) bs from (Chg.ofBelowAny (S := fun _ => False) hb2).owns HO.out (fun _ _ h => h)); clear ho2 hb2 hT)
    | (at_builtin; refine wpList_append_bs _ rfl _ _ rfl B (.slice ao0 bs.length cap0) bs rfl HO2.out (.slice ao2 c.length cap2) c rfl HR2.out (by rw [HBL.out]; omega) (Nat.le_trans hB HB2.out.size) ?_; intro ao3 cap3 w3 hg3; have HG3 := Lib.hid hg3; clear hg3))
  go_ret
  refine ⟨ao3, cap3, ?_, own_grew (x := bs) HB2.out HG3.out (fun k hk => (own_lt HO.out k hk).2)⟩
  rw [List.length_append]
  rfl
end Go.Proofs.YthcgalpabjjkoaaDoor

/- XApp12: A literal's bytes that are appended to: of the call's own, or a new slice without room. -/
namespace Go.Proofs.YthcgalpabjjkoaaDoor
open Go.RowKit Go.ChangeShapes Go.WideShapes Go.ChangeAt
set_option linter.unusedVariables false

theorem RdV.litm (w : World) (cs : Array Value) (e : TypeId) (fr : Nat × Nat) (n size : Nat) (hm : n ≤ maxLen) (hs : cs.size = n * size) : RdV (w.alloc (.cells cs e fr)) size (.slice (Option.some ⟨w.heap.size, 0, none⟩) n n) n cs.toList := by
  refine ⟨by simpa using hs, Option.some ⟨w.heap.size, 0, none⟩, n, rfl, Nat.le_refl _, hm, (fun h => by cases h), fun a ha j u hu => ?_⟩
  cases ha
  refine ⟨rfl, by simp, ?_⟩
  rw [World.cell?_alloc_mark w cs e fr]
  simpa using hu

def App (w : World) (base : Nat) (v : Value) (bs : List UInt8) : Prop :=
  Own w base v bs ∨ ∃ g, v = .slice (some ⟨g, 0, none⟩) bs.length bs.length ∧ base ≤ g ∧ g < w.heap.size ∧ Rd w v bs ∧ bs.length ≤ 5 ∧ 0 < bs.length
theorem App.rd {w : World} {base : Nat} {v : Value} {bs : List UInt8} (h : App w base v bs) : Rd w v bs := by
  rcases h with h | ⟨g, _, _, _, h, _⟩
  · exact Own.rd h
  · exact h
theorem App.lt {w : World} {base : Nat} {v : Value} {bs : List UInt8} (h : App w base v bs) : ∀ k, v.ownBlock = some k → base ≤ k ∧ k < w.heap.size := by
  rcases h with h | ⟨g, rfl, h1, h2, _⟩
  · exact own_lt h
  · intro k hk
    simp [Value.ownBlock] at hk
    subst hk
    exact ⟨h1, h2⟩
theorem App.chg {S : Nat → Prop} {w w' : World} {base : Nat} {v : Value} {bs : List UInt8} (h : App w base v bs) (hc : Chg S w w') (hs : ∀ k, v.ownBlock = some k → ¬ S k) : App w' base v bs := by
  rcases h with h | ⟨g, e, h1, h2, h3, h4⟩
  · exact .inl (hc.owns h hs)
  · refine .inr ⟨g, e, h1, Nat.lt_of_lt_of_le h2 hc.size, RdV.chg h3 hc hs, h4⟩
theorem App.below {w w' : World} {base : Nat} {v : Value} {bs : List UInt8} (h : App w base v bs) (hb : Below w.heap.size w w') : App w' base v bs :=
  h.chg (S := fun _ => False) (Chg.ofBelowAny hb) (fun _ _ h => h)
theorem App.shape {w : World} {base : Nat} {v : Value} {bs : List UInt8} (h : App w base v bs) : ∃ ao cap, v = .slice ao bs.length cap := by
  rcases h with h | ⟨g, h1, _⟩
  · exact h.shape
  · exact ⟨_, _, h1⟩

/-- What an append to such bytes leaves. -/
structure GrewA (w w' : World) (B : Nat) (v v' : Value) (bs : List UInt8) : Prop where
  app : App w' B v' bs
  chg : Chg (fun k => v.ownBlock = some k) w w'
  row : ∀ k, v'.ownBlock = some k → v.ownBlock = some k ∨ w.heap.size ≤ k
theorem GrewA.below {w w' : World} {B : Nat} {v v' : Value} {bs bs' : List UInt8} (h : GrewA w w' B v v' bs) (hB : B ≤ w.heap.size) (ha : App w B v bs') : Below B w w' :=
  h.chg.below hB (fun k hk => (ha.lt k hk).1)

theorem run_append_none_at {P : Program} (w : World) (t ty e : TypeId) (i : TypeInfo) (ht : P.underlying t = some (.slice e)) (hi : P.info? e = some i) (a : Addr) (n : Nat) :
    (Builtin.append_ #[t, t] ty #[.slice (some a) n n, .slice none 0 0]).run P w = .ok (.slice (some a) n n) w := by
  simp [Builtin.append_, run_underlying ht, sizeOf, typeInfo, hi, Builtin.lenOf, Builtin.firstCells, storeCells]

theorem wpList_append_bsA (w : World) {ops : Array Oper} {rest : List Oper} {o : Oper} {a : Act} {Q : Exit → Act → World → Prop} (hgd : o.guard = none) (s x : Operand)
    (ho : o.op = .call { callee := .builtin .append, args := #[s, x], argTypes := #[33, 33] })
    (base : Nat) (v : Value) (bs : List UInt8) (hs : a.eval s = v) (happ : App w base v bs)
    (xv : Value) (ns : List UInt8) (hx : a.eval x = xv) (hrd : Rd w xv ns) (hns : ns = [] → xv = .slice none 0 0)
    (h63 : bs.length + ns.length ≤ 140737488355328) (hbase : base ≤ w.heap.size)
    (h : ∀ ao cap w', GrewA w w' base v (.slice ao (bs ++ ns).length cap) (bs ++ ns) → wpList Tryd.prog ops Q rest (a.put o.dst (.slice ao (bs ++ ns).length cap)) w') : wpList Tryd.prog ops Q (o :: rest) a w := by
  have h63' : bs.length + ns.length ≤ maxLen := by unfold maxLen; omega
  rcases happ with hown | ⟨g, rfl, hbg, hgw, hr, hl8, hl0⟩
  · refine wpList_append_rd w hgd s x 33 ho base 5 (.int .u8 0) 1 1 Tryd.underlying33 infoU8 rfl (by decide) v bs.length (bs.map bV) hs hown xv ns.length (ns.map bV) hx hrd.v (bV_one _) h63' (by omega) hbase (fun ao cap w' hg => ?_)
    have e : (bs ++ ns).length = bs.length + ns.length := List.length_append
    rw [← e, ← List.map_append] at hg
    rw [← e]
    exact h ao cap w' ⟨.inl hg.owns, hg.chg, hg.row⟩
  · obtain ⟨i, hi, hz, hsize, hby⟩ := info_parts infoU8
    by_cases hn0 : ns = []
    · obtain rfl := hns hn0
      subst hn0
      have hrun := run_append_none_at (P := Tryd.prog) w 33 o.type 5 i Tryd.underlying33 hi ⟨g, 0, none⟩ bs.length
      refine wpList_plain hgd fun K hK => ?_
      unfold Oper.wp execOp
      simp only [ho, resolve, invoke, builtin, Sem.run_bind, Sem.run_pure, Result.andThen_ok, List.map_toArray, List.map_cons, List.map_nil, hs, hx, hrun]
      have := h (some ⟨g, 0, none⟩) bs.length w (by rw [List.append_nil]; exact ⟨.inr ⟨g, rfl, hbg, hgw, hr, hl8, hl0⟩, Chg.refl _ _, fun k hk => .inl hk⟩)
      rw [List.append_nil] at this
      exact hK _ _ this
    · have hnp : 0 < ns.length := by
        cases ns with
        | nil => exact absurd rfl hn0
        | cons => simp
      obtain ⟨b', off', c', rfl, hnc, hcm, hbl, hcc⟩ := RdV.some hrd.v hnp (by decide)
      obtain ⟨b2, off2, c2, he, _, _, _, hc2⟩ := RdV.some hr.v hl0 (by decide)
      simp only [Value.slice.injEq, Option.some.injEq, Addr.mk.injEq, true_and, and_true] at he
      obtain ⟨⟨rfl, rfl⟩, rfl⟩ := he
      obtain ⟨v', w', hrun, hown, hgr⟩ := run_append_arg_grows (P := Tryd.prog) w 33 o.type 5 i (.int .u8 0) 1 1 Tryd.underlying33 hi hz hsize hby rfl (by decide) ⟨g, 0, none⟩ bs.length bs.length (bs.map bV) (by simp) (fun j u hu => by rw [Addr.add_lit]; exact hc2 j u hu)
        ⟨b', off', none⟩ ns.length c' (ns.map bV) (by simp) (fun j u hu => by rw [Addr.add_lit]; exact hcc j u hu) (by omega) h63' (by omega)
      obtain ⟨ao, cap, rfl⟩ := ownsRow_shape hown
      have e : (bs ++ ns).length = bs.length + ns.length := List.length_append
      have ho0 : Own w' w.heap.size (.slice ao (bs ++ ns).length cap) (bs ++ ns) := by unfold Own; rw [e, List.map_append]; exact hown
      have ho' : Own w' base (.slice ao (bs ++ ns).length cap) (bs ++ ns) := ownsRow_mono ho0 hbase
      have hc : Chg (fun k => (Value.slice (some ⟨g, 0, none⟩) bs.length bs.length).ownBlock = some k) w w' := (Chg.refl _ w).grown hgr (fun k _ h => by cases h)
      refine wpList_plain hgd fun K hK => ?_
      unfold Oper.wp execOp
      simp only [ho, resolve, invoke, builtin, Sem.run_bind, Sem.run_pure, Result.andThen_ok, List.map_toArray, List.map_cons, List.map_nil, hs, hx, hrun]
      have := h ao cap w' ⟨.inl ho', hc, fun k hk => .inr (own_lt ho0 k hk).1⟩
      rw [e] at this
      exact hK _ _ this

/-- The same, what comes out named ahead. -/
theorem wpList_append_bsE (E : List UInt8) (w : World) {ops : Array Oper} {rest : List Oper} {o : Oper} {a : Act} {Q : Exit → Act → World → Prop} (hgd : o.guard = none) (s x : Operand)
    (ho : o.op = .call { callee := .builtin .append, args := #[s, x], argTypes := #[33, 33] })
    (base : Nat) (v : Value) (bs : List UInt8) (hs : a.eval s = v) (happ : App w base v bs)
    (xv : Value) (ns : List UInt8) (hE : E = bs ++ ns) (hx : a.eval x = xv) (hrd : Rd w xv ns) (hns : ns = [] → xv = .slice none 0 0)
    (h63 : bs.length + ns.length ≤ 140737488355328) (hbase : base ≤ w.heap.size)
    (h : ∀ ao cap w', GrewA w w' base v (.slice ao E.length cap) E → wpList Tryd.prog ops Q rest (a.put o.dst (.slice ao E.length cap)) w') : wpList Tryd.prog ops Q (o :: rest) a w := by
  subst hE
  exact wpList_append_bsA w hgd s x ho base v bs hs happ xv ns hx hrd hns h63 hbase h
theorem wpList_append_strE (E : List UInt8) (w : World) {ops : Array Oper} {rest : List Oper} {o : Oper} {a : Act} {Q : Exit → Act → World → Prop} (hgd : o.guard = none) (s x : Operand)
    (ho : o.op = .call { callee := .builtin .append, args := #[s, x], argTypes := #[33, 9] })
    (base : Nat) (v : Value) (ps : List UInt8) (hs : a.eval s = v) (hown : Own w base v ps) (xs : ByteArray) (hE : E = ps ++ xs.toList) (hx : a.eval x = .string xs)
    (hlen : ps.length + xs.size ≤ 140737488355328) (hbase : base ≤ w.heap.size)
    (h : ∀ ao cap w', Grew w w' base 5 1 v (.slice ao E.length cap) E.length (E.map bV) → wpList Tryd.prog ops Q rest (a.put o.dst (.slice ao E.length cap)) w') : wpList Tryd.prog ops Q (o :: rest) a w := by
  subst hE
  exact wpList_append_str w hgd s x ho base v ps hs hown xs hx hlen hbase h

/-- Bytes that may be a literal's, and bytes of the call's own, each in a row of its own. -/
structure Duo (w : World) (B : Nat) (vo vx : Value) (o x : List UInt8) : Prop where
  oo : App w B vo o
  ox : Own w B vx x
  ne : ∀ k, vo.ownBlock = some k → vx.ownBlock ≠ some k
theorem Duo.growX {w w' : World} {B : Nat} {vo vx vx' : Value} {o x x' : List UInt8} (h : Duo w B vo vx o x) (hg : Grew w w' B 5 1 vx vx' x'.length (x'.map bV)) : Duo w' B vo vx' o x' := by
  refine ⟨h.oo.chg hg.chg (fun k hk e => h.ne k hk e), hg.owns, fun k hk e => ?_⟩
  rcases hg.row k e with h1 | h1
  · exact h.ne k hk h1
  · have := (h.oo.lt k hk).2; omega
theorem Duo.growO {w w' : World} {B : Nat} {vo vx vo' : Value} {o x o' : List UInt8} (h : Duo w B vo vx o x) (hg : GrewA w w' B vo vo' o') : Duo w' B vo' vx o' x := by
  refine ⟨hg.app, hg.chg.owns h.ox (fun k hk e => h.ne k e hk), fun k hk e => ?_⟩
  rcases hg.row k hk with h1 | h1
  · exact h.ne k h1 e
  · have := (own_lt h.ox k e).2; omega
theorem Duo.below {w w' : World} {B : Nat} {vo vx : Value} {o x : List UInt8} (h : Duo w B vo vx o x) (hb : Below w.heap.size w w') : Duo w' B vo vx o x :=
  ⟨h.oo.below hb, (Chg.ofBelowAny (S := fun _ => False) hb).owns h.ox (fun _ _ h => h), h.ne⟩
theorem Duo.belowX {w w' : World} {B : Nat} {vo vx vx' : Value} {o x x' : List UInt8} (h : Duo w B vo vx o x) (hB : B ≤ w.heap.size) (hg : Grew w w' B 5 1 vx vx' x'.length (x'.map bV)) : Below B w w' :=
  hg.below hB (fun k hk => (own_lt h.ox k hk).1)
theorem Duo.belowO {w w' : World} {B : Nat} {vo vx vo' : Value} {o x o' : List UInt8} (h : Duo w B vo vx o x) (hB : B ≤ w.heap.size) (hg : GrewA w w' B vo vo' o') : Below B w w' := hg.below hB h.oo

set_option maxHeartbeats 400000 in
/-- number(b, v, n), b a literal's. -/
theorem numberA_any (B : Nat) (bs : List UInt8) (x n : Nat) (h1 : 1 ≤ n) (h8 : n ≤ 8) (hx : x < 18446744073709551616) (hl : bs.length ≤ 100000000000) (v : Value) (w : World) (hB : B ≤ w.heap.size) (ho : App w B v bs) :
    Calls Tryd.prog 13 #[v, .int .u64 (x : Int), .int .i64 (n : Int)] w fun e w' => ∃ ao cap, e = .returned (.slice ao (bs ++ beN n x).length cap) ∧ GrewA w w' B v (.slice ao (bs ++ beN n x).length cap) (bs ++ beN n x) := by
  have hT := tailn_any x n h1 h8 hx w
  have HO := Lib.hid ho
  have HBL : Hid ((beN n x).length = n) := Lib.hid (beN_len n x)
  obtain ⟨ao0, cap0, rfl⟩ := ho.shape
  clear ho
  generalize beN n x = c at *
  go_enter Tryd.func13, Tryd.ntmps13
  go_wp2_with (first
    | (go_at_call 33; refine hT.mono ?_; rintro _ w2 ⟨ao2, cap2, rfl, ho2, hb2⟩; have HB2 := Lib.hid hb2; have HR2 := Lib.hid ho2.rd; have HO2 := Lib.hid (HO.out.below hb2); clear ho2 hb2 hT)
    | (at_builtin; refine wpList_append_bsA _ rfl _ _ rfl B (.slice ao0 bs.length cap0) bs rfl HO2.out (.slice ao2 c.length cap2) c rfl HR2.out (by intro e; have := HBL.out; rw [e] at this; simp at this; omega) (by rw [HBL.out]; omega) (Nat.le_trans hB HB2.out.size) ?_; intro ao3 cap3 w3 hg3; have HG3 := Lib.hid hg3; clear hg3))
  go_ret
  refine ⟨ao3, cap3, by rw [List.length_append]; rfl, HG3.out.app, (Chg.ofBelowAny HB2.out).trans' HG3.out.chg (fun k hk h => h), fun k hk => ?_⟩
  rcases HG3.out.row k hk with h | h
  · exact .inl h
  · exact .inr (Nat.le_trans HB2.out.size h)
end Go.Proofs.YthcgalpabjjkoaaDoor

/- XSeq12: slices.Chunk, slices.Collect of points: the parts. -/
namespace Go.Proofs.YthcgalpabjjkoaaDoor
open Go.RowKit Go.Shelf
set_option linter.unusedVariables false
attribute [local go_sem] Oper.semAt_some

/-- The part j of a slice of points of n. -/
def enP (b off n : Nat) (j : Nat) : Value := .slice (some ⟨b, off + 4 * (1000 * j), none⟩) (min 1000 (n - 1000 * j)) (min 1000 (n - 1000 * j))

theorem grown_dr (w : World) (q : Nat) : w.grownBy (w.drewN q) none := ⟨rfl, rfl, rfl, Nat.le_refl _, fun _ _ _ => rfl⟩
set_option maxRecDepth 100000 in
set_option maxHeartbeats 2000000 in
theorem chunk_in (n : Nat) (a : Option Addr) (len cap : Nat) (w : World) :
    CallsIn Fence.wide n Tryd.prog 15 #[.slice a len cap, .int .i64 1000] w fun e w' => e = .returned (.func (.func 35) #[] #[.pointer (some ⟨w.heap.size, 0, none⟩), .pointer (some ⟨w.heap.size + 1, 0, none⟩)]) ∧ w' = (w.alloc (.cells #[.slice a len cap] 24)).alloc (.cells #[.int .i64 1000] 3) := by
  refine callsIn_of_wp Tryd.func15 rfl trivial ?_ rfl
  simp only [Tryd.ntmps15, List.size_toArray, List.length_cons, List.length_nil, Nat.reduceAdd, Nat.reduceSub, Array.replicate_succ, Array.replicate_zero, List.push_toArray, List.append_toArray, List.nil_append, List.cons_append]
  gi_wp2
  go_ret
  exact ⟨rfl, rfl⟩

set_option maxRecDepth 100000 in
set_option maxHeartbeats 2000000 in
theorem chunk1_in (n : Nat) (hn : 1 ≤ n) (l Bs Bn n₀ b off len cap : Nat) (hreach : len ≤ 1000000000) (hcap : len ≤ cap) (hb : b < n₀) (h1 : Bs < n₀) (h2 : Bn < n₀) (J Jx : List Nat → World → Prop)
    (hY : ∀ pre x W, J pre W → pre.length < nParts len → YieldAt Fence.wide (n - 1) Tryd.prog l #[enP b off len x] W fun e W' =>
      (e = .returned (.bool true) ∧ J (pre ++ [x]) W' ∧ Below n₀ W W') ∨ (e = .returned (.bool false) ∧ Jx (pre ++ [x]) W'))
    (W : World) (hJ : AbidesFrom W.heap.size J) (hBs : W.cell? ⟨Bs, 0, none⟩ = some (.slice (some ⟨b, off, none⟩) len cap)) (hBn : W.cell? ⟨Bn, 0, none⟩ = some (.int .i64 1000)) (h0 : J [] W) :
    CallsIn Fence.wide n Tryd.prog 35 #[.func (.yield l) #[] #[], .pointer (some ⟨Bs, 0, none⟩), .pointer (some ⟨Bn, 0, none⟩)] W fun e W' => (∃ v, e = .returned v) ∧
      ((∃ ys, ys = List.range (nParts len) ∧ J ys W') ∨ (∃ pre, (∃ k, k ≤ nParts len ∧ pre = List.range k) ∧ Jx pre W')) := by
  refine callsIn_of_wp Tryd.func35 rfl trivial ?_ rfl
  simp only [Tryd.ntmps35, List.size_toArray, List.length_cons, List.length_nil, Nat.reduceAdd, Nat.reduceSub, Array.replicate_succ, Array.replicate_zero, List.push_toArray, List.append_toArray, List.nil_append, List.cons_append]
  gi_wp2
  gi_loopw [4] (fun i wr => ∃ k z : Nat, k ≤ nParts len ∧ z = 1000 * k ∧ i = .int .i64 (z : Int) ∧ J (List.range k) wr ∧ Below n₀ W wr)
    (fun i _ => len + 1000 - (intOf i).toNat)
  case atStart => exact ⟨0, 0, Nat.zero_le _, rfl, rfl, h0, Below.refl _ _⟩
  case round =>
    obtain ⟨k, z, hk, hz, rfl, hJs, hnx⟩ := hrel
    have c1 := (hnx.cell (p := ⟨Bs, 0, none⟩) h1).trans hBs
    have c2 := (hnx.cell (p := ⟨Bn, 0, none⟩) h2).trans hBn
    by_cases hlt : z < len
    · have hm : (min (1000 : Int) ((len - z : Nat) : Int)) = ((min 1000 (len - z) : Nat) : Int) := by omega
      obtain ⟨m, hmm⟩ : ∃ m, m = min 1000 (len - z) := ⟨_, rfl⟩
      have he : enP b off len k = .slice (some ⟨b, off + z * 4, none⟩) m m := by unfold enP; rw [← hz, hmm, Nat.mul_comm 4 z]
      rw [← hmm] at hm
      have hm1 : m ≤ 1000 := by omega
      have hm2 : z + m ≤ len := by omega
      have HMM := Lib.hid hmm
      have HZ := Lib.hid hz
      have HE := Lib.hid he
      have HY := Lib.hid (fun q => hY _ k (wr.drewN q) (hJ _ _ _ none hJs (grown_dr wr q) (fun r e => by cases e)) (by rw [List.length_range]; unfold nParts at *; omega))
      clear hmm hz he hY
      gi_wp2
      gi_quiet (fail)
      obtain ⟨fn, tmps, assign, body, hy, hR⟩ := HY.out nq
      rw [HE.out] at hy
      have hnq : Below n₀ wr (wr.drewN nq) := ⟨rfl, rfl, rfl, Nat.le_refl _, fun _ _ => rfl⟩
      by_cases hcs : len - z < 1000
      · have hi : ((len - z : Nat) : Int) < 1000 := by omega
        have hq : ((z : Int) + ((len - z : Nat) : Int)).toNat - z = m := by have := HMM.out; omega
        gi_wp2
        refine hR.mono ?_
        rintro e W3 (⟨rfl, hJ3, hk3⟩ | ⟨rfl, hJx3⟩)
        · have hW3 := hnx.trans (hnq.trans hk3)
          have d1 := (hW3.cell (p := ⟨Bs, 0, none⟩) h1).trans hBs
          have d2 := (hW3.cell (p := ⟨Bn, 0, none⟩) h2).trans hBn
          have hzw : IntKind.i64.wrap ((z : Int) + 1000) = (z : Int) + 1000 := IntWalk.i64_in _ (by omega)
          gi_wp2
          go_roundw
          case rel => exact ⟨k + 1, z + 1000, by have := HZ.out; unfold nParts; omega, by have := HZ.out; omega, by simp, by rw [List.range_succ]; exact hJ3, hW3⟩
          case measure => simp [intOf]; omega
        · gi_wp2
          refine bodyPost_ret (results_none rfl _ _ _) rfl ?_
          exact ⟨⟨_, rfl⟩, .inr ⟨_, ⟨k + 1, by have := HZ.out; unfold nParts; omega, (List.range_succ ..).symm⟩, hJx3⟩⟩
      · have hi : ¬ ((len - z : Nat) : Int) < 1000 := by omega
        have hq : ((z : Int) + 1000).toNat - z = m := by have := HMM.out; omega
        gi_wp2
        refine hR.mono ?_
        rintro e W3 (⟨rfl, hJ3, hk3⟩ | ⟨rfl, hJx3⟩)
        · have hW3 := hnx.trans (hnq.trans hk3)
          have d1 := (hW3.cell (p := ⟨Bs, 0, none⟩) h1).trans hBs
          have d2 := (hW3.cell (p := ⟨Bn, 0, none⟩) h2).trans hBn
          have hzw : IntKind.i64.wrap ((z : Int) + 1000) = (z : Int) + 1000 := IntWalk.i64_in _ (by omega)
          gi_wp2
          go_roundw
          case rel => exact ⟨k + 1, z + 1000, by have := HZ.out; unfold nParts; omega, by have := HZ.out; omega, by simp, by rw [List.range_succ]; exact hJ3, hW3⟩
          case measure => simp [intOf]; omega
        · gi_wp2
          refine bodyPost_ret (results_none rfl _ _ _) rfl ?_
          exact ⟨⟨_, rfl⟩, .inr ⟨_, ⟨k + 1, by have := HZ.out; unfold nParts; omega, (List.range_succ ..).symm⟩, hJx3⟩⟩
    · have hkn : k = nParts len := by unfold nParts at *; omega
      subst hkn
      gi_wp2
      go_end0
      exact ⟨⟨_, rfl⟩, .inl ⟨_, rfl, hJs⟩⟩
end Go.Proofs.YthcgalpabjjkoaaDoor

/- XPrt12: A column's parts, read; what well formed columns keep; two lists of bytes beside a block that stays. -/
namespace Go.Proofs.YthcgalpabjjkoaaDoor
open Go.RowKit
set_option linter.unusedVariables false

theorem colsF_at {l : List Cn} {n k : Nat} (h : colsF l n = true) (hk : k < n) : colF l k = true := by
  unfold colsF at h
  rw [List.all_eq_true] at h
  exact h k (List.mem_range.2 hk)
theorem frmC_at {l : List Cn} {k : Nat} (h : frmC l = true) (hk : k < l.length) :
    (l.getD k c0).s.size ≤ 4000 ∧ (l.getD k c0).f.size ≤ 4000 ∧ 1 ≤ (l.getD k c0).p.length ∧ (l.getD k c0).p.length ≤ 1000000 := by
  unfold frmC at h
  rw [Bool.and_eq_true] at h
  have h1 := colsF_at h.1 hk
  unfold colF hdF at h1
  simp only [Bool.and_eq_true, decide_eq_true_eq] at h1
  exact ⟨h1.1.2.1, h1.1.2.2.1, h1.1.2.2.2.1, h1.1.2.2.2.2⟩
theorem frmC_count {l : List Cn} (h : frmC l = true) : l.length ≤ 1048576 := by
  unfold frmC at h
  rw [Bool.and_eq_true, decide_eq_true_eq] at h
  exact h.2
theorem partP_len (p : List Pn) (j : Nat) : (partP p j).length = min 1000 (p.length - 1000 * j) := by
  unfold partP
  rw [List.length_take, List.length_drop]
theorem partP_mem {p : List Pn} {j : Nat} {x : Pn} (h : x ∈ partP p j) : x ∈ p := List.mem_of_mem_drop (List.mem_of_mem_take h)
theorem nParts_lt {n j : Nat} (h : j < nParts n) : 1000 * j < n := by
  unfold nParts at h
  omega
theorem partP_get (p : List Pn) (j k : Nat) (h : k < (partP p j).length) : (partP p j).getD k p0 = p.getD (1000 * j + k) p0 := by
  have h2 := partP_len p j
  unfold partP at *
  rw [List.getD_eq_getElem?_getD, List.getD_eq_getElem?_getD, List.getElem?_take, if_pos (by omega), List.getElem?_drop]
theorem enP_pns {w : World} {b off n cap : Nat} {p : List Pn} (h : Pns w (.slice (some ⟨b, off, none⟩) n cap) p) (hn : n = p.length) (j : Nat) (hj : j < nParts n) : Pns w (enP b off n j) (partP p j) := by
  subst hn
  obtain ⟨h1, ao, cap', he, h2, h3, h4, h5⟩ := h
  simp only [Value.slice.injEq, true_and] at he
  obtain ⟨rfl, rfl⟩ := he
  have hlt := nParts_lt hj
  unfold Pns
  rw [partP_len]
  have hlen : ((partP p j).flatMap Pn.cells).length = min 1000 (p.length - 1000 * j) * 4 := by
    rw [← partP_len]
    generalize partP p j = q
    induction q with
    | nil => rfl
    | cons a q ih => rw [List.flatMap_cons, List.length_append, ih, List.length_cons]; show 4 + _ = _; omega
  refine ⟨hlen, some ⟨b, off + 4 * (1000 * j), none⟩, min 1000 (p.length - 1000 * j), rfl, Nat.le_refl _, by unfold maxLen; omega, (fun h => by cases h), fun a ha i u hu => ?_⟩
  cases ha
  have hil : i < ((partP p j).flatMap Pn.cells).length := (List.getElem?_eq_some_iff.1 hu).1
  rw [hlen] at hil
  have e : (p.flatMap Pn.cells)[4 * (1000 * j) + i]? = some u := by
    have hd : i / 4 < (partP p j).length := by rw [partP_len]; omega
    have hd2 : 1000 * j + i / 4 < p.length := by rw [partP_len] at hd; omega
    have e1 := flat_at Pn.cells 4 (fun _ => rfl) (partP p j) (i / 4) hd (i % 4) (by omega)
    have e2 := flat_at Pn.cells 4 (fun _ => rfl) p (1000 * j + i / 4) hd2 (i % 4) (by omega)
    rw [show i / 4 * 4 + i % 4 = i by omega] at e1
    rw [show (1000 * j + i / 4) * 4 + i % 4 = 4 * (1000 * j) + i by omega] at e2
    have e3 : (partP p j)[i / 4] = p[1000 * j + i / 4] := by
      rw [← getD_get (partP p j) (i / 4) p0 hd, ← getD_get p _ p0 hd2]
      exact partP_get p j _ hd
    rw [e2, ← e3, ← e1, hu]
  obtain ⟨hs, hb, hc⟩ := h5 _ rfl _ _ e
  refine ⟨rfl, hb, ?_⟩
  rw [show off + 4 * (1000 * j) + i = off + (4 * (1000 * j) + i) by omega]
  exact hc

/-- Two lists of bytes; and a block that stays beside them. -/
structure DuoQ (w : World) (B q : Nat) (vo vx : Value) (o x : List UInt8) : Prop where
  d : Duo w B vo vx o x
  lt : q < w.heap.size
  no : vo.ownBlock ≠ some q
  nx : vx.ownBlock ≠ some q
theorem DuoQ.growX {w w' : World} {B q : Nat} {vo vx vx' : Value} {o x x' : List UInt8} (h : DuoQ w B q vo vx o x) (hg : Grew w w' B 5 1 vx vx' x'.length (x'.map bV)) : DuoQ w' B q vo vx' o x' := by
  refine ⟨h.d.growX hg, Nat.lt_of_lt_of_le h.lt hg.grown.size, h.no, fun e => ?_⟩
  rcases hg.row q e with h1 | h1
  · exact h.nx h1
  · have := h.lt; omega
theorem DuoQ.growO {w w' : World} {B q : Nat} {vo vx vo' : Value} {o x o' : List UInt8} (h : DuoQ w B q vo vx o x) (hg : GrewA w w' B vo vo' o') : DuoQ w' B q vo' vx o' x := by
  refine ⟨h.d.growO hg, Nat.lt_of_lt_of_le h.lt hg.chg.size, fun e => ?_, h.nx⟩
  rcases hg.row q e with h1 | h1
  · exact h.no h1
  · have := h.lt; omega
theorem DuoQ.below {w w' : World} {B q : Nat} {vo vx : Value} {o x : List UInt8} (h : DuoQ w B q vo vx o x) (hb : Below w.heap.size w w') : DuoQ w' B q vo vx o x :=
  ⟨h.d.below hb, Nat.lt_of_lt_of_le h.lt hb.size, h.no, h.nx⟩
theorem DuoQ.cellX {w w' : World} {B q : Nat} {vo vx vx' : Value} {o x x' : List UInt8} (h : DuoQ w B q vo vx o x) (hg : Grew w w' B 5 1 vx vx' x'.length (x'.map bV)) (j : Nat) : w'.cell? ⟨q, j, none⟩ = w.cell? ⟨q, j, none⟩ :=
  hg.chg.cell (p := ⟨q, j, none⟩) h.lt h.nx
theorem DuoQ.cellO {w w' : World} {B q : Nat} {vo vx vo' : Value} {o x o' : List UInt8} (h : DuoQ w B q vo vx o x) (hg : GrewA w w' B vo vo' o') (j : Nat) : w'.cell? ⟨q, j, none⟩ = w.cell? ⟨q, j, none⟩ :=
  hg.chg.cell (p := ⟨q, j, none⟩) h.lt h.no
theorem Duo.withNew {w w' : World} {B : Nat} {vo vx : Value} {o x : List UInt8} (h : Duo w B vo vx o x) (hb : Below w.heap.size w w') {q : Nat} (hq : w.heap.size ≤ q) (hq2 : q < w'.heap.size) : DuoQ w' B q vo vx o x :=
  ⟨h.below hb, hq2, fun e => by have := (h.oo.lt q e).2; omega, fun e => by have := (own_lt h.ox q e).2; omega⟩
end Go.Proofs.YthcgalpabjjkoaaDoor

/- XClmP12: Where a column's bytes stand in the index, and its blocks in the file. -/
namespace Go.Proofs.YthcgalpabjjkoaaDoor
open Go.RowKit
set_option linter.unusedVariables false

theorem seg {α : Type} {X a b c : List α} (h : X = a ++ (b ++ c)) (m : Nat) (hm : m = b.length) : (X.drop a.length).take m = b := by
  subst h; subst hm
  rw [List.drop_left, List.take_left]
theorem foldP_pre {l : List (List Pn)} {a b a' b' : List UInt8} (h : l.foldl stP (some (a, b)) = some (a', b')) : ∃ ra rb, a' = a ++ ra ∧ b' = b ++ rb := by
  induction l generalizing a b with
  | nil =>
    simp only [List.foldl_nil, Option.some.injEq, Prod.mk.injEq] at h
    exact ⟨[], [], by simp [h.1], by simp [h.2]⟩
  | cons q l ih =>
    rw [List.foldl_cons] at h
    cases hs : stP (some (a, b)) q with
    | none => rw [hs, foldP_none] at h; cases h
    | some p =>
      obtain ⟨a1, b1⟩ := p
      rw [hs] at h
      obtain ⟨o, x, e, _, _, rfl, rfl⟩ := stP_some hs
      simp only [Option.some.injEq, Prod.mk.injEq] at e
      obtain ⟨rfl, rfl⟩ := e
      obtain ⟨ra, rb, h1, h2⟩ := ih h
      exact ⟨(encP q).1 ++ ra, entP a q ++ rb, by rw [h1, List.append_assoc], by rw [h2, List.append_assoc]⟩
theorem foldC_pre {l : List Cn} {a b a' b' : List UInt8} (h : l.foldl stC (some (a, b)) = some (a', b')) : ∃ ra rb, a' = a ++ ra ∧ b' = b ++ rb := by
  induction l generalizing a b with
  | nil =>
    simp only [List.foldl_nil, Option.some.injEq, Prod.mk.injEq] at h
    exact ⟨[], [], by simp [h.1], by simp [h.2]⟩
  | cons q l ih =>
    rw [List.foldl_cons] at h
    cases hs : stC (some (a, b)) q with
    | none => rw [hs, foldC_none] at h; cases h
    | some p =>
      obtain ⟨a1, b1⟩ := p
      rw [hs] at h
      obtain ⟨o, x, e, h2, _⟩ := stC_some hs
      simp only [Option.some.injEq, Prod.mk.injEq] at e
      obtain ⟨rfl, rfl⟩ := e
      obtain ⟨ra, rb, h3, h4⟩ := foldP_pre h2
      obtain ⟨ra2, rb2, h5, h6⟩ := ih h
      exact ⟨ra ++ ra2, hdC q ++ rb ++ rb2, by rw [h5, h3, List.append_assoc], by rw [h6, h4]; simp only [List.append_assoc]⟩
theorem foldP_split {l : List (List Pn)} {s : Option (List UInt8 × List UInt8)} {j : Nat} {o x : List UInt8} (h : l.foldl stP s = some (o, x)) :
    ∃ o' x' ra rb, (l.take j).foldl stP s = some (o', x') ∧ o = o' ++ ra ∧ x = x' ++ rb := by
  rw [← List.take_append_drop j l, List.foldl_append] at h
  cases hs : (l.take j).foldl stP s with
  | none => rw [hs, foldP_none] at h; cases h
  | some p =>
    obtain ⟨o', x'⟩ := p
    rw [hs] at h
    obtain ⟨ra, rb, h1, h2⟩ := foldP_pre h
    exact ⟨o', x', ra, rb, rfl, h1, h2⟩
theorem foldC_split {l : List Cn} {s : Option (List UInt8 × List UInt8)} {j : Nat} {o x : List UInt8} (h : l.foldl stC s = some (o, x)) :
    ∃ o' x' ra rb, (l.take j).foldl stC s = some (o', x') ∧ o = o' ++ ra ∧ x = x' ++ rb := by
  rw [← List.take_append_drop j l, List.foldl_append] at h
  cases hs : (l.take j).foldl stC s with
  | none => rw [hs, foldC_none] at h; cases h
  | some p =>
    obtain ⟨o', x'⟩ := p
    rw [hs] at h
    obtain ⟨ra, rb, h1, h2⟩ := foldC_pre h
    exact ⟨o', x', ra, rb, rfl, h1, h2⟩
/-- A part: its place in the index, and its block's place. -/
theorem part_place {c : Cn} {o0 x0 o1 x1 O X or_ xr : List UInt8} (h : (partsP c.p).foldl stP (some (o0, x0 ++ hdC c)) = some (o1, x1)) (hO : O = o1 ++ or_) (hX : X = x1 ++ xr) {j : Nat} (hj : j < nParts c.p.length)
    {o' x' : List UInt8} (hk : ((partsP c.p).take j).foldl stP (some (o0, x0 ++ hdC c)) = some (o', x')) :
    (encP (partP c.p j)).2 = 0 ∧ ((partsP c.p).take (j + 1)).foldl stP (some (o0, x0 ++ hdC c)) = some (o' ++ (encP (partP c.p j)).1, x' ++ entP o' (partP c.p j)) ∧
      (∃ ro, O = o' ++ ((encP (partP c.p j)).1 ++ ro)) ∧ ∃ rx, X = x' ++ (entP o' (partP c.p j) ++ rx) := by
  obtain ⟨o2, x2, ra, rb, h1, h2, h3⟩ := foldP_split (j := j + 1) h
  have h4 := foldP_next (by rw [partsP_len]; exact hj) hk
  rw [partsP_get _ _ hj, h1] at h4
  obtain ⟨o, x, e, h5, _, rfl, rfl⟩ := stP_some h4.symm
  simp only [Option.some.injEq, Prod.mk.injEq] at e
  obtain ⟨rfl, rfl⟩ := e
  refine ⟨h5, h1, ⟨ra ++ or_, by rw [hO, h2]; simp only [List.append_assoc]⟩, ⟨rb ++ xr, by rw [hX, h3]; simp only [List.append_assoc]⟩⟩
/-- The parts of a header. -/
theorem hdC_place {c : Cn} {X x0 r : List UInt8} (h : X = x0 ++ (hdC c ++ r)) :
    (X.drop x0.length).take 2 = beN 2 c.s.size ∧ (X.drop (x0.length + 2)).take c.s.size = c.s.toList ∧ (X.drop (x0.length + 2 + c.s.size)).take 2 = beN 2 c.f.size ∧
      (X.drop (x0.length + 2 + c.s.size + 2)).take c.f.size = c.f.toList ∧ (X.drop (x0.length + 2 + c.s.size + 2 + c.f.size)).take 4 = beN 4 (nParts c.p.length) := by
  unfold hdC at h
  rw [toList_len, toList_len] at h
  refine ⟨seg (c := c.s.toList ++ (beN 2 c.f.size ++ c.f.toList) ++ beN 4 (nParts c.p.length) ++ r) (by rw [h]; simp only [List.append_assoc]) 2 (by rw [beN_len]), ?_, ?_, ?_, ?_⟩
  · have := seg (X := X) (a := x0 ++ beN 2 c.s.size) (b := c.s.toList) (c := (beN 2 c.f.size ++ c.f.toList) ++ beN 4 (nParts c.p.length) ++ r) (by rw [h]; simp only [List.append_assoc]) c.s.size (by rw [toList_len])
    rw [List.length_append, beN_len] at this
    exact this
  · have := seg (X := X) (a := x0 ++ beN 2 c.s.size ++ c.s.toList) (b := beN 2 c.f.size) (c := c.f.toList ++ beN 4 (nParts c.p.length) ++ r) (by rw [h]; simp only [List.append_assoc]) 2 (by rw [beN_len])
    rw [List.length_append, List.length_append, beN_len, toList_len] at this
    exact this
  · have := seg (X := X) (a := x0 ++ beN 2 c.s.size ++ c.s.toList ++ beN 2 c.f.size) (b := c.f.toList) (c := beN 4 (nParts c.p.length) ++ r) (by rw [h]; simp only [List.append_assoc]) c.f.size (by rw [toList_len])
    rw [List.length_append, List.length_append, List.length_append, beN_len, beN_len, toList_len] at this
    exact this
  · have := seg (X := X) (a := x0 ++ beN 2 c.s.size ++ c.s.toList ++ beN 2 c.f.size ++ c.f.toList) (b := beN 4 (nParts c.p.length)) (c := r) (by rw [h]; simp only [List.append_assoc]) 4 (by rw [beN_len])
    rw [List.length_append, List.length_append, List.length_append, List.length_append, beN_len, beN_len, toList_len, toList_len] at this
    exact this
theorem rd_be (n v : Nat) (hv : v < 2 ^ (8 * n)) : rdN n (beN n v) = v := by
  have := rd_beN n v hv []
  rwa [List.append_nil] at this
/-- An entry's numbers. -/
theorem entP_place {o : List UInt8} {q : List Pn} {X x r : List UInt8} (h : X = x ++ (entP o q ++ r)) :
    (X.drop (x.length + 16)).take 4 = beN 4 o.length ∧ (X.drop (x.length + 20)).take 4 = beN 4 (encP q).1.length := by
  unfold entP at h
  constructor
  · have := seg (X := X) (a := x ++ be8 (uT (q.getD 0 p0).t) ++ be8 (uT (q.getD (q.length - 1) p0).t)) (b := beN 4 o.length) (c := beN 4 (encP q).1.length ++ r) (by rw [h]; simp only [List.append_assoc]) 4 (by rw [beN_len])
    rw [List.length_append, List.length_append, be8_len, be8_len] at this
    exact this
  · have := seg (X := X) (a := x ++ be8 (uT (q.getD 0 p0).t) ++ be8 (uT (q.getD (q.length - 1) p0).t) ++ beN 4 o.length) (b := beN 4 (encP q).1.length) (c := r) (by rw [h]; simp only [List.append_assoc]) 4 (by rw [beN_len])
    rw [List.length_append, List.length_append, List.length_append, be8_len, be8_len, beN_len] at this
    exact this
end Go.Proofs.YthcgalpabjjkoaaDoor

/- XGet12: file.read and file.get. -/
namespace Go.Proofs.YthcgalpabjjkoaaDoor
open Go.RowKit
set_option linter.unusedVariables false
set_option maxRecDepth 20000

set_option maxHeartbeats 400000 in
theorem read_any (bs : List UInt8) (v : Value) (w : World) (h1 : 1 ≤ bs.length) (h4 : bs.length ≤ 4) (hr : Rd w v bs) :
    Calls Tryd.prog 25 #[v] w fun e w' => e = .returned (.int .i64 ((rdN bs.length bs : Nat) : Int)) ∧ Below w.heap.size w w' := by
  have hN := newReader_any v bs w (by omega) hr
  obtain ⟨ao, cap, rfl, _, _⟩ := hr.v.shape
  have HG := fun (blk hi : Nat) (w1 : World) (h : Rdr w1 blk w.heap.size hi bs 0 false) => get_all blk w.heap.size hi 0 bs false (8 * bs.length) (by omega) (by omega) w1 h
  have hv := (gV_bytes bs 0 bs.length (by omega)).1
  rw [List.drop_zero, Nat.mul_zero] at hv
  rw [hv] at HG
  have e8 : ((8 * bs.length : Nat) : Int) = 8 * (bs.length : Int) := by omega
  rw [e8] at HG
  clear e8
  have hlt : rdN bs.length bs < 4294967296 := Nat.lt_of_lt_of_le (rdN_lt bs.length bs) (Nat.le_trans (Nat.pow_le_pow_right (by omega) (show 8 * bs.length ≤ 32 by omega)) (by decide))
  replace HG := Lib.hid HG
  generalize rdN bs.length bs = R at *
  obtain ⟨n, hn⟩ : ∃ n, n = bs.length := ⟨_, rfl⟩
  rw [← hn] at h1 h4
  rw [← hn] at HG hN
  have hn' := Lib.hid hn
  rw [← hn]
  clear hn hv hr
  have hw : IntKind.i64.wrap (8 * (n : Int)) = 8 * (n : Int) := IntWalk.i64_in _ (by omega)
  have hw2 : IntKind.i64.wrap (R : Int) = (R : Int) := IntWalk.i64_in _ (by omega)
  go_enter Tryd.func25, Tryd.ntmps25
  go_wp2_with (first
    | (go_at_call 42; refine hN.mono ?_; rintro _ w1 ⟨blk, rfl, hr1, hb1⟩; have HR1 := Lib.hid hr1; have HB1 := Lib.hid hb1; clear hr1 hb1 hN)
    | (go_at_call 43; refine (HG.out _ _ _ HR1.out).mono ?_; rintro _ w2 ⟨rfl, hr2, hc2⟩; have HC2 := Lib.hid hc2; clear hr2 hc2))
  go_ret
  refine ⟨rfl, HB1.out.trans (HC2.out.below HB1.out.size ?_)⟩
  intro k hk
  subst hk
  exact HR1.out.lo

set_option maxHeartbeats 400000 in
theorem getF_any (pb b off n cap k : Nat) (w : World) (hc : w.cell? ⟨pb, 0, none⟩ = some (.slice (some ⟨b, off, none⟩) n cap)) (hk : k ≤ n) (hn : n + 1 ≤ cap) (hm : cap ≤ maxLen) (hf : w.frozen? ⟨pb, 0, none⟩ = false) :
    Calls Tryd.prog 44 #[.pointer (some ⟨pb, 0, none⟩), .int .i64 (k : Int)] w fun e w' => e = .returned (.tuple #[.slice (some ⟨b, off, none⟩) k cap, .bool true]) ∧
      w' = w.setCell ⟨pb, 0, none⟩ (.slice (some ⟨b, off + k, none⟩) (n - k) (cap - k)) := by
  unfold maxLen at hm
  have hkc : k ≤ cap := by omega
  have hkI : ¬ (n : Int) < (k : Int) := by omega
  have hne : cap ≠ k := by omega
  go_enter Tryd.func44, Tryd.ntmps44
  go_wp2_with fail
  go_ret2
  exact ⟨rfl, rfl⟩
end Go.Proofs.YthcgalpabjjkoaaDoor

/- XCst12: A column under way in file.column: what stands in memory. -/
namespace Go.Proofs.YthcgalpabjjkoaaDoor
open Go.RowKit
set_option linter.unusedVariables false

/-- A cell that the call may write. -/
structure Ix (w : World) (a : Addr) (v : Value) : Prop where
  c : w.cell? a = some v
  f : w.frozen? a = false
  l : a.block < w.heap.size
theorem Ix.chg {S : Nat → Prop} {w w' : World} {a : Addr} {v : Value} (h : Ix w a v) (hc : Chg S w w') (hs : ¬ S a.block) : Ix w' a v :=
  ⟨(hc.cell h.l hs).trans h.c, (hc.frozen h.l hs).trans h.f, Nat.lt_of_lt_of_le h.l hc.size⟩
theorem Ix.below {w w' : World} {a : Addr} {v : Value} (h : Ix w a v) (hb : Below w.heap.size w w') : Ix w' a v := h.chg (S := fun _ => False) (Chg.ofBelowAny hb) (fun h => h)
theorem chg_set {w : World} (p off : Nat) (u : Value) : Chg (fun q => q = p) w (w.setCell ⟨p, off, none⟩ u) := (Chg.refl (fun q => q = p) w).setCell (p := ⟨p, off, none⟩) (fun _ => rfl) u
theorem Ix.set {w : World} {p off : Nat} {v : Value} (h : Ix w ⟨p, off, none⟩ v) (u : Value) : Ix (w.setCell ⟨p, off, none⟩ u) ⟨p, off, none⟩ u := by
  obtain ⟨h1, h2, h3⟩ := h
  refine ⟨?_, ?_, ?_⟩
  · simp [go_sem, h1]
  · simpa [go_sem] using h2
  · simpa [World.setCell] using h3
theorem Ix.other {w : World} {p off o2 : Nat} {v : Value} (h : Ix w ⟨p, off, none⟩ v) (u : Value) (hne : o2 ≠ off) : Ix (w.setCell ⟨p, o2, none⟩ u) ⟨p, off, none⟩ v := by
  obtain ⟨h1, h2, h3⟩ := h
  refine ⟨?_, ?_, ?_⟩
  · have hx : (⟨p, o2, none⟩ : Addr) ≠ ⟨p, off, none⟩ := fun e => hne (by cases e; rfl)
    have e := World.cell?_setCell_other (w := w) (a := (⟨p, o2, none⟩ : Addr)) (b := ⟨p, off, none⟩) (v := u) hx
    rw [e]
    exact h1
  · simpa [go_sem] using h2
  · simpa [World.setCell] using h3

def ixV (bk xo L C k : Nat) : Value := .slice (some ⟨bk, xo + k, none⟩) (L - k) (C - k)
theorem getI_any (pi bk xo L C k m k' : Nat) (w : World) (h : Ix w ⟨pi, 0, none⟩ (ixV bk xo L C k)) (hk : k' = k + m) (hm : k' ≤ L) (hc : L + 1 ≤ C) (hC : C ≤ maxLen) :
    Calls Tryd.prog 44 #[.pointer (some ⟨pi, 0, none⟩), .int .i64 (m : Int)] w fun e w' => e = .returned (.tuple #[.slice (some ⟨bk, xo + k, none⟩) m (C - k), .bool true]) ∧
      Ix w' ⟨pi, 0, none⟩ (ixV bk xo L C k') ∧ Chg (fun q => q = pi) w w' := by
  subst hk
  refine (getF_any pi bk (xo + k) (L - k) (C - k) m w h.c (by omega) (by omega) (by omega) h.f).mono ?_
  rintro e w' ⟨rfl, rfl⟩
  refine ⟨rfl, ?_, chg_set _ _ _⟩
  have := h.set (.slice (some ⟨bk, xo + k + m, none⟩) (L - k - m) (C - k - m))
  unfold ixV
  rwa [Nat.sub_sub, Nat.sub_sub, Nat.add_assoc] at this ⊢

/-- The walk's state: index, next, the column's three cells. -/
structure Cst (w wz : World) (pi pn g : Nat) (iv : Value) (nx : Int) (s f : ByteArray) (pv : Value) : Prop where
  ix : Ix wz ⟨pi, 0, none⟩ iv
  nx : Ix wz ⟨pn, 0, none⟩ (.int .i64 nx)
  c0 : Ix wz ⟨g, 0, none⟩ (.string s)
  c1 : Ix wz ⟨g, 1, none⟩ (.string f)
  c2 : Ix wz ⟨g, 2, none⟩ pv
  gl : w.heap.size ≤ g
  il : pi < w.heap.size
  nl : pn < w.heap.size
  ne : pi ≠ pn
  chg : Chg (fun q => q = pi ∨ q = pn) w wz
theorem Cst.below {w wz wy : World} {pi pn g : Nat} {iv : Value} {nx : Int} {s f : ByteArray} {pv : Value} (h : Cst w wz pi pn g iv nx s f pv) (hb : Below wz.heap.size wz wy) : Cst w wy pi pn g iv nx s f pv :=
  ⟨h.ix.below hb, h.nx.below hb, h.c0.below hb, h.c1.below hb, h.c2.below hb, h.gl, h.il, h.nl, h.ne, h.chg.trans (Chg.ofBelowAny hb)⟩
theorem Cst.got {w wz wy : World} {pi pn g : Nat} {iv iv' : Value} {nx : Int} {s f : ByteArray} {pv : Value} (h : Cst w wz pi pn g iv nx s f pv) (hi : Ix wy ⟨pi, 0, none⟩ iv') (hc : Chg (fun q => q = pi) wz wy) : Cst w wy pi pn g iv' nx s f pv := by
  have hg := h.gl; have hi2 := h.il
  have hne : ¬ g = pi := by omega
  exact ⟨hi, h.nx.chg hc (fun e => h.ne e.symm), h.c0.chg hc hne, h.c1.chg hc hne, h.c2.chg hc hne, h.gl, h.il, h.nl, h.ne, h.chg.trans (hc.mono (fun i _ e => .inl e))⟩
theorem Cst.setN {w wz : World} {pi pn g : Nat} {iv : Value} {nx : Int} {s f : ByteArray} {pv : Value} (h : Cst w wz pi pn g iv nx s f pv) (nx' : Int) : Cst w (wz.setCell ⟨pn, 0, none⟩ (.int .i64 nx')) pi pn g iv nx' s f pv := by
  have hg := h.gl; have hi2 := h.nl
  have hne : ¬ g = pn := by omega
  have hc := chg_set (w := wz) pn 0 (.int .i64 nx')
  exact ⟨h.ix.chg hc h.ne, h.nx.set _, h.c0.chg hc hne, h.c1.chg hc hne, h.c2.chg hc hne, h.gl, h.il, h.nl, h.ne, h.chg.trans (hc.mono (fun i _ e => .inr e))⟩
theorem Cst.chgG {w wz wy : World} {pi pn g : Nat} {iv : Value} {nx : Int} {s f : ByteArray} {pv : Value} (h : Cst w wz pi pn g iv nx s f pv) (hc : Chg (fun q => q = g) wz wy) : Chg (fun q => q = pi ∨ q = pn) w wy := by
  have hg := h.gl
  exact h.chg.trans' hc (fun i hi e => by omega)
theorem Cst.set0 {w wz : World} {pi pn g : Nat} {iv : Value} {nx : Int} {s f : ByteArray} {pv : Value} (h : Cst w wz pi pn g iv nx s f pv) (s' : ByteArray) : Cst w (wz.setCell ⟨g, 0, none⟩ (.string s')) pi pn g iv nx s' f pv := by
  have hg := h.gl; have hi2 := h.il; have hn2 := h.nl
  have hc := chg_set (w := wz) g 0 (.string s')
  exact ⟨h.ix.chg hc (show ¬ pi = g by omega), h.nx.chg hc (show ¬ pn = g by omega), h.c0.set _, h.c1.other _ (by decide), h.c2.other _ (by decide), h.gl, h.il, h.nl, h.ne, h.chgG hc⟩
theorem Cst.set1 {w wz : World} {pi pn g : Nat} {iv : Value} {nx : Int} {s f : ByteArray} {pv : Value} (h : Cst w wz pi pn g iv nx s f pv) (f' : ByteArray) : Cst w (wz.setCell ⟨g, 1, none⟩ (.string f')) pi pn g iv nx s f' pv := by
  have hg := h.gl; have hi2 := h.il; have hn2 := h.nl
  have hc := chg_set (w := wz) g 1 (.string f')
  exact ⟨h.ix.chg hc (show ¬ pi = g by omega), h.nx.chg hc (show ¬ pn = g by omega), h.c0.other _ (by decide), h.c1.set _, h.c2.other _ (by decide), h.gl, h.il, h.nl, h.ne, h.chgG hc⟩
theorem Cst.set2 {w wz : World} {pi pn g : Nat} {iv : Value} {nx : Int} {s f : ByteArray} {pv : Value} (h : Cst w wz pi pn g iv nx s f pv) (pv' : Value) : Cst w (wz.setCell ⟨g, 2, none⟩ pv') pi pn g iv nx s f pv' := by
  have hg := h.gl; have hi2 := h.il; have hn2 := h.nl
  have hc := chg_set (w := wz) g 2 pv'
  exact ⟨h.ix.chg hc (show ¬ pi = g by omega), h.nx.chg hc (show ¬ pn = g by omega), h.c0.other _ (by decide), h.c1.other _ (by decide), h.c2.set _, h.gl, h.il, h.nl, h.ne, h.chgG hc⟩
theorem Cst.up {w wz wy : World} {pi pn g : Nat} {iv : Value} {nx : Int} {s f : ByteArray} {pv : Value} (h : Cst w wz pi pn g iv nx s f pv) {S : Nat → Prop} (hc : Chg S wz wy) (hS : ∀ k, S k → g < k) : Cst w wy pi pn g iv nx s f pv := by
  have hg := h.gl; have hi2 := h.il; have hn2 := h.nl
  have n1 : ¬ S pi := fun e => by have := hS _ e; omega
  have n2 : ¬ S pn := fun e => by have := hS _ e; omega
  have n3 : ¬ S g := fun e => by have := hS _ e; omega
  exact ⟨h.ix.chg hc n1, h.nx.chg hc n2, h.c0.chg hc n3, h.c1.chg hc n3, h.c2.chg hc n3, h.gl, h.il, h.nl, h.ne, h.chg.trans' hc (fun i hi e => by have := hS _ e; omega)⟩
theorem readN_any (n v : Nat) (vv : Value) (w : World) (h1 : 1 ≤ n) (h4 : n ≤ 4) (hv : v < 2 ^ (8 * n)) (hr : Rd w vv (beN n v)) :
    Calls Tryd.prog 25 #[vv] w fun e w' => e = .returned (.int .i64 (v : Int)) ∧ Below w.heap.size w w' := by
  have h := read_any (beN n v) vv w (by rw [beN_len]; exact h1) (by rw [beN_len]; exact h4) hr
  rw [beN_len, rd_be n v hv] at h
  exact h
theorem strOf_self (s : ByteArray) : strOf s.toList = s := by
  have e1 : s = strOf s.data.toList := by cases s; simp [strOf]
  have e2 : s.toList = s.data.toList := by conv => lhs; rw [e1, strOf_toList]
  rw [e2, ← e1]
end Go.Proofs.YthcgalpabjjkoaaDoor

/- XShort12: How long a block is. -/
namespace Go.Proofs.YthcgalpabjjkoaaDoor
open Go.RowKit
set_option linter.unusedVariables false
set_option maxRecDepth 100000

theorem encP_err {l : List Pn} (h : (encP l).2 ≠ 0) : (encP l).1 = [] := by
  cases ht : encS (tsP l) with
  | none => rw [encP_times ht]
  | some t =>
    by_cases h2 : (encC (vsP l)).2 = 0
    · exact absurd (by rw [encP_ok ht (show encC (vsP l) = ((encC (vsP l)).1, 0) by rw [← h2])]) h
    · rw [encP_vals ht h2]
theorem encP_short {l : List Pn} {b : List UInt8} (hok : ∀ p ∈ l, p.ok) (h : encP l = (b, 0)) : b.length ≤ 10010000 ∧ 9 ≤ b.length := by
  have hp := (show PdG b l from ⟨h, hok⟩).parts
  have h1 := encS_short hp.2.2.2.1
  have h2 := encC_short hp.2.2.2.2.2.2.2 hp.2.2.2.2.1
  have h3 : (vP b).length = b.length - 4 - (5 + nP b) := by unfold vP; rw [List.length_take, List.length_drop]; omega
  have h4 : (tP b).length = nP b := (body_split hp.1 hp.2.2.1).2
  omega

theorem encP_bound {l : List Pn} (hok : ∀ p ∈ l, p.ok) : (encP l).1.length ≤ 10010000 := by
  by_cases h : (encP l).2 = 0
  · exact (encP_short hok (show encP l = ((encP l).1, 0) by rw [← h])).1
  · rw [encP_err h]
    exact Nat.zero_le _
end Go.Proofs.YthcgalpabjjkoaaDoor

/- XDst12: Columns under way in file.Decode: what stands in memory. -/
namespace Go.Proofs.YthcgalpabjjkoaaDoor
open Go.RowKit
set_option linter.unusedVariables false

theorem infoCol : (Tryd.prog.info? 31).map (fun i => (i.zero, i.size, i.bytes)) = some (some (.agg #[.string .empty, .string .empty, .slice none 0 0]), 3, 56) := by kernel_rfl

structure Dst (w wz : World) (pn pi : Nat) (iv : Value) (nx : Int) (la : Option Addr) (lc : Nat) (cs : List Cb) : Prop where
  ix : Ix wz ⟨pi, 0, none⟩ iv
  nx : Ix wz ⟨pn, 0, none⟩ (.int .i64 nx)
  lt : pn < pi
  base : w.heap.size ≤ pn
  ls : wz.ownsRow (pn + 1) 31 3 (.slice la cs.length lc) cs.length (cs.flatMap Cb.cells)
  ln : ∀ k, (Value.slice la cs.length lc).ownBlock = some k → k ≠ pi
  ps : ∀ c ∈ cs, OwnP wz (pn + 1) c.pv c.c.p ∧ ∀ k, c.pv.ownBlock = some k → k ≠ pi ∧ (Value.slice la cs.length lc).ownBlock ≠ some k
  below : Below w.heap.size w wz
theorem Dst.below' {w wz wy : World} {pn pi : Nat} {iv : Value} {nx : Int} {la : Option Addr} {lc : Nat} {cs : List Cb} (h : Dst w wz pn pi iv nx la lc cs) (hb : Below wz.heap.size wz wy) : Dst w wy pn pi iv nx la lc cs :=
  ⟨h.ix.below hb, h.nx.below hb, h.lt, h.base, (Chg.ofBelowAny (S := fun _ => False) hb).owns h.ls (fun _ _ h => h), h.ln, fun c hc => ⟨OwnP.below (h.ps c hc).1 hb, (h.ps c hc).2⟩, h.below.trans (hb.mono h.below.size)⟩
/-- Behind file.column. -/
theorem Dst.col {w wz wy : World} {pn pi : Nat} {iv iv' : Value} {nx nx' : Int} {la : Option Addr} {lc : Nat} {cs : List Cb} (h : Dst w wz pn pi iv nx la lc cs) (hc : Chg (fun q => q = pi ∨ q = pn) wz wy)
    (hi : Ix wy ⟨pi, 0, none⟩ iv') (hn : Ix wy ⟨pn, 0, none⟩ (.int .i64 nx')) : Dst w wy pn pi iv' nx' la lc cs := by
  have hb := h.base; have hlt := h.lt
  refine ⟨hi, hn, h.lt, h.base, hc.owns h.ls (fun k hk e => ?_), h.ln, fun c hcm => ⟨?_, (h.ps c hcm).2⟩, h.below.trans (hc.below h.below.size (fun k e => by omega))⟩
  · have h1 := (World.ownsRow.lt h.ls k hk).1
    rcases e with e | e
    · exact h.ln k hk e
    · omega
  · refine hc.owns (h.ps c hcm).1 (fun k hk e => ?_)
    have h1 := (World.ownsRow.lt (h.ps c hcm).1 k hk).1
    rcases e with e | e
    · exact ((h.ps c hcm).2 k hk).1 e
    · omega
/-- Behind the append of the column. -/
theorem Dst.snoc {w wz wy : World} {pn pi : Nat} {iv : Value} {nx : Int} {la la' : Option Addr} {lc lc' : Nat} {cs : List Cb} {c : Cb} (h : Dst w wz pn pi iv nx la lc cs) (hp : OwnP wz (pi + 1) c.pv c.c.p)
    (hpl : ∀ k, c.pv.ownBlock = some k → (Value.slice la cs.length lc).ownBlock ≠ some k)
    (hg : Grew wz wy (pn + 1) 31 3 (.slice la cs.length lc) (.slice la' (cs.length + 1) lc') (cs.length + 1) (cs.flatMap Cb.cells ++ c.cells)) : Dst w wy pn pi iv nx la' lc' (cs ++ [c]) := by
  have hb := h.base; have hlt := h.lt
  have hrow : ∀ k, (Value.slice la' (cs ++ [c]).length lc').ownBlock = some k → (Value.slice la cs.length lc).ownBlock = some k ∨ wz.heap.size ≤ k := fun k hk => by rw [List.length_append] at hk; exact hg.row k hk
  have hil := h.ix.l
  refine ⟨h.ix.chg hg.chg (fun e => h.ln _ e rfl), h.nx.chg hg.chg (fun e => by have := (World.ownsRow.lt h.ls _ e).1; dsimp only at this; omega), h.lt, h.base, ?_, fun k hk e => ?_, fun d hd => ?_, h.below.trans (hg.below (B := w.heap.size) h.below.size (fun k hk => by have := (World.ownsRow.lt h.ls k hk).1; omega))⟩
  · rw [List.length_append, List.flatMap_append]
    have := hg.owns
    simpa using this
  · rcases hrow k hk with h1 | h1
    · exact h.ln k h1 e
    · dsimp only at hil; omega
  · have hd2 : (OwnP wz (pn + 1) d.pv d.c.p ∧ ∀ k, d.pv.ownBlock = some k → k ≠ pi ∧ (Value.slice la cs.length lc).ownBlock ≠ some k) := by
      rcases List.mem_append.1 hd with h1 | h1
      · exact h.ps d h1
      · simp at h1
        subst h1
        exact ⟨OwnP.mono hp (by omega), fun k hk => ⟨by have := (World.ownsRow.lt hp k hk).1; omega, hpl k hk⟩⟩
    refine ⟨hg.chg.owns hd2.1 (fun k hk e => (hd2.2 k hk).2 e), fun k hk => ⟨(hd2.2 k hk).1, fun e => ?_⟩⟩
    rcases hrow k e with h1 | h1
    · exact (hd2.2 k hk).2 h1
    · have := (World.ownsRow.lt hd2.1 k hk).2; omega
/-- A new cell for the index. -/
theorem Dst.next {w wz : World} {pn pi : Nat} {iv : Value} {nx : Int} {la : Option Addr} {lc : Nat} {cs : List Cb} (h : Dst w wz pn pi iv nx la lc cs) (t : TypeId) : Dst w (wz.alloc (.cells #[iv] t)) pn wz.heap.size iv nx la lc cs := by
  have hb : Below wz.heap.size wz (wz.alloc (.cells #[iv] t)) := (Below.refl _ _).alloc (Nat.le_refl _) _
  have h2 := h.below' hb
  refine ⟨⟨by simp [go_sem], by rw [World.frozen?_alloc_at _ _ _ _ (by simp)], by simp⟩, h2.nx, h.nx.l, h2.base, h2.ls, fun k hk e => ?_, fun c hc => ⟨(h2.ps c hc).1, fun k hk => ⟨fun e => ?_, ((h2.ps c hc).2 k hk).2⟩⟩, h2.below⟩
  · have := (World.ownsRow.lt h.ls k hk).2; omega
  · have := (World.ownsRow.lt (h.ps c hc).1 k hk).2; omega
theorem Dst.cols {w wz : World} {pn pi : Nat} {iv : Value} {nx : Int} {la : Option Addr} {lc : Nat} {cs : List Cb} (h : Dst w wz pn pi iv nx la lc cs) : Cols wz (.slice la cs.length lc) cs :=
  ⟨RdV.ofOwns h.ls, fun c hc => OwnP.pns (h.ps c hc).1⟩
end Go.Proofs.YthcgalpabjjkoaaDoor

/- XColl12: slices.Collect(slices.Chunk(points, 1000)). -/
namespace Go.Proofs.YthcgalpabjjkoaaDoor
open Go.RowKit Go.Shelf
set_option linter.unusedVariables false
attribute [local go_sem] Oper.semAt_some

theorem chunk_stops (n : Nat) (hn : 1 ≤ n) (Bs Bn n₀ b off len cap : Nat) (hreach : len ≤ 1000000000) (hcap : len ≤ cap) (hb : b < n₀) (h1 : Bs < n₀) (h2 : Bn < n₀) (w : World) (hn₀ : n₀ ≤ w.heap.size)
    (hBs : w.cell? ⟨Bs, 0, none⟩ = some (.slice (some ⟨b, off, none⟩) len cap)) (hBn : w.cell? ⟨Bn, 0, none⟩ = some (.int .i64 1000)) :
    SeqStopsK Fence.wide n Tryd.prog 35 #[.pointer (some ⟨Bs, 0, none⟩), .pointer (some ⟨Bn, 0, none⟩)] (fun j : Nat => #[enP b off len j]) (Below n₀) (fun ys => ys = List.range (nParts len)) (fun pre => ∃ k, k ≤ nParts len ∧ pre = List.range k) (nParts len) w := fun l J Jx W hW hJ _ hY h0 =>
  chunk1_in n hn l Bs Bn n₀ b off len cap hreach hcap hb h1 h2 J Jx hY W hJ ((hW.cell (p := ⟨Bs, 0, none⟩) (Nat.lt_of_lt_of_le h1 hn₀)).trans hBs) ((hW.cell (p := ⟨Bn, 0, none⟩) (Nat.lt_of_lt_of_le h2 hn₀)).trans hBn) h0

theorem infoPs : (Tryd.prog.info? 24).map (fun i => (i.zero, i.size, i.bytes)) = some (some (.slice none 0 0), 1, 24) := by kernel_rfl

set_option maxRecDepth 100000 in
set_option maxHeartbeats 2000000 in
theorem appendSeq_in (n : Nat) (hn : 3 ≤ n) (Bs Bn b off len cap : Nat) (hreach : len ≤ 1000000000) (hcap : len ≤ cap) (w : World) (hb : b < w.heap.size) (h1 : Bs < w.heap.size) (h2 : Bn < w.heap.size)
    (hBs : w.cell? ⟨Bs, 0, none⟩ = some (.slice (some ⟨b, off, none⟩) len cap)) (hBn : w.cell? ⟨Bn, 0, none⟩ = some (.int .i64 1000)) :
    CallsIn Fence.wide n Tryd.prog 34 #[.slice none 0 0, .func (.func 35) #[] #[.pointer (some ⟨Bs, 0, none⟩), .pointer (some ⟨Bn, 0, none⟩)]] w fun e W' =>
      ∃ v, e = .returned v ∧ W'.ownsRow w.heap.size 24 1 v (nParts len) ((List.range (nParts len)).map (enP b off len)) ∧ Below w.heap.size w W' := by
  have h3 : 1 ≤ n := by omega
  obtain ⟨i0, hi, hz0, hz1, hz2⟩ := info_parts infoPs
  refine callsIn_of_wp_marks Tryd.func34 rfl trivial ?_ rfl
  simp only [Tryd.ntmps34, List.size_toArray, List.length_cons, List.length_nil, Nat.reduceAdd, Nat.reduceSub, Array.replicate_succ, Array.replicate_zero, List.push_toArray, List.append_toArray, List.nil_append, List.cons_append]
  gi_wp2
  have bO := Boxed.new w 49 (.slice none 0 0)
  have hB0 : Below w.heap.size w (w.alloc (.cells #[.slice none 0 0] 49)) := (Below.refl _ w).alloc (Nat.le_refl _) _
  refine wpIn_rangeFunc_ownG rfl h3 (gf := 35) (lb := #[.pointer (some ⟨Bs, 0, none⟩), .pointer (some ⟨Bn, 0, none⟩)]) rfl trivial (enters_of Tryd.func35 (by kernel_rfl) rfl)
    (chunk_stops (n - 1) (by omega) Bs Bn w.heap.size b off len cap hreach hcap hb h1 h2 (w.alloc (.cells #[.slice none 0 0] 49)) (by simp) ((hB0.cell (p := ⟨Bs, 0, none⟩) h1).trans hBs) ((hB0.cell (p := ⟨Bn, 0, none⟩) h2).trans hBn)) belowK_t (belowK_b (by simp)) (Below.refl _ _) (fun _ => rfl)
    (fun pre W => (∃ v, Boxed W w.heap.size 49 v ∧ W.ownsRow w.heap.size 24 1 v pre.length (pre.map (enP b off len)) ∧ True) ∧ Below w.heap.size w W)
    (fun _ _ _ => False)
    (OwnFrom.and (Own.from (holdsRow_own w.heap.size w.heap.size 49 24 1 (fun pre : List Nat => pre.length) (fun pre : List Nat => pre.map (enP b off len)) (fun _ _ => True)) _) (ownFrom_below (Nat.le_refl _) (by simp)))
    (fun _ _ _ _ _ hs _ _ => hs)
    ⟨⟨_, bO, World.ownsRow_nil _ _ _ _, trivial⟩, hB0⟩
    (fun x => { tmps := #[.slice none 0 0, .func (.func 35) #[] #[.pointer (some ⟨Bs, 0, none⟩), .pointer (some ⟨Bn, 0, none⟩)], .pointer (some ⟨w.heap.size, 0, none⟩), undef, .slice none 0 0, enP b off len x, .func (.func 35) #[] #[.pointer (some ⟨Bs, 0, none⟩), .pointer (some ⟨Bn, 0, none⟩)], enP b off len x, undef, undef, undef, undef, undef], defers := [] }) ?assign ?body ?done ?stop
  case assign =>
    intro l x W K hK
    gi_wp2
    exact hK
  case body =>
    rintro l pre x W ⟨⟨v, hv, hrow, _⟩, hB⟩ hlt
    have hc := hv.cell
    have hpl : pre.length < 1000000 := by unfold nParts at hlt; omega
    unfold enP
    gi_wp2_with (gi_at_builtin; refine wpListIn_append_own _ rfl _ _ 49 rfl w.heap.size 24 i0 (.slice none 0 0) 1 24 Tryd.underlying49 hi hz0 hz1 hz2 rfl (by decide) _ _ _ rfl (hrow.alloc _) ⟨W.heap.size, 0, none⟩ 1 1 [enP b off len x] rfl rfl (cell_one_new _ _ _) (by simp [Value.oneCell', enP]) (by unfold maxLen; omega) (by omega) (by have := hB.size; simp; omega) ?_; intro v' w1 hown' hgrow _; obtain ⟨g', cap', rfl⟩ := ownsRow_succ hown'; obtain ⟨hv1, hv2, hr2, hk2, hb2⟩ := hv.appended (by decide) hrow hB.size (Nat.le_refl _) hown' hgrow; have hc1 := hv1.cell; have hf1 := hv1.frozen)
    exact ⟨hk2.from _, hb2, ⟨_, hv2, by rw [List.length_append, List.map_append]; exact hr2, trivial⟩, hB.trans hb2⟩
  case done =>
    rintro D ys W hD rfl ⟨⟨v, hv, hrow, _⟩, hB⟩ hK
    have hc := hv.cell
    gi_wp2
    refine ⟨by simp, .inl ⟨_, _, rfl, run_takeDeferred hK, ?_⟩⟩
    rw [List.length_range] at hrow
    exact ⟨_, results_tmp rfl _ _ _, v, rfl, ownsRow_putObj hrow _ hK rfl, hB.trans (belowK_b (w := w) (Nat.le_refl _) W D _ _ (by simp at hD; omega) hK rfl rfl)⟩
  case stop =>
    rintro D c pre W _ _ h _
    exact h.elim

set_option maxRecDepth 100000 in
theorem chunk_any (a : Option Addr) (len cap : Nat) (w : World) :
    Calls Tryd.prog 15 #[.slice a len cap, .int .i64 1000] w fun e w' => e = .returned (.func (.func 35) #[] #[.pointer (some ⟨w.heap.size, 0, none⟩), .pointer (some ⟨w.heap.size + 1, 0, none⟩)]) ∧ w' = (w.alloc (.cells #[.slice a len cap] 24)).alloc (.cells #[.int .i64 1000] 3) :=
  callsIn_wide.1 (chunk_in 5 a len cap w)
set_option maxRecDepth 100000 in
set_option maxHeartbeats 1000000 in
theorem collect_any (Bs Bn b off len cap : Nat) (hreach : len ≤ 1000000000) (hcap : len ≤ cap) (w : World) (hb : b < w.heap.size) (h1 : Bs < w.heap.size) (h2 : Bn < w.heap.size)
    (hBs : w.cell? ⟨Bs, 0, none⟩ = some (.slice (some ⟨b, off, none⟩) len cap)) (hBn : w.cell? ⟨Bn, 0, none⟩ = some (.int .i64 1000)) :
    Calls Tryd.prog 14 #[.func (.func 35) #[] #[.pointer (some ⟨Bs, 0, none⟩), .pointer (some ⟨Bn, 0, none⟩)]] w fun e W' =>
      ∃ v, e = .returned v ∧ W'.ownsRow w.heap.size 24 1 v (nParts len) ((List.range (nParts len)).map (enP b off len)) ∧ Below w.heap.size w W' := by
  have hA : Calls Tryd.prog _ _ w _ := callsIn_wide.1 (appendSeq_in 5 (by decide) Bs Bn b off len cap hreach hcap w hb h1 h2 hBs hBn)
  go_enter Tryd.func14, Tryd.ntmps14
  go_wp2_with (go_at_call 34; refine hA.mono ?_; rintro e W2 ⟨v, rfl, ho, hb2⟩)
  go_ret
  exact ⟨v, rfl, ho, hb2⟩
end Go.Proofs.YthcgalpabjjkoaaDoor

/- XBes12: Bytes beside a list of bytes that grows; append of bytes as one step; a column's part as a cut. -/
namespace Go.Proofs.YthcgalpabjjkoaaDoor
open Go.RowKit
set_option linter.unusedVariables false

/-- Bytes that lie in another block than those that grow. -/
structure Bes (w : World) (vx v : Value) (bs : List UInt8) : Prop where
  rd : Rd w v bs
  ne : ∀ k, v.ownBlock = some k → k < w.heap.size ∧ vx.ownBlock ≠ some k
theorem Bes.new {w w' : World} {B : Nat} {vx v : Value} {x bs : List UInt8} (hb : Below w.heap.size w w') (ho : Own w' w.heap.size v bs) (hx : Own w B vx x) : Bes w' vx v bs :=
  ⟨ho.rd, fun k hk => ⟨(own_lt ho k hk).2, fun e => by have h1 := (own_lt ho k hk).1; have h2 := (own_lt hx k e).2; omega⟩⟩
theorem Bes.below {w w' : World} {vx v : Value} {bs : List UInt8} (h : Bes w vx v bs) (hb : Below w.heap.size w w') : Bes w' vx v bs :=
  ⟨RdV.below h.rd hb, fun k hk => ⟨Nat.lt_of_lt_of_le (h.ne k hk).1 hb.size, (h.ne k hk).2⟩⟩
theorem Bes.grow {w w' : World} {B : Nat} {vx vx' v : Value} {x' bs : List UInt8} (h : Bes w vx v bs) (hg : Grew w w' B 5 1 vx vx' x'.length (x'.map bV)) : Bes w' vx' v bs := by
  refine ⟨RdV.chg h.rd hg.chg (fun k hk e => (h.ne k hk).2 e), fun k hk => ⟨Nat.lt_of_lt_of_le (h.ne k hk).1 hg.grown.size, fun e => ?_⟩⟩
  rcases hg.row k e with h1 | h1
  · exact (h.ne k hk).2 h1
  · have := (h.ne k hk).1; omega

theorem step_append_bsE (E : List UInt8) (w : World) {ops : Array Oper} {o : Oper} {a : Act} {K : Act → World → Prop} {Q : Exit → Act → World → Prop} {F : Prop} (hgd : o.guard = none) (s x : Operand)
    (ho : o.op = .call { callee := .builtin .append, args := #[s, x], argTypes := #[33, 33] })
    (base : Nat) (v : Value) (ps : List UInt8) (hs : a.eval s = v) (hown : Own w base v ps) (xv : Value) (bs : List UInt8) (hE : E = ps ++ bs) (hx : a.eval x = xv) (hrd : Rd w xv bs)
    (hlen : ps.length + bs.length ≤ 140737488355328) (hbase : base ≤ w.heap.size)
    (h : ∀ ao cap w', Grew w w' base 5 1 v (.slice ao E.length cap) E.length (E.map bV) → K (a.put o.dst (.slice ao E.length cap)) w') :
    if Region.wanted o (yielded ops a.tmps) = true then Oper.wp Tryd.prog o a w K Q else F := by
  subst hE
  refine step_append_rd w hgd s x 33 ho base 5 (.int .u8 0) 1 1 Tryd.underlying33 infoU8 rfl (by decide) v ps.length (ps.map bV) hs hown xv bs.length (bs.map bV) hx hrd (bV_one _) (by unfold maxLen; omega) (by omega) hbase ?_
  intro ao cap w' hg
  have h2 := h ao cap w'
  rw [List.length_append, List.map_append] at h2
  exact h2 hg
theorem wpList_append_bsG (E : List UInt8) (w : World) {ops : Array Oper} {rest : List Oper} {o : Oper} {a : Act} {Q : Exit → Act → World → Prop} (hgd : o.guard = none) (s x : Operand)
    (ho : o.op = .call { callee := .builtin .append, args := #[s, x], argTypes := #[33, 33] })
    (base : Nat) (v : Value) (ps : List UInt8) (hs : a.eval s = v) (hown : Own w base v ps) (xv : Value) (bs : List UInt8) (hE : E = ps ++ bs) (hx : a.eval x = xv) (hrd : Rd w xv bs)
    (hlen : ps.length + bs.length ≤ 140737488355328) (hbase : base ≤ w.heap.size)
    (h : ∀ ao cap w', Grew w w' base 5 1 v (.slice ao E.length cap) E.length (E.map bV) → wpList Tryd.prog ops Q rest (a.put o.dst (.slice ao E.length cap)) w') : wpList Tryd.prog ops Q (o :: rest) a w := by
  subst hE
  refine wpList_append_rd w hgd s x 33 ho base 5 (.int .u8 0) 1 1 Tryd.underlying33 infoU8 rfl (by decide) v ps.length (ps.map bV) hs hown xv bs.length (bs.map bV) hx hrd (bV_one _) (by unfold maxLen; omega) (by omega) hbase ?_
  intro ao cap w' hg
  have h2 := h ao cap w'
  rw [List.length_append, List.map_append] at h2
  exact h2 hg

theorem flatP_cut : ∀ (p : List Pn) (a n : Nat), ((p.flatMap Pn.cells).drop (a * 4)).take (n * 4) = ((p.drop a).take n).flatMap Pn.cells
  | [], a, n => by simp
  | u :: p, 0, 0 => by simp
  | u :: p, 0, n + 1 => by
    have ih := flatP_cut p 0 n
    simp only [Nat.zero_mul, List.drop_zero] at ih ⊢
    rw [List.take_succ_cons, List.flatMap_cons, List.flatMap_cons, ← ih, show (n + 1) * 4 = n * 4 + 1 + 1 + 1 + 1 by omega]
    rfl
  | u :: p, a + 1, n => by
    rw [List.drop_succ_cons, ← flatP_cut p a n, List.flatMap_cons, show (a + 1) * 4 = a * 4 + 1 + 1 + 1 + 1 by omega]
    rfl
/-- p[at:at+1000], as the walk has it. -/
theorem partP_cut {w : World} {b off n cap : Nat} {p : List Pn} (h : Pns w (.slice (some ⟨b, off, none⟩) n cap) p) (hn : n = p.length) (j : Nat) (hj : j < nParts n) (m : Nat) (hm : m = min 1000 (n - 1000 * j)) :
    Pns w (.slice (some ⟨b, off + 1000 * j * 4, none⟩) m (cap - 1000 * j)) (partP p j) := by
  subst hn
  have hlt := nParts_lt hj
  obtain ⟨_, _, he, hnc, hcm⟩ := RdV.shape h
  simp only [Value.slice.injEq, true_and] at he
  obtain ⟨rfl, rfl⟩ := he
  have hc := RdV.cut h (1000 * j) (1000 * j + m) (by omega) (by omega)
  rw [if_neg (by omega), show 1000 * j + m - 1000 * j = m by omega, flatP_cut] at hc
  simp only [Option.map_some, Addr.add_lit] at hc
  have e : (p.drop (1000 * j)).take m = partP p j := by
    unfold partP
    rw [hm, ← List.length_drop, List.take_eq_take_iff]
    omega
  rw [e] at hc
  unfold Pns
  rw [show (partP p j).length = m by rw [partP_len, hm]]
  exact hc
end Go.Proofs.YthcgalpabjjkoaaDoor

/- XText12: gristref12.text. -/
namespace Go.Proofs.YthcgalpabjjkoaaDoor
open Go.RowKit
set_option linter.unusedVariables false
set_option maxRecDepth 20000

def nmB (s : ByteArray) : List UInt8 := beN 2 s.toList.length ++ s.toList
theorem nmB_len (s : ByteArray) : (nmB s).length = s.size + 2 := by unfold nmB; rw [List.length_append, beN_len, toList_len]; omega
theorem hdC_nm (c : Cn) : hdC c = nmB c.s ++ nmB c.f ++ beN 4 (nParts c.p.length) := rfl

set_option maxHeartbeats 400000 in
theorem text_any (s : ByteArray) (w : World) (hs : s.size ≤ 4000) :
    Calls Tryd.prog 19 #[.string s] w fun e w' => ∃ ao cap, e = .returned (.slice ao (nmB s).length cap) ∧ Own w' w.heap.size (.slice ao (nmB s).length cap) (nmB s) ∧ Below w.heap.size w w' := by
  have h2 := two_any s.size (by omega) w
  have hF : ([beN 2 s.size, s.toList].flatten) = nmB s := by unfold nmB; rw [toList_len]; simp
  have hFL : ([beN 2 s.size, s.toList].flatten).length = (nmB s).length := by rw [hF]
  replace hF := Lib.hid hF
  replace hFL := Lib.hid hFL
  have HT := Lib.hid (nmB_len s)
  go_enter Tryd.func19, Tryd.ntmps19
  go_wp2_with (first
    | (go_at_call 39; refine h2.mono ?_; rintro _ w1 ⟨ao1, cap1, rfl, ho1, hb1⟩; have HR1 := Lib.hid ho1.rd; have HB1 := Lib.hid hb1; clear ho1 hb1 h2; obtain ⟨ao2, cap2, w2, hr2, hR2, hb2⟩ := strBytes_any s w1 (by omega); have HR2 := Lib.hid hR2; have HR1' := Lib.hid (RdV.below HR1.out hb2); have HB2 := Lib.hid (HB1.out.trans (hb2.mono HB1.out.size)); clear hb2 hR2)
    | (go_at_call 23; refine (joinN_any [_, _] [beN 2 s.size, s.toList] 2 _ w2 rfl (by decide) (Pcs.cons HR1'.out (Pcs.cons HR2.out Pcs.nil)) (by rw [hFL.out, HT.out]; omega)).mono ?_; rintro _ w3 ⟨ao3, cap3, rfl, ho3, hb3⟩; have HO3 := Lib.hid ho3; have HB3 := Lib.hid hb3; clear ho3 hb3))
  go_ret
  refine ⟨ao3, cap3, by rw [show (nmB s).length = (beN 2 s.size).length + s.toList.length by rw [nmB, List.length_append, beN_len, beN_len]]; rfl, ?_, HB2.out.trans (HB3.out.mono HB2.out.size)⟩
  have h := HO3.out
  rw [hF.out] at h
  exact ownsRow_mono h HB2.out.size
end Go.Proofs.YthcgalpabjjkoaaDoor
