/- What a tomb's bytes are, in plain words. -/
import Derived.Test.YtmhmmnleijadnaaBytes
import Derived.Test.YtmhmmnleijadnaaWrap
import Derived.Test.YtmhmmnleijadnaaTomb13
namespace Go.Proofs.Ytmhmmnleijadnaa
open Go.RowKit
set_option linter.unusedVariables false

/-- A name: its length, and its letters. -/
def name2 (s : ByteArray) : List UInt8 := beN 2 s.size ++ s.toList
def tail16 (a b : Int) : List UInt8 := be8 (uT a) ++ be8 (uT b)
def encT1 (t : Tm) : List UInt8 := name2 t.s ++ name2 t.f ++ tail16 t.a t.b
def fitT (t : Tm) : Bool := decide (t.s.size ≤ 4000) && decide (t.f.size ≤ 4000)
def encTs (l : List Tm) : List UInt8 := l.flatMap encT1
/-- What Encode gives; none: refused. -/
def encT (l : List Tm) : Option (List UInt8) := if l.all fitT = true then some (encTs l) else none

theorem name2_len (s : ByteArray) : (name2 s).length = 2 + s.size := by
  unfold name2
  rw [List.length_append, beN_len]
  congr 1
  have e : s = strOf s.data.toList := by cases s; simp [strOf]
  rw [e, strOf_toList, strOf_size]
theorem tail16_len (a b : Int) : (tail16 a b).length = 16 := by unfold tail16; rw [List.length_append, be8_len, be8_len]
theorem encT1_len (t : Tm) : (encT1 t).length = 20 + t.s.size + t.f.size := by
  unfold encT1
  rw [List.length_append, List.length_append, name2_len, name2_len, tail16_len]
  omega
theorem encT_none {l : List Tm} {t : Tm} (h : t ∈ l) (ht : fitT t = false) : encT l = none := by
  unfold encT
  rw [if_neg]
  intro ha
  have := List.all_eq_true.1 ha t h
  rw [ht] at this
  cases this
theorem encT_some {l : List Tm} (h : l.all fitT = true) : encT l = some (encTs l) := by unfold encT; rw [if_pos h]
theorem encTs_next (l : List Tm) (k : Nat) (h : k < l.length) : encTs (l.take (k + 1)) = encTs (l.take k) ++ encT1 l[k] := by
  unfold encTs
  rw [List.take_succ_eq_append_getElem h, List.flatMap_append]
  simp
theorem encTs_le (l : List Tm) (k : Nat) : (encTs (l.take k)).length ≤ (encTs l).length := by
  unfold encTs
  conv => rhs; rw [← List.take_append_drop k l, List.flatMap_append, List.length_append]
  omega
theorem encTs_len_le (l : List Tm) : (encTs l).length = 20 * l.length + (l.map fun t => t.s.size + t.f.size).sum := by
  unfold encTs
  induction l with
  | nil => rfl
  | cons t r ih => rw [List.flatMap_cons, List.length_append, encT1_len, ih, List.map_cons, List.sum_cons, List.length_cons]; omega

/-- A tomb's struct in a block. -/
def TS (B : Nat) (ts tf : ByteArray) (ta tb : Int) (w : World) : Prop :=
  w.cell? ⟨B, 0, none⟩ = some (.string ts) ∧ w.cell? ⟨B, 1, none⟩ = some (.string tf) ∧ w.cell? ⟨B, 2, none⟩ = some (.int .i64 ta) ∧ w.cell? ⟨B, 3, none⟩ = some (.int .i64 tb)
theorem TS.below {B : Nat} {ts tf : ByteArray} {ta tb : Int} {w w' : World} (h : TS B ts tf ta tb w) (hl : B < w.heap.size) (hb : Below w.heap.size w w') : TS B ts tf ta tb w' :=
  ⟨(hb.cell (p := ⟨B, 0, none⟩) hl).trans h.1, (hb.cell (p := ⟨B, 1, none⟩) hl).trans h.2.1, (hb.cell (p := ⟨B, 2, none⟩) hl).trans h.2.2.1, (hb.cell (p := ⟨B, 3, none⟩) hl).trans h.2.2.2⟩

/-- What an Encode ends with. -/
def TeEnd (l : List Tm) (w : World) (e : Ending) (w' : World) : Prop :=
  Below w.heap.size w w' ∧ ((encT l = none ∧ e = .returned (.tuple #[.slice none 0 0, .int .i64 1])) ∨ ∃ bs ao cap, encT l = some bs ∧ e = .returned (.tuple #[.slice ao bs.length cap, .int .i64 0]) ∧ Own w' w.heap.size (.slice ao bs.length cap) bs)
end Go.Proofs.Ytmhmmnleijadnaa
