/- What stamp.Encode gives, in plain words; times in memory. -/
import Derived.Test.YtcgjbjiififkhaaJoin
import Derived.Test.YtcgjbjiififkhaaUnMem
import Derived.Test.YtcgjbjiififkhaaZig
namespace Go.Proofs.Ytcgjbjiififkhaa
open Go.RowKit
set_option linter.unusedVariables false

def tV (t : Int) : Value := .int .i64 t
def Tms (w : World) (v : Value) (l : List Int) : Prop := RdV w 1 v l.length (l.map tV)
theorem tm_at {w : World} {v : Value} {l : List Int} (h : Tms w v l) (i : Nat) (hi : i < l.length) :
    ∃ b off cap, v = .slice (some ⟨b, off, none⟩) l.length cap ∧ b < w.heap.size ∧ w.cell? ⟨b, off + i, none⟩ = some (.int .i64 (l.getD i 0)) := by
  obtain ⟨b, off, cap, rfl, _, _, hb, hc⟩ := RdV.some h (by omega) (by decide)
  exact ⟨b, off, cap, rfl, hb, by have := hc i (tV l[i]) (by simp [hi]); simpa [tV, hi] using this⟩

def i64ok (t : Int) : Prop := -9223372036854775808 ≤ t ∧ t ≤ 9223372036854775807
def uT (t : Int) : Nat := (t % 18446744073709551616).toNat
theorem uT_lt (t : Int) : uT t < 18446744073709551616 := by unfold uT; omega
theorem uT_cast (t : Int) : ((uT t : Nat) : Int) = t % 18446744073709551616 := by unfold uT; omega
theorem u64_wrap (t : Int) : IntKind.u64.wrap t = ((uT t : Nat) : Int) := by
  rw [uT_cast]; simp [IntKind.wrap, IntKind.signed, IntKind.bits]
theorem uT_small (n : Nat) (h : n < 18446744073709551616) : uT (n : Int) = n := by unfold uT; omega
theorem uT_sub (a b : Int) : uT ((uT a : Int) - (uT b : Int)) = uT (a - b) := by
  have := uT_cast a; have := uT_cast b
  unfold uT at *; omega
theorem uT_add (a b : Int) : uT ((uT a : Int) + (uT b : Int)) = uT (a + b) := by
  have := uT_cast a; have := uT_cast b
  unfold uT at *; omega
/-- A 64-bit number as one with a sign. -/
def sI (n : Int) : Int := (n + 9223372036854775808) % 18446744073709551616 - 9223372036854775808
theorem sI_ok (n : Int) : i64ok (sI n) := by unfold i64ok sI; omega
theorem i64_wrap (t : Int) : IntKind.i64.wrap t = sI t := by
  have h : IntKind.i64.wrap t = wrap64 t := IntWalk.i64_left t
  unfold sI
  rw [h]
  unfold wrap64
  omega
theorem sI_uT (t : Int) (h : i64ok t) : sI ((uT t : Nat) : Int) = t := by
  have := uT_cast t
  unfold sI i64ok at *; omega
theorem uT_sI (t : Int) : uT (sI t) = uT t := by unfold uT sI; omega

/-- The distance of two times, and what is packed of it. -/
def dAt (l : List Int) (i : Nat) : Nat := uT (l.getD (i + 1) 0 - l.getD i 0)
def pAt (l : List Int) (i : Nat) : Nat := if i = 0 then 0 else dAt l (i - 1)
def zAt (l : List Int) (i : Nat) : Nat := zigN (sI ((dAt l i : Int) - (pAt l i : Int)))
def upto {α : Type} (f : Nat → α) (n : Nat) : List α := (List.range n).map f
theorem upto_zero {α : Type} (f : Nat → α) : upto f 0 = [] := rfl
theorem upto_next {α : Type} (f : Nat → α) (n : Nat) : upto f (n + 1) = upto f n ++ [f n] := by unfold upto; rw [List.range_succ, List.map_append]; rfl
theorem upto_len {α : Type} (f : Nat → α) (n : Nat) : (upto f n).length = n := by simp [upto]
theorem upto_getD (f : Nat → Nat) (n i : Nat) (h : i < n) : (upto f n).getD i 0 = f i := by simp [upto, h]
theorem dAt_lt (l : List Int) (i : Nat) : dAt l i < 18446744073709551616 := uT_lt _
theorem zAt_lt (l : List Int) (i : Nat) : zAt l i < 18446744073709551616 := zigN_lt _ (sI_ok _)
theorem upto_lt (f : Nat → Nat) (B : Nat) (h : ∀ i, f i < B) (n : Nat) : ∀ x ∈ upto f n, x < B := by
  intro x hx
  obtain ⟨i, _, rfl⟩ := List.mem_map.1 hx
  exact h i

def alF (l : List Int) (k : Nat) : Bool := decide (1 < l.length) && (List.range k).all fun i => dAt l i == dAt l 0
theorem alF_zero (l : List Int) : alF l 0 = decide (1 < l.length) := by simp [alF]
theorem alF_next (l : List Int) (k : Nat) : alF l (k + 1) = (alF l k && (dAt l k == dAt l 0)) := by
  unfold alF
  rw [List.range_succ, List.all_append, Bool.and_assoc]
  simp
def risF (l : List Int) (k : Nat) : Bool := (List.range k).all fun i => decide (l.getD i 0 < l.getD (i + 1) 0)
theorem risF_next (l : List Int) (k : Nat) : risF l (k + 1) = (risF l k && decide (l.getD k 0 < l.getD (k + 1) 0)) := by
  unfold risF
  rw [List.range_succ, List.all_append]
  simp
theorem risF_false {l : List Int} {k n : Nat} (hk : k < n) (h : ¬ l.getD k 0 < l.getD (k + 1) 0) : risF l n = false := by
  unfold risF
  rw [List.all_eq_false]
  exact ⟨k, by simp [hk], by simpa using h⟩

def hdS (m : UInt8) (l : List Int) : List UInt8 := m :: (beN 2 l.length ++ be8 (uT (l.getD 0 0)))
def plS (l : List Int) (k : Nat) : List UInt8 := (upto (fun i => be8 (uT (l.getD (i + 1) 0))) k).flatten
theorem plS_zero (l : List Int) : plS l 0 = [] := rfl
theorem plS_next (l : List Int) (k : Nat) : plS l (k + 1) = plS l k ++ be8 (uT (l.getD (k + 1) 0)) := by
  unfold plS
  rw [upto_next, List.flatten_append]
  simp
theorem plS_len (l : List Int) (k : Nat) : (plS l k).length = 8 * k := by
  induction k with
  | zero => rfl
  | succ k ih => rw [plS_next, List.length_append, ih, be8_len]; omega
theorem hdS_len (m : UInt8) (l : List Int) : (hdS m l).length = 11 := by simp [hdS, beN_len, be8_len]

def encB (l : List Int) : List UInt8 :=
  if alF l (l.length - 1) = true then hdS 1 l ++ be8 (dAt l 0) else
    match pkA (upto (zAt l) (l.length - 1)) with
    | none => hdS 0 l ++ plS l (l.length - 1)
    | some p => if 1 < l.length then hdS 2 l ++ p else hdS 0 l ++ plS l (l.length - 1)
/-- What Encode gives; none: refused. -/
def encS (l : List Int) : Option (List UInt8) := if l.length = 0 ∨ 1000 < l.length ∨ risF l (l.length - 1) = false then none else some (encB l)

theorem encS_none {l : List Int} (h : l.length = 0 ∨ 1000 < l.length ∨ risF l (l.length - 1) = false) : encS l = none := by unfold encS; rw [if_pos h]
theorem encS_some {l : List Int} (h1 : l.length ≠ 0) (h2 : l.length ≤ 1000) (h3 : risF l (l.length - 1) = true) : encS l = some (encB l) := by
  unfold encS
  rw [if_neg]
  rintro (h | h | h)
  · exact h1 h
  · omega
  · rw [h3] at h; cases h
theorem encB_al {l : List Int} (h : alF l (l.length - 1) = true) : encB l = hdS 1 l ++ be8 (dAt l 0) := by unfold encB; rw [if_pos h]
theorem encB_pk {l : List Int} {p : List UInt8} (h : alF l (l.length - 1) = false) (h1 : 1 < l.length) (hp : pkA (upto (zAt l) (l.length - 1)) = some p) : encB l = hdS 2 l ++ p := by
  unfold encB
  rw [if_neg (by rw [h]; simp), hp]
  simp [h1]
theorem encB_pl {l : List Int} (h : alF l (l.length - 1) = false) (h1 : pkA (upto (zAt l) (l.length - 1)) = none ∨ ¬ 1 < l.length) : encB l = hdS 0 l ++ plS l (l.length - 1) := by
  unfold encB
  rw [if_neg (by rw [h]; simp)]
  rcases h1 with h1 | h1
  · rw [h1]
  · cases hp : pkA (upto (zAt l) (l.length - 1)) with
    | none => rfl
    | some p => simp [h1]

/-- What an Encode ends with. -/
def StEnd (l : List Int) (w : World) (e : Ending) (w' : World) : Prop :=
  Below w.heap.size w w' ∧ ((encS l = none ∧ e = .returned (.tuple #[.slice none 0 0, .int .i64 1])) ∨ ∃ bs ao cap, encS l = some bs ∧ bs.length ≤ 9000 ∧ 11 ≤ bs.length ∧ e = .returned (.tuple #[.slice ao bs.length cap, .int .i64 0]) ∧ Own w' w.heap.size (.slice ao bs.length cap) bs)
end Go.Proofs.Ytcgjbjiififkhaa
