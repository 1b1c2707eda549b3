/- Texts of ours, behind one another: Plain, Mem, Put, Writer, Eight, Bytes, ReadAt, Reader, Get, Wrap, Len, Tk. No conditions but those that each states. -/
import Derived.Test.YthcgalpabjjkoaaDoorRows
import Derived.WalkKit
import Derived.WalkSpells
import Derived.WalkLawsBesides
import Derived.Laws.AppendOwnNone
import Derived.BigRegion
import Derived.Deep.LoopGhost
import Derived.Deep.DeepCutAuto
import Derived.Deep.QuietTactic
import Derived.BigQuiet
import Derived.Lib.Hide
import Derived.Deep.Light
import Derived.Lib.Tables
import Derived.Lib.BitFns
import Derived.Deep.RegionHeld3
/- XPlain: Plain facts on bits, numbers and bytes; nothing of the program is in sight here. -/
namespace Go.Proofs.YthcgalpabjjkoaaDoor

/-- The number that bits say, the highest first. -/
def num : List Bool → Nat
  | [] => 0
  | b :: r => b.toNat * 2 ^ r.length + num r

theorem num_lt (l : List Bool) : num l < 2 ^ l.length := by
  induction l with
  | nil => simp [num]
  | cons b r ih =>
    have h : b.toNat ≤ 1 := by cases b <;> simp
    have h2 : b.toNat * 2 ^ r.length ≤ 1 * 2 ^ r.length := Nat.mul_le_mul_right _ h
    simp only [num, List.length_cons, Nat.pow_succ]
    omega

theorem num_append (a b : List Bool) : num (a ++ b) = num a * 2 ^ b.length + num b := by
  induction a with
  | nil => simp [num]
  | cons x r ih =>
    simp only [List.cons_append, num, List.length_append, ih, Nat.pow_add, Nat.add_mul, Nat.mul_assoc]
    omega

theorem num_zeros (n : Nat) : num (List.replicate n false) = 0 := by
  induction n with
  | zero => rfl
  | succ n ih => simp [List.replicate_succ, num, ih]

/-- Numbers of one length that say the same are the same bits. -/
theorem num_inj : ∀ (a b : List Bool), a.length = b.length → num a = num b → a = b
  | [], [], _, _ => rfl
  | [], _ :: _, h, _ => by simp at h
  | _ :: _, [], h, _ => by simp at h
  | x :: r, y :: s, hl, hn => by
    have hl' : r.length = s.length := by simpa using hl
    have h1 := num_lt r
    have h2 := num_lt s
    simp only [num] at hn
    rw [← hl'] at hn h2
    have hxy : x = y := by
      cases x <;> cases y <;> simp at hn <;> first | rfl | omega
    subst hxy
    rw [num_inj r s hl' (by omega)]

/-- The lowest n bits of a number, the highest first. -/
def bitsOf (v : Nat) : Nat → List Bool
  | 0 => []
  | n + 1 => v.testBit n :: bitsOf v n

@[simp] theorem length_bitsOf (v n : Nat) : (bitsOf v n).length = n := by
  induction n with
  | zero => rfl
  | succ n ih => simp [bitsOf, ih]

theorem num_bitsOf (v n : Nat) : num (bitsOf v n) = v % 2 ^ n := by
  induction n with
  | zero => simp [bitsOf, num, Nat.mod_one]
  | succ n ih =>
    simp only [bitsOf, num, ih, length_bitsOf]
    have h := Nat.mod_pow_succ (x := v) (b := 2) (k := n)
    rw [h]
    have ht : (v.testBit n).toNat = v / 2 ^ n % 2 := by
      rw [Nat.testBit_eq_decide_div_mod_eq]
      rcases Nat.mod_two_eq_zero_or_one (v / 2 ^ n) with h | h <;> simp [h]
    rw [ht, Nat.mul_comm]
    omega

theorem bitsOf_mod (v n : Nat) : bitsOf (v % 2 ^ n) n = bitsOf v n :=
  num_inj _ _ (by simp) (by simp [num_bitsOf])

theorem bitsOf_num (l : List Bool) : bitsOf (num l) l.length = l :=
  num_inj _ _ (by simp) (by rw [num_bitsOf]; exact Nat.mod_eq_of_lt (num_lt l))

theorem bitsOf_split (v a b : Nat) : bitsOf v (a + b) = bitsOf (v / 2 ^ b) a ++ bitsOf v b := by
  refine num_inj _ _ (by simp) ?_
  rw [num_append, num_bitsOf, num_bitsOf, num_bitsOf, length_bitsOf]
  rw [Nat.pow_add, Nat.mul_comm (2 ^ a), Nat.mod_mul, Nat.mul_comm (2 ^ b)]
  omega

theorem bitsOf_snoc (v n : Nat) : bitsOf v (n + 1) = bitsOf (v / 2) n ++ [v.testBit 0] := by
  have h := bitsOf_split v n 1
  simpa [bitsOf] using h

/-- Bytes out of bits, the last one filled up with noughts. -/
def pack8 : List Bool → List UInt8
  | [] => []
  | b :: r => UInt8.ofNat (num ((b :: r).take 8) * 2 ^ (8 - (b :: r).length)) :: pack8 ((b :: r).drop 8)
  termination_by l => l.length

theorem pack8_nil : pack8 [] = [] := by rw [pack8]
theorem pack8_step (l : List Bool) (h : l ≠ []) : pack8 l = UInt8.ofNat (num (l.take 8) * 2 ^ (8 - l.length)) :: pack8 (l.drop 8) := by
  cases l with
  | nil => exact absurd rfl h
  | cons b r => rw [pack8]

theorem length_pack8 (l : List Bool) : (pack8 l).length = (l.length + 7) / 8 := by
  induction hn : l.length using Nat.strongRecOn generalizing l with
  | ind n ih =>
    by_cases h : l = []
    · subst h; simp at hn; subst hn; simp [pack8_nil]
    · have hp : 0 < l.length := List.length_pos_iff.2 h
      rw [pack8_step l h, List.length_cons, ih (l.drop 8).length (by simp; omega) (l.drop 8) rfl]
      simp only [List.length_drop]
      omega

/-- Whole bytes, and what stands behind them. -/
theorem pack8_append (a b : List Bool) (h : a.length % 8 = 0) : pack8 (a ++ b) = pack8 a ++ pack8 b := by
  induction hn : a.length using Nat.strongRecOn generalizing a with
  | ind n ih =>
    by_cases ha : a = []
    · subst ha; simp [pack8_nil]
    · have hp : 0 < a.length := List.length_pos_iff.2 ha
      have h8 : 8 ≤ a.length := by omega
      rw [pack8_step (a ++ b) (by simp [ha]), pack8_step a ha, List.take_append_of_le_length h8, List.drop_append_of_le_length h8,
        ih (a.drop 8).length (by simp; omega) (a.drop 8) (by simp; omega) rfl]
      have e1 : 8 - (a ++ b).length = 0 := by simp; omega
      have e2 : 8 - a.length = 0 := by omega
      rw [e1, e2]; rfl

/-- At most eight bits: one byte. -/
theorem pack8_one (l : List Bool) (h : l ≠ []) (h8 : l.length ≤ 8) : pack8 l = [UInt8.ofNat (num l * 2 ^ (8 - l.length))] := by
  rw [pack8_step l h, List.take_of_length_le h8, List.drop_of_length_le h8, pack8_nil]

/-- The bits of bytes. -/
def bits8 (l : List UInt8) : List Bool := l.flatMap fun b => bitsOf b.toNat 8

@[simp] theorem bits8_nil : bits8 [] = [] := rfl
theorem bits8_cons (b : UInt8) (r : List UInt8) : bits8 (b :: r) = bitsOf b.toNat 8 ++ bits8 r := rfl
theorem bits8_append (a b : List UInt8) : bits8 (a ++ b) = bits8 a ++ bits8 b := by simp [bits8]
@[simp] theorem length_bits8 (l : List UInt8) : (bits8 l).length = 8 * l.length := by
  induction l with
  | nil => rfl
  | cons b r ih => rw [bits8_cons, List.length_append, ih, length_bitsOf, List.length_cons]; omega

theorem pack8_bits8 (l : List UInt8) : pack8 (bits8 l) = l := by
  induction l with
  | nil => simp [pack8_nil]
  | cons b r ih =>
    rw [bits8_cons, pack8_append _ _ (by simp), ih]
    rw [pack8_one _ (by intro h; have := congrArg List.length h; simp at this) (by simp)]
    simp [num_bitsOf, Nat.mod_eq_of_lt b.toNat_lt]

theorem bits8_pack8 (l : List Bool) : bits8 (pack8 l) = l ++ List.replicate ((8 - l.length % 8) % 8) false := by
  induction hn : l.length using Nat.strongRecOn generalizing l with
  | ind n ih =>
    by_cases h : l = []
    · subst h; simp at hn; subst hn; simp [pack8_nil]
    · have hp : 0 < l.length := List.length_pos_iff.2 h
      rw [pack8_step l h, bits8_cons]
      by_cases h8 : 8 ≤ l.length
      · rw [ih (l.drop 8).length (by simp; omega) (l.drop 8) rfl]
        have e2 : 8 - l.length = 0 := by omega
        have hlt : num (l.take 8) < 256 := by have := num_lt (l.take 8); simp [Nat.min_eq_left h8] at this; exact this
        have hb : bitsOf (UInt8.ofNat (num (l.take 8) * 2 ^ (8 - l.length))).toNat 8 = l.take 8 := by
          rw [e2]
          have : (UInt8.ofNat (num (l.take 8) * 2 ^ 0)).toNat = num (l.take 8) := by simp [Nat.mod_eq_of_lt hlt]
          rw [this]
          have h := bitsOf_num (l.take 8)
          simpa [Nat.min_eq_left h8] using h
        rw [hb, ← List.append_assoc, List.take_append_drop, List.length_drop]
        have e3 : (l.length - 8) % 8 = l.length % 8 := by omega
        rw [e3, hn]
      · have hl : l.length < 8 := by omega
        rw [List.drop_of_length_le (by omega), pack8_nil, bits8_nil, List.append_nil, List.take_of_length_le (by omega)]
        have e : (8 - n % 8) % 8 = 8 - l.length := by omega
        rw [e]
        have h1 := num_lt l
        have hlt : num l * 2 ^ (8 - l.length) < 256 := by
          have : num l * 2 ^ (8 - l.length) < 2 ^ l.length * 2 ^ (8 - l.length) := Nat.mul_lt_mul_of_pos_right h1 (Nat.two_pow_pos _)
          rw [← Nat.pow_add, Nat.add_sub_cancel' (by omega)] at this
          exact this
        refine num_inj _ _ (by simp; omega) ?_
        rw [num_bitsOf, num_append, num_zeros, List.length_replicate]
        simp [Nat.mod_eq_of_lt hlt]

/-- A chunk behind a beginning of less than a byte. -/
theorem pack8_snoc (full part c : List Bool) (hf : full.length % 8 = 0) (hc : c ≠ []) (h8 : part.length + c.length ≤ 8) :
    pack8 (full ++ part ++ c) = pack8 full ++ [UInt8.ofNat (num part * 2 ^ (8 - part.length) + num c * 2 ^ (8 - part.length - c.length))] := by
  have hcl : 0 < c.length := List.length_pos_iff.2 hc
  rw [List.append_assoc, pack8_append _ _ hf, pack8_one (part ++ c) (by simp [hc]) (by simpa using h8), num_append, List.length_append, Nat.add_mul, Nat.mul_assoc, ← Nat.pow_add]
  have e1 : c.length + (8 - (part.length + c.length)) = 8 - part.length := by omega
  have e2 : 8 - (part.length + c.length) = 8 - part.length - c.length := by omega
  rw [e1, e2]

/-- A bit as a byte of its own. -/
def b01 (b : Bool) : UInt8 := if b then 1 else 0

theorem b01_testBit (v : Nat) : ((b01 (v.testBit 0)).toNat : Int) = ((v % 2 : Nat) : Int) := by
  rw [Nat.testBit_zero]
  rcases Nat.mod_two_eq_zero_or_one v with h | h <;> simp [h, b01]

theorem bitsOf_next (v N k : Nat) (hk : 1 ≤ k) (hN : k ≤ N) : bitsOf (v / 2 ^ (k - 1)) (N - (k - 1)) = bitsOf (v / 2 ^ k) (N - k) ++ [(v / 2 ^ (k - 1)).testBit 0] := by
  have e : N - (k - 1) = (N - k) + 1 := by omega
  rw [e, bitsOf_snoc, Nat.div_div_eq_div_mul, ← Nat.pow_succ, show (k - 1).succ = k by omega]

/-- Some bits of one byte. -/
theorem bits8_piece (bs : List UInt8) (pos c : Nat) (hp : pos / 8 < bs.length) (hc : pos % 8 + c ≤ 8) :
    ((bits8 bs).drop pos).take c = bitsOf (bs[pos / 8].toNat / 2 ^ (8 - pos % 8 - c)) c := by
  have e1 : bs = bs.take (pos / 8) ++ (bs[pos / 8] :: bs.drop (pos / 8 + 1)) := by rw [List.getElem_cons_drop, List.take_append_drop]
  have hl : (bits8 (bs.take (pos / 8))).length = 8 * (pos / 8) := by simp; omega
  have e2 : (bits8 bs).drop pos = (bitsOf bs[pos / 8].toNat 8 ++ bits8 (bs.drop (pos / 8 + 1))).drop (pos % 8) := by
    conv => lhs; rw [e1, bits8_append, bits8_cons]
    rw [List.drop_append, List.drop_of_length_le (by rw [hl]; omega), List.nil_append, hl]
    congr 1
    omega
  have e3 : bitsOf bs[pos / 8].toNat 8 = bitsOf (bs[pos / 8].toNat / 2 ^ (8 - pos % 8)) (pos % 8) ++ (bitsOf (bs[pos / 8].toNat / 2 ^ (8 - pos % 8 - c)) c ++ bitsOf bs[pos / 8].toNat (8 - pos % 8 - c)) := by
    rw [← bitsOf_split, show c + (8 - pos % 8 - c) = 8 - pos % 8 by omega, ← bitsOf_split, show pos % 8 + (8 - pos % 8) = 8 by omega]
  rw [e2, e3, List.append_assoc, List.drop_left' (by simp), List.append_assoc, List.take_left' (by simp)]

theorem take8_len (l : List Bool) : (l.take (8 * (l.length / 8))).length = 8 * (l.length / 8) := by simp; omega
theorem drop8_len (l : List Bool) : (l.drop (8 * (l.length / 8))).length = l.length % 8 := by simp; omega

/-- The last byte that isn't full. -/
theorem pack8_last (l : List Bool) (h : l.length % 8 ≠ 0) :
    pack8 l = pack8 (l.take (8 * (l.length / 8))) ++ [UInt8.ofNat (num (l.drop (8 * (l.length / 8))) * 2 ^ (8 - l.length % 8))] := by
  have hd := drop8_len l
  have hne : l.drop (8 * (l.length / 8)) ≠ [] := by intro e; rw [e] at hd; simp at hd; omega
  conv => lhs; rw [← List.take_append_drop (8 * (l.length / 8)) l]
  rw [pack8_append _ _ (by rw [take8_len]; omega), pack8_one _ hne (by omega), hd]

/-- A chunk that finds room in the last byte. -/
theorem pack8_chunk (l c : List Bool) (hc : c ≠ []) (h8 : l.length % 8 + c.length ≤ 8) :
    pack8 (l ++ c) = pack8 (l.take (8 * (l.length / 8))) ++ [UInt8.ofNat (num (l.drop (8 * (l.length / 8))) * 2 ^ (8 - l.length % 8) + num c * 2 ^ (8 - l.length % 8 - c.length))] := by
  have hd := drop8_len l
  have h := pack8_snoc (l.take (8 * (l.length / 8))) (l.drop (8 * (l.length / 8))) c (by rw [take8_len]; omega) hc (by omega)
  rw [List.take_append_drop, hd] at h
  exact h

/-- The last byte's number, the chunk laid into it. -/
theorem or_chunk (a p x s : Nat) (ha : a < 2 ^ p) (hp : p ≤ 8) (hx : x * 2 ^ s < 2 ^ (8 - p)) :
    (UInt8.ofNat (a * 2 ^ (8 - p))).toNat ||| (x * 2 ^ s) % 256 = (UInt8.ofNat (a * 2 ^ (8 - p) + x * 2 ^ s)).toNat := by
  have h1 : a * 2 ^ (8 - p) + 2 ^ (8 - p) ≤ 256 := by
    have : (a + 1) * 2 ^ (8 - p) ≤ 2 ^ p * 2 ^ (8 - p) := Nat.mul_le_mul_right _ ha
    rw [← Nat.pow_add, Nat.add_sub_cancel' hp, Nat.add_mul] at this
    omega
  have h2 : (2:Nat) ^ (8 - p) ≤ 256 := by omega
  simp only [UInt8.toNat_ofNat']
  rw [Nat.mod_eq_of_lt (by omega), Nat.mod_eq_of_lt (by omega), Nat.mod_eq_of_lt (by omega)]
  rw [Nat.mul_comm a, ← Nat.two_pow_add_eq_or_of_lt hx]

end Go.Proofs.YthcgalpabjjkoaaDoor

/- XMem: Words on memory: what a slice reads as, which blocks a call may have changed; nothing of the program's functions is in sight here. -/
namespace Go.Proofs.YthcgalpabjjkoaaDoor
open Go.RowKit

/-- A byte's cell. -/
def bV (x : UInt8) : Value := .int .u8 (x.toNat : Int)

/-- Only blocks of S, of those that were there, may have changed. -/
structure Chg (S : Nat → Prop) (w w' : World) : Prop where
  os : w'.os = w.os
  tape : w'.tape = w.tape
  output : w'.output = w.output
  size : w.heap.size ≤ w'.heap.size
  block : ∀ k, k < w.heap.size → ¬ S k → w'.heap[k]? = w.heap[k]?

theorem Chg.refl (S : Nat → Prop) (w : World) : Chg S w w := ⟨rfl, rfl, rfl, Nat.le_refl _, fun _ _ _ => rfl⟩
theorem Chg.trans {S : Nat → Prop} {a b c : World} (h : Chg S a b) (k : Chg S b c) : Chg S a c :=
  ⟨k.os.trans h.os, k.tape.trans h.tape, k.output.trans h.output, Nat.le_trans h.size k.size, fun i hi hs => (k.block i (Nat.lt_of_lt_of_le hi h.size) hs).trans (h.block i hi hs)⟩
/-- The second step may change new blocks, too. -/
theorem Chg.trans' {S T : Nat → Prop} {a b c : World} (h : Chg S a b) (k : Chg T b c) (hT : ∀ i, i < a.heap.size → T i → S i) : Chg S a c :=
  ⟨k.os.trans h.os, k.tape.trans h.tape, k.output.trans h.output, Nat.le_trans h.size k.size, fun i hi hs => (k.block i (Nat.lt_of_lt_of_le hi h.size) (fun ht => hs (hT i hi ht))).trans (h.block i hi hs)⟩
theorem Chg.mono {S T : Nat → Prop} {w w' : World} (h : Chg S w w') (hT : ∀ i, i < w.heap.size → S i → T i) : Chg T w w' :=
  ⟨h.os, h.tape, h.output, h.size, fun i hi hs => h.block i hi (fun k => hs (hT i hi k))⟩
theorem Chg.alloc {S : Nat → Prop} {a w : World} (h : Chg S a w) (o : Obj) : Chg S a (w.alloc o) :=
  h.trans ⟨rfl, rfl, rfl, by simp, fun k hk _ => Below.heap_alloc _ _ _ (by omega)⟩
theorem Chg.setCell {S : Nat → Prop} {a w : World} (h : Chg S a w) {p : Addr} (hp : p.block < a.heap.size → S p.block) (u : Value) : Chg S a (w.setCell p u) :=
  ⟨h.os, h.tape, h.output, by simpa [World.setCell] using h.size, fun k hk hs => by
    rw [Below.heap_setCell _ _ _ _ (fun e => by subst e; exact hs (hp hk))]; exact h.block k hk hs⟩
theorem Chg.drew {S : Nat → Prop} {a w : World} (h : Chg S a w) : Chg S a w.drew := ⟨h.os, h.tape, h.output, h.size, h.block⟩
theorem Chg.grown {S : Nat → Prop} {a w w' : World} {row : Option Nat} (h : Chg S a w) (hg : w.grownBy w' row) (hr : ∀ k, k < a.heap.size → row = some k → S k) : Chg S a w' :=
  ⟨hg.os.trans h.os, hg.tape.trans h.tape, hg.output.trans h.output, Nat.le_trans h.size hg.size,
    fun k hk hs => (hg.block k (Nat.lt_of_lt_of_le hk h.size) (fun e => hs (hr k hk e.symm))).trans (h.block k hk hs)⟩
theorem Chg.ofBelow {w w' : World} {B : Nat} (h : Below B w w') : Chg (fun k => B ≤ k) w w' :=
  ⟨h.os, h.tape, h.output, h.size, fun k _ hs => h.block k (by omega)⟩
theorem Chg.below {S : Nat → Prop} {w w' : World} (h : Chg S w w') {B : Nat} (hB : B ≤ w.heap.size) (hS : ∀ k, S k → B ≤ k) : Below B w w' :=
  ⟨h.os, h.tape, h.output, h.size, fun k hk => h.block k (by omega) (fun hs => by have := hS k hs; omega)⟩
theorem Chg.ofBelowAny {S : Nat → Prop} {w w' : World} (h : Below w.heap.size w w') : Chg S w w' :=
  ⟨h.os, h.tape, h.output, h.size, fun k hk _ => h.block k hk⟩
theorem Chg.cell {S : Nat → Prop} {w w' : World} (h : Chg S w w') {p : Addr} (hl : p.block < w.heap.size) (hs : ¬ S p.block) : w'.cell? p = w.cell? p :=
  World.cell?_of_block (w := w) (h.block p.block hl hs)
theorem Chg.frozen {S : Nat → Prop} {w w' : World} (h : Chg S w w') {p : Addr} (hl : p.block < w.heap.size) (hs : ¬ S p.block) : w'.frozen? p = w.frozen? p :=
  World.frozen?_of_block (w := w) (h.block p.block hl hs)
theorem Chg.owns {S : Nat → Prop} {w w' : World} (h : Chg S w w') {base e size n : Nat} {v : Value} {xs : List Value} (ho : w.ownsRow base e size v n xs) (hs : ∀ k, v.ownBlock = some k → ¬ S k) : w'.ownsRow base e size v n xs := by
  refine ⟨ho.1, ?_⟩
  rcases ho.2 with hn | ⟨g, cap, cur, rfl, hb, hgg, rest⟩
  · exact .inl hn
  · refine .inr ⟨g, cap, cur, rfl, hb, ?_, rest⟩
    rw [h.block g (Array.getElem?_eq_some_iff.1 hgg).1 (hs g rfl)]
    exact hgg

/-- A slice value of n elements reads as these cells (size cells an element). -/
def RdV (w : World) (size : Nat) (v : Value) (n : Nat) (xs : List Value) : Prop :=
  xs.length = n * size ∧ ∃ ao cap, v = .slice ao n cap ∧ n ≤ cap ∧ cap ≤ maxLen ∧ (ao = none → cap = 0) ∧
    ∀ a, ao = some a → ∀ j u, xs[j]? = some u → a.spot = none ∧ a.block < w.heap.size ∧ w.cell? ⟨a.block, a.off + j, none⟩ = some u

/-- A byte slice reads as these bytes. -/
def Rd (w : World) (v : Value) (bs : List UInt8) : Prop := RdV w 1 v bs.length (bs.map bV)

theorem Rd.v {w : World} {v : Value} {bs : List UInt8} (h : Rd w v bs) : RdV w 1 v bs.length (bs.map bV) := h

theorem RdV.nil (w : World) (size : Nat) : RdV w size (.slice none 0 0) 0 [] :=
  ⟨by simp, none, 0, rfl, Nat.le_refl _, by simp [maxLen], fun _ => rfl, fun a h => by cases h⟩

theorem RdV.keep {w w' : World} {size n : Nat} {v : Value} {xs : List Value} (h : RdV w size v n xs) (hsz : w.heap.size ≤ w'.heap.size) (hk : ∀ b, v.ownBlock = some b → b < w.heap.size → w'.heap[b]? = w.heap[b]?) : RdV w' size v n xs := by
  obtain ⟨hl, ao, cap, rfl, hn, hc, h0, hcell⟩ := h
  refine ⟨hl, ao, cap, rfl, hn, hc, h0, fun a ha j u hu => ?_⟩
  obtain ⟨h1, h2, h3⟩ := hcell a ha j u hu
  subst ha
  refine ⟨h1, by omega, ?_⟩
  rw [World.cell?_of_block (w := w) (a := ⟨a.block, a.off + j, none⟩) (hk a.block rfl h2)]
  exact h3

theorem RdV.chg {S : Nat → Prop} {w w' : World} {size n : Nat} {v : Value} {xs : List Value} (h : RdV w size v n xs) (hc : Chg S w w') (hs : ∀ b, v.ownBlock = some b → ¬ S b) : RdV w' size v n xs :=
  h.keep hc.size fun b hb hl => hc.block b hl (hs b hb)
theorem RdV.below {w w' : World} {size n : Nat} {v : Value} {xs : List Value} (h : RdV w size v n xs) (hc : Below w.heap.size w w') : RdV w' size v n xs :=
  h.keep hc.size fun b _ hl => hc.block b hl
theorem RdV.alloc {w : World} {size n : Nat} {v : Value} {xs : List Value} (h : RdV w size v n xs) (o : Obj) : RdV (w.alloc o) size v n xs :=
  h.below ((Below.refl _ _).alloc (Nat.le_refl _) o)
theorem RdV.drew {w : World} {size n : Nat} {v : Value} {xs : List Value} (h : RdV w size v n xs) : RdV w.drew size v n xs := h

/-- What is owned reads. -/
theorem RdV.ofOwns {w : World} {base e size n : Nat} {v : Value} {xs : List Value} (h : w.ownsRow base e size v n xs) : RdV w size v n xs := by
  refine ⟨h.1, ?_⟩
  rcases h.2 with ⟨rfl, rfl⟩ | ⟨g, cap, cur, rfl, hb, hg, hn, hm, hs, htake⟩
  · exact ⟨none, 0, rfl, Nat.le_refl _, by simp [maxLen], fun _ => rfl, fun a h => by cases h⟩
  · refine ⟨some ⟨g, 0, none⟩, cap, rfl, hn, hm, (fun h => by cases h), fun a ha j u hu => ?_⟩
    cases ha
    refine ⟨rfl, (Array.getElem?_eq_some_iff.1 hg).1, ?_⟩
    have := World.ownsRow.cells h (g := g) rfl j u hu
    simpa [Addr.add_lit] using this

/-- In case it has an element: its address and its cells. -/
theorem RdV.some {w : World} {size n : Nat} {v : Value} {xs : List Value} (h : RdV w size v n xs) (h0 : 0 < n) (hs : 0 < size) :
    ∃ b off cap, v = .slice (some ⟨b, off, none⟩) n cap ∧ n ≤ cap ∧ cap ≤ maxLen ∧ b < w.heap.size ∧ ∀ j u, xs[j]? = some u → w.cell? ⟨b, off + j, none⟩ = some u := by
  obtain ⟨hl, ao, cap, rfl, hn, hc, hz, hcell⟩ := h
  cases ao with
  | none => have := hz rfl; omega
  | some a =>
    have hx : 0 < xs.length := by rw [hl]; exact Nat.mul_pos h0 hs
    obtain ⟨h1, h2, _⟩ := hcell a rfl 0 xs[0] (List.getElem?_eq_getElem hx)
    obtain ⟨b, off, spot⟩ := a
    simp only at h1 h2
    subst h1
    exact ⟨b, off, cap, rfl, hn, hc, h2, fun j u hu => (hcell _ rfl j u hu).2.2⟩

theorem RdV.shape {w : World} {size n : Nat} {v : Value} {xs : List Value} (h : RdV w size v n xs) : ∃ ao cap, v = .slice ao n cap ∧ n ≤ cap ∧ cap ≤ maxLen := by
  obtain ⟨hl, ao, cap, rfl, hn, hc, hz, hcell⟩ := h
  exact ⟨ao, cap, rfl, hn, hc⟩

theorem Rd.len {w : World} {v : Value} {bs : List UInt8} (h : Rd w v bs) : bs.length ≤ maxLen := by
  obtain ⟨hl, ao, cap, rfl, hn, hc, hz, hcell⟩ := h
  omega

theorem rdOne {w : World} {v : Value} {bs : List UInt8} (h : Rd w v bs) (i : Nat) (hi : i < bs.length) :
    ∃ b off cap, v = .slice (some ⟨b, off, none⟩) bs.length cap ∧ w.cell? ⟨b, off + i, none⟩ = some (.int .u8 (bs[i].toNat : Int)) := by
  obtain ⟨b, off, cap, rfl, _, _, _, hc⟩ := RdV.some h (by omega) (by omega)
  exact ⟨b, off, cap, rfl, hc i _ (by simp [hi, bV])⟩

section
variable {P : Program}

theorem ownsRow_mono {w : World} {base base' e size n : Nat} {v : Value} {xs : List Value} (h : w.ownsRow base e size v n xs) (hb : base' ≤ base) : w.ownsRow base' e size v n xs := by
  refine ⟨h.1, ?_⟩
  rcases h.2 with hn | ⟨g, cap, cur, rfl, hbg, rest⟩
  · exact .inl hn
  · exact .inr ⟨g, cap, cur, rfl, by omega, rest⟩

theorem ownsRow_shape {w : World} {base e size n : Nat} {v : Value} {xs : List Value} (h : w.ownsRow base e size v n xs) : ∃ ao cap, v = .slice ao n cap := by
  rcases h.2 with ⟨rfl, rfl⟩ | ⟨g, cap, cur, rfl, _⟩
  · exact ⟨_, _, rfl⟩
  · exact ⟨_, _, rfl⟩

/-- What an append leaves: what is owned; the row that may have been written; the row of the new value is the old one or new. -/
structure Grew (w w' : World) (base e size : Nat) (v v' : Value) (n : Nat) (xs : List Value) : Prop where
  owns : w'.ownsRow base e size v' n xs
  grown : w.grownBy w' v.ownBlock
  row : ∀ k, v'.ownBlock = some k → v.ownBlock = some k ∨ w.heap.size ≤ k

theorem Grew.trans {w w1 w2 : World} {base e size n1 n2 : Nat} {v v1 v2 : Value} {xs1 xs2 : List Value} (h : Grew w w1 base e size v v1 n1 xs1) (k : Grew w1 w2 base e size v1 v2 n2 xs2) : Grew w w2 base e size v v2 n2 xs2 := by
  refine ⟨k.owns, ⟨k.grown.os.trans h.grown.os, k.grown.tape.trans h.grown.tape, k.grown.output.trans h.grown.output, Nat.le_trans h.grown.size k.grown.size, fun i hi hne => ?_⟩, fun r hr => ?_⟩
  · have h1 := h.grown.block i hi hne
    rw [← h1]
    refine k.grown.block i (Nat.lt_of_lt_of_le hi h.grown.size) fun e => ?_
    rcases h.row i e.symm with h2 | h2
    · exact hne h2.symm
    · omega
  · rcases k.row r hr with h2 | h2
    · exact h.row r h2
    · exact .inr (Nat.le_trans h.grown.size h2)

theorem Grew.ofAlloc {w w1 : World} {o : Obj} {base e size n : Nat} {v v1 : Value} {xs : List Value} (h : Grew (w.alloc o) w1 base e size v v1 n xs) : Grew w w1 base e size v v1 n xs := by
  refine ⟨h.owns, ⟨h.grown.os, h.grown.tape, h.grown.output, by have := h.grown.size; simp at this; omega, fun i hi hne => (h.grown.block i (by simp; omega) hne).trans (Below.heap_alloc _ _ _ hi)⟩, fun r hr => ?_⟩
  rcases h.row r hr with h2 | h2
  · exact .inl h2
  · exact .inr (by simp at h2; omega)

theorem Grew.ofDrew {w w1 : World} {base e size n : Nat} {v v1 : Value} {xs : List Value} (h : Grew w.drew w1 base e size v v1 n xs) : Grew w w1 base e size v v1 n xs :=
  ⟨h.owns, ⟨h.grown.os, h.grown.tape, h.grown.output, h.grown.size, h.grown.block⟩, h.row⟩

theorem Grew.refl {w : World} {base e size n : Nat} {v : Value} {xs : List Value} (h : w.ownsRow base e size v n xs) : Grew w w base e size v v n xs :=
  ⟨h, ⟨rfl, rfl, rfl, Nat.le_refl _, fun _ _ _ => rfl⟩, fun _ h => .inl h⟩

/-- Nothing but new blocks, and the row. -/
theorem Grew.chg {w w1 : World} {base e size n : Nat} {v v1 : Value} {xs : List Value} (h : Grew w w1 base e size v v1 n xs) : Chg (fun k => v.ownBlock = some k) w w1 :=
  (Chg.refl _ w).grown h.grown fun _ _ h => h

/-- What was nil or begins at a new block: nothing that was there has changed. -/
theorem Grew.below {w w1 : World} {base e size n : Nat} {v v1 : Value} {xs : List Value} {B : Nat} (h : Grew w w1 base e size v v1 n xs) (hB : B ≤ w.heap.size) (hv : ∀ k, v.ownBlock = some k → B ≤ k) : Below B w w1 :=
  h.chg.below hB hv

/-- append of whatever reads onto a slice that the call made. -/
theorem run_append_rd (w : World) (base : Nat) (t ty e : TypeId) (i : TypeInfo) (z : Value) (size bytes : Nat) (ht : P.underlying t = some (.slice e)) (hi : P.info? e = some i) (hz : i.zero = some z)
    (hsize : i.size = size) (hby : i.bytes = bytes) (hzs : z.cells.size = size) (hsz : 0 < size)
    (v : Value) (n : Nat) (xs : List Value) (hown : w.ownsRow base e size v n xs)
    (x : Value) (m : Nat) (news : List Value) (hx : RdV w size x m news) (h1 : ∀ u ∈ news, u.oneCell' = true)
    (h63 : n + m ≤ maxLen) (hbytes : (n + m) * bytes ≤ 140737488355328) (hbase : base ≤ w.heap.size) :
    ∃ ao cap w', (Builtin.append_ #[t, t] ty #[v, x]).run P w = .ok (.slice ao (n + m) cap) w' ∧ Grew w w' base e size v (.slice ao (n + m) cap) (n + m) (xs ++ news) := by
  obtain ⟨hl, xo, xc, rfl, hn, hc, h0, hcell⟩ := hx
  cases xo with
  | none =>
    have hc0 := h0 rfl
    have hm0 : m = 0 := by omega
    subst hm0; subst hc0
    have hnn : news = [] := List.eq_nil_of_length_eq_zero (by simpa using hl)
    subst hnn
    have hr := run_append_owned_none (P := P) w base t ty e i size ht hi v n xs hown
    obtain ⟨ao, cap, rfl⟩ := ownsRow_shape hown
    exact ⟨ao, cap, w, hr, by simpa using hown, ⟨rfl, rfl, rfl, Nat.le_refl _, fun _ _ _ => rfl⟩, fun k hk => .inl hk⟩
  | some a =>
    have hcs' : ∀ j u, news[j]? = some u → w.cell? (a.add j) = some u := fun j u hu => by
      obtain ⟨hs, _, hcs⟩ := hcell a rfl j u hu
      obtain ⟨b, off, spot⟩ := a
      simp only at hs
      subst hs
      rw [Addr.add_lit]
      exact hcs
    have hnew : ∀ (v' : Value) (w' : World), w'.ownsRow w.heap.size e size v' (n + m) (xs ++ news) → ∀ k, v'.ownBlock = some k → v.ownBlock = some k ∨ w.heap.size ≤ k := fun v' w' ho k hk => .inr (ho.lt k hk).1
    have hown' := hown
    rcases hown.2 with ⟨rfl, rfl⟩ | ⟨g, cap, cur, rfl, hbg, hg, hnc, hcm, hcsz, htake⟩
    · obtain rfl : xs = [] := List.eq_nil_of_length_eq_zero (by simpa using hown.1)
      obtain ⟨v', w', hr, ho, hg, _⟩ := run_append_own (P := P) w w.heap.size t ty e i z size bytes ht hi hz hsize hby hzs hsz (.slice none 0 0) 0 [] (World.ownsRow_nil w _ e size) a m xc news hl hcs' h1 h63 hbytes (Nat.le_refl _)
      obtain ⟨ao, cap, rfl⟩ := ownsRow_shape ho
      exact ⟨ao, cap, w', hr, ownsRow_mono ho hbase, hg, hnew _ _ ho⟩
    · by_cases hroom : n + m ≤ cap
      · obtain ⟨w', hr, ho, hg'⟩ := run_append_fits (P := P) w base t ty e i size ht hi hsize g n cap xs hown a m xc news hl hcs' h1 hroom
        exact ⟨_, _, w', hr, ho, hg', fun k hk => .inl hk⟩
      · have holds : ∀ j u, xs[j]? = some u → w.cell? ((⟨g, 0, none⟩ : Addr).add j) = some u := hown.cells (g := g) rfl
        obtain ⟨v', w', hr, ho, hg'⟩ := run_append_arg_grows (P := P) w t ty e i z size bytes ht hi hz hsize hby hzs hsz ⟨g, 0, none⟩ n cap xs hown.1 holds a m xc news hl hcs' (by omega) h63 hbytes
        obtain ⟨ao, cap', rfl⟩ := ownsRow_shape ho
        exact ⟨ao, cap', w', hr, ownsRow_mono ho hbase, ⟨hg'.os, hg'.tape, hg'.output, hg'.size, fun k hk _ => hg'.block k hk (by simp)⟩, hnew _ _ ho⟩

theorem wpList_append_rd (w : World) {ops : Array Oper} {rest : List Oper} {o : Oper} {a : Act} {Q : Exit → Act → World → Prop} (hgd : o.guard = none) (s x : Operand) (t : TypeId)
    (ho : o.op = .call { callee := .builtin .append, args := #[s, x], argTypes := #[t, t] })
    (base : Nat) (e : TypeId) (z : Value) (size bytes : Nat) (ht : P.underlying t = some (.slice e)) (hinfo : (P.info? e).map (fun i => (i.zero, i.size, i.bytes)) = some (some z, size, bytes))
    (hzs : z.cells.size = size) (hsz : 0 < size)
    (v : Value) (n : Nat) (xs : List Value) (hs : a.eval s = v) (hown : w.ownsRow base e size v n xs)
    (xv : Value) (m : Nat) (news : List Value) (hx : a.eval x = xv) (hrd : RdV w size xv m news) (h1 : ∀ u ∈ news, u.oneCell' = true)
    (h63 : n + m ≤ maxLen) (hbytes : (n + m) * bytes ≤ 140737488355328) (hbase : base ≤ w.heap.size)
    (h : ∀ ao cap w', Grew w w' base e size v (.slice ao (n + m) cap) (n + m) (xs ++ news) → wpList P ops Q rest (a.put o.dst (.slice ao (n + m) cap)) w') : wpList P ops Q (o :: rest) a w := by
  obtain ⟨i, hi, hz, hsize, hby⟩ := info_parts hinfo
  obtain ⟨ao, cap, w', hr, h2⟩ := run_append_rd (P := P) w base t o.type e i z size bytes ht hi hz hsize hby hzs hsz v n xs hown xv m news hrd h1 h63 hbytes hbase
  refine wpList_plain hgd fun K hK => ?_
  unfold Oper.wp execOp
  simp only [ho, resolve, invoke, builtin, Sem.run_bind, Sem.run_pure, Result.andThen_ok, List.map_toArray, List.map_cons, List.map_nil, hs, hx, hr]
  exact hK _ _ (h ao cap w' h2)

/-- The same as one step of a region that draws its order (go_region_held3's third argument). -/
theorem step_append_rd (w : World) {ops : Array Oper} {o : Oper} {a : Act} {K : Act → World → Prop} {Q : Exit → Act → World → Prop} {E : Prop} (hgd : o.guard = none) (s x : Operand) (t : TypeId)
    (ho : o.op = .call { callee := .builtin .append, args := #[s, x], argTypes := #[t, t] })
    (base : Nat) (e : TypeId) (z : Value) (size bytes : Nat) (ht : P.underlying t = some (.slice e)) (hinfo : (P.info? e).map (fun i => (i.zero, i.size, i.bytes)) = some (some z, size, bytes))
    (hzs : z.cells.size = size) (hsz : 0 < size)
    (v : Value) (n : Nat) (xs : List Value) (hs : a.eval s = v) (hown : w.ownsRow base e size v n xs)
    (xv : Value) (m : Nat) (news : List Value) (hx : a.eval x = xv) (hrd : RdV w size xv m news) (h1 : ∀ u ∈ news, u.oneCell' = true)
    (h63 : n + m ≤ maxLen) (hbytes : (n + m) * bytes ≤ 140737488355328) (hbase : base ≤ w.heap.size)
    (h : ∀ ao cap w', Grew w w' base e size v (.slice ao (n + m) cap) (n + m) (xs ++ news) → K (a.put o.dst (.slice ao (n + m) cap)) w') :
    if Region.wanted o (yielded ops a.tmps) = true then Oper.wp P o a w K Q else E := by
  have hw : Region.wanted o (yielded ops a.tmps) = true := by simp [Region.wanted, hgd]
  rw [if_pos hw]
  obtain ⟨i, hi, hz, hsize, hby⟩ := info_parts hinfo
  obtain ⟨ao, cap, w', hr, h2⟩ := run_append_rd (P := P) w base t o.type e i z size bytes ht hi hz hsize hby hzs hsz v n xs hown xv m news hrd h1 h63 hbytes hbase
  unfold Oper.wp execOp
  simp only [ho, resolve, invoke, builtin, Sem.run_bind, Sem.run_pure, Result.andThen_ok, List.map_toArray, List.map_cons, List.map_nil, hs, hx, hr]
  exact h ao cap w' h2

/-- A slice of one new cell, as 'append(out, x)' lays it. -/
theorem RdV.one (w : World) (u : Value) (t : TypeId) : RdV (w.alloc (.cells #[u] t)) 1 (.slice (Option.some ⟨w.heap.size, 0, none⟩) 1 1) 1 [u] :=
  ⟨rfl, Option.some ⟨w.heap.size, 0, none⟩, 1, rfl, Nat.le_refl _, by simp [maxLen], (fun h => by cases h), fun a ha j u' hu => by
    cases ha
    refine ⟨rfl, by simp, ?_⟩
    match j, hu with
    | 0, hu => simp at hu; subst hu; simp [World.cell?_alloc_new]⟩

theorem one_one (u : Value) (h : u.oneCell' = true) : ∀ x ∈ [u], x.oneCell' = true := by
  intro x hx
  simp at hx
  subst hx
  exact h

/-- A slice of what reads. -/
theorem RdV.cut {w : World} {size n cap : Nat} {ao : Option Addr} {xs : List Value} (h : RdV w size (.slice ao n cap) n xs) (l m : Nat) (hl : l ≤ m) (hm : m ≤ n) :
    RdV w size (.slice (if cap = l then ao else ao.map (·.add (l * size))) (m - l) (cap - l)) (m - l) ((xs.drop (l * size)).take ((m - l) * size)) := by
  obtain ⟨hlen, ao', cap', he, hn, hc, hz, hcell⟩ := h
  simp only [Value.slice.injEq, true_and] at he
  obtain ⟨rfl, rfl⟩ := he
  have e0 : m * size ≤ n * size := Nat.mul_le_mul_right _ hm
  have e1 : (m - l) * size + l * size = m * size := by rw [← Nat.add_mul]; congr 1; omega
  refine ⟨by rw [List.length_take, List.length_drop, hlen]; omega, _, _, rfl, by omega, by omega, fun h0 => ?_, fun a ha j u hu => ?_⟩
  · cases ao with
    | none => have := hz rfl; omega
    | some a => split at h0 <;> simp at h0
  · have hj : j < (m - l) * size := by
      have := (List.getElem?_eq_some_iff.1 hu).1
      rw [List.length_take] at this
      omega
    rw [List.getElem?_take, if_pos hj, List.getElem?_drop] at hu
    cases ao with
    | none => split at ha <;> simp at ha
    | some b =>
      obtain ⟨h1, h2, h3⟩ := hcell b rfl _ u hu
      split at ha
      · rename_i hcl
        have hml : m = l := by omega
        subst hml
        simp at hj
      · simp only [Option.map_some, Option.some.injEq] at ha
        subst ha
        have hab : (b.add (l * size)).block = b.block := by unfold Addr.add; split <;> rfl
        have hao : (b.add (l * size)).off = b.off + l * size := by unfold Addr.add; split <;> simp_all
        have has : (b.add (l * size)).spot = none := by unfold Addr.add; split <;> simp_all
        rw [hab, hao, Nat.add_assoc]
        exact ⟨has, h2, h3⟩

theorem cut_block {ao : Option Addr} {cap l size a b : Nat} : ∀ k, (Value.slice (if cap = l then ao else ao.map (·.add (l * size))) a b).ownBlock = some k → ∀ n c, (Value.slice ao n c).ownBlock = some k := by
  intro k hk n c
  cases ao with
  | none => split at hk <;> simp [Value.ownBlock] at hk
  | some x =>
    split at hk
    · exact hk
    · simp only [Option.map_some, Value.ownBlock] at hk ⊢
      rw [← hk]
      unfold Addr.add
      split <;> rfl

/-- 'x[lo:]', 'x[:hi]', 'x[lo:hi]' of what reads: 'hb': the bounds, as the model takes them. -/
theorem wpList_slice_rd (w : World) {ops : Array Oper} {rest : List Oper} {o : Oper} {a : Act} {Q : Exit → Act → World → Prop} (hgd : o.guard = none) (x : Operand) (lo hi : Option Operand) (t : TypeId)
    (ho : o.op = .slice t x lo hi none) (e : TypeId) (size : Nat) (z : Value) (bytes : Nat) (ht : P.underlying t = some (.slice e)) (hinfo : (P.info? e).map (fun i => (i.zero, i.size, i.bytes)) = some (some z, size, bytes))
    (ao : Option Addr) (n cap : Nat) (xs : List Value) (hx : a.eval x = .slice ao n cap) (hr : RdV w size (.slice ao n cap) n xs) (l m : Nat)
    (hb : (Instr.sliceBounds true n cap (lo.map a.eval) (hi.map a.eval) none).run P w = .ok (l, m, cap) w) (hl : l ≤ m) (hm : m ≤ n)
    (h : ∀ ao' cap', RdV w size (.slice ao' (m - l) cap') (m - l) ((xs.drop (l * size)).take ((m - l) * size)) → (∀ k, (Value.slice ao' (m - l) cap').ownBlock = some k → (Value.slice ao n cap).ownBlock = some k) →
      wpList P ops Q rest (a.put o.dst (.slice ao' (m - l) cap')) w) : wpList P ops Q (o :: rest) a w := by
  obtain ⟨i, hi', hz, hsize, hby⟩ := info_parts hinfo
  have hrun : (Instr.sliceAt t (.slice ao n cap) (lo.map a.eval) (hi.map a.eval) none).run P w = .ok (.slice (if cap = l then ao else ao.map (·.add (l * size))) (m - l) (cap - l)) w := by
    simp only [Instr.sliceAt, Sem.run_bind, run_underlying ht, Result.andThen_ok, Instr.slice, hb, sizeOf, typeInfo]
    simp [hi', hsize]
  refine wpList_plain hgd fun K hK => ?_
  unfold Oper.wp execOp
  simp only [ho, hx, Option.map_none, Sem.run_bind, hrun, Result.andThen_ok]
  exact hK _ _ (h _ _ (hr.cut l m hl hm) (fun k hk => cut_block k hk n cap))

theorem bounds_lo {w : World} (n cap : Nat) (k : IntKind) (l : Nat) (hl : l ≤ n) : (Instr.sliceBounds true n cap (some (.int k (l : Int))) none none).run P w = .ok (l, n, cap) w := by
  have h := run_sliceBound (P := P) (w := w) k (l : Int) n .sliceB (by omega) (by omega)
  simp [Instr.sliceBounds, h]

theorem bounds_hi {w : World} (n cap : Nat) (k : IntKind) (m : Nat) (hm : m ≤ cap) : (Instr.sliceBounds true n cap none (some (.int k (m : Int))) none).run P w = .ok (0, m, cap) w := by
  have h := run_sliceBound (P := P) (w := w) k (m : Int) cap .sliceAcap (by omega) (by omega)
  simp [Instr.sliceBounds, h]

theorem bounds_both {w : World} (n cap : Nat) (k k' : IntKind) (l m : Nat) (hl : l ≤ m) (hm : m ≤ cap) : (Instr.sliceBounds true n cap (some (.int k (l : Int))) (some (.int k' (m : Int))) none).run P w = .ok (l, m, cap) w := by
  have h := run_sliceBound (P := P) (w := w) k' (m : Int) cap .sliceAcap (by omega) (by omega)
  have h2 := run_sliceBound (P := P) (w := w) k (l : Int) m .sliceB (by omega) (by omega)
  simp [Instr.sliceBounds, h, h2]

/-- The string of bytes. -/
def strOf (bs : List UInt8) : ByteArray := ⟨bs.toArray⟩

@[simp, go_sem] theorem strOf_toList (bs : List UInt8) : (strOf bs).toList = bs := ByteArray.toList_mk bs
theorem strOf_data (bs : List UInt8) : (strOf bs).data.toList = bs := rfl
theorem strOf_size (bs : List UInt8) : (strOf bs).size = bs.length := by simp [strOf, ByteArray.size]

theorem run_str {w : World} {v : Value} {bs : List UInt8} (hr : Rd w v bs) (src e dst : TypeId) (hs : P.underlying src = some (.slice e)) (he : P.underlying e = some (.int .u8)) (hd : P.underlying dst = some .string) :
    (convert src dst v).run P w = .ok (.string (strOf bs)) w := by
  by_cases h0 : bs.length = 0
  · obtain rfl : bs = [] := List.eq_nil_of_length_eq_zero h0
    obtain ⟨ao, cap, rfl, _, _⟩ := RdV.shape hr
    have e1 : (strOf [] : ByteArray) = ByteArray.empty := rfl
    rw [e1]
    cases ao with
    | none => exact run_convert_bytes_nil w src e hs he _ _ dst hd
    | some a =>
      rw [run_convert_bytes_string w src dst e _ _ cap hs he hd]
      have := run_bytesToString (P := P) w a 0 cap [] (by
        have := run_loadCells_list (P := P) w a [] (fun j v hj => by simp at hj)
        simpa using this)
      simpa using this
  · obtain ⟨b, off, cap, rfl, _, _, _, hc⟩ := RdV.some hr (by omega) (by omega)
    have h := run_convert_bytes_arg (P := P) w src e hs he b off bs.length cap (bs.map fun x => (x.toNat : Int)) (by simp) (fun i hi => by
      have := hc i (bV bs[i]) (by simp [hi])
      rw [this]
      simp [bV, List.getD, hi]) dst hd
    have e1 : strOfNums (bs.map fun x => (x.toNat : Int)) = strOf bs := by
      unfold strOfNums strOf
      congr 1
      congr 1
      rw [List.map_map]
      conv => rhs; rw [← List.map_id bs]
      apply List.map_congr_left
      intro x _
      simp
    rw [e1] at h
    exact h

theorem bV_one (bs : List UInt8) : ∀ u ∈ bs.map bV, u.oneCell' = true := by
  intro u hu
  obtain ⟨x, _, rfl⟩ := List.mem_map.1 hu
  rfl

end
theorem RdV.lit (w : World) (cs : Array Value) (e : TypeId) (n size : Nat) (hm : n ≤ maxLen) (hs : cs.size = n * size) : RdV (w.alloc (.cells cs e)) size (.slice (Option.some ⟨w.heap.size, 0, none⟩) n n) n cs.toList :=
  RdV.ofOwns (World.ownsRow_lit (base := 0) w cs n (Nat.zero_le _) hm hs)
end Go.Proofs.YthcgalpabjjkoaaDoor

/- XPut: Writer.Put's walk. -/
namespace Go.Proofs.YthcgalpabjjkoaaDoor
open Go.RowKit

theorem infoU8 : (Tryd.prog.info? 5).map (fun i => (i.zero, i.size, i.bytes)) = some (some (.int .u8 0), 1, 1) := by kernel_rfl

/-- A writer of bits that lies at block blk, its bytes being the slice value sv. -/
def Wr (w : World) (blk : Nat) (sv : Value) (bits : List Bool) : Prop :=
  w.cell? ⟨blk, 0, none⟩ = some sv ∧ w.cell? ⟨blk, 1, none⟩ = some (.int .i64 (bits.length : Nat)) ∧ w.frozen? ⟨blk, 0, none⟩ = false ∧ w.frozen? ⟨blk, 1, none⟩ = false ∧
    w.ownsRow (blk + 1) 5 1 sv (pack8 bits).length ((pack8 bits).map bV)

/-- In the middle of a round: the last byte, which may be new, is not full. -/
def WrMid (w : World) (blk : Nat) (sv : Value) (bits : List Bool) : Prop :=
  w.cell? ⟨blk, 0, none⟩ = some sv ∧ w.cell? ⟨blk, 1, none⟩ = some (.int .i64 (bits.length : Nat)) ∧ w.frozen? ⟨blk, 0, none⟩ = false ∧ w.frozen? ⟨blk, 1, none⟩ = false ∧
    w.ownsRow (blk + 1) 5 1 sv (bits.length / 8 + 1) ((pack8 (bits.take (8 * (bits.length / 8))) ++ [UInt8.ofNat (num (bits.drop (8 * (bits.length / 8))) * 2 ^ (8 - bits.length % 8))]).map bV)

/-- What a call of Put may have done to the rest of memory. -/
def WrStep (w : World) (blk : Nat) (sv : Value) (w' : World) (sv' : Value) : Prop :=
  Chg (fun k => k = blk ∨ sv.ownBlock = some k) w w' ∧ ∀ k, sv'.ownBlock = some k → sv.ownBlock = some k ∨ w.heap.size ≤ k

theorem WrStep.refl (w : World) (blk : Nat) (sv : Value) : WrStep w blk sv w sv := ⟨Chg.refl _ _, fun _ h => .inl h⟩
theorem WrStep.trans {w w1 w2 : World} {blk : Nat} {sv sv1 sv2 : Value} (h : WrStep w blk sv w1 sv1) (k : WrStep w1 blk sv1 w2 sv2) : WrStep w blk sv w2 sv2 := by
  refine ⟨h.1.trans' k.1 fun i hi ht => ?_, fun r hr => ?_⟩
  · rcases ht with rfl | ht
    · exact .inl rfl
    · rcases h.2 i ht with h1 | h1
      · exact .inr h1
      · omega
  · rcases k.2 r hr with h1 | h1
    · exact h.2 r h1
    · exact .inr (Nat.le_trans h.1.size h1)

theorem wrMid_of {w : World} {blk : Nat} {sv : Value} {cur : List Bool} (hc0 : w.cell? ⟨blk, 0, none⟩ = some sv) (hc1 : w.cell? ⟨blk, 1, none⟩ = some (.int .i64 (cur.length : Nat)))
    (hf0 : w.frozen? ⟨blk, 0, none⟩ = false) (hf1 : w.frozen? ⟨blk, 1, none⟩ = false) (hown : w.ownsRow (blk + 1) 5 1 sv (pack8 cur).length ((pack8 cur).map bV)) (h8 : ¬ cur.length % 8 = 0) : WrMid w blk sv cur := by
  refine ⟨hc0, hc1, hf0, hf1, ?_⟩
  have e : (pack8 cur).length = cur.length / 8 + 1 := by rw [length_pack8]; omega
  rw [← e, ← pack8_last cur h8]
  exact hown

theorem put_new {w w1 : World} {blk : Nat} {sv v' : Value} {cur : List Bool} (hc0 : w.cell? ⟨blk, 0, none⟩ = some sv) (hc1 : w.cell? ⟨blk, 1, none⟩ = some (.int .i64 (cur.length : Nat)))
    (hf0 : w.frozen? ⟨blk, 0, none⟩ = false) (hf1 : w.frozen? ⟨blk, 1, none⟩ = false) (hown : w.ownsRow (blk + 1) 5 1 sv (pack8 cur).length ((pack8 cur).map bV)) (h8 : cur.length % 8 = 0)
    {o : Obj} (hg : Grew (w.alloc o) w1 (blk + 1) 5 1 sv v' ((pack8 cur).length + 1) ((pack8 cur).map bV ++ [.int .u8 0])) :
    w1.cell? ⟨blk, 0, none⟩ = some sv ∧ w1.cell? ⟨blk, 1, none⟩ = some (.int .i64 (cur.length : Nat)) ∧ w1.frozen? ⟨blk, 0, none⟩ = false ∧ w1.frozen? ⟨blk, 1, none⟩ = false ∧
      (WrMid (w1.setCell ⟨blk, 0, none⟩ v') blk v' cur ∧ WrStep w blk sv (w1.setCell ⟨blk, 0, none⟩ v') v') := by
  have hbl : blk < w.heap.size := World.block_lt_of_cell? w _ hc0
  obtain ⟨hown1, hgrow, hrow⟩ := hg
  have hchg : Chg (fun k => sv.ownBlock = some k) w w1 := ((Chg.refl _ w).alloc o).grown hgrow fun k _ h => h
  have hne : ∀ k, sv.ownBlock = some k → blk < k := fun k hk => (hown.lt k hk).1
  have hS : ¬ (sv.ownBlock = some blk) := fun h => by have := hne _ h; omega
  have k0 := (hchg.cell (p := ⟨blk, 0, none⟩) hbl hS).trans hc0
  have k1 := (hchg.cell (p := ⟨blk, 1, none⟩) hbl hS).trans hc1
  have g0 := (hchg.frozen (p := ⟨blk, 0, none⟩) hbl hS).trans hf0
  have g1 := (hchg.frozen (p := ⟨blk, 1, none⟩) hbl hS).trans hf1
  refine ⟨k0, k1, g0, g1, ⟨?_, ?_, ?_, ?_, ?_⟩, ?_, ?_⟩
  · simp [go_sem, k0]
  · simp [go_sem, k1]
  · simp [go_sem, g0]
  · simp [go_sem, g1]
  · have e : (pack8 cur).length = cur.length / 8 := by rw [length_pack8]; omega
    have e2 : 8 * (cur.length / 8) = cur.length := by omega
    rw [e] at hown1
    have e3 : (pack8 (cur.take (8 * (cur.length / 8))) ++ [UInt8.ofNat (num (cur.drop (8 * (cur.length / 8))) * 2 ^ (8 - cur.length % 8))]).map bV = (pack8 cur).map bV ++ [.int .u8 0] := by
      rw [e2, List.take_length, List.drop_length]; simp [num, bV]
    rw [e3]
    exact ownsRow_setCell_below hown1 (by simp) _
  · exact (hchg.mono fun i _ h => .inr h).setCell (fun _ => .inl rfl) _
  · intro k hk
    rcases hrow k hk with h | h
    · exact .inl h
    · exact .inr (by simp at h; omega)

theorem put_byte (bt : UInt8) (v sh c p a : Nat) (hv : v < 18446744073709551616) (hc : c + p ≤ 8) (hp : p ≤ 8) (ha : a < 2 ^ p) (hbt : bt = UInt8.ofNat (a * 2 ^ (8 - p))) :
    Go.bits .or .u8 (bt.toNat : Int) (IntKind.u64.wrap (Go.bits .and .u64 ((v : Int) / 2 ^ sh) (IntKind.u64.wrap (IntKind.u64.wrap (2 ^ c) - 1)) * 2 ^ (8 - p - c)) % 256) =
      ((UInt8.ofNat (a * 2 ^ (8 - p) + (v / 2 ^ sh % 2 ^ c) * 2 ^ (8 - p - c))).toNat : Int) := by
  have hc8 : (2 : Nat) ^ c ≤ 256 := by have := Nat.pow_le_pow_right (n := 2) (by omega) (show c ≤ 8 by omega); omega
  have hc1 : 1 ≤ (2 : Nat) ^ c := Nat.one_le_two_pow
  have e0 : (2 : Int) ^ c = ((2 ^ c : Nat) : Int) := by simp
  have e1 : IntKind.u64.wrap (2 ^ c) = ((2 ^ c : Nat) : Int) := by rw [e0, IntWalk.u64_in _ (by omega)]
  have e2 : IntKind.u64.wrap (((2 ^ c : Nat) : Int) - 1) = ((2 ^ c - 1 : Nat) : Int) := by rw [IntWalk.u64_in _ (by omega)]; omega
  have e3 : ((v : Int) / 2 ^ sh) = ((v / 2 ^ sh : Nat) : Int) := by simp
  have hdiv : v / 2 ^ sh < 18446744073709551616 := Nat.lt_of_le_of_lt (Nat.div_le_self _ _) hv
  rw [e1, e2, e3, u64_and_nat _ _ hdiv (by omega), Nat.and_two_pow_sub_one_eq_mod]
  have hx : v / 2 ^ sh % 2 ^ c < 2 ^ c := Nat.mod_lt _ (Nat.two_pow_pos _)
  have hm : v / 2 ^ sh % 2 ^ c * 2 ^ (8 - p - c) < 2 ^ (8 - p) := by
    have : v / 2 ^ sh % 2 ^ c * 2 ^ (8 - p - c) < 2 ^ c * 2 ^ (8 - p - c) := Nat.mul_lt_mul_of_pos_right hx (Nat.two_pow_pos _)
    rw [← Nat.pow_add, show c + (8 - p - c) = 8 - p by omega] at this
    exact this
  have h256 : (2 : Nat) ^ (8 - p) ≤ 256 := by have := Nat.pow_le_pow_right (n := 2) (by omega) (show 8 - p ≤ 8 by omega); omega
  generalize hX : v / 2 ^ sh % 2 ^ c = x at *
  have e4 : ((x : Nat) : Int) * 2 ^ (8 - p - c) = ((x * 2 ^ (8 - p - c) : Nat) : Int) := by simp
  rw [e4, IntWalk.u64_in _ (by omega)]
  have e5 : ((x * 2 ^ (8 - p - c) : Nat) : Int) % 256 = ((x * 2 ^ (8 - p - c) % 256 : Nat) : Int) := by omega
  have hbl := bt.toNat_lt
  rw [e5, u8_or_nat _ _ (by omega) (by omega), hbt, or_chunk a p x _ ha hp hm]

theorem put_step {w : World} {blk g q n cap nq : Nat} (_hgb : blk + 1 ≤ g) (u v : Value) :
    WrStep w blk (.slice (some ⟨g, 0, none⟩) n cap) (((w.drewN nq).setCell ⟨g, q, none⟩ u).setCell ⟨blk, 1, none⟩ v) (.slice (some ⟨g, 0, none⟩) n cap) := by
  refine ⟨?_, fun k h => .inl h⟩
  have h0 : Chg (fun k => k = blk ∨ (Value.slice (some ⟨g, 0, none⟩) n cap).ownBlock = some k) w (w.drewN nq) := ⟨rfl, rfl, rfl, Nat.le_refl _, fun _ _ _ => rfl⟩
  exact (h0.setCell (p := ⟨g, q, none⟩) (fun _ => .inr rfl) _).setCell (p := ⟨blk, 1, none⟩) (fun _ => .inl rfl) _

theorem put_done {w : World} {blk g cap nq N k c v : Nat} {bits cur : List Bool} (_hq : 0 < k) (hk : k ≤ N) (h1 : 1 ≤ c) (h2 : c ≤ k) (h3 : c + cur.length % 8 ≤ 8) (hcur : bits ++ bitsOf (v / 2 ^ k) (N - k) = cur)
    (hc0 : w.cell? ⟨blk, 0, none⟩ = some (.slice (some ⟨g, 0, none⟩) (cur.length / 8 + 1) cap)) (hc1 : w.cell? ⟨blk, 1, none⟩ = some (.int .i64 (cur.length : Nat)))
    (hf0 : w.frozen? ⟨blk, 0, none⟩ = false) (hf1 : w.frozen? ⟨blk, 1, none⟩ = false)
    (hown : w.ownsRow (blk + 1) 5 1 (.slice (some ⟨g, 0, none⟩) (cur.length / 8 + 1) cap) (cur.length / 8 + 1) ((pack8 (cur.take (8 * (cur.length / 8))) ++ [UInt8.ofNat (num (cur.drop (8 * (cur.length / 8))) * 2 ^ (8 - cur.length % 8))]).map bV)) :
    Wr (((w.drewN nq).setCell ⟨g, cur.length / 8, none⟩ (.int .u8 ((UInt8.ofNat (num (cur.drop (8 * (cur.length / 8))) * 2 ^ (8 - cur.length % 8) + (v / 2 ^ (k - c) % 2 ^ c) * 2 ^ (8 - cur.length % 8 - c))).toNat : Int))).setCell ⟨blk, 1, none⟩ (.int .i64 ((cur.length : Int) + (c : Int))))
      blk (.slice (some ⟨g, 0, none⟩) (cur.length / 8 + 1) cap) (bits ++ bitsOf (v / 2 ^ (k - c)) (N - (k - c))) := by
  have hgb : blk + 1 ≤ g := (hown.lt g rfl).1
  have e1 : bits ++ bitsOf (v / 2 ^ (k - c)) (N - (k - c)) = cur ++ bitsOf (v / 2 ^ (k - c)) c := by
    rw [← hcur, show N - (k - c) = (N - k) + c by omega, bitsOf_split, Nat.div_div_eq_div_mul, ← Nat.pow_add, show k - c + c = k by omega, List.append_assoc]
  have hne2 : bitsOf (v / 2 ^ (k - c)) c ≠ [] := by intro e; have := congrArg List.length e; simp at this; omega
  have hl : (pack8 (cur.take (8 * (cur.length / 8)))).length = cur.length / 8 := by rw [length_pack8, take8_len]; omega
  rw [e1]
  refine ⟨?_, ?_, ?_, ?_, ?_⟩
  · simp [go_sem, hc0]
  · simp [go_sem, hc1]
  · simp [go_sem, hf0]
  · simp [go_sem, hf1]
  · have e2 : (pack8 (cur ++ bitsOf (v / 2 ^ (k - c)) c)).length = cur.length / 8 + 1 := by rw [length_pack8]; simp; omega
    rw [e2, pack8_chunk cur _ hne2 (by simp; omega), num_bitsOf, length_bitsOf]
    refine ownsRow_setCell_below ?_ (by simp) _
    have hs := hown.stored (cur.length / 8) (.int .u8 ((UInt8.ofNat (num (cur.drop (8 * (cur.length / 8))) * 2 ^ (8 - cur.length % 8) + (v / 2 ^ (k - c) % 2 ^ c) * 2 ^ (8 - cur.length % 8 - c))).toNat : Int))
    have e3 : ∀ (a b : UInt8) (l : List UInt8), l.length = cur.length / 8 → ((l ++ [a]).map bV).set (cur.length / 8) (bV b) = (l ++ [b]).map bV := fun a b l hll => by
      simp only [List.map_append, List.map_cons, List.map_nil]
      rw [List.set_append_right _ _ (by simp [hll])]
      simp [hll]
    have e4 := e3 (UInt8.ofNat (num (cur.drop (8 * (cur.length / 8))) * 2 ^ (8 - cur.length % 8))) (UInt8.ofNat (num (cur.drop (8 * (cur.length / 8))) * 2 ^ (8 - cur.length % 8) + (v / 2 ^ (k - c) % 2 ^ c) * 2 ^ (8 - cur.length % 8 - c))) _ hl
    rw [← e4]
    exact hs.1

set_option maxHeartbeats 400000 in
theorem putMin_any (blk : Nat) (v : Nat) (n : Int) (hn : -9223372036854775808 ≤ n ∧ n ≤ 9223372036854775807) (N : Nat) (hN : (N : Int) = min n 64) (hN1 : 1 ≤ N) (sv : Value) (bits : List Bool) (w : World) 
   (hv : v < 18446744073709551616) 
   (hb : bits.length ≤ 1125899906842000)
   (hw : Wr w blk sv bits) :
    Calls Tryd.prog 53 #[.pointer (some ⟨blk, 0, none⟩), .int .u64 v, .int .i64 n] w fun e w' => e = .returned (.tuple #[]) ∧ 
      ∃ sv', Wr w' blk sv' (bits ++ bitsOf v N) ∧ WrStep w blk sv w' sv' := by
  have h64 : N ≤ 64 := by omega
  have HN := Lib.hid hN
  clear hN
  go_enter Tryd.func53, Tryd.ntmps53
  go_upto_region 1 with fail
  go_cut [2] (fun s2 wx => w = wx ∧ s2 = .int .i64 (N : Nat))
  case first =>
    go_wp2_with fail
    all_goals go_meet
    all_goals
      have HN' := HN.out
      go_light
      exact ⟨rfl, by congr 1; omega⟩
  case rest =>
  obtain ⟨rfl, rfl⟩ := hcut
  go_wp2
  go_loopg [2] N (fun k i wr => k ≤ N ∧ i = .int .i64 (k : Nat) ∧ ∃ sv', Wr wr blk sv' (bits ++ bitsOf (v / 2 ^ k) (N - k)) ∧ WrStep w blk sv wr sv')
  case atStart => exact ⟨Nat.le_refl _, rfl, sv, by simpa [bitsOf] using hw, WrStep.refl _ _ _⟩
  case round =>
    obtain ⟨hk, rfl, sv', hwr, hstep⟩ := hrel
    clear hw
    have hcl : (bits ++ bitsOf (v / 2 ^ gk) (N - gk)).length ≤ 1125899906842064 := by simp; omega
    generalize hcur : bits ++ bitsOf (v / 2 ^ gk) (N - gk) = cur at hwr hcl
    have HC := Lib.hid hcur
    clear hcur
    obtain ⟨hc0, hc1, hf0, hf1, hown⟩ := hwr
    by_cases h0 : gk = 0
    · subst h0
      go_wp2
      go_end0
      have e : cur = bits ++ bitsOf v N := by have := HC.out; simpa using this.symm
      subst e
      exact ⟨rfl, sv', ⟨hc0, hc1, hf0, hf1, hown⟩, hstep⟩
    · have hr1 : (0 : Int) ≤ (cur.length : Int) % 8 ∧ (cur.length : Int) % 8 < 8 := by omega
      go_upto_if 20 with fail
      go_cut [] (fun wx => ∃ sv2, WrMid wx blk sv2 cur ∧ WrStep wr blk sv' wx sv2)
      case first =>
        by_cases h8 : cur.length % 8 = 0
        · have hd : ((cur.length : Int) % 8 == 0) = true := by simp; omega
          go_wp2_with (at_builtin; refine wpList_append_rd _ rfl (.tmp 25) (.tmp 26) 33 rfl (blk + 1) 5 (.int .u8 0) 1 1 Tryd.underlying33 infoU8 rfl (by decide) _ _ _ rfl (hown.alloc _) (.slice (some ⟨wr.heap.size, 0, none⟩) 1 1) 1 [.int .u8 0] rfl ?hrd ?hone ?h63 ?hby ?hba ?next)
          case hrd => exact RdV.one _ _ _
          case hone => exact one_one _ rfl
          case h63 => rw [length_pack8]; unfold maxLen; omega
          case hby => rw [length_pack8]; omega
          case hba => have := World.block_lt_of_cell? wr _ hc0; simp at this ⊢; omega
          case next =>
            intro ao cap w1 hgrew
            have R := put_new hc0 hc1 hf0 hf1 hown h8 hgrew
            obtain ⟨hc0', hc1', hf0', hf1', R'⟩ := R
            have HR := Lib.hid R'
            clear R' hown hgrew hstep hc0 hc1 hf0 hf1
            go_wp2
            go_meet
            exact ⟨_, HR.out⟩
        · have hd : ((cur.length : Int) % 8 == 0) = false := by simp; omega
          go_wp2_with fail
          go_meet
          exact ⟨sv', wrMid_of hc0 hc1 hf0 hf1 hown h8, WrStep.refl _ _ _⟩
      case rest =>
        obtain ⟨sv2, hmid, hst2⟩ := hcut
        clear hc0 hc1 hf0 hf1 hown
        obtain ⟨hc0, hc1, hf0, hf1, hown⟩ := hmid
        have H1 := Lib.hid hstep
        have H2 := Lib.hid hst2
        clear hstep hst2
        go_upto_region 6 with fail
        go_cut [7] (fun s7 wx => wx = wc ∧ ∃ c : Nat, s7 = .int .i64 (c : Nat) ∧ 1 ≤ c ∧ c ≤ gk ∧ c + cur.length % 8 ≤ 8)
        case first =>
          go_wp2_with fail
          all_goals go_meet
          all_goals go_light
          · exact ⟨rfl, gk, rfl, by omega, by omega, by omega⟩
          · exact ⟨rfl, 8 - cur.length % 8, by congr 1; omega, by omega, by omega, by omega⟩
        case rest =>
          obtain ⟨rfl, c, rfl, hc1', hc2', hc3'⟩ := hcut
          obtain ⟨g, cap, rfl⟩ : ∃ g cap, sv2 = .slice (some ⟨g, 0, none⟩) (cur.length / 8 + 1) cap := by
            rcases hown.2 with ⟨_, h⟩ | ⟨g, cap, _, h, _⟩
            · omega
            · exact ⟨g, cap, h⟩
          go_upto_region 7 with fail
          go_quiet (fail)
          go_upto_region 8 with fail
          obtain ⟨bt, hbt⟩ : ∃ bt : UInt8, bt = UInt8.ofNat (num (cur.drop (8 * (cur.length / 8))) * 2 ^ (8 - cur.length % 8)) := ⟨_, rfl⟩
          have hcell : wc.cell? ⟨g, cur.length / 8, none⟩ = some (.int .u8 (bt.toNat : Int)) := by
            rw [hown.cellAt (cur.length / 8) (by omega), ← hbt]
            have : (pack8 (cur.take (8 * (cur.length / 8)))).length = cur.length / 8 := by rw [length_pack8, take8_len]; omega
            rw [List.getElem?_map, List.getElem?_append_right (by omega), this]
            simp [bV]
          have hfr := hown.frozenAt (cur.length / 8)
          have hgb : blk + 1 ≤ g := (hown.lt g rfl).1
          have HB := Lib.hid hbt
          have HO := Lib.hid hown
          clear hbt hown
          have hbl := bt.toNat_lt
          have e1 : ((cur.length / 8 + 1 : Nat) : Int) - 1 = (cur.length / 8 : Nat) := by omega
          go_region
          go_wp2
          go_roundg (gk - c)
          case measure => go_light; omega
          case rel =>
            go_light
            rw [put_byte bt v (gk - c) c (cur.length % 8) _ hv (by omega) (by omega) (by have := num_lt (cur.drop (8 * (cur.length / 8))); rwa [drop8_len] at this) HB.out]
            exact ⟨by omega, by congr 1; omega, _, put_done (by omega) hk hc1' hc2' hc3' HC.out hc0 hc1 hf0 hf1 HO.out, H1.out.trans (H2.out.trans (put_step hgb _ _))⟩
/-- So many bits as Put is told, up to 64. -/
theorem put_any (blk : Nat) (v : Nat) (N : Nat) (hN1 : 1 ≤ N) (h64 : N ≤ 64) (sv : Value) (bits : List Bool) (w : World) (hv : v < 18446744073709551616) (hb : bits.length ≤ 1125899906842000) (hw : Wr w blk sv bits) :
    Calls Tryd.prog 53 #[.pointer (some ⟨blk, 0, none⟩), .int .u64 v, .int .i64 N] w fun e w' => e = .returned (.tuple #[]) ∧ 
      ∃ sv', Wr w' blk sv' (bits ++ bitsOf v N) ∧ WrStep w blk sv w' sv' :=
  putMin_any blk v N (by omega) N (by omega) hN1 sv bits w hv hb hw
end Go.Proofs.YthcgalpabjjkoaaDoor

/- XWriter: The contracts of bits.NewWriter, (*Writer).Len, (*Writer).Bytes, and of Put where nothing is written. -/
namespace Go.Proofs.YthcgalpabjjkoaaDoor
open Go.RowKit

/-- These bytes are the call's own, from block base on. -/
def Own (w : World) (base : Nat) (v : Value) (bs : List UInt8) : Prop := w.ownsRow base 5 1 v bs.length (bs.map bV)

theorem Own.rd {w : World} {base : Nat} {v : Value} {bs : List UInt8} (h : Own w base v bs) : Rd w v bs := RdV.ofOwns h
theorem Own.mono {w : World} {base base' : Nat} {v : Value} {bs : List UInt8} (h : Own w base v bs) (hb : base' ≤ base) : Own w base' v bs := ownsRow_mono h hb
theorem Own.shape {w : World} {base : Nat} {v : Value} {bs : List UInt8} (h : Own w base v bs) : ∃ ao cap, v = .slice ao bs.length cap := ownsRow_shape h
theorem Own.nil (w : World) (base : Nat) : Own w base (.slice none 0 0) [] := World.ownsRow_nil _ _ _ _

theorem Wr.lt {w : World} {blk : Nat} {sv : Value} {bits : List Bool} (h : Wr w blk sv bits) : blk < w.heap.size := World.block_lt_of_cell? w _ h.1

theorem WrStep.below {w w' : World} {blk : Nat} {sv sv' : Value} {bits : List Bool} (h : WrStep w blk sv w' sv') (hw : Wr w blk sv bits) : Below blk w w' := by
  have := hw.lt
  refine h.1.below (by omega) fun k hk => ?_
  rcases hk with rfl | hk
  · exact Nat.le_refl _
  · have := (hw.2.2.2.2.lt k hk).1; omega

theorem Wr.keep {w w' : World} {blk : Nat} {sv : Value} {bits : List Bool} {S : Nat → Prop} (h : Wr w blk sv bits) (hc : Chg S w w') (h0 : ¬ S blk) (h1 : ∀ k, sv.ownBlock = some k → ¬ S k) : Wr w' blk sv bits := by
  have hl := h.lt
  obtain ⟨c0, c1, f0, f1, ho⟩ := h
  exact ⟨(hc.cell (p := ⟨blk, 0, none⟩) hl h0).trans c0, (hc.cell (p := ⟨blk, 1, none⟩) hl h0).trans c1, (hc.frozen (p := ⟨blk, 0, none⟩) hl h0).trans f0, (hc.frozen (p := ⟨blk, 1, none⟩) hl h0).trans f1, hc.owns ho h1⟩
theorem Wr.below {w w' : World} {blk : Nat} {sv : Value} {bits : List Bool} (h : Wr w blk sv bits) (hc : Below w.heap.size w w') : Wr w' blk sv bits :=
  h.keep (S := fun _ => False) (Chg.ofBelowAny hc) (fun h => h) (fun _ _ h => h)

/-- A new writer's block. -/
def newWr : Obj := .cells #[.slice none 0 0, .int .i64 0] 100

theorem newWr_wr (w : World) : Wr (w.alloc newWr) w.heap.size (.slice none 0 0) [] := by
  refine ⟨by simp [newWr, World.cell?_alloc_new], by simp [newWr, World.cell?_alloc_new], by simp [newWr, go_sem], by simp [newWr, go_sem], ?_⟩
  simpa [pack8_nil] using World.ownsRow_nil _ _ _ _

set_option maxHeartbeats 400000 in
theorem newWriter_any (w : World) :
    Calls Tryd.prog 52 #[] w fun e w' => e = .returned (.pointer (some ⟨w.heap.size, 0, none⟩)) ∧ w.alloc newWr = w' := by
  go_enter Tryd.func52, Tryd.ntmps52
  go_wp2
  go_ret
  exact ⟨rfl, rfl⟩

set_option maxHeartbeats 400000 in
theorem putNone_any (blk : Nat) (v : Int) (n : Int) (hn : n ≤ 0) (w : World) :
    Calls Tryd.prog 53 #[.pointer (some ⟨blk, 0, none⟩), .int .u64 v, .int .i64 n] w fun e w' => e = .returned (.tuple #[]) ∧ w = w' := by
  go_enter Tryd.func53, Tryd.ntmps53
  go_wp2
  go_loopw [2] (fun i wr => i = .int .i64 n ∧ wr = w) (fun _ _ => 0)
  case atStart => exact ⟨rfl, rfl⟩
  case round =>
    obtain ⟨rfl, rfl⟩ := hrel
    go_wp2
    go_end0
    exact ⟨rfl, rfl⟩

set_option maxHeartbeats 400000 in
theorem putNil_any (v : Int) (n : Int) (w : World) :
    Calls Tryd.prog 53 #[.pointer none, .int .u64 v, .int .i64 n] w fun e w' => e = .returned (.tuple #[]) ∧ w = w' := by
  go_enter Tryd.func53, Tryd.ntmps53
  go_wp2
  exact bodyPost_ret (results_none rfl _ _ _) rfl ⟨rfl, rfl⟩

set_option maxHeartbeats 400000 in
theorem bytes_any (blk : Nat) (sv : Value) (bits : List Bool) (w : World) (hb : bits.length ≤ 1125899906842064) (hw : Wr w blk sv bits) :
    Calls Tryd.prog 59 #[.pointer (some ⟨blk, 0, none⟩)] w fun e w' => ∃ ao cap, e = .returned (.slice ao (pack8 bits).length cap) ∧ Own w' w.heap.size (.slice ao (pack8 bits).length cap) (pack8 bits) ∧ Below w.heap.size w w' := by
  have hl := hw.lt
  obtain ⟨c0, c1, f0, f1, ho⟩ := hw
  have h63 : 0 + (pack8 bits).length ≤ maxLen := by rw [length_pack8]; unfold maxLen; omega
  have hby : (0 + (pack8 bits).length) * 1 ≤ 140737488355328 := by rw [length_pack8]; omega
  go_enter Tryd.func59, Tryd.ntmps59
  go_wp2_with (at_builtin; refine wpList_append_rd _ rfl (.const (.slice none 0 0)) (.tmp 8) 33 rfl w.heap.size 5 (.int .u8 0) 1 1 Tryd.underlying33 infoU8 rfl (by decide) (.slice none 0 0) 0 [] rfl (World.ownsRow_nil _ _ _ _) sv _ _ rfl (RdV.ofOwns ho) (bV_one _) h63 hby (Nat.le_refl _) ?_; intro ao cap w1 hg)
  have HG := Lib.hid hg
  clear hg
  go_wp2
  go_ret
  obtain ⟨h1, h2, h3⟩ := HG.out
  simp only [Nat.zero_add, List.nil_append] at h1 h2 ⊢
  exact ⟨ao, cap, rfl, h1, (Chg.refl (fun _ => False) w).grown h2 (fun k _ h => by simp [Value.ownBlock] at h) |>.below (Nat.le_refl _) (fun _ h => h.elim)⟩

set_option maxHeartbeats 400000 in
theorem bytesNil_any (w : World) :
    Calls Tryd.prog 59 #[.pointer none] w fun e w' => e = .returned (.slice none 0 0) ∧ w = w' := by
  go_enter Tryd.func59, Tryd.ntmps59
  go_wp2
  go_ret
  exact ⟨rfl, rfl⟩



end Go.Proofs.YthcgalpabjjkoaaDoor

/- XEight: The eight bytes of a number: gristref01.Eight, bits.Tail. -/
namespace Go.Proofs.YthcgalpabjjkoaaDoor
open Go.RowKit
set_option linter.unusedVariables false

/-- The eight bytes of a number, the highest first. -/
def be8 (v : Nat) : List UInt8 := pack8 (bitsOf v 64)
theorem be8_len (v : Nat) : (be8 v).length = 8 := by simp [be8, length_pack8]

def part8 (v i : Nat) : List UInt8 := pack8 (bitsOf (v / 2 ^ (64 - 8 * i)) (8 * i))
theorem part8_len (v i : Nat) : (part8 v i).length = i := by simp [part8, length_pack8]; omega
theorem part8_next (v i : Nat) (hi : i < 8) : part8 v (i + 1) = part8 v i ++ [UInt8.ofNat (v / 2 ^ (56 - 8 * i))] := by
  unfold part8
  have e1 : v / 2 ^ (64 - 8 * i) = v / 2 ^ (64 - 8 * (i + 1)) / 2 ^ 8 := by
    rw [Nat.div_div_eq_div_mul, ← Nat.pow_add]
    congr 2
    omega
  rw [show 8 * (i + 1) = 8 * i + 8 by omega, bitsOf_split, e1, show 64 - 8 * (i + 1) = 64 - (8 * i + 8) by omega, pack8_append _ _ (by rw [length_bitsOf]; omega)]
  congr 1
  rw [pack8_one _ (by intro h; have := congrArg List.length h; simp at this) (by simp), num_bitsOf, length_bitsOf, show 64 - (8 * i + 8) = 56 - 8 * i by omega]
  have e2 : UInt8.ofNat (v / 2 ^ (56 - 8 * i) % 256) = UInt8.ofNat (v / 2 ^ (56 - 8 * i)) := by
    apply UInt8.toNat_inj.1
    rw [UInt8.toNat_ofNat', UInt8.toNat_ofNat']
    omega
  simpa using e2

theorem byte_of (v s : Nat) : ((UInt8.ofNat (v / 2 ^ s)).toNat : Int) = (v : Int) / 2 ^ s % 256 := by
  rw [UInt8.toNat_ofNat']
  have e : ((v : Int) / 2 ^ s) = ((v / 2 ^ s : Nat) : Int) := by simp
  rw [e]
  omega

set_option maxHeartbeats 1000000 in
theorem eight_any (v : Nat) (hv : v < 18446744073709551616) (w : World) :
    Calls Tryd.prog 22 #[.int .u64 (v : Int)] w fun e w' => ∃ ao cap, e = .returned (.slice ao (be8 v).length cap) ∧ Own w' w.heap.size (.slice ao (be8 v).length cap) (be8 v) ∧ Below w.heap.size w w' := by
  go_enter Tryd.func22, Tryd.ntmps22
  go_wp2_with fail
  go_loopg [3, 5] 8 (fun m s3 s5 wr => ∃ (i : Nat) (ps : List UInt8) (ao : Option Addr) (cap : Nat), i + m = 8 ∧ s5 = .int .i64 (i : Int) ∧ s3 = .slice ao ps.length cap ∧ ps.length ≤ i ∧ Hid (ps = part8 v i) ∧ Hid (Own wr w.heap.size (.slice ao ps.length cap) ps) ∧ Hid (Below w.heap.size w wr))
  case atStart => exact ⟨0, [], none, 0, rfl, rfl, rfl, by simp, Lib.hid (List.eq_nil_of_length_eq_zero (part8_len v 0)).symm, Lib.hid (Own.nil _ _), Lib.hid (Below.refl _ _)⟩
  case round =>
    obtain ⟨i, ps, ao, cap, hm, rfl, rfl, hl8, hps, hO, hB⟩ := hrel
    by_cases h0 : gk = 0
    · obtain rfl : i = 8 := by omega
      clear hm
      have e8 : part8 v 8 = be8 v := by unfold part8 be8; simp
      rw [e8] at hps
      go_wp2_with fail
      go_ret
      have := hps.out
      subst this
      exact ⟨ao, cap, rfl, hO.out, hB.out⟩
    · have hi : i < 8 := by omega
      have hM := Lib.hid hm
      have HN := Lib.hid (part8_next v i hi)
      have hbs := hB.out.size
      clear hm
      have hcase : i = 0 ∨ i = 1 ∨ i = 2 ∨ i = 3 ∨ i = 4 ∨ i = 5 ∨ i = 6 ∨ i = 7 := by omega
      have h63 : ps.length + 1 ≤ maxLen := by unfold maxLen; omega
      have hby : (ps.length + 1) * 1 ≤ 140737488355328 := by omega
      have hba : ∀ o, w.heap.size ≤ (wr.alloc o).heap.size := fun o => by simp; omega
      have hB8 := Lib.hid (byte_of v (56 - 8 * i))
      rcases hcase with rfl | rfl | rfl | rfl | rfl | rfl | rfl | rfl
      all_goals go_wp2_with (at_builtin; refine wpList_append_rd _ rfl (.tmp 8) (.tmp 16) 33 rfl w.heap.size 5 (.int .u8 0) 1 1 Tryd.underlying33 infoU8 rfl (by decide) (.slice ao ps.length cap) _ _ rfl (World.ownsRow.alloc hO.out _) (.slice (some ⟨wr.heap.size, 0, none⟩) 1 1) 1 _ rfl (RdV.one _ _ _) (one_one _ rfl) h63 hby (hba _) ?_; intro ao6 cap6 w6 hg6; have HG := Lib.hid hg6.ofAlloc; clear hg6)
      all_goals go_roundg (gk - 1)
      all_goals (try (case measure => go_light; omega))
      all_goals go_light
      all_goals (have hM' := hM.out)
      all_goals (have hg := HG.out)
      all_goals (have hp := hps.out)
      all_goals (have hn := HN.out)
      all_goals (rw [← hp] at hn)
      all_goals (have hlt := fun k hk => (hO.out.lt k hk).1)
      all_goals (have hB6 := Lib.hid (hB.out.trans (hg.below hbs hlt)))
      all_goals (refine ⟨_, _, ao6, cap6, ?_, rfl, ?_, ?_, Lib.hid hn.symm, Lib.hid ?_, hB6⟩)
      all_goals first
        | omega
        | (simp; done)
        | (simp; omega)
        | (simp; exact List.eq_nil_of_length_eq_zero (by omega))
        | (have ho := hg.owns
           have key : ∀ E : Int, E = _ → Value.int .u8 E = bV _ := fun E h => congrArg (Value.int .u8) (h.trans hB8.out.symm)
           unfold Own
           rw [List.length_append, List.map_append]
           rw [key] at ho
           · exact ho
           · first | (simp; done) | (simp; omega) | omega)

set_option maxHeartbeats 400000 in
theorem tail_any (v : Nat) (hv : v < 18446744073709551616) (w : World) :
    Calls Tryd.prog 33 #[.int .u64 (v : Int), .int .i64 8] w fun e w' => ∃ ao cap, e = .returned (.slice ao (be8 v).length cap) ∧ Own w' w.heap.size (.slice ao (be8 v).length cap) (be8 v) ∧ Below w.heap.size w w' := by
  go_enter Tryd.func33, Tryd.ntmps33
  go_wp2_with fail
  refine (newWriter_any w).mono ?_
  rintro e w2 ⟨rfl, rfl⟩
  go_wp2_with fail
  refine (put_any w.heap.size v 64 (by omega) (by omega) _ _ _ hv (by simp) (newWr_wr w)).mono ?_
  rintro e w3 ⟨rfl, sv, hw, hs⟩
  have HS := Lib.hid (((Below.refl w.heap.size w).alloc (Nat.le_refl _) newWr).trans (WrStep.below hs (newWr_wr w)))
  rw [List.nil_append] at hw
  have ho : Own w3 w.heap.size sv (be8 v) := ownsRow_mono hw.2.2.2.2 (by omega)
  obtain ⟨ao, cap, rfl⟩ := ho.shape
  have HO := Lib.hid ho
  have c0 := hw.1
  clear hw hs ho
  go_wp2_with fail
  go_ret
  exact ⟨ao, cap, rfl, HO.out, HS.out⟩
end Go.Proofs.YthcgalpabjjkoaaDoor

/- XBytes: Bytes in memory and as numbers, whatever the package: a literal, an append of bytes, the number of so many bytes, Tail, Two. -/
namespace Go.Proofs.YthcgalpabjjkoaaDoor
open Go.RowKit
set_option linter.unusedVariables false

theorem be8_eq (v : Nat) : be8 v = [UInt8.ofNat (v / 2 ^ 56), UInt8.ofNat (v / 2 ^ 48), UInt8.ofNat (v / 2 ^ 40), UInt8.ofNat (v / 2 ^ 32), UInt8.ofNat (v / 2 ^ 24), UInt8.ofNat (v / 2 ^ 16), UInt8.ofNat (v / 2 ^ 8), UInt8.ofNat (v / 2 ^ 0)] := by
  have e8 : part8 v 8 = be8 v := by unfold part8 be8; simp
  have e0 : part8 v 0 = [] := List.eq_nil_of_length_eq_zero (part8_len v 0)
  rw [← e8, part8_next v 7 (by omega), part8_next v 6 (by omega), part8_next v 5 (by omega), part8_next v 4 (by omega), part8_next v 3 (by omega), part8_next v 2 (by omega), part8_next v 1 (by omega), part8_next v 0 (by omega), e0]
  rfl

/-- append of bytes that read onto the call's own bytes. -/
theorem wpList_append_bs (w : World) {ops : Array Oper} {rest : List Oper} {o : Oper} {a : Act} {Q : Exit → Act → World → Prop} (hgd : o.guard = none) (s x : Operand)
    (ho : o.op = .call { callee := .builtin .append, args := #[s, x], argTypes := #[33, 33] })
    (base : Nat) (v : Value) (ps : List UInt8) (hs : a.eval s = v) (hown : Own w base v ps) (xv : Value) (bs : List UInt8) (hx : a.eval x = xv) (hrd : Rd w xv bs)
    (hlen : ps.length + bs.length ≤ 140737488355328) (hbase : base ≤ w.heap.size)
    (h : ∀ ao cap w', Grew w w' base 5 1 v (.slice ao (ps ++ bs).length cap) (ps ++ bs).length ((ps ++ bs).map bV) → wpList Tryd.prog ops Q rest (a.put o.dst (.slice ao (ps ++ bs).length cap)) w') : wpList Tryd.prog ops Q (o :: rest) a w := by
  refine wpList_append_rd w hgd s x 33 ho base 5 (.int .u8 0) 1 1 Tryd.underlying33 infoU8 rfl (by decide) v ps.length (ps.map bV) hs hown xv bs.length (bs.map bV) hx hrd (bV_one _) (by unfold maxLen; omega) (by omega) hbase ?_
  intro ao cap w' hg
  have := h ao cap w'
  rw [List.length_append, List.map_append] at this
  exact this hg

theorem bits8_drop : ∀ (k : Nat) (bs : List UInt8), (bits8 bs).drop (8 * k) = bits8 (bs.drop k)
  | 0, bs => rfl
  | k + 1, [] => by simp
  | k + 1, b :: r => by
    rw [bits8_cons, List.drop_succ_cons, ← bits8_drop k r]
    have e : 8 * (k + 1) = (bitsOf b.toNat 8).length + 8 * k := by simp; omega
    rw [e, List.drop_length_add_append]
theorem bits8_take : ∀ (k : Nat) (bs : List UInt8), (bits8 bs).take (8 * k) = bits8 (bs.take k)
  | 0, bs => rfl
  | k + 1, [] => by simp
  | k + 1, b :: r => by
    rw [bits8_cons, List.take_succ_cons, bits8_cons, ← bits8_take k r]
    have e : 8 * (k + 1) = (bitsOf b.toNat 8).length + 8 * k := by simp; omega
    rw [e, List.take_length_add_append]

/-- The number of the first n bytes, the highest first. -/
def rdN (n : Nat) (bs : List UInt8) : Nat := num (bits8 (bs.take n))
theorem rdN_zero (bs : List UInt8) : rdN 0 bs = 0 := rfl
theorem rdN_next (n : Nat) (bs : List UInt8) (h : n < bs.length) : rdN (n + 1) bs = rdN n bs * 256 + (bs[n]).toNat := by
  unfold rdN
  rw [List.take_succ_eq_append_getElem h, bits8_append, num_append]
  have e : bits8 [bs[n]] = bitsOf bs[n].toNat 8 := by rw [bits8_cons]; simp
  have hx := bs[n].toNat_lt
  rw [e, num_bitsOf, length_bitsOf]
  omega
theorem rdN_lt (n : Nat) (bs : List UInt8) : rdN n bs < 2 ^ (8 * n) := by
  unfold rdN
  refine Nat.lt_of_lt_of_le (num_lt _) (Nat.pow_le_pow_right (by omega) ?_)
  simp
  omega

theorem be8_bits (v : Nat) : bits8 (be8 v) = bitsOf v 64 := by
  unfold be8
  rw [bits8_pack8]
  simp

theorem rd_be8 (v : Nat) (hv : v < 18446744073709551616) (r : List UInt8) : rdN 8 (be8 v ++ r) = v := by
  unfold rdN
  rw [show (8 : Nat) = (be8 v).length by rw [be8_len], List.take_left, be8_bits, num_bitsOf]
  exact Nat.mod_eq_of_lt hv

def beN (n v : Nat) : List UInt8 := pack8 (bitsOf v (8 * n))
theorem beN_len (n v : Nat) : (beN n v).length = n := by simp [beN, length_pack8]; omega
theorem beN_8 (v : Nat) : beN 8 v = be8 v := rfl

set_option maxHeartbeats 400000 in
theorem tailn_any (v n : Nat) (h1 : 1 ≤ n) (h8 : n ≤ 8) (hv : v < 18446744073709551616) (w : World) :
    Calls Tryd.prog 33 #[.int .u64 (v : Int), .int .i64 (n : Int)] w fun e w' => ∃ ao cap, e = .returned (.slice ao (beN n v).length cap) ∧ Own w' w.heap.size (.slice ao (beN n v).length cap) (beN n v) ∧ Below w.heap.size w w' := by
  obtain ⟨m, hm⟩ : ∃ m, m = 8 * n := ⟨_, rfl⟩
  have hmI : (8 : Int) * (n : Int) = (m : Int) := by omega
  have hp := put_any w.heap.size v m (by omega) (by omega) (.slice none 0 0) [] _ hv (by simp) (newWr_wr w)
  rw [List.nil_append] at hp
  have HM := Lib.hid hm
  clear hm
  go_enter Tryd.func33, Tryd.ntmps33
  go_wp2_with fail
  refine (newWriter_any w).mono ?_
  rintro e w2 ⟨rfl, rfl⟩
  go_wp2_with fail
  refine hp.mono ?_
  rintro e w3 ⟨rfl, sv, hw, hs⟩
  have HS := Lib.hid (((Below.refl w.heap.size w).alloc (Nat.le_refl _) newWr).trans (WrStep.below hs (newWr_wr w)))
  have ho : Own w3 w.heap.size sv (beN n v) := by
    have := hw.2.2.2.2
    rw [HM.out] at this
    exact ownsRow_mono this (by omega)
  obtain ⟨ao, cap, rfl⟩ := ho.shape
  have HO := Lib.hid ho
  have c0 := hw.1
  clear hw hs ho hp
  go_wp2_with fail
  go_ret
  exact ⟨ao, cap, rfl, HO.out, HS.out⟩

theorem beN_two (v : Nat) : beN 2 v = [UInt8.ofNat (v / 256), UInt8.ofNat v] := by
  unfold beN
  rw [show 8 * 2 = 8 + 8 by rfl, bitsOf_split, pack8_append _ _ (by simp), pack8_one _ (by intro h; have := congrArg List.length h; simp at this) (by simp), pack8_one _ (by intro h; have := congrArg List.length h; simp at this) (by simp), num_bitsOf, num_bitsOf]
  simp only [length_bitsOf, Nat.sub_self, Nat.pow_zero, Nat.mul_one]
  have e : ∀ x : Nat, UInt8.ofNat (x % 2 ^ 8) = UInt8.ofNat x := fun x => by
    apply UInt8.toNat_inj.1
    simp
  rw [e, e]
  rfl

set_option maxHeartbeats 400000 in
theorem two_any (n : Nat) (hn : n < 65536) (w : World) :
    Calls Tryd.prog 39 #[.int .i64 (n : Int)] w fun e w' => ∃ ao cap, e = .returned (.slice ao (beN 2 n).length cap) ∧ Own w' w.heap.size (.slice ao (beN 2 n).length cap) (beN 2 n) ∧ Below w.heap.size w w' := by
  have e1 : ((UInt8.ofNat (n / 256)).toNat : Int) = (n : Int) / 256 := by rw [UInt8.toNat_ofNat']; omega
  have e2 : ((UInt8.ofNat n).toNat : Int) = (n : Int) % 256 := by rw [UInt8.toNat_ofNat']; omega
  have HE1 := Lib.hid e1
  have HE2 := Lib.hid e2
  clear e1 e2
  go_enter Tryd.func39, Tryd.ntmps39
  go_wp2_with fail
  go_ret
  refine ⟨some ⟨w.heap.size, 0, none⟩, 2, by rw [beN_len]; rfl, ?_, (Below.refl w.heap.size w).alloc (Nat.le_refl _) _⟩
  rw [beN_two]
  unfold Own
  simp only [List.map_cons, List.map_nil, bV, HE1.out, HE2.out]
  exact World.ownsRow_lit w _ 2 (Nat.le_refl _) (by decide) rfl
end Go.Proofs.YthcgalpabjjkoaaDoor

/- XReadAt: gristref01.ReadAt: the number of the next bytes. -/
namespace Go.Proofs.YthcgalpabjjkoaaDoor
open Go.RowKit
set_option linter.unusedVariables false

theorem readAt_step (x c : Nat) (hx : x < 72057594037927936) (hc : c < 256) : bits BinOp.or IntKind.u64 ((x : Int) * 256) (c : Int) = ((x * 256 + c : Nat) : Int) := by
  have h1 : ((x : Int) * 256) = ((x * 256 : Nat) : Int) := by simp
  rw [h1, u64_or_nat _ _ (by omega) (by omega)]
  congr 1
  have := Nat.two_pow_add_eq_or_of_lt (i := 8) (b := c) (by omega) x
  rw [Nat.mul_comm x 256]
  exact this.symm

end Go.Proofs.YthcgalpabjjkoaaDoor

/- XReader: The contracts of bits.NewReader, (*Reader).Get, Left and Bad. -/
namespace Go.Proofs.YthcgalpabjjkoaaDoor
open Go.RowKit

/-- A reader of the bytes bs that lies at block blk, its memory in the blocks lo .. hi - 1; so many bits are read; whether there were too few. -/
def Rdr (w : World) (blk lo hi : Nat) (bs : List UInt8) (pos : Nat) (bad : Bool) : Prop :=
  ∃ sv, w.cell? ⟨blk, 0, none⟩ = some sv ∧ w.cell? ⟨blk, 1, none⟩ = some (.int .i64 (pos : Nat)) ∧ w.cell? ⟨blk, 2, none⟩ = some (.bool bad) ∧ w.frozen? ⟨blk, 1, none⟩ = false ∧ w.frozen? ⟨blk, 2, none⟩ = false ∧
    Rd w sv bs ∧ (∀ k, sv.ownBlock = some k → lo ≤ k ∧ k < hi ∧ k ≠ blk) ∧ lo ≤ blk ∧ blk < hi ∧ hi ≤ w.heap.size ∧ pos ≤ 8 * bs.length ∧ bs.length ≤ 140737488355328

theorem Rdr.keep {w w' : World} {blk lo hi pos : Nat} {bs : List UInt8} {bad : Bool} {S : Nat → Prop} (h : Rdr w blk lo hi bs pos bad) (hc : Chg S w w') (hs : ∀ k, lo ≤ k → k < hi → ¬ S k) : Rdr w' blk lo hi bs pos bad := by
  obtain ⟨sv, c0, c1, c2, f1, f2, hr, hb, h1, h2, h3, h4, h5⟩ := h
  have hl : blk < w.heap.size := by omega
  have hS := hs blk h1 h2
  exact ⟨sv, (hc.cell (p := ⟨blk, 0, none⟩) hl hS).trans c0, (hc.cell (p := ⟨blk, 1, none⟩) hl hS).trans c1, (hc.cell (p := ⟨blk, 2, none⟩) hl hS).trans c2, (hc.frozen (p := ⟨blk, 1, none⟩) hl hS).trans f1, (hc.frozen (p := ⟨blk, 2, none⟩) hl hS).trans f2,
    RdV.chg hr hc (fun k hk => hs k (hb k hk).1 (hb k hk).2.1), hb, h1, h2, by have := hc.size; omega, h4, h5⟩
theorem Rdr.below {w w' : World} {blk lo hi pos : Nat} {bs : List UInt8} {bad : Bool} (h : Rdr w blk lo hi bs pos bad) (hc : Below w.heap.size w w') : Rdr w' blk lo hi bs pos bad :=
  h.keep (S := fun _ => False) (Chg.ofBelowAny hc) (fun _ _ _ h => h)

set_option maxHeartbeats 400000 in
theorem newReader_any (v : Value) (bs : List UInt8) (w : World) (hl : bs.length ≤ 140737488355328) (hr : Rd w v bs) :
    Calls Tryd.prog 42 #[v] w fun e w' => ∃ blk, e = .returned (.pointer (some ⟨blk, 0, none⟩)) ∧ Rdr w' blk w.heap.size w'.heap.size bs 0 false ∧ Below w.heap.size w w' := by
  have h63 : 0 + bs.length ≤ maxLen := by unfold maxLen; omega
  have hby : (0 + bs.length) * 1 ≤ 140737488355328 := by omega
  go_enter Tryd.func42, Tryd.ntmps42
  go_wp2_with (at_builtin; refine wpList_append_rd _ rfl (.const (.slice none 0 0)) (.tmp 3) 33 rfl w.heap.size 5 (.int .u8 0) 1 1 Tryd.underlying33 infoU8 rfl (by decide) (.slice none 0 0) 0 [] rfl (World.ownsRow_nil _ _ _ _) v _ _ rfl hr (bV_one _) h63 hby (Nat.le_refl _) ?_; intro ao cap w1 hg; have HG := Lib.hid hg; clear hg)
  go_ret
  obtain ⟨h1, h2, h3⟩ := HG.out
  have hbel : Below w.heap.size w w1 := (Below.refl _ _).grown h2 (Nat.le_refl _) (fun k h => by simp [Value.ownBlock] at h)
  have hsz := hbel.size
  simp only [Nat.zero_add, List.nil_append] at h1 ⊢
  refine ⟨w1.heap.size, rfl, ⟨_, by simp [World.cell?_alloc_new], by simp [World.cell?_alloc_new], by simp [World.cell?_alloc_new], by simp [go_sem], by simp [go_sem], (RdV.ofOwns h1).alloc _, ?_, hsz, by simp, Nat.le_refl _, Nat.zero_le _, hl⟩, hbel.alloc hsz _⟩
  intro k hk
  have := h1.lt k hk
  simp
  omega

set_option maxHeartbeats 400000 in
theorem bad_any (blk lo hi pos : Nat) (bs : List UInt8) (bad : Bool) (w : World) (hr : Rdr w blk lo hi bs pos bad) :
    Calls Tryd.prog 69 #[.pointer (some ⟨blk, 0, none⟩)] w fun e w' => e = .returned (.bool bad) ∧ w = w' := by
  obtain ⟨sv, c0, c1, c2, _⟩ := hr
  go_enter Tryd.func69, Tryd.ntmps69
  go_wp2
  go_ret
  exact ⟨rfl, rfl⟩

set_option maxHeartbeats 400000 in
theorem badNil_any (w : World) :
    Calls Tryd.prog 69 #[.pointer none] w fun e w' => e = .returned (.bool true) ∧ w = w' := by
  go_enter Tryd.func69, Tryd.ntmps69
  go_wp2
  go_ret
  exact ⟨rfl, rfl⟩

theorem below_drewN {w : World} (n : Nat) : Below w.heap.size w (w.drewN n) := ⟨rfl, rfl, rfl, Nat.le_refl _, fun _ _ => rfl⟩

set_option maxHeartbeats 400000 in
theorem left_any (blk lo hi pos : Nat) (bs : List UInt8) (bad : Bool) (w : World) (hr : Rdr w blk lo hi bs pos bad) :
    Calls Tryd.prog 70 #[.pointer (some ⟨blk, 0, none⟩)] w fun e w' => e = .returned (.int .i64 (if bad then 0 else ((8 * bs.length - pos : Nat) : Int))) ∧ ∃ n, w' = w.drewN n := by
  have hr' := hr
  obtain ⟨sv, c0, c1, c2, f1, f2, hrd, hb, h1, h2, h3, h4, h5⟩ := hr
  obtain ⟨ao, cap, rfl, hlc, hcm⟩ := RdV.shape hrd
  cases bad with
  | true =>
    go_enter Tryd.func70, Tryd.ntmps70
    go_wp2_with (go_at_call 69; refine (bad_any _ _ _ _ _ _ _ hr').mono ?_; rintro e w' ⟨rfl, rfl⟩)
    go_ret
    exact ⟨rfl, 0, rfl⟩
  | false =>
    go_enter Tryd.func70, Tryd.ntmps70
    go_wp2_with (go_at_call 69; refine (bad_any _ _ _ _ _ _ _ hr').mono ?_; rintro e w' ⟨rfl, rfl⟩)
    go_quiet (fail)
    go_wp2
    go_ret
    exact ⟨by simp; omega, nq, rfl⟩

set_option maxHeartbeats 400000 in
theorem leftNil_any (w : World) :
    Calls Tryd.prog 70 #[.pointer none] w fun e w' => e = .returned (.int .i64 0) ∧ w = w' := by
  go_enter Tryd.func70, Tryd.ntmps70
  go_wp2_with (go_at_call 69; refine (badNil_any _).mono ?_; rintro e w' ⟨rfl, rfl⟩)
  go_ret
  exact ⟨rfl, rfl⟩

set_option maxHeartbeats 400000 in
theorem getNil_any (n : Int) (w : World) :
    Calls Tryd.prog 43 #[.pointer none, .int .i64 n] w fun e w' => e = .returned (.int .u64 0) ∧ w = w' := by
  go_enter Tryd.func43, Tryd.ntmps43
  go_wp2_with (go_at_call 69; refine (badNil_any _).mono ?_; rintro e w' ⟨rfl, rfl⟩)
  go_ret
  exact ⟨rfl, rfl⟩

set_option maxHeartbeats 400000 in
theorem getBad_any (blk lo hi pos : Nat) (bs : List UInt8) (n : Int) (w : World) (hr : Rdr w blk lo hi bs pos true) :
    Calls Tryd.prog 43 #[.pointer (some ⟨blk, 0, none⟩), .int .i64 n] w fun e w' => e = .returned (.int .u64 0) ∧ w = w' := by
  go_enter Tryd.func43, Tryd.ntmps43
  go_wp2_with (go_at_call 69; refine (bad_any _ _ _ _ _ _ _ hr).mono ?_; rintro e w' ⟨rfl, rfl⟩)
  go_ret
  exact ⟨rfl, rfl⟩

set_option maxHeartbeats 400000 in
theorem getOut_any (blk lo hi pos : Nat) (bs : List UInt8) (n : Int) (hn : n < 1 ∨ 64 < n) (w : World) (hr : Rdr w blk lo hi bs pos false) :
    Calls Tryd.prog 43 #[.pointer (some ⟨blk, 0, none⟩), .int .i64 n] w fun e w' => e = .returned (.int .u64 0) ∧ w = w' := by
  by_cases h1 : n < 1
  · go_enter Tryd.func43, Tryd.ntmps43
    go_wp2_with (go_at_call 69; refine (bad_any _ _ _ _ _ _ _ hr).mono ?_; rintro e w' ⟨rfl, rfl⟩)
    go_ret
    exact ⟨rfl, rfl⟩
  · have h2 : 64 < n := by omega
    go_enter Tryd.func43, Tryd.ntmps43
    go_wp2_with (go_at_call 69; refine (bad_any _ _ _ _ _ _ _ hr).mono ?_; rintro e w' ⟨rfl, rfl⟩)
    go_ret
    exact ⟨rfl, rfl⟩

/-- A read has too few bits: the reader is bad from then on. -/
theorem getFew_any (blk lo hi pos : Nat) (bs : List UInt8) (n : Int) (h1n : 1 ≤ n) (h64 : n ≤ 64) (hfew : ((8 * bs.length - pos : Nat) : Int) < n) (w : World) (hr : Rdr w blk lo hi bs pos false) :
    Calls Tryd.prog 43 #[.pointer (some ⟨blk, 0, none⟩), .int .i64 n] w fun e w' => e = .returned (.int .u64 0) ∧ Rdr w' blk lo hi bs pos true ∧ Chg (fun k => k = blk) w w' := by
  have hr0 := hr
  obtain ⟨sv, c0, c1, c2, f1, f2, hrd, hb, h1, h2, h3, h4, h5⟩ := hr
  have hlft := left_any blk lo hi pos bs false w hr0
  simp only [Bool.false_eq_true, if_false] at hlft
  go_enter Tryd.func43, Tryd.ntmps43
  go_wp2_with (first | (go_at_call 69; refine (bad_any _ _ _ _ _ _ _ hr0).mono ?_; rintro e w' ⟨rfl, rfl⟩) | (go_at_call 70; refine hlft.mono ?_; rintro e w' ⟨rfl, nq, rfl⟩))
  go_ret
  have hc : Chg (fun k => k = blk) w ((w.drewN nq).setCell ⟨blk, 2, none⟩ (.bool true)) := (show Chg (fun k => k = blk) w (w.drewN nq) from ⟨rfl, rfl, rfl, Nat.le_refl _, fun _ _ _ => rfl⟩).setCell (p := ⟨blk, 2, none⟩) (fun _ => rfl) _
  refine ⟨rfl, ⟨sv, ?_, ?_, ?_, ?_, ?_, RdV.chg hrd hc (fun k hk => (hb k hk).2.2), hb, h1, h2, by simpa using h3, h4, h5⟩, hc⟩
  · simp [go_sem, c0]
  · simp [go_sem, c1]
  · simp [go_sem, c2]
  · simp [go_sem, f1]
  · simp [go_sem, f2]

theorem get_byte (x : UInt8) (v p c : Nat) (hp : p < 8) (h1 : 1 ≤ c) (hc : p + c ≤ 8) (hv : v * 2 ^ c + x.toNat / 2 ^ (8 - p - c) % 2 ^ c < 18446744073709551616) :
    Go.bits .or .u64 (IntKind.u64.wrap ((v : Int) * 2 ^ c)) (IntKind.u64.wrap (Go.bits .and .u8 ((x.toNat : Int) / 2 ^ (8 - p - c)) (((2 : Int) ^ c - 1) % 256))) = ((v * 2 ^ c + x.toNat / 2 ^ (8 - p - c) % 2 ^ c : Nat) : Int) := by
  have hx := x.toNat_lt
  have hcp : (2 : Nat) ^ c ≤ 256 := Nat.pow_le_pow_right (n := 2) (by omega) (show c ≤ 8 by omega)
  have hcp1 : 2 ≤ (2 : Nat) ^ c := by have := Nat.pow_le_pow_right (n := 2) (by omega) h1; omega
  have e0 : (2 : Int) ^ c = ((2 ^ c : Nat) : Int) := by simp
  have e1 : ((2 : Int) ^ c - 1) % 256 = ((2 ^ c - 1 : Nat) : Int) := by rw [e0]; omega
  have e2 : ((x.toNat : Int) / 2 ^ (8 - p - c)) = ((x.toNat / 2 ^ (8 - p - c) : Nat) : Int) := by simp
  have hd : x.toNat / 2 ^ (8 - p - c) < 256 := Nat.lt_of_le_of_lt (Nat.div_le_self _ _) hx
  have e3 : (v : Int) * 2 ^ c = ((v * 2 ^ c : Nat) : Int) := by simp
  have hm : x.toNat / 2 ^ (8 - p - c) % 2 ^ c < 2 ^ c := Nat.mod_lt _ (by omega)
  rw [e1, e2, u8_and_nat _ _ hd (by omega), Nat.and_two_pow_sub_one_eq_mod, e3, IntWalk.u64_in _ (by omega), IntWalk.u64_in _ (by omega), u64_or_nat _ _ (by omega) (by omega), nat_join c _ _ (by simp) hm]

set_option maxHeartbeats 1000000 in
theorem getSome_any (blk lo hi pos : Nat) (bs : List UInt8) (N : Nat) (h1n : 1 ≤ N) (h64 : N ≤ 64) (hmany : N ≤ 8 * bs.length - pos) (w : World) (hr : Rdr w blk lo hi bs pos false) :
    Calls Tryd.prog 43 #[.pointer (some ⟨blk, 0, none⟩), .int .i64 N] w fun e w' => e = .returned (.int .u64 (num (((bits8 bs).drop pos).take N) : Nat)) ∧ Rdr w' blk lo hi bs (pos + N) false ∧ Chg (fun k => k = blk) w w' := by
  have hlft := left_any blk lo hi pos bs false w hr
  simp only [Bool.false_eq_true, if_false] at hlft
  have hd1 : decide (8 * bs.length - pos < N) = false := by simp; omega
  have hd2 : decide ((N : Int) < 1) = false := by simp; omega
  have hd3 : decide (64 < (N : Int)) = false := by simp; omega
  go_enter Tryd.func43, Tryd.ntmps43
  go_wp2_with (first | (go_at_call 69; refine (bad_any _ _ _ _ _ _ _ hr).mono ?_; rintro e w' ⟨rfl, rfl⟩) | (go_at_call 70; refine hlft.mono ?_; rintro e w' ⟨rfl, nq, rfl⟩))
  go_loopg [1, 5] N (fun k s1 s5 wr => k ≤ N ∧ s1 = .int .i64 (k : Nat) ∧ s5 = .int .u64 (num (((bits8 bs).drop pos).take (N - k)) : Nat) ∧ Rdr wr blk lo hi bs (pos + (N - k)) false ∧ Chg (fun k => k = blk) w wr)
  case atStart => exact ⟨Nat.le_refl _, rfl, by simp [num], by simpa using hr.below (below_drewN nq), ⟨rfl, rfl, rfl, Nat.le_refl _, fun _ _ _ => rfl⟩⟩
  case round =>
    obtain ⟨hk, rfl, rfl, hrr, hch⟩ := hrel
    clear hr hlft
    by_cases h0 : gk = 0
    · subst h0
      have H1 := Lib.hid hrr
      have H2 := Lib.hid hch
      clear hrr hch
      go_wp2
      go_ret
      exact ⟨rfl, H1.out, H2.out⟩
    · obtain ⟨cp, hcp⟩ : ∃ cp, cp = pos + (N - gk) := ⟨_, rfl⟩
      rw [← hcp] at hrr
      obtain ⟨sv, c0, c1, c2, f1, f2, hrd, hb, h1, h2, h3, h4, h5⟩ := hrr
      have hq : cp / 8 < bs.length := by omega
      obtain ⟨b, off, cap, rfl, hcell⟩ := rdOne hrd (cp / 8) hq
      have hbl := bs[cp / 8].toNat_lt
      obtain ⟨bt, hbt⟩ : ∃ bt : UInt8, bt = bs[cp / 8] := ⟨_, rfl⟩
      rw [← hbt] at hcell hbl
      obtain ⟨vv, hvv⟩ : ∃ vv : Nat, vv = num (((bits8 bs).drop pos).take (N - gk)) := ⟨_, rfl⟩
      rw [← hvv]
      have hvlt : vv < 2 ^ 64 := by
        have := num_lt (((bits8 bs).drop pos).take (N - gk))
        have h2 : (2 : Nat) ^ (((bits8 bs).drop pos).take (N - gk)).length ≤ 2 ^ 64 := Nat.pow_le_pow_right (by omega) (by simp; omega)
        omega
      have HCP := Lib.hid hcp
      have HBT := Lib.hid hbt
      have HVV := Lib.hid hvv
      have HRD := Lib.hid hrd
      have HB := Lib.hid hb
      have HCH := Lib.hid hch
      clear hcp hbt hvv hrd hb hch
      go_upto_region 9 with fail
      go_cut [7] (fun s7 wx => wx = wr ∧ ∃ c : Nat, s7 = .int .i64 (c : Nat) ∧ 1 ≤ c ∧ c ≤ gk ∧ c + cp % 8 ≤ 8)
      case first =>
        go_wp2_with fail
        all_goals go_meet
        all_goals go_light
        · exact ⟨rfl, gk, rfl, by omega, by omega, by omega⟩
        · exact ⟨rfl, 8 - cp % 8, by congr 1; omega, by omega, by omega, by omega⟩
      case rest =>
        obtain ⟨rfl, c, rfl, hc1', hc2', hc3'⟩ := hcut
        go_upto_region 10 with fail
        go_quiet (fail)
        go_wp2
        go_roundg (gk - c)
        case measure => go_light; omega
        case rel =>
          go_light
          have e1 : N - (gk - c) = (N - gk) + c := by omega
          have e2 : ((bits8 bs).drop pos).take (N - (gk - c)) = ((bits8 bs).drop pos).take (N - gk) ++ bitsOf (bt.toNat / 2 ^ (8 - cp % 8 - c)) c := by
            rw [e1, List.take_add, List.drop_drop, ← HCP.out, HBT.out, bits8_piece bs cp c hq (by omega)]
          have e3 : num (((bits8 bs).drop pos).take (N - (gk - c))) = vv * 2 ^ c + bt.toNat / 2 ^ (8 - cp % 8 - c) % 2 ^ c := by
            rw [e2, num_append, num_bitsOf, length_bitsOf, ← HVV.out]
          have e4 : num (((bits8 bs).drop pos).take (N - (gk - c))) < 18446744073709551616 := by
            have := num_lt (((bits8 bs).drop pos).take (N - (gk - c)))
            have h2 : (2 : Nat) ^ (((bits8 bs).drop pos).take (N - (gk - c))).length ≤ 2 ^ 64 := Nat.pow_le_pow_right (by omega) (by simp; omega)
            omega
          rw [e3] at e4
          have e5 : pos + (N - (gk - c)) = cp + c := by have := HCP.out; omega
          have hc : Chg (fun k => k = blk) wc ((wc.drewN nq).setCell ⟨blk, 1, none⟩ (.int .i64 ((cp : Int) + (c : Int)))) := (show Chg (fun k => k = blk) wc (wc.drewN nq) from ⟨rfl, rfl, rfl, Nat.le_refl _, fun _ _ _ => rfl⟩).setCell (p := ⟨blk, 1, none⟩) (fun _ => rfl) _
          rw [e3, e5, get_byte bt vv (cp % 8) c (by omega) hc1' (by omega) e4]
          refine ⟨by omega, by congr 1; omega, rfl, ⟨_, ?_, ?_, ?_, ?_, ?_, RdV.chg HRD.out hc (fun k hk => (HB.out k hk).2.2), HB.out, h1, h2, by simpa using h3, by omega, h5⟩, HCH.out.trans hc⟩
          · simp [go_sem, c0]
          · simp [go_sem, c1]
          · simp [go_sem, c2]
          · simp [go_sem, f1]
          · simp [go_sem, f2]

end Go.Proofs.YthcgalpabjjkoaaDoor

/- XGet: Reader.Get in whatever state; numbers of whole bytes. -/
namespace Go.Proofs.YthcgalpabjjkoaaDoor
open Go.RowKit
set_option linter.unusedVariables false

theorem Rdr.lo {w : World} {blk lo hi pos : Nat} {bs : List UInt8} {bad : Bool} (h : Rdr w blk lo hi bs pos bad) : lo ≤ blk := by
  obtain ⟨sv, c0, c1, c2, f1, f2, hr, hb, h1, h2, h3, h4, h5⟩ := h
  exact h1
theorem Rdr.hi {w : World} {blk lo hi pos : Nat} {bs : List UInt8} {bad : Bool} (h : Rdr w blk lo hi bs pos bad) : blk < hi ∧ hi ≤ w.heap.size := by
  obtain ⟨sv, c0, c1, c2, f1, f2, hr, hb, h1, h2, h3, h4, h5⟩ := h
  exact ⟨h2, h3⟩
/-- What Get gives, whatever the reader's state. -/
def gV (bs : List UInt8) (pos : Nat) (bad : Bool) (N : Nat) : Nat := if bad = true then 0 else if N ≤ 8 * bs.length - pos then num (((bits8 bs).drop pos).take N) else 0
def gP (bs : List UInt8) (pos : Nat) (bad : Bool) (N : Nat) : Nat := if bad = true then pos else if N ≤ 8 * bs.length - pos then pos + N else pos
def gB (bs : List UInt8) (pos : Nat) (bad : Bool) (N : Nat) : Bool := if bad = true then true else !decide (N ≤ 8 * bs.length - pos)

theorem get_all (blk lo hi pos : Nat) (bs : List UInt8) (bad : Bool) (N : Nat) (h1 : 1 ≤ N) (h64 : N ≤ 64) (w : World) (hr : Rdr w blk lo hi bs pos bad) :
    Calls Tryd.prog 43 #[.pointer (some ⟨blk, 0, none⟩), .int .i64 (N : Int)] w fun e w' => e = .returned (.int .u64 ((gV bs pos bad N : Nat) : Int)) ∧ Rdr w' blk lo hi bs (gP bs pos bad N) (gB bs pos bad N) ∧ Chg (fun k => k = blk) w w' := by
  cases bad with
  | true =>
    refine (getBad_any blk lo hi pos bs (N : Int) w hr).mono ?_
    rintro e w' ⟨rfl, rfl⟩
    exact ⟨rfl, hr, Chg.refl _ _⟩
  | false =>
    by_cases hN : N ≤ 8 * bs.length - pos
    · refine (getSome_any blk lo hi pos bs N h1 h64 hN w hr).mono ?_
      rintro e w' ⟨rfl, h2, h3⟩
      have e1 : gV bs pos false N = num (((bits8 bs).drop pos).take N) := by simp [gV, hN]
      have e2 : gP bs pos false N = pos + N := by simp [gP, hN]
      have e3 : gB bs pos false N = false := by simp [gB, hN]
      rw [e1, e2, e3]
      exact ⟨rfl, h2, h3⟩
    · refine (getFew_any blk lo hi pos bs (N : Int) (by omega) (by omega) (by omega) w hr).mono ?_
      rintro e w' ⟨rfl, h2, h3⟩
      have e1 : gV bs pos false N = 0 := by simp [gV, hN]
      have e2 : gP bs pos false N = pos := by simp [gP, hN]
      have e3 : gB bs pos false N = true := by simp [gB, hN]
      rw [e1, e2, e3]
      exact ⟨rfl, h2, h3⟩

theorem gV_lt (bs : List UInt8) (pos : Nat) (bad : Bool) (N : Nat) (h : N ≤ 64) : gV bs pos bad N < 18446744073709551616 := by
  unfold gV
  split
  · decide
  · split
    · refine Nat.lt_of_lt_of_le (num_lt _) (Nat.le_trans (Nat.pow_le_pow_right (by omega) (show _ ≤ 64 by simp; omega)) (Nat.le_refl _))
    · decide

/-- Whole bytes. -/
theorem gV_bytes (bs : List UInt8) (k n : Nat) (h : k + n ≤ bs.length) : gV bs (8 * k) false (8 * n) = rdN n (bs.drop k) ∧ gP bs (8 * k) false (8 * n) = 8 * (k + n) ∧ gB bs (8 * k) false (8 * n) = false := by
  have hN : 8 * n ≤ 8 * bs.length - 8 * k := by omega
  refine ⟨?_, ?_, ?_⟩
  · unfold gV rdN
    rw [if_neg (by simp), if_pos hN, bits8_drop, bits8_take]
  · unfold gP
    rw [if_neg (by simp), if_pos hN]
    omega
  · unfold gB
    rw [if_neg (by simp)]
    simpa using hN
end Go.Proofs.YthcgalpabjjkoaaDoor

/- XWrap: 64-bit wraps in plain words; lists by index. -/
namespace Go.Proofs.YthcgalpabjjkoaaDoor
open Go.RowKit
set_option linter.unusedVariables false

def i64ok (t : Int) : Prop := -9223372036854775808 ≤ t ∧ t ≤ 9223372036854775807
def uT (t : Int) : Nat := (t % 18446744073709551616).toNat
theorem uT_lt (t : Int) : uT t < 18446744073709551616 := by unfold uT; omega
theorem uT_cast (t : Int) : ((uT t : Nat) : Int) = t % 18446744073709551616 := by unfold uT; omega
theorem u64_wrap (t : Int) : IntKind.u64.wrap t = ((uT t : Nat) : Int) := by
  rw [uT_cast]; simp [IntKind.wrap, IntKind.signed, IntKind.bits]
theorem uT_small (n : Nat) (h : n < 18446744073709551616) : uT (n : Int) = n := by unfold uT; omega
theorem uT_sub (a b : Int) : uT ((uT a : Int) - (uT b : Int)) = uT (a - b) := by
  have := uT_cast a; have := uT_cast b
  unfold uT at *; omega
theorem uT_add (a b : Int) : uT ((uT a : Int) + (uT b : Int)) = uT (a + b) := by
  have := uT_cast a; have := uT_cast b
  unfold uT at *; omega
/-- A 64-bit number as one with a sign. -/
def sI (n : Int) : Int := (n + 9223372036854775808) % 18446744073709551616 - 9223372036854775808
theorem sI_ok (n : Int) : i64ok (sI n) := by unfold i64ok sI; omega
theorem i64_wrap (t : Int) : IntKind.i64.wrap t = sI t := by
  have h : IntKind.i64.wrap t = wrap64 t := IntWalk.i64_left t
  unfold sI
  rw [h]
  unfold wrap64
  omega
theorem sI_uT (t : Int) (h : i64ok t) : sI ((uT t : Nat) : Int) = t := by
  have := uT_cast t
  unfold sI i64ok at *; omega
theorem uT_sI (t : Int) : uT (sI t) = uT t := by unfold uT sI; omega

theorem sub_sI (a b : Nat) : IntKind.i64.wrap (IntKind.u64.wrap ((a : Int) - (b : Int))) = sI ((a : Int) - (b : Int)) := by
  rw [i64_wrap, u64_wrap]
  have := uT_cast ((a : Int) - (b : Int))
  unfold sI
  omega

def upto {α : Type} (f : Nat → α) (n : Nat) : List α := (List.range n).map f
theorem upto_zero {α : Type} (f : Nat → α) : upto f 0 = [] := rfl
theorem upto_next {α : Type} (f : Nat → α) (n : Nat) : upto f (n + 1) = upto f n ++ [f n] := by unfold upto; rw [List.range_succ, List.map_append]; rfl
theorem upto_len {α : Type} (f : Nat → α) (n : Nat) : (upto f n).length = n := by simp [upto]
theorem upto_getD (f : Nat → Nat) (n i : Nat) (h : i < n) : (upto f n).getD i 0 = f i := by simp [upto, h]
end Go.Proofs.YthcgalpabjjkoaaDoor

/- XLen: math/bits.Len64: how many bits a number has. -/
namespace Go.Proofs.YthcgalpabjjkoaaDoor
open Go.RowKit
set_option linter.unusedVariables false

/-- How many bits a number has. -/
def bl (v : Nat) : Nat := if v = 0 then 0 else Nat.log2 v + 1

theorem bl_le (v w : Nat) : bl v ≤ w ↔ v < 2 ^ w := by
  unfold bl
  by_cases h : v = 0
  · subst h; simp [Nat.two_pow_pos]
  · rw [if_neg h, ← Nat.log2_lt h]; omega

theorem bl_shift (v k : Nat) (h : 2 ^ k ≤ v) : bl v = k + bl (v / 2 ^ k) := by
  have hp := Nat.two_pow_pos k
  have key : ∀ w, bl v ≤ w ↔ k + bl (v / 2 ^ k) ≤ w := by
    intro w
    rw [bl_le]
    by_cases hw : k ≤ w
    · rw [show k + bl (v / 2 ^ k) ≤ w ↔ bl (v / 2 ^ k) ≤ w - k by omega, bl_le, Nat.div_lt_iff_lt_mul hp, ← Nat.pow_add, show w - k + k = w by omega]
    · constructor
      · intro h2
        have : 2 ^ w ≤ 2 ^ k := Nat.pow_le_pow_right (by omega) (by omega)
        omega
      · intro h2; omega
  have h1 := (key (k + bl (v / 2 ^ k))).2 (Nat.le_refl _)
  have h2 := (key (bl v)).1 (Nat.le_refl _)
  omega

theorem bl_tab : ∀ n : Fin 256, Lib.len8 (n.val : Int) = (bl n.val : Int) := by decide +kernel

set_option maxHeartbeats 2000000 in
set_option maxRecDepth 100000 in
theorem len64_any (v : Nat) (hv : v < 18446744073709551616) (w : World) :
    Calls Tryd.prog 93 #[.int .u64 (v : Int)] w fun e w' => e = .returned (.int .i64 (bl v : Nat)) ∧ w = w' := by
  go_enter Tryd.func93, Tryd.ntmps93
  go_upto_if 4 with (fail)
  go_cut [0, 2] (fun s0 s2 wx => (∃ v1 k1 : Nat, s0 = .int .u64 (v1 : Int) ∧ s2 = .int .i64 (k1 : Int) ∧ Hid (bl v = k1 + bl v1) ∧ v1 < 4294967296 ∧ k1 ≤ 32) ∧ w = wx)
  case first =>
    by_cases h : 4294967296 ≤ v
    · have E := Lib.hid (show bl v = 32 + bl (v / 4294967296) from bl_shift v 32 h)
      have hI : decide ((4294967296 : Int) ≤ (v : Int)) = true := decide_eq_true (by omega)
      have hd := Lib.hid (show v / 4294967296 < 4294967296 by omega)
      clear h
      generalize hX : decide ((4294967296 : Int) ≤ (v : Int)) = X at *
      subst hI
      go_wp2_with fail
      go_meet
      go_light
      exact ⟨⟨v / 4294967296, 0 + 32, by simp, by simp, Lib.hid (by have h1 := trivial; have h2 := E.out; omega), hd.out, by omega⟩, rfl⟩
    · have hI : decide ((4294967296 : Int) ≤ (v : Int)) = false := decide_eq_false (by omega)
      have hh := Lib.hid h
      clear h
      generalize hX : decide ((4294967296 : Int) ≤ (v : Int)) = X at *
      subst hI
      go_wp2_with fail
      go_meet
      go_light
      exact ⟨⟨v, 0, rfl, rfl, Lib.hid (by have h1 := trivial; omega), by have := hh.out; omega, by omega⟩, rfl⟩
  case rest =>
  obtain ⟨⟨v1, k1, rfl, rfl, Hv1, hv1, hk1⟩, rfl⟩ := hcut
  go_upto_if 8 with (fail)
  go_cut [0, 2] (fun s0 s2 wx => (∃ v2 k2 : Nat, s0 = .int .u64 (v2 : Int) ∧ s2 = .int .i64 (k2 : Int) ∧ Hid (bl v = k2 + bl v2) ∧ v2 < 65536 ∧ k2 ≤ 48) ∧ w = wx)
  case first =>
    by_cases h : 65536 ≤ v1
    · have E := Lib.hid (show bl v1 = 16 + bl (v1 / 65536) from bl_shift v1 16 h)
      have hI : decide ((65536 : Int) ≤ (v1 : Int)) = true := decide_eq_true (by omega)
      have hd := Lib.hid (show v1 / 65536 < 65536 by omega)
      clear h
      generalize hX : decide ((65536 : Int) ≤ (v1 : Int)) = X at *
      subst hI
      go_wp2_with fail
      go_meet
      go_light
      exact ⟨⟨v1 / 65536, k1 + 16, by simp, by simp, Lib.hid (by have h1 := Hv1.out; have h2 := E.out; omega), hd.out, by omega⟩, rfl⟩
    · have hI : decide ((65536 : Int) ≤ (v1 : Int)) = false := decide_eq_false (by omega)
      have hh := Lib.hid h
      clear h
      generalize hX : decide ((65536 : Int) ≤ (v1 : Int)) = X at *
      subst hI
      go_wp2_with fail
      go_meet
      go_light
      exact ⟨⟨v1, k1, rfl, rfl, Lib.hid (by have h1 := Hv1.out; omega), by have := hh.out; omega, by omega⟩, rfl⟩
  case rest =>
  obtain ⟨⟨v2, k2, rfl, rfl, Hv2, hv2, hk2⟩, rfl⟩ := hcut
  go_upto_if 14 with (fail)
  go_cut [0, 2] (fun s0 s2 wx => (∃ v3 k3 : Nat, s0 = .int .u64 (v3 : Int) ∧ s2 = .int .i64 (k3 : Int) ∧ Hid (bl v = k3 + bl v3) ∧ v3 < 256 ∧ k3 ≤ 56) ∧ w = wx)
  case first =>
    by_cases h : 256 ≤ v2
    · have E := Lib.hid (show bl v2 = 8 + bl (v2 / 256) from bl_shift v2 8 h)
      have hI : decide ((256 : Int) ≤ (v2 : Int)) = true := decide_eq_true (by omega)
      have hd := Lib.hid (show v2 / 256 < 256 by omega)
      clear h
      generalize hX : decide ((256 : Int) ≤ (v2 : Int)) = X at *
      subst hI
      go_wp2_with fail
      go_meet
      go_light
      exact ⟨⟨v2 / 256, k2 + 8, by simp, by simp, Lib.hid (by have h1 := Hv2.out; have h2 := E.out; omega), hd.out, by omega⟩, rfl⟩
    · have hI : decide ((256 : Int) ≤ (v2 : Int)) = false := decide_eq_false (by omega)
      have hh := Lib.hid h
      clear h
      generalize hX : decide ((256 : Int) ≤ (v2 : Int)) = X at *
      subst hI
      go_wp2_with fail
      go_meet
      go_light
      exact ⟨⟨v2, k2, rfl, rfl, Lib.hid (by have h1 := Hv2.out; omega), by have := hh.out; omega, by omega⟩, rfl⟩
  case rest =>
  obtain ⟨⟨v3, k3, rfl, rfl, Hv3, hv3, hk3⟩, rfl⟩ := hcut
  obtain ⟨L, hL⟩ : ∃ L, L = bl v3 := ⟨_, rfl⟩
  have hl8 : Lib.len8 (v3 : Int) = (L : Int) := by rw [hL]; exact bl_tab ⟨v3, hv3⟩
  have hL8 : L ≤ 8 := by rw [hL, bl_le]; exact hv3
  have HV := Lib.hid (show bl v = k3 + L by rw [hL]; exact Hv3.out)
  have hw1 : Hid (wrap64 (L : Int) = (L : Int)) := Lib.hid (by rw [← IntWalk.i64_left]; exact IntWalk.i64_in _ (by omega))
  have hw2 : Hid (wrap64 ((k3 : Int) + (L : Int)) = ((k3 + L : Nat) : Int)) := Lib.hid (by rw [← IntWalk.i64_left]; exact IntWalk.i64_in _ (by omega))
  have hT : ∀ h : v3 < Lib.len8tab.size, (Lib.len8tab[v3]'h).toNat = L := fun h => by
    have h2 := hl8
    unfold Lib.len8 at h2
    rw [Int.toNat_natCast, getElem?_pos Lib.len8tab v3 h] at h2
    simp only [Option.getD_some] at h2
    omega
  clear hL
  have hTT := Lib.hid hT
  clear hT
  go_wp2_with fail
  go_ret
  refine ⟨?_, rfl⟩
  rw [HV.out]
  go_light
  have hT := hTT.out
  simp only [hT, hw1.out, hw2.out]
  rfl
end Go.Proofs.YthcgalpabjjkoaaDoor

/- XTk: An operation of a drawn region is taken first: the library's own law, its closed premises filled in. -/
namespace Go.Proofs.YthcgalpabjjkoaaDoor
open Go.RowKit

theorem tk {P : Program} {ops : Array Oper} {Q : Exit → Act → World → Prop} {md : Region.Mode} {S : World → Prop} (i : Nat) (oi : Oper) {v : Value} {fuel : Nat} {listed : Array Bool} {a : Act} {w : World}
    (hy : YieldsIf P ops S oi v a) (hS : S w) (h : wpAnyH P md ops Q S fuel (listed.setIfInBounds i true) (a.put oi.dst v) w)
    (hi : ops[i]? = some oi := by rfl) (hs : Region.noSelect ops = true := by kernel_rfl) (hf : Region.free md ops listed i = true := by kernel_rfl) (hr : (Region.ready md ops listed).contains i = true := by kernel_rfl)
    (hQ : ∀ c a w, Q (.panic c) (a.put oi.dst v) w → Q (.panic c) a w := by exact fun _ _ _ h => h) : wpAnyH P md ops Q S (fuel + 1) listed a w :=
  wpAnyH_take hi hs hf hr hQ hy hS h
/-- The same of an operation that reads alone: what it yields is what the walk's own step finds. -/
theorem tv {P : Program} {ops : Array Oper} {Q : Exit → Act → World → Prop} {md : Region.Mode} {S : World → Prop} (i : Nat) (oi : Oper) {v : Value} {fuel : Nat} {listed : Array Bool} {a : Act} {w : World}
    (hS : S w) (h : wpAnyH P md ops Q S fuel (listed.setIfInBounds i true) (a.put oi.dst v) w)
    (hw : Region.wanted oi (yielded ops a.tmps) = true := by rfl) (hv : ∀ w, S w → (execOp a.eval oi).run P w = .ok (.value v) w := by intro w hSw; (try dsimp only at hSw); go_simp; try with_reducible rfl)
    (hi : ops[i]? = some oi := by rfl) (hs : Region.noSelect ops = true := by kernel_rfl) (hf : Region.free md ops listed i = true := by kernel_rfl) (hr : (Region.ready md ops listed).contains i = true := by kernel_rfl)
    (hQ : ∀ c a w, Q (.panic c) (a.put oi.dst v) w → Q (.panic c) a w := by exact fun _ _ _ h => h) : wpAnyH P md ops Q S (fuel + 1) listed a w :=
  wpAnyH_take hi hs hf hr hQ (Or.inl ⟨hw, hv⟩) hS h
/-- The same, the state laid out anew. -/
theorem ts {P : Program} {ops : Array Oper} {Q : Exit → Act → World → Prop} {md : Region.Mode} {S : World → Prop} (i : Nat) (oi : Oper) {v : Value} {fuel : Nat} {listed l' : Array Bool} {a a' : Act} {w : World}
    (hS : S w) (h : wpAnyH P md ops Q S fuel l' a' w)
    (hw : Region.wanted oi (yielded ops a.tmps) = true := by rfl) (hv : ∀ w, S w → (execOp a.eval oi).run P w = .ok (.value v) w := by intro w hSw; (try dsimp only at hSw); go_simp; try with_reducible rfl)
    (hl : listed.setIfInBounds i true = l' := by (try simp only [List.setIfInBounds_toArray, List.set_cons_zero, List.set_cons_succ]); exact rfl)
    (ha : a.put oi.dst v = a' := by (try simp only [Act.put, List.setIfInBounds_toArray, List.set_cons_zero, List.set_cons_succ]); exact rfl)
    (hi : ops[i]? = some oi := by rfl) (hs : Region.noSelect ops = true := by kernel_rfl) (hf : Region.free md ops listed i = true := by kernel_rfl) (hr : (Region.ready md ops listed).contains i = true := by kernel_rfl)
    (hQ : ∀ c a w, Q (.panic c) (a.put oi.dst v) w → Q (.panic c) a w := by exact fun _ _ _ h => h) : wpAnyH P md ops Q S (fuel + 1) listed a w := by
  subst hl
  subst ha
  exact wpAnyH_take hi hs hf hr hQ (Or.inl ⟨hw, hv⟩) hS h
/-- An operation that is passed over (its guard says so). -/
theorem tn {P : Program} {ops : Array Oper} {Q : Exit → Act → World → Prop} {md : Region.Mode} {S : World → Prop} (i : Nat) (oi : Oper) {fuel : Nat} {listed l' : Array Bool} {a a' : Act} {w : World}
    (hS : S w) (h : wpAnyH P md ops Q S fuel l' a' w)
    (hw : Region.wanted oi (yielded ops a.tmps) = false := by rfl)
    (hl : listed.setIfInBounds i true = l' := by (try simp only [List.setIfInBounds_toArray, List.set_cons_zero, List.set_cons_succ]); exact rfl)
    (ha : a.put oi.dst undef = a' := by (try simp only [Act.put, List.setIfInBounds_toArray, List.set_cons_zero, List.set_cons_succ]); exact rfl)
    (hi : ops[i]? = some oi := by rfl) (hs : Region.noSelect ops = true := by kernel_rfl) (hf : Region.free md ops listed i = true := by kernel_rfl) (hr : (Region.ready md ops listed).contains i = true := by kernel_rfl)
    (hQ : ∀ c a w, Q (.panic c) (a.put oi.dst undef) w → Q (.panic c) a w := by exact fun _ _ _ h => h) : wpAnyH P md ops Q S (fuel + 1) listed a w := by
  subst hl
  subst ha
  exact wpAnyH_take hi hs hf hr hQ (Or.inr ⟨hw, rfl⟩) hS h
end Go.Proofs.YthcgalpabjjkoaaDoor
