/- Tags of a series, and their tests, by the program. -/
import Derived.Test.YtjifgipkfkhnpaaIdx20
namespace Go.Proofs.Ytjifgipkfkhnpaa
open Go.RowKit
set_option linter.unusedVariables false

theorem Below.drewN_of {B : Nat} {w w' : World} (h : Below B w w') (n : Nat) : Below B w (w'.drewN n) := ⟨h.os, h.tape, h.output, h.size, h.block⟩
def onAt {α : Type} (l : List α) (P : α → Bool) (k : Nat) : Bool := (l[k]?.map P).getD false
theorem onAt_lt {α : Type} (l : List α) (P : α → Bool) (k : Nat) (h : k < l.length) : onAt l P k = P l[k] := by unfold onAt; rw [List.getElem?_eq_getElem h]; rfl
theorem Idx.find {α : Type} {l : List α} {P : α → Bool} {r : Int} (h : Idx l.length (onAt l P) r) : (r = -1 ∧ l.find? P = none) ∨ ∃ k, ∃ hk : k < l.length, r = (k : Int) ∧ l.find? P = some l[k] := by
  rcases h with ⟨rfl, h⟩ | ⟨k, hk, rfl, hp, hn⟩
  · refine .inl ⟨rfl, ?_⟩
    rw [List.find?_eq_none]
    intro x hx
    obtain ⟨k, hk, rfl⟩ := List.getElem_of_mem hx
    have := h k hk
    rw [onAt_lt _ _ _ hk] at this
    simp [this]
  · refine .inr ⟨k, hk, rfl, ?_⟩
    rw [onAt_lt _ _ _ hk] at hp
    rw [List.find?_eq_some_iff_getElem]
    refine ⟨hp, k, hk, rfl, fun j hj => ?_⟩
    have := hn j hj
    rw [onAt_lt _ _ _ (by omega)] at this
    simp [this]

/-- Does a tag have this key? -/
def keyP (key : ByteArray) (t : Tg) : Bool := t.k.toList == key.toList
/-- A tag's value; an empty one: there is none. -/
def tagV (l : List Tg) (key : ByteArray) : ByteArray := match l.find? (keyP key) with
  | some t => t.v
  | none => { data := #[] }
def tagB (l : List Tg) (key : ByteArray) : Bool := (l.find? (keyP key)).isSome

theorem tagC_any (t : Tg) (key : ByteArray) (p1 : Nat) (w : World) (c1 : w.cell? ⟨p1, 0, none⟩ = some (.string key)) :
    Calls Try.prog 52 #[.agg #[.string t.k, .string t.v], .pointer (some ⟨p1, 0, none⟩)] w fun e w' => e = .returned (.bool (keyP key t)) ∧ Below w.heap.size w w' := by
  have hl1 := World.block_lt_of_cell? w _ c1
  have d1 : (w.alloc (.cells #[.string t.k, .string t.v] 94)).cell? ⟨p1, 0, none⟩ = some (.string key) := (World.cell?_alloc_past _ _ _ hl1).trans c1
  clear c1
  go_enter Try.func52, Try.ntmps52
  go_wp2_with fail
  go_ret
  exact ⟨rfl, (Below.refl _ _).alloc (Nat.le_refl _) _⟩

set_option maxHeartbeats 1000000 in
theorem tag_any (l : List Tg) (nm key : ByteArray) (v : Value) (w : World) (hr : RdV w 2 v l.length (l.flatMap Tg.cells)) :
    Calls Try.prog 43 #[.agg #[.string nm, v], .string key] w fun e w' => e = .returned (.tuple #[.string (tagV l key), .bool (tagB l key)]) ∧ Below w.heap.size w w' := by
  obtain ⟨ao0, cap0, rfl, hlc, hcm⟩ := RdV.shape hr
  unfold maxLen at hcm
  obtain ⟨wA, hwA⟩ : ∃ wA, wA = (w.alloc (.cells #[.string nm, .slice ao0 l.length cap0] 25)).alloc (.cells #[.string key] 9) := ⟨_, rfl⟩
  have hb2 : Below w.heap.size w wA := by rw [hwA]; exact ((Below.refl _ _).alloc (Nat.le_refl _) _).alloc (by simp) _
  have hs : wA.heap.size = w.heap.size + 2 := by rw [hwA]; simp
  have k0 : wA.cell? ⟨w.heap.size, 1, none⟩ = some (Value.slice ao0 l.length cap0) := by rw [hwA]; simp
  have k1 : wA.cell? ⟨w.heap.size + 1, 0, none⟩ = some (Value.string key) := by rw [hwA]; simp
  have hI := (idxTag_any l (onAt l (keyP key)) (.slice ao0 l.length cap0) (w.heap.size + 1) wA (hr.below hb2) (fun k hk w1 hb => by
    rw [onAt_lt _ _ _ hk]
    exact tagC_any l[k] key _ w1 ((hb.cell (by simp; omega)).trans k1))).mono (R' := fun e w2 => ∃ r : Int, e = .returned (.int .i64 r) ∧ Hid (Idx l.length (onAt l (keyP key)) r) ∧ w2.cell? ⟨w.heap.size, 1, none⟩ = some (Value.slice ao0 l.length cap0) ∧ Hid (Below w.heap.size w w2))
    (by rintro _ w2 ⟨r, rfl, hx, hb⟩; exact ⟨r, rfl, Lib.hid hx, (hb.cell (by simp; omega)).trans k0, Lib.hid (hb2.trans (hb.mono (by omega)))⟩)
  rw [hwA] at hI
  have HR := Lib.hid hr
  clear hr hb2 hs k0 k1 hwA
  go_enter Try.func43, Try.ntmps43
  go_upto_region 2 with (go_at_call 51; refine hI.mono ?_; rintro _ w2 ⟨r, rfl, HX, hc, HB⟩; clear hI)
  rcases HX.out.find with ⟨rfl, hf⟩ | ⟨k, hk, rfl, hf⟩
  · go_wp2_with fail
    go_ret2
    refine ⟨?_, HB.out⟩
    unfold tagV tagB
    rw [hf]; rfl
  · obtain ⟨b, off, cap', he, _, e1⟩ := tg_at (HR.out.below HB.out) k hk
    simp only [Value.slice.injEq, true_and] at he
    obtain ⟨rfl, rfl⟩ := he
    have HF := Lib.hid hf
    have HE : Hid (tagV l key = l[k].v ∧ tagB l key = true) := Lib.hid (by unfold tagV tagB; rw [hf]; exact ⟨rfl, rfl⟩)
    generalize l[k].v = x at *
    clear hf
    go_wp2_with fail
    go_ret2
    refine ⟨?_, HB.out⟩
    rw [HE.out.1, HE.out.2]; rfl

/-- Does a test of a tag hold? -/
def tgd (c : Lf) (l : List Tg) : Bool := (c.k == 4) && sgn c.sg (cmpS (tagV l c.nm) c.t)
set_option maxHeartbeats 1000000 in
theorem tagged_any (c : Lf) (l : List Tg) (nm : ByteArray) (pv v : Value) (w : World) (hp : ∃ ao n cap, pv = .slice ao n cap) (hr : RdV w 2 v l.length (l.flatMap Tg.cells)) :
    Calls Try.prog 32 #[.agg #[.int .i64 c.op, .string c.nm, .string c.sg, .int .i64 c.k, .int .u64 (c.b : Int), .string c.t, pv], .agg #[.string nm, v]] w fun e w' => e = .returned (.bool (tgd c l)) ∧ Below w.heap.size w w' := by
  obtain ⟨pa, pn, pc, rfl⟩ := hp
  obtain ⟨ao0, cap0, rfl, hlc, hcm⟩ := RdV.shape hr
  unfold maxLen at hcm
  have HG := Lib.hid (show tgd c l = ((c.k == 4) && sgn c.sg (cmpS (tagV l c.nm) c.t)) from rfl)
  obtain ⟨op, nm2, sg, kd, bb, tt⟩ := c
  dsimp only at HG ⊢
  obtain ⟨wA, hwA⟩ : ∃ wA, wA = (w.alloc (.cells #[.int .i64 op, .string nm2, .string sg, .int .i64 kd, .int .u64 (bb : Int), .string tt, .slice pa pn pc] 45)).alloc (.cells #[.string nm, .slice ao0 l.length cap0] 25) := ⟨_, rfl⟩
  have hb2 : Below w.heap.size w wA := by rw [hwA]; exact ((Below.refl _ _).alloc (Nat.le_refl _) _).alloc (by simp) _
  have hs : wA.heap.size = w.heap.size + 2 := by rw [hwA]; simp
  have k2 : wA.cell? ⟨w.heap.size, 2, none⟩ = some (Value.string sg) := by rw [hwA]; simp
  have k3 : wA.cell? ⟨w.heap.size, 3, none⟩ = some (Value.int .i64 kd) := by rw [hwA]; simp
  have k5 : wA.cell? ⟨w.heap.size, 5, none⟩ = some (Value.string tt) := by rw [hwA]; simp
  have hT := (tag_any l nm nm2 (.slice ao0 l.length cap0) wA (hr.below hb2)).mono (R' := fun e w2 => e = .returned (.tuple #[.string (tagV l nm2), .bool (tagB l nm2)]) ∧ w2.cell? ⟨w.heap.size, 2, none⟩ = some (Value.string sg) ∧ w2.cell? ⟨w.heap.size, 3, none⟩ = some (Value.int .i64 kd) ∧ w2.cell? ⟨w.heap.size, 5, none⟩ = some (Value.string tt) ∧ Hid (Below w.heap.size w w2))
    (by rintro _ w2 ⟨rfl, hb⟩; exact ⟨rfl, (hb.cell (by simp; omega)).trans k2, (hb.cell (by simp; omega)).trans k3, (hb.cell (by simp; omega)).trans k5, Lib.hid (hb2.trans (hb.mono (by omega)))⟩)
  rw [hwA] at hT
  have hS := fun c (w : World) => signed_any sg c w
  have hC := fun a b (w : World) => cmpS_any a b w
  clear hr hb2 hs k2 k3 k5 hwA
  go_enter Try.func32, Try.ntmps32
  go_upto_region 2 with (go_at_call 43; refine hT.mono ?_; rintro _ w2 ⟨rfl, hc2, hc3, hc5, HB⟩; clear hT)
  generalize tagV l nm2 = tv at *
  by_cases h4 : (kd == 4) = true
  · rw [h4, Bool.true_and] at HG
    go_quiet (first
      | (go_at_call 44; exact Calls.quiet_of_same (hC _ _ _))
      | (go_at_call 29; exact Calls.quiet_of_same (hS _ _)))
    go_wp2_with fail
    go_ret
    exact ⟨by rw [HG.out]; rfl, Below.drewN_of HB.out _⟩
  · rw [Bool.not_eq_true] at h4
    rw [h4, Bool.false_and] at HG
    go_quiet (fail)
    go_wp2_with fail
    go_ret
    exact ⟨by rw [HG.out]; rfl, Below.drewN_of HB.out _⟩
end Go.Proofs.Ytjifgipkfkhnpaa
