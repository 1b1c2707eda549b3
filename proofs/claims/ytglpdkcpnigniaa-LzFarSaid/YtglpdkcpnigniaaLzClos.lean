/- The contract of lz.Pack's closure: bytes that stand for themselves, in pieces, up to a place. -/
import Derived.Test.YtglpdkcpnigniaaLzFlush
namespace Go.Proofs.Ytglpdkcpnigniaa
open Go.RowKit
set_option linter.unusedVariables false

/-- The captured cells: of the first byte that stands for itself, of what is written, of the bytes. -/
structure LzC (w : World) (pb po px base i : Nat) (sv bv : Value) (bs : List UInt8) : Prop where
  c0 : w.cell? ⟨pb, 0, none⟩ = some (.int .i64 (i : Nat))
  f0 : w.frozen? ⟨pb, 0, none⟩ = false
  c1 : w.cell? ⟨po, 0, none⟩ = some sv
  f1 : w.frozen? ⟨po, 0, none⟩ = false
  c2 : w.cell? ⟨px, 0, none⟩ = some bv
  rd : Rd w bv bs
  hb : base ≤ w.heap.size
  l0 : pb < base
  l1 : po < base
  l2 : px < base
  n0 : pb ≠ po
  n1 : px ≠ pb
  n2 : px ≠ po
  bb : 0 < bs.length → ∀ k, bv.ownBlock = some k → k < base ∧ k ≠ pb ∧ k ≠ po

theorem Rd.chg0 {S : Nat → Prop} {w w' : World} {v : Value} {bs : List UInt8} (h : Rd w v bs) (hc : Chg S w w') (hs : 0 < bs.length → ∀ k, v.ownBlock = some k → ¬ S k) : Rd w' v bs := by
  by_cases h0 : 0 < bs.length
  · exact RdV.chg h.v hc (hs h0)
  · obtain rfl : bs = [] := List.eq_nil_of_length_eq_zero (by omega)
    obtain ⟨hl, ao, cap, rfl, hn, hc', hz, _⟩ := h
    exact ⟨hl, ao, cap, rfl, hn, hc', hz, fun a ha j u hu => by simp at hu⟩

theorem LzC.chg {S : Nat → Prop} {w w' : World} {pb po px base i : Nat} {sv bv : Value} {bs : List UInt8} (h : LzC w pb po px base i sv bv bs) (hc : Chg S w w') (hS : ∀ k, k < base → ¬ S k) : LzC w' pb po px base i sv bv bs := by
  obtain ⟨c0, f0, c1, f1, c2, rd, hb, l0, l1, l2, n0, n1, n2, bb⟩ := h
  exact ⟨(hc.cell (p := ⟨pb, 0, none⟩) (Nat.lt_of_lt_of_le l0 hb) (hS _ l0)).trans c0, (hc.frozen (p := ⟨pb, 0, none⟩) (Nat.lt_of_lt_of_le l0 hb) (hS _ l0)).trans f0,
    (hc.cell (p := ⟨po, 0, none⟩) (Nat.lt_of_lt_of_le l1 hb) (hS _ l1)).trans c1, (hc.frozen (p := ⟨po, 0, none⟩) (Nat.lt_of_lt_of_le l1 hb) (hS _ l1)).trans f1,
    (hc.cell (p := ⟨px, 0, none⟩) (Nat.lt_of_lt_of_le l2 hb) (hS _ l2)).trans c2, rd.chg0 hc (fun h0 k hk => hS k (bb h0 k hk).1), Nat.le_trans hb hc.size, l0, l1, l2, n0, n1, n2, bb⟩

theorem Rd.setCell {w : World} {v : Value} {bs : List UInt8} (h : Rd w v bs) (p : Addr) (u : Value) (hp : 0 < bs.length → ∀ k, v.ownBlock = some k → k ≠ p.block) : Rd (w.setCell p u) v bs :=
  h.chg0 ((Chg.refl (fun k => k = p.block) w).setCell (fun _ => rfl) u) hp

theorem LzC.setOut {w : World} {pb po px base i : Nat} {sv bv : Value} {bs : List UInt8} (h : LzC w pb po px base i sv bv bs) (u : Value) : LzC (w.setCell ⟨po, 0, none⟩ u) pb po px base i u bv bs := by
  obtain ⟨c0, f0, c1, f1, c2, rd, hb, l0, l1, l2, n0, n1, n2, bb⟩ := h
  exact ⟨(World.cell?_setCell_far _ _ _ _ (by simpa using n0.symm)).trans c0, by simp [go_sem, f0], by simp [go_sem, c1], by simp [go_sem, f1], (World.cell?_setCell_far _ _ _ _ (by simpa using n2.symm)).trans c2,
    rd.setCell _ _ (fun h0 k hk => (bb h0 k hk).2.2), by simpa [World.setCell] using hb, l0, l1, l2, n0, n1, n2, bb⟩
theorem LzC.setBeg {w : World} {pb po px base i : Nat} {sv bv : Value} {bs : List UInt8} (h : LzC w pb po px base i sv bv bs) (j : Nat) : LzC (w.setCell ⟨pb, 0, none⟩ (.int .i64 (j : Nat))) pb po px base j sv bv bs := by
  obtain ⟨c0, f0, c1, f1, c2, rd, hb, l0, l1, l2, n0, n1, n2, bb⟩ := h
  exact ⟨by simp [go_sem, c0], by simp [go_sem, f0], (World.cell?_setCell_far _ _ _ _ (by simpa using n0)).trans c1, by simp [go_sem, f1], (World.cell?_setCell_far _ _ _ _ (by simpa using n1.symm)).trans c2,
    rd.setCell _ _ (fun h0 k hk => (bb h0 k hk).2.1), by simpa [World.setCell] using hb, l0, l1, l2, n0, n1, n2, bb⟩

theorem Own.setCell {w : World} {base : Nat} {v : Value} {bs : List UInt8} (h : Own w base v bs) (p : Addr) (hp : p.block < base) (u : Value) : Own (w.setCell p u) base v bs := ownsRow_setCell_below h hp u

def LzS (pb po base : Nat) (k : Nat) : Prop := k = pb ∨ k = po ∨ base ≤ k

/-- The bytes from place i to place e. -/
def sub (bs : List UInt8) (i e : Nat) : List UInt8 := (bs.drop i).take (e - i)

theorem sub_len (bs : List UInt8) (i e : Nat) (h : e ≤ bs.length) : (sub bs i e).length = e - i := by simp [sub]; omega
theorem sub_self (bs : List UInt8) (i : Nat) : sub bs i i = [] := by simp [sub]
theorem sub_take (bs : List UInt8) (i e n : Nat) (h : i + n ≤ e) : (sub bs i e).take n = sub bs i (i + n) := by
  unfold sub; rw [List.take_take]; congr 1; omega
theorem sub_drop (bs : List UInt8) (i e n : Nat) : (sub bs i e).drop n = sub bs (i + n) e := by
  unfold sub; rw [List.drop_take, List.drop_drop]; congr 1; omega

theorem sub_rd {w : World} {b off cap : Nat} {bs : List UInt8} (h : Rd w (.slice (some ⟨b, off, none⟩) bs.length cap) bs) (i e : Nat) (hi : i < e) (he : e ≤ bs.length) :
    RdV w 1 (.slice (some ⟨b, off + i, none⟩) (e - i) (cap - i)) (e - i) ((sub bs i e).map bV) := by
  have h1 := RdV.cut h.v i e (by omega) he
  obtain ⟨_, c, hc, hn, _⟩ := RdV.shape h.v
  simp only [Value.slice.injEq, true_and] at hc
  obtain ⟨_, rfl⟩ := hc
  rw [if_neg (by omega)] at h1
  simp only [Nat.mul_one, Option.map_some, Addr.add_lit] at h1
  unfold sub
  rw [List.map_take, List.map_drop]
  exact h1

theorem subn_rd {w : World} {b off cap : Nat} {bs : List UInt8} (h : Rd w (.slice (some ⟨b, off, none⟩) bs.length cap) bs) (i n : Nat) (hn : 1 ≤ n) (he : i + n ≤ bs.length) :
    RdV w 1 (.slice (some ⟨b, off + i, none⟩) n (cap - i)) n ((sub bs i (i + n)).map bV) := by
  have := sub_rd h i (i + n) (by omega) he
  rwa [Nat.add_sub_cancel_left] at this

set_option maxHeartbeats 1000000 in
theorem plain_any (pb po px base i e : Nat) (sv bv : Value) (os bs : List UInt8) (w : World) (hi : i ≤ e) (he : e ≤ bs.length) (hs : os.length + 2 * bs.length ≤ 140737488351232) (hC : LzC w pb po px base i sv bv bs) (hown : Own w base sv os) :
    Calls Try.prog 10 #[.int .i64 (e : Nat), .pointer (some ⟨pb, 0, none⟩), .pointer (some ⟨po, 0, none⟩), .pointer (some ⟨px, 0, none⟩)] w fun en w' => en = .returned (.tuple #[]) ∧
      ∃ ao cap, LzC w' pb po px base e (.slice ao (os ++ flush (sub bs i e)).length cap) bv bs ∧ Own w' base (.slice ao (os ++ flush (sub bs i e)).length cap) (os ++ flush (sub bs i e)) ∧ Chg (LzS pb po base) w w' := by
  obtain ⟨ao0, cap0, rfl⟩ := hown.shape
  go_enter Try.func10, Try.ntmps10
  go_wp2_with fail
  go_loopg [5] (e - i) (fun m s5 wr => ∃ (j : Nat) (cs : List UInt8) (ao : Option Addr) (cap : Nat), i ≤ j ∧ j ≤ e ∧ e - j = m ∧ Hid (LzC wr pb po px base j (.slice ao cs.length cap) bv bs) ∧ Hid (Own wr base (.slice ao cs.length cap) cs) ∧ Hid (Chg (LzS pb po base) w wr) ∧
    Hid (cs ++ flush (sub bs j e) = os ++ flush (sub bs i e)) ∧ cs.length + 2 * (e - j) ≤ os.length + 2 * (e - i))
  case atStart => exact ⟨i, os, ao0, cap0, Nat.le_refl _, hi, rfl, Lib.hid hC, Lib.hid hown, Lib.hid (Chg.refl _ _), Lib.hid rfl, Nat.le_refl _⟩
  case round =>
    obtain ⟨j, cs, ao, cap, hij, hje, hm, hc, ho, hch, heq, hle⟩ := hrel
    obtain ⟨c0, f0, c1, f1, c2, hrd, hbs, l0, l1, l2, n0, n1, n2, bb⟩ := hc.out
    by_cases h0 : gk = 0
    · obtain rfl : j = e := by omega
      have HE := heq.out
      rw [sub_self, flush_nil, List.append_nil] at HE
      subst HE
      clear hC hown hm hij hje
      go_wp2_with fail
      go_end0
      exact ⟨rfl, ao, cap, hc.out, ho.out, hch.out⟩
    · have hlt : j < e := by omega
      obtain ⟨b, off, bcap, hbv, hbn, hbm, _, _⟩ := RdV.some hrd.v (by omega) (by decide)
      subst hbv
      unfold maxLen at hbm
      obtain ⟨n, hn⟩ : ∃ n, n = min 127 (e - j) := ⟨_, rfl⟩
      have HHN := Lib.hid hn
      have HFL := Lib.hid (flush_step (sub bs j e) n (by rw [sub_len _ _ _ he]; exact hn) (by rw [sub_len _ _ _ he]; omega))
      have hn127 : n ≤ 127 := by omega
      have hn1 : 1 ≤ n := by omega
      have hne : j + n ≤ e := by omega
      have hw1 : IntKind.i64.wrap ((e : Int) - (j : Int)) = (e : Int) - (j : Int) := IntWalk.i64_in _ (by omega)
      clear hn
      go_upto_region 2 with fail
      rw [show (if (e : Int) - (j : Int) < 127 then (e : Int) - (j : Int) else 127) = (n : Int) by have := HHN.out; split <;> omega]
      have HC := Lib.hid (show LzC wr.drew pb po px base j (.slice ao cs.length cap) (.slice (some ⟨b, off, none⟩) bs.length bcap) bs from hc.out.chg (Chg.refl (fun _ => False) wr).drew (fun _ _ h => h))
      have hod : Own wr.drew base (.slice ao cs.length cap) cs := ho.out
      have hcl : ¬ bcap = j := by omega
      have hjn : IntKind.i64.wrap ((j : Int) + (n : Int)) = (j : Int) + (n : Int) := IntWalk.i64_in _ (by omega)
      have hbI : (j : Int) + (n : Int) ≤ (bcap : Int) := by omega
      have i0 : (0 : Int) ≤ (j : Int) + (n : Int) := by omega
      have i1 : ((j : Int) + (n : Int)).toNat = j + n := by omega
      have i2 : j + n ≤ bcap := by omega
      have i3 : (j : Int) ≤ (j : Int) + (n : Int) := by omega
      have i4 : j ≤ bcap := by omega
      have h63 : cs.length + 1 ≤ maxLen := by unfold maxLen; omega
      have hby : (cs.length + 1) * 1 ≤ 140737488355328 := by omega
      have h63b : cs.length + 1 + n ≤ maxLen := by unfold maxLen; omega
      have hbyb : (cs.length + 1 + n) * 1 ≤ 140737488355328 := by omega
      have hba : ∀ o, base ≤ (wr.drew.alloc o).heap.size := fun o => by have e : wr.drew.heap.size = wr.heap.size := rfl; simp; omega
      have hcv : IntKind.u8.wrap (n : Int) = (n : Int) := by rw [IntKind.wrap_u8]; omega
      have q0 : pb < wr.drew.heap.size := Nat.lt_of_lt_of_le l0 hbs
      have q1 : po < wr.drew.heap.size := Nat.lt_of_lt_of_le l1 hbs
      have q2 : px < wr.drew.heap.size := Nat.lt_of_lt_of_le l2 hbs
      have a1 : ∀ o, (wr.alloc o).cell? ⟨po, 0, none⟩ = some (.slice ao cs.length cap) := fun o => (World.cell?_alloc_past _ _ _ q1).trans c1
      have a2 : ∀ o, (wr.alloc o).drew.cell? ⟨po, 0, none⟩ = some (.slice ao cs.length cap) := a1
      have HE := Lib.hid (⟨hij, hm, hle, he, hs, hi⟩ : i ≤ j ∧ e - j = gk ∧ cs.length + 2 * (e - j) ≤ os.length + 2 * (e - i) ∧ e ≤ bs.length ∧ os.length + 2 * bs.length ≤ 140737488351232 ∧ i ≤ e)
      clear hC hown hm hij hle hje h0 hs hrd bb hbm hw1 he hi
      refine wp_region_held_drew (S := fun w' => w'.cell? ⟨pb, 0, none⟩ = some (.int .i64 (j : Nat)) ∧ w'.cell? ⟨px, 0, none⟩ = some (.slice (some ⟨b, off, none⟩) bs.length bcap)) (by kernel_rfl) ⟨c0, c2⟩ (fun hHeld => ?_)
      refine wpAnyH_take (i := 1) (oi := { dst := some 14, op := Op.move (Operand.tmp 5), type := 3, pos := "lz.go:21", after := #[], guard := none }) (v := ?_) rfl (by kernel_rfl) (by kernel_rfl) (by kernel_rfl) (fun _ _ _ h => h) (Or.inl ⟨by rfl, ?_⟩) hHeld ?_
      rotate_left
      · intro w hSw; (try dsimp only at hSw); go_simp; try with_reducible rfl
      try simp only [Act.put, List.setIfInBounds_toArray, List.set_cons_zero, List.set_cons_succ]
      refine wpAnyH_take (i := 2) (oi := { dst := some 15, op := Op.convert 3 5 (Operand.tmp 14), type := 5, pos := "lz.go:21", after := #[{ on := 1, ground := Ground.data }], guard := none }) (v := ?_) rfl (by kernel_rfl) (by kernel_rfl) (by kernel_rfl) (fun _ _ _ h => h) (Or.inl ⟨by rfl, ?_⟩) hHeld ?_
      rotate_left
      · intro w hSw; (try dsimp only at hSw); go_simp; try with_reducible rfl
      try simp only [Act.put, List.setIfInBounds_toArray, List.set_cons_zero, List.set_cons_succ]
      refine wpAnyH_take (i := 5) (oi := { dst := some 18, op := Op.load 22 (Operand.tmp 3), type := 22, pos := "lz.go:21", after := #[], guard := none }) (v := ?_) rfl (by kernel_rfl) (by kernel_rfl) (by kernel_rfl) (fun _ _ _ h => h) (Or.inl ⟨by rfl, ?_⟩) hHeld ?_
      rotate_left
      · intro w hSw; (try dsimp only at hSw); go_simp; try with_reducible rfl
      try simp only [Act.put, List.setIfInBounds_toArray, List.set_cons_zero, List.set_cons_succ]
      refine wpAnyH_take (i := 6) (oi := { dst := some 19, op := Op.load 3 (Operand.tmp 1), type := 3, pos := "lz.go:21", after := #[], guard := none }) (v := ?_) rfl (by kernel_rfl) (by kernel_rfl) (by kernel_rfl) (fun _ _ _ h => h) (Or.inl ⟨by rfl, ?_⟩) hHeld ?_
      rotate_left
      · intro w hSw; (try dsimp only at hSw); go_simp; try with_reducible rfl
      try simp only [Act.put, List.setIfInBounds_toArray, List.set_cons_zero, List.set_cons_succ]
      refine wpAnyH_take (i := 7) (oi := { dst := some 20, op := Op.load 3 (Operand.tmp 1), type := 3, pos := "lz.go:21", after := #[], guard := none }) (v := ?_) rfl (by kernel_rfl) (by kernel_rfl) (by kernel_rfl) (fun _ _ _ h => h) (Or.inl ⟨by rfl, ?_⟩) hHeld ?_
      rotate_left
      · intro w hSw; (try dsimp only at hSw); go_simp; try with_reducible rfl
      try simp only [Act.put, List.setIfInBounds_toArray, List.set_cons_zero, List.set_cons_succ]
      refine wpAnyH_take (i := 8) (oi := { dst := some 21, op := Op.move (Operand.tmp 5), type := 3, pos := "lz.go:21", after := #[], guard := none }) (v := ?_) rfl (by kernel_rfl) (by kernel_rfl) (by kernel_rfl) (fun _ _ _ h => h) (Or.inl ⟨by rfl, ?_⟩) hHeld ?_
      rotate_left
      · intro w hSw; (try dsimp only at hSw); go_simp; try with_reducible rfl
      try simp only [Act.put, List.setIfInBounds_toArray, List.set_cons_zero, List.set_cons_succ]
      refine wpAnyH_take (i := 9) (oi := { dst := some 22, op := Op.binOp BinOp.add 3 (Operand.tmp 20) (Operand.tmp 21) 3, type := 3, pos := "lz.go:21", after := #[{ on := 7, ground := Ground.data }, { on := 8, ground := Ground.data }], guard := none }) (v := ?_) rfl (by kernel_rfl) (by kernel_rfl) (by kernel_rfl) (fun _ _ _ h => h) (Or.inl ⟨by rfl, ?_⟩) hHeld ?_
      rotate_left
      · intro w hSw; (try dsimp only at hSw); go_simp; try with_reducible rfl
      try simp only [Act.put, List.setIfInBounds_toArray, List.set_cons_zero, List.set_cons_succ]
      refine wpAnyH_take (i := 10) (oi := { dst := some 23, op := Op.slice 22 (Operand.tmp 18) (some (Operand.tmp 19)) (some (Operand.tmp 22)) none, type := 22, pos := "lz.go:21", after := #[{ on := 5, ground := Ground.data }, { on := 6, ground := Ground.data }, { on := 9, ground := Ground.data }], guard := none }) (v := ?_) rfl (by kernel_rfl) (by kernel_rfl) (by kernel_rfl) (fun _ _ _ h => h) (Or.inl ⟨by rfl, ?_⟩) hHeld ?_
      rotate_left
      · intro w hSw; (try dsimp only at hSw); go_simp; try with_reducible rfl
      try simp only [Act.put, List.setIfInBounds_toArray, List.set_cons_zero, List.set_cons_succ]
      have hd0 : wr.drew.cell? ⟨po, 0, none⟩ = some (.slice ao cs.length cap) := c1
      have hS1 : (wr.drew.alloc (.cells #[.int .u8 (n : Int)] 5)).cell? ⟨pb, 0, none⟩ = some (.int .i64 (j : Nat)) ∧ (wr.drew.alloc (.cells #[.int .u8 (n : Int)] 5)).cell? ⟨px, 0, none⟩ = some (.slice (some ⟨b, off, none⟩) bs.length bcap) := ⟨(World.cell?_alloc_past _ _ _ q0).trans c0, (World.cell?_alloc_past _ _ _ q2).trans c2⟩
      refine wpAnyH_ready (rs := [0, 3]) (by kernel_rfl) (by simp) (AllReadyH.cons (o := { dst := some 13, op := Op.load 22 (Operand.tmp 2), type := 22, pos := "lz.go:21", after := #[], guard := none }) rfl (fun K hK => ?_) (AllReadyH.cons (o := { dst := some 16, op := Op.buildSlice 22 1 #[(0, Operand.tmp 15)], type := 22, pos := "lz.go:21", after := #[{ on := 2, ground := Ground.data }], guard := none }) rfl (fun K hK => ?_) AllReadyH.nil))
      go_simp
      refine hK.out _ _ hHeld (fun hh => ?_)
      clear hK K hh
      try simp only [Act.put, List.setIfInBounds_toArray, List.set_cons_zero, List.set_cons_succ]
      refine wpAnyH_ready (rs := [3]) (by kernel_rfl) (by simp) (AllReadyH.cons (o := { dst := some 16, op := Op.buildSlice 22 1 #[(0, Operand.tmp 15)], type := 22, pos := "lz.go:21", after := #[{ on := 2, ground := Ground.data }], guard := none }) rfl (fun K hK => ?_) AllReadyH.nil)
      go_simp
      refine hK.out _ _ hS1 (fun hh => ?_)
      clear hK K hh
      try simp only [Act.put, List.setIfInBounds_toArray, List.set_cons_zero, List.set_cons_succ]
      rotate_left
      go_simp
      refine hK.out _ _ hS1 (fun hh => ?_)
      clear hK K hh
      try simp only [Act.put, List.setIfInBounds_toArray, List.set_cons_zero, List.set_cons_succ]
      refine wpAnyH_ready (rs := [0]) (by kernel_rfl) (by simp) (AllReadyH.cons (o := { dst := some 13, op := Op.load 22 (Operand.tmp 2), type := 22, pos := "lz.go:21", after := #[], guard := none }) rfl (fun K hK => ?_) AllReadyH.nil)
      go_simp
      refine hK.out _ _ hS1 (fun hh => ?_)
      clear hK K hh
      try simp only [Act.put, List.setIfInBounds_toArray, List.set_cons_zero, List.set_cons_succ]
      all_goals clear hd0 hS1 hHeld a1 a2
      all_goals refine wpAnyH_ready (rs := [4]) (by kernel_rfl) (by simp) (AllReadyH.cons (o := { dst := some 17, op := Op.call { callee := Callee.builtin Builtin.append, args := #[Operand.tmp 13, Operand.tmp 16], argTypes := #[22, 22] }, type := 22, pos := "lz.go:21", after := #[{ on := 0, ground := Ground.data }, { on := 3, ground := Ground.data }], guard := none }) rfl (fun K hK => ?_) AllReadyH.nil)
      all_goals (refine step_append_rd (wr.drew.alloc _) rfl (.tmp 13) (.tmp 16) 22 rfl base 5 (.int .u8 0) 1 1 Try.underlying22 infoU8 rfl (by decide) (.slice ao cs.length cap) cs.length (cs.map bV) rfl (hod.alloc _) (.slice (some ⟨wr.drew.heap.size, 0, none⟩) 1 1) 1 [.int .u8 (n : Int)] rfl (RdV.one _ _ _) (one_one _ rfl) h63 hby (hba _) ?_)
      all_goals (intro ao6 cap6 w6 hg6)
      all_goals (have HG := Lib.hid hg6.ofAlloc)
      all_goals (have HC6 := Lib.hid (HC.out.chg HG.out.chg (fun k hk h => by have := (hod.lt k h).1; omega)))
      all_goals (clear hg6)
      all_goals (refine hK.out _ _ ⟨HC6.out.c0, HC6.out.c2⟩ (fun hh => ?_))
      all_goals (clear hK K hh)
      all_goals try simp only [Act.put, List.setIfInBounds_toArray, List.set_cons_zero, List.set_cons_succ]
      all_goals refine wpAnyH_ready (rs := [11]) (by kernel_rfl) (by simp) (AllReadyH.cons (o := { dst := some 24, op := Op.call { callee := Callee.builtin Builtin.append, args := #[Operand.tmp 17, Operand.tmp 23], argTypes := #[22, 22] }, type := 22, pos := "lz.go:21", after := #[{ on := 4, ground := Ground.data }, { on := 10, ground := Ground.data }, { on := 4, ground := Ground.chain }], guard := none }) rfl (fun K hK => ?_) AllReadyH.nil)
      all_goals (refine step_append_rd w6 rfl (.tmp 17) (.tmp 23) 22 rfl base 5 (.int .u8 0) 1 1 Try.underlying22 infoU8 rfl (by decide) (.slice ao6 (cs.length + 1) cap6) (cs.length + 1) (cs.map bV ++ [.int .u8 (n : Int)]) rfl HG.out.owns (.slice (some ⟨b, off + j, none⟩) n (bcap - j)) n ((sub bs j (j + n)).map bV) rfl (subn_rd HC6.out.rd j n (by omega) (by have := HE.out.2.2.2.1; omega)) (bV_one _) h63b hbyb HC6.out.hb ?_)
      all_goals (intro ao7 cap7 w7 hg7)
      all_goals (have HG7 := Lib.hid hg7)
      all_goals (have HC7 := Lib.hid (HC6.out.chg HG7.out.chg (fun k hk h => by have := (HG.out.owns.lt k h).1; omega)))
      all_goals (clear hg7)
      all_goals (refine hK.out _ _ ⟨HC7.out.c0, HC7.out.c2⟩ (fun hh => ?_))
      all_goals (clear hK K hh)
      all_goals try simp only [Act.put, List.setIfInBounds_toArray, List.set_cons_zero, List.set_cons_succ]
      all_goals refine wpAnyH_ready (rs := [12]) (by kernel_rfl) (by simp) (AllReadyH.cons (o := { dst := none, op := Op.store 22 (Operand.tmp 2) (Operand.tmp 24), type := 0, pos := "lz.go:21", after := #[{ on := 11, ground := Ground.data }, { on := 11, ground := Ground.chain }, { on := 0, ground := Ground.phase }, { on := 1, ground := Ground.phase }, { on := 2, ground := Ground.phase }, { on := 3, ground := Ground.phase }, { on := 4, ground := Ground.phase }, { on := 5, ground := Ground.phase }, { on := 6, ground := Ground.phase }, { on := 7, ground := Ground.phase }, { on := 8, ground := Ground.phase }, { on := 9, ground := Ground.phase }, { on := 10, ground := Ground.phase }, { on := 11, ground := Ground.phase }], guard := none }) rfl (fun K hK => ?_) AllReadyH.nil)
      all_goals (have p1 := HC7.out.c1)
      all_goals (have p2 := HC7.out.f1)
      all_goals go_simp
      all_goals (have HC8 := Lib.hid (HC7.out.setOut (.slice ao7 (cs.length + 1 + n) cap7)))
      all_goals (refine hK.out _ _ ⟨HC8.out.c0, HC8.out.c2⟩ (fun hh => ?_))
      all_goals (clear hK K hh)
      all_goals try simp only [Act.put, List.setIfInBounds_toArray, List.set_cons_zero, List.set_cons_succ]
      all_goals (refine wpAnyH_done (by kernel_rfl) ?_ _)
      all_goals (obtain ⟨r0, r1, r2, r3, r4, _, _, _, _, _, _, _, _, _⟩ := HC8.out)
      all_goals clear p1 p2
      all_goals go_wp2_with fail
      all_goals go_roundg (gk - n)
      all_goals (try (case measure => go_light; have := HE.out.2.1; omega))
      all_goals (try (case rel =>
        go_light
        rw [show ((j : Int) + (n : Int)) = ((j + n : Nat) : Int) by simp]
        have e1 : List.map bV cs ++ [Value.int IntKind.u8 ↑n] ++ List.map bV (sub bs j (j + n)) = (cs ++ (UInt8.ofNat n :: sub bs j (j + n))).map bV := by
          simp [bV]; omega
        have hsl : (sub bs j (j + n)).length = n := by rw [sub_len _ _ _ (by have := HE.out.2.2.2.1; omega)]; omega
        have e2 : cs.length + 1 + n = (cs ++ (UInt8.ofNat n :: sub bs j (j + n))).length := by simp; omega
        have hg := HG7.out
        rw [e1, e2] at hg
        rw [e2] at HC8 ⊢
        have hfl := HFL.out
        rw [sub_take _ _ _ _ (by omega), sub_drop] at hfl
        refine ⟨j + n, cs ++ (UInt8.ofNat n :: sub bs j (j + n)), ao7, cap7, by have := HE.out.1; omega, by omega, by have := HE.out.2.1; omega, Lib.hid (HC8.out.setBeg (j + n)), Lib.hid ((Own.setCell hg.owns _ (by exact l1) _).setCell _ (by exact l0) _), Lib.hid ?_, Lib.hid ?_, ?_⟩
        · have k1 : Chg (LzS pb po base) w w6 := hch.out.trans' (Grew.ofDrew HG.out).chg (fun i _ h => .inr (.inr (hod.lt i h).1))
          have k2 : Chg (LzS pb po base) w w7 := k1.trans' hg.chg (fun i _ h => .inr (.inr (HG.out.owns.lt i h).1))
          exact (k2.setCell (fun _ => .inr (.inl rfl)) _).setCell (fun _ => .inl rfl) _
        · rw [List.append_assoc, ← hfl]; exact heq.out
        · have := HE.out.2.2.1; rw [List.length_append, List.length_cons, hsl]; omega))
end Go.Proofs.Ytglpdkcpnigniaa

