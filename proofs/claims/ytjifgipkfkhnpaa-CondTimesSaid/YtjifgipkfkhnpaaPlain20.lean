/- cond.plain, Tagged: what may be said of deleting. -/
import Derived.Test.YtjifgipkfkhnpaaConds20
namespace Go.Proofs.Ytjifgipkfkhnpaa
open Go.RowKit
set_option linter.unusedVariables false

/-- May conditions say what is deleted; and do their tests of tags hold? -/
def plF (ns : List ByteArray) (ts : List Tg) : Fo → Bool × Bool
  | .nil => (true, true)
  | .cons c p r =>
    let x := bif c.op == 1 then plF ns ts p else bif c.op == 3 then (knw c.sg && !inS ns c.nm, tgd c ts) else bif c.op == 4 then (knw c.sg && !(c.sg.toList == [33, 61]), true) else (false, false)
    (x.1 && (plF ns ts r).1, x.2 && (plF ns ts r).2)
def plOne (ns : List ByteArray) (ts : List Tg) (c : Lf) (p : Fo) : Bool × Bool :=
  bif c.op == 1 then plF ns ts p else bif c.op == 3 then (knw c.sg && !inS ns c.nm, tgd c ts) else bif c.op == 4 then (knw c.sg && !(c.sg.toList == [33, 61]), true) else (false, false)
theorem plF_cons (ns : List ByteArray) (ts : List Tg) (c : Lf) (p r : Fo) : plF ns ts (.cons c p r) = ((plOne ns ts c p).1 && (plF ns ts r).1, (plOne ns ts c p).2 && (plF ns ts r).2) := rfl

set_option maxHeartbeats 2000000 in
set_option maxRecDepth 100000 in
theorem plain_any (ns : List ByteArray) (ts : List Tg) (rn : ByteArray) : ∀ (j : Nat) (c : Lf) (p : Fo) (pv tv nv : Value) (w : World), p.sz < j → RdF w pv p → RdV w 2 tv ts.length (ts.flatMap Tg.cells) → RdV w 1 nv ns.length (ns.map Value.string) →
    Calls Try.prog 22 #[cV c pv, .agg #[.string rn, tv], nv] w fun e w' => e = .returned (.tuple #[.bool (plOne ns ts c p).1, .bool (plOne ns ts c p).2]) ∧ Below w.heap.size w w' := by
  intro j
  induction j with
  | zero => intro c p pv tv nv w h; omega
  | succ j ih =>
    intro c p pv tv nv w hj hp hT hN
    obtain ⟨xs, hr, hm⟩ := hp
    obtain ⟨pa, pc, rfl, hn1, hn2⟩ := RdV.shape hr
    obtain ⟨ta, tc, rfl, ht1, ht2⟩ := RdV.shape hT
    obtain ⟨na, nc, rfl, hm1, hm2⟩ := RdV.shape hN
    unfold maxLen at hn2
    have hval := show plOne ns ts c p = bif c.op == 1 then plF ns ts p else bif c.op == 3 then (knw c.sg && !inS ns c.nm, tgd c ts) else bif c.op == 4 then (knw c.sg && !(c.sg.toList == [33, 61]), true) else (false, false) from rfl
    unfold cV
    obtain ⟨op, nm, sg, kd, bb, tt⟩ := c
    dsimp only at hval ⊢
    generalize plOne ns ts ⟨op, nm, sg, kd, bb, tt⟩ p = V at *
    obtain ⟨wA, hwA⟩ : ∃ wA, wA = (w.alloc (.cells #[.int .i64 op, .string nm, .string sg, .int .i64 kd, .int .u64 (bb : Int), .string tt, .slice pa xs.length pc] 45)).alloc (.cells #[.string rn, .slice ta ts.length tc] 25) := ⟨_, rfl⟩
    have hbA : Below w.heap.size w wA := by rw [hwA]; exact ((Below.refl _ _).alloc (Nat.le_refl _) _).alloc (by simp) _
    have c0 : wA.cell? ⟨w.heap.size, 0, none⟩ = some (.int .i64 op) := by rw [hwA]; simp
    have c1 : wA.cell? ⟨w.heap.size, 1, none⟩ = some (.string nm) := by rw [hwA]; simp
    have c2 : wA.cell? ⟨w.heap.size, 2, none⟩ = some (.string sg) := by rw [hwA]; simp
    have c3 : wA.cell? ⟨w.heap.size, 3, none⟩ = some (.int .i64 kd) := by rw [hwA]; simp
    have c4 : wA.cell? ⟨w.heap.size, 4, none⟩ = some (.int .u64 (bb : Int)) := by rw [hwA]; simp
    have c5 : wA.cell? ⟨w.heap.size, 5, none⟩ = some (.string tt) := by rw [hwA]; simp
    have c6 : wA.cell? ⟨w.heap.size, 6, none⟩ = some (.slice pa xs.length pc) := by rw [hwA]; simp
    have s0 : wA.cell? ⟨w.heap.size + 1, 0, none⟩ = some (.string rn) := by rw [hwA]; simp
    have s1 : wA.cell? ⟨w.heap.size + 1, 1, none⟩ = some (.slice ta ts.length tc) := by rw [hwA]; simp
    have hk : ∀ w' : World, Below wA.heap.size wA w' → ∀ (bk o : Nat) (u : Value), wA.cell? ⟨bk, o, none⟩ = some u → w'.cell? ⟨bk, o, none⟩ = some u := fun w' h bk o u q => (h.cell (World.block_lt_of_cell? _ _ q)).trans q
    have HK := Lib.hid hk
    have HV := Lib.hid hval
    have HR := Lib.hid (hr.below hbA)
    have HM := Lib.hid (hm.below hbA)
    have HT := Lib.hid (hT.below hbA)
    have HN := Lib.hid (hN.below hbA)
    have HBA := Lib.hid hbA
    have HIH := Lib.hid ih
    have HW := Lib.hid hwA
    have hKn := fun (w : World) => known_any sg w
    clear hr hm hT hN hbA ih hval hwA hk ht1 ht2 hm1 hm2
    go_enter Try.func22, Try.ntmps22
    go_upto_region 1 with fail
    rw [← HW.out]
    clear HW
    by_cases h1 : op = 1
    · subst h1
      have HV2 : Hid (V = plF ns ts p) := Lib.hid (by rw [HV.out]; rfl)
      clear HV c1 c2 c3 c4 c5
      have HS0 := Lib.hid s0
      have HS1 := Lib.hid s1
      go_wp2_with fail
      clear c0 c6 s0 s1
      go_loopg [8, 9, 21] xs.length (fun m s8 s9 s21 wr => ∃ (k : Nat) (R : Fo) (a b : Bool), k + m = xs.length ∧ s21 = .int .i64 (k : Int) ∧ s8 = .bool a ∧ s9 = .bool b ∧ R.sz < j + 1 ∧ Hid (Mt wr R (xs.drop k)) ∧ Hid (RdV wr 7 (.slice pa xs.length pc) xs.length (xs.flatMap lcells)) ∧ Hid ((a && (plF ns ts R).1, b && (plF ns ts R).2) = plF ns ts p) ∧ Hid (Below wA.heap.size wA wr))
      case atStart => exact ⟨0, p, true, true, by omega, rfl, rfl, rfl, hj, Lib.hid (by rw [List.drop_zero]; exact HM.out), HR, Lib.hid rfl, Lib.hid (Below.refl _ _)⟩
      case round =>
        obtain ⟨k, R, a, b, hk, rfl, rfl, rfl, hRs, HMR, HRR, HE, HB⟩ := hrel
        clear HM HR
        cases R with
        | nil =>
          obtain rfl := Mt.end HMR.out (by omega)
          have HV3 : Hid (V = (a, b)) := Lib.hid (by rw [HV2.out, ← HE.out]; simp [plF])
          clear HV2 HE HMR HRR
          go_wp2_with fail
          go_ret2
          exact ⟨by rw [HV3.out]; rfl, HBA.out.trans (HB.out.mono HBA.out.size)⟩
        | cons c p2 r =>
          obtain ⟨hlt, pv2, hx, hp2, hmr⟩ := Mt.at HMR.out
          obtain ⟨bk, off, cap', he, e0, e1, e2, e3, e4, e5, e6⟩ := cond_at HRR.out k hlt
          simp only [Value.slice.injEq, true_and] at he
          obtain ⟨rfl, rfl⟩ := he
          rw [hx] at e0 e1 e2 e3 e4 e5 e6
          have hp2' := hp2
          obtain ⟨ys, hy, _⟩ := hp2'
          obtain ⟨qa, qc, rfl, _, _⟩ := RdV.shape hy
          clear hy
          have hE2 := HE.out
          rw [plF_cons] at hE2
          have hsz : p2.sz < j ∧ r.sz < j + 1 := by simp only [Fo.sz] at hRs; omega
          have hC := fun (w1 : World) (h : Below wr.heap.size wr w1) => HIH.out c p2 _ (.slice ta ts.length tc) (.slice na ns.length nc) w1 hsz.1 (hp2.below h) ((HT.out.below HB.out).below h) ((HN.out.below HB.out).below h)
          unfold cV at hC
          obtain ⟨op2, nm2, sg2, kd2, bb2, tt2⟩ := c
          dsimp only at e0 e1 e2 e3 e4 e5 e6 hC
          generalize plOne ns ts ⟨op2, nm2, sg2, kd2, bb2, tt2⟩ p2 = x at *
          obtain ⟨x1, x2⟩ := x
          dsimp only at hE2 hC
          have HE2 : Hid ((a && x1 && (plF ns ts r).1, b && x2 && (plF ns ts r).2) = plF ns ts p) := Lib.hid (by rw [← hE2, Bool.and_assoc, Bool.and_assoc])
          have HMR2 := Lib.hid hmr
          have hr2 := hsz.2
          have HC := Lib.hid hC
          have hB1 : Below wr.heap.size wr (wr.alloc (.cells #[.int .i64 op2, .string nm2, .string sg2, .int .i64 kd2, .int .u64 (bb2 : Int), .string tt2, .slice qa ys.length qc] 45)) := (Below.refl _ _).alloc (Nat.le_refl _) _
          have HB1 := Lib.hid hB1
          have q0 := HK.out wr HB.out _ _ _ HS0.out
          have q1 := HK.out wr HB.out _ _ _ HS1.out
          have z0 := World.block_lt_of_cell? _ _ q0
          have y0 := (hB1.cell (p := ⟨w.heap.size + 1, 0, none⟩) z0).trans q0
          have y1 := (hB1.cell (p := ⟨w.heap.size + 1, 1, none⟩) z0).trans q1
          clear hE2 hmr HE HMR hx hp2 hRs hsz hC hB1 z0
          go_upto_region 7 with fail
          go_upto_region 8 with (go_at_call 22; refine (HC.out _ HB1.out).mono ?_; rintro _ w2 ⟨rfl, hb2⟩; have HB2 := Lib.hid (HB1.out.trans (hb2.mono HB1.out.size)); clear hb2)
          have HMR3 := Lib.hid (HMR2.out.below HB2.out)
          have HRR3 := Lib.hid (HRR.out.below HB2.out)
          have HB3 := Lib.hid (HB.out.trans (HB2.out.mono HB.out.size))
          clear HMR2 HRR HB HB1 HB2 HC e0 e1 e2 e3 e4 e5 e6 q0 q1 y0 y1
          cases a <;> cases b
          all_goals go_wp2_with fail
          all_goals
            go_roundg (gk - 1)
            case measure => go_light; omega
            case rel =>
              go_light
              exact ⟨k + 1, r, _, _, by omega, by go_num, rfl, rfl, hr2, HMR3, HRR3, HE2, HB3⟩
    have n1 : (op == 1) = false := beq_false_of_ne h1
    clear HM HR HIH hj
    by_cases h3 : op = 3
    · subst h3
      have HV2 : Hid (V = (knw sg && !inS ns nm, tgd ⟨3, nm, sg, kd, bb, tt⟩ ts)) := Lib.hid (by rw [HV.out]; rfl)
      have hC := fun (w1 : World) (h : Below wA.heap.size wA w1) => contains_any ns nm (.slice na ns.length nc) w1 (HN.out.below h)
      have hTg := fun (w1 : World) (h : Below wA.heap.size wA w1) => tagged_any ⟨3, nm, sg, kd, bb, tt⟩ ts rn (.slice pa xs.length pc) (.slice ta ts.length tc) w1 ⟨_, _, _, rfl⟩ (HT.out.below h)
      dsimp only at hTg
      generalize tgd ⟨3, nm, sg, kd, bb, tt⟩ ts = G at *
      have HC := Lib.hid hC
      have HTg := Lib.hid hTg
      have hS : ∀ w' : World, Below wA.heap.size wA w' → w'.cell? ⟨w.heap.size, 0, none⟩ = some (.int .i64 3) ∧ w'.cell? ⟨w.heap.size, 1, none⟩ = some (.string nm) ∧ w'.cell? ⟨w.heap.size, 2, none⟩ = some (.string sg) ∧ w'.cell? ⟨w.heap.size, 3, none⟩ = some (.int .i64 kd) ∧ w'.cell? ⟨w.heap.size, 4, none⟩ = some (.int .u64 (bb : Int)) ∧ w'.cell? ⟨w.heap.size, 5, none⟩ = some (.string tt) ∧ w'.cell? ⟨w.heap.size, 6, none⟩ = some (.slice pa xs.length pc) ∧ w'.cell? ⟨w.heap.size + 1, 0, none⟩ = some (.string rn) ∧ w'.cell? ⟨w.heap.size + 1, 1, none⟩ = some (.slice ta ts.length tc) := fun w' h =>
        have q := HK.out w' h
        ⟨q _ _ _ c0, q _ _ _ c1, q _ _ _ c2, q _ _ _ c3, q _ _ _ c4, q _ _ _ c5, q _ _ _ c6, q _ _ _ s0, q _ _ _ s1⟩
      have HS := Lib.hid hS
      have hB0 : Below wA.heap.size wA wA.drew := (Below.refl _ _).drew
      clear HV hC hTg n1 h1 HK HT HN hS c1 c2 c3 c4 c5 c6 s0 s1
      generalize knw sg = KN at *
      generalize inS ns nm = IN at *
      go_upto_region 12 with fail
      clear c0
      cases KN
      · refine wp_region_held_drew (S := fun w' => w'.cell? ⟨w.heap.size, 0, none⟩ = some (.int .i64 3) ∧ w'.cell? ⟨w.heap.size, 1, none⟩ = some (.string nm) ∧ w'.cell? ⟨w.heap.size, 2, none⟩ = some (.string sg) ∧ w'.cell? ⟨w.heap.size, 3, none⟩ = some (.int .i64 kd) ∧ w'.cell? ⟨w.heap.size, 4, none⟩ = some (.int .u64 (bb : Int)) ∧ w'.cell? ⟨w.heap.size, 5, none⟩ = some (.string tt) ∧ w'.cell? ⟨w.heap.size, 6, none⟩ = some (.slice pa xs.length pc) ∧ w'.cell? ⟨w.heap.size + 1, 0, none⟩ = some (.string rn) ∧ w'.cell? ⟨w.heap.size + 1, 1, none⟩ = some (.slice ta ts.length tc)) (by kernel_rfl) (HS.out _ hB0) (fun hS => ?_)
        refine wpAnyH_take (i := 0) (oi := { dst := some 45, op := Op.fieldAddr 45 (Operand.tmp 3) 2, type := 0, pos := "cond.go:150", after := #[], guard := none }) (v := ?_) rfl (by kernel_rfl) (by kernel_rfl) (by kernel_rfl) (fun _ _ _ h => h) (Or.inl ⟨by rfl, ?_⟩) hS ?_
        rotate_left
        · intro w hSw; (try dsimp only at hSw); go_simp; try with_reducible rfl
        try simp only [Act.put, List.setIfInBounds_toArray, List.set_cons_zero, List.set_cons_succ]
        refine wpAnyH_take (i := 1) (oi := { dst := some 46, op := Op.load 9 (Operand.tmp 45), type := 9, pos := "cond.go:150", after := #[{ on := 0, ground := Ground.data }], guard := none }) (v := ?_) rfl (by kernel_rfl) (by kernel_rfl) (by kernel_rfl) (fun _ _ _ h => h) (Or.inl ⟨by rfl, ?_⟩) hS ?_
        rotate_left
        · intro w hSw; (try dsimp only at hSw); go_simp; try with_reducible rfl
        try simp only [Act.put, List.setIfInBounds_toArray, List.set_cons_zero, List.set_cons_succ]
        refine wpAnyH_take (i := 10) (oi := { dst := some 55, op := Op.load 45 (Operand.tmp 3), type := 45, pos := "cond.go:150", after := #[], guard := none }) (v := ?_) rfl (by kernel_rfl) (by kernel_rfl) (by kernel_rfl) (fun _ _ _ h => h) (Or.inl ⟨by rfl, ?_⟩) hS ?_
        rotate_left
        · intro w hSw; (try dsimp only at hSw); go_simp; try with_reducible rfl
        try simp only [Act.put, List.setIfInBounds_toArray, List.set_cons_zero, List.set_cons_succ]
        refine wpAnyH_take (i := 11) (oi := { dst := some 56, op := Op.load 25 (Operand.tmp 4), type := 25, pos := "cond.go:150", after := #[], guard := none }) (v := ?_) rfl (by kernel_rfl) (by kernel_rfl) (by kernel_rfl) (fun _ _ _ h => h) (Or.inl ⟨by rfl, ?_⟩) hS ?_
        rotate_left
        · intro w hSw; (try dsimp only at hSw); go_simp; try with_reducible rfl
        try simp only [Act.put, List.setIfInBounds_toArray, List.set_cons_zero, List.set_cons_succ]
        refine wpAnyH_ready (rs := [2]) (by kernel_rfl) (by simp) (AllReadyH.cons (o := { dst := some 47, op := Op.call { callee := Callee.value (Operand.func 36), args := #[Operand.tmp 46], argTypes := #[9] }, type := 4, pos := "cond.go:150", after := #[{ on := 1, ground := Ground.data }], guard := none }) rfl (fun K hK => ?_) AllReadyH.nil)
        go_simp
        go_at_call 36
        refine (hKn _).mono ?_
        rintro _ _ ⟨rfl, rfl⟩
        dsimp only
        refine hK.out _ _ hS (fun hh => ?_)
        clear hK K hh
        try simp only [Act.put, List.setIfInBounds_toArray, List.set_cons_zero, List.set_cons_succ]
        refine wpAnyH_take (i := 3) (oi := { dst := some 48, op := Op.move (Operand.tmp 47), type := 4, pos := "cond.go:150", after := #[{ on := 2, ground := Ground.data }, { on := 2, ground := Ground.chain }], guard := none }) (v := ?_) rfl (by kernel_rfl) (by kernel_rfl) (by kernel_rfl) (fun _ _ _ h => h) (Or.inl ⟨by rfl, ?_⟩) hS ?_
        rotate_left
        · intro w hSw; (try dsimp only at hSw); go_simp; try with_reducible rfl
        try simp only [Act.put, List.setIfInBounds_toArray, List.set_cons_zero, List.set_cons_succ]
        refine wpAnyH_take (i := 4) (oi := { dst := some 49, op := Op.move (Operand.tmp 2), type := 29, pos := "cond.go:150", after := #[{ on := 3, ground := Ground.guard }], guard := some (3, true) }) (v := undef) rfl (by kernel_rfl) (by kernel_rfl) (by kernel_rfl) (fun _ _ _ h => h) (Or.inr ⟨by rfl, rfl⟩) hS ?_
        try simp only [Act.put, List.setIfInBounds_toArray, List.set_cons_zero, List.set_cons_succ]
        refine wpAnyH_take (i := 5) (oi := { dst := some 50, op := Op.fieldAddr 45 (Operand.tmp 3) 1, type := 0, pos := "cond.go:150", after := #[{ on := 3, ground := Ground.guard }], guard := some (3, true) }) (v := undef) rfl (by kernel_rfl) (by kernel_rfl) (by kernel_rfl) (fun _ _ _ h => h) (Or.inr ⟨by rfl, rfl⟩) hS ?_
        try simp only [Act.put, List.setIfInBounds_toArray, List.set_cons_zero, List.set_cons_succ]
        refine wpAnyH_take (i := 6) (oi := { dst := some 51, op := Op.load 9 (Operand.tmp 50), type := 9, pos := "cond.go:150", after := #[{ on := 5, ground := Ground.data }, { on := 3, ground := Ground.guard }], guard := some (3, true) }) (v := undef) rfl (by kernel_rfl) (by kernel_rfl) (by kernel_rfl) (fun _ _ _ h => h) (Or.inr ⟨by rfl, rfl⟩) hS ?_
        try simp only [Act.put, List.setIfInBounds_toArray, List.set_cons_zero, List.set_cons_succ]
        refine wpAnyH_take (i := 7) (oi := { dst := some 52, op := Op.call { callee := Callee.value (Operand.func 31), args := #[Operand.tmp 49, Operand.tmp 51], argTypes := #[29, 9] }, type := 4, pos := "cond.go:150", after := #[{ on := 4, ground := Ground.data }, { on := 6, ground := Ground.data }, { on := 3, ground := Ground.chain }, { on := 3, ground := Ground.guard }], guard := some (3, true) }) (v := undef) rfl (by kernel_rfl) (by kernel_rfl) (by kernel_rfl) (fun _ _ _ h => h) (Or.inr ⟨by rfl, rfl⟩) hS ?_
        try simp only [Act.put, List.setIfInBounds_toArray, List.set_cons_zero, List.set_cons_succ]
        refine wpAnyH_take (i := 8) (oi := { dst := some 53, op := Op.unOp UnOp.not 4 (Operand.tmp 52), type := 4, pos := "cond.go:150", after := #[{ on := 7, ground := Ground.data }, { on := 3, ground := Ground.guard }], guard := some (3, true) }) (v := undef) rfl (by kernel_rfl) (by kernel_rfl) (by kernel_rfl) (fun _ _ _ h => h) (Or.inr ⟨by rfl, rfl⟩) hS ?_
        try simp only [Act.put, List.setIfInBounds_toArray, List.set_cons_zero, List.set_cons_succ]
        refine wpAnyH_take (i := 9) (oi := { dst := some 54, op := Op.pick (Operand.tmp 48) (Operand.tmp 53) (Operand.const (Value.bool false)), type := 4, pos := "cond.go:150", after := #[{ on := 3, ground := Ground.data }, { on := 8, ground := Ground.data }], guard := none }) (v := ?_) rfl (by kernel_rfl) (by kernel_rfl) (by kernel_rfl) (fun _ _ _ h => h) (Or.inl ⟨by rfl, ?_⟩) hS ?_
        rotate_left
        · intro w hSw; (try dsimp only at hSw); go_simp; try with_reducible rfl
        try simp only [Act.put, List.setIfInBounds_toArray, List.set_cons_zero, List.set_cons_succ]
        refine wpAnyH_ready (rs := [12]) (by kernel_rfl) (by simp) (AllReadyH.cons (o := { dst := some 57, op := Op.call { callee := Callee.value (Operand.func 32), args := #[Operand.tmp 55, Operand.tmp 56], argTypes := #[45, 25] }, type := 4, pos := "cond.go:150", after := #[{ on := 10, ground := Ground.data }, { on := 11, ground := Ground.data }, { on := 7, ground := Ground.chain }], guard := none }) rfl (fun K hK => ?_) AllReadyH.nil)
        go_simp
        go_at_call 32
        refine (HTg.out _ hB0).mono ?_
        rintro _ w3 ⟨rfl, hb3⟩
        have hB3 : Below wA.heap.size wA w3 := hB0.trans (hb3.mono hB0.size)
        clear hb3
        dsimp only
        refine hK.out _ _ (HS.out _ hB3) (fun hh => ?_)
        replace hS := hh
        clear hK K hh
        try simp only [Act.put, List.setIfInBounds_toArray, List.set_cons_zero, List.set_cons_succ]
        refine wpAnyH_take (i := 13) (oi := { dst := some 6, op := Op.assign (Operand.tmp 54), type := 4, pos := "cond.go:150", after := #[{ on := 9, ground := Ground.data }, { on := 12, ground := Ground.chain }, { on := 0, ground := Ground.phase }, { on := 1, ground := Ground.phase }, { on := 2, ground := Ground.phase }, { on := 3, ground := Ground.phase }, { on := 4, ground := Ground.phase }, { on := 5, ground := Ground.phase }, { on := 6, ground := Ground.phase }, { on := 7, ground := Ground.phase }, { on := 8, ground := Ground.phase }, { on := 9, ground := Ground.phase }, { on := 10, ground := Ground.textOnly Departure.lateStores }, { on := 11, ground := Ground.textOnly Departure.lateStores }, { on := 12, ground := Ground.textOnly Departure.lateStoresUnsure }], guard := none }) (v := ?_) rfl (by kernel_rfl) (by kernel_rfl) (by kernel_rfl) (fun _ _ _ h => h) (Or.inl ⟨by rfl, ?_⟩) hS ?_
        rotate_left
        · intro w hSw; (try dsimp only at hSw); go_simp; try with_reducible rfl
        try simp only [Act.put, List.setIfInBounds_toArray, List.set_cons_zero, List.set_cons_succ]
        refine wpAnyH_take (i := 14) (oi := { dst := some 7, op := Op.assign (Operand.tmp 57), type := 4, pos := "cond.go:150", after := #[{ on := 12, ground := Ground.data }, { on := 13, ground := Ground.chain }, { on := 0, ground := Ground.phase }, { on := 1, ground := Ground.phase }, { on := 2, ground := Ground.phase }, { on := 3, ground := Ground.phase }, { on := 4, ground := Ground.phase }, { on := 5, ground := Ground.phase }, { on := 6, ground := Ground.phase }, { on := 7, ground := Ground.phase }, { on := 8, ground := Ground.phase }, { on := 9, ground := Ground.phase }, { on := 10, ground := Ground.phase }, { on := 11, ground := Ground.phase }, { on := 12, ground := Ground.phase }, { on := 13, ground := Ground.phase }], guard := none }) (v := ?_) rfl (by kernel_rfl) (by kernel_rfl) (by kernel_rfl) (fun _ _ _ h => h) (Or.inl ⟨by rfl, ?_⟩) hS ?_
        rotate_left
        · intro w hSw; (try dsimp only at hSw); go_simp; try with_reducible rfl
        try simp only [Act.put, List.setIfInBounds_toArray, List.set_cons_zero, List.set_cons_succ]
        refine wpAnyH_done (by kernel_rfl) ?_ _
        go_wp2_with fail
        go_ret2
        exact ⟨by rw [HV2.out]; rfl, HBA.out.trans (hB3.mono HBA.out.size)⟩
      · go_region_held3 (fun w' => w'.cell? ⟨w.heap.size, 0, none⟩ = some (.int .i64 3) ∧ w'.cell? ⟨w.heap.size, 1, none⟩ = some (.string nm) ∧ w'.cell? ⟨w.heap.size, 2, none⟩ = some (.string sg) ∧ w'.cell? ⟨w.heap.size, 3, none⟩ = some (.int .i64 kd) ∧ w'.cell? ⟨w.heap.size, 4, none⟩ = some (.int .u64 (bb : Int)) ∧ w'.cell? ⟨w.heap.size, 5, none⟩ = some (.string tt) ∧ w'.cell? ⟨w.heap.size, 6, none⟩ = some (.slice pa xs.length pc) ∧ w'.cell? ⟨w.heap.size + 1, 0, none⟩ = some (.string rn) ∧ w'.cell? ⟨w.heap.size + 1, 1, none⟩ = some (.slice ta ts.length tc))
          (first | exact HS.out _ hB0 | exact HS.out _ hB3)
          (first
            | (go_at_call 36; refine (hKn _).mono ?_; rintro _ _ ⟨rfl, rfl⟩)
            | (go_at_call 31; first | (refine (HC.out _ hB3).mono ?_; rintro _ _ ⟨rfl, rfl⟩) | (refine (HC.out _ hB0).mono ?_; rintro _ _ ⟨rfl, rfl⟩))
            | (go_at_call 32; refine (HTg.out _ hB0).mono ?_; rintro _ w3 ⟨rfl, hb3⟩; have hB3 : Below wA.heap.size wA w3 := hB0.trans (hb3.mono hB0.size); clear hb3))
        all_goals (go_wp2_with fail; go_ret2; exact ⟨by rw [HV2.out]; rfl, HBA.out.trans (hB3.mono HBA.out.size)⟩)
    have n3 : (op == 3) = false := beq_false_of_ne h3
    clear HT HN HK
    by_cases h4 : op = 4
    · subst h4
      have HV2 : Hid (V = (knw sg && !(sg.toList == [33, 61]), true)) := Lib.hid (by rw [HV.out]; rfl)
      clear HV n1 n3 h1 h3 c1 c3 c4 c5 c6 s0 s1
      generalize knw sg = KN at *
      cases KN
      · go_wp2_with (go_at_call 36; refine (hKn _).mono ?_; rintro _ _ ⟨rfl, rfl⟩)
        go_ret2
        exact ⟨by rw [HV2.out]; rfl, HBA.out⟩
      · go_wp2_with (go_at_call 36; refine (hKn _).mono ?_; rintro _ _ ⟨rfl, rfl⟩)
        go_ret2
        exact ⟨by rw [HV2.out]; rfl, HBA.out⟩
    · have n4 : (op == 4) = false := beq_false_of_ne h4
      have HV2 : Hid (V = (false, false)) := Lib.hid (by rw [HV.out, n1, n3, n4]; rfl)
      clear HV h1 h3 h4 c1 c2 c3 c4 c5 c6 s0 s1
      go_wp2_with fail
      go_ret2
      exact ⟨by rw [HV2.out]; rfl, HBA.out⟩
end Go.Proofs.Ytjifgipkfkhnpaa
