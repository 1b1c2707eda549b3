/- gristref20.tags: do all tests of tags hold? Printed by gen_rtags20.py. -/
import Derived.Test.YtjifgipkfkhnpaaRPlain20
namespace Go.Proofs.Ytjifgipkfkhnpaa
open Go.RowKit
set_option linter.unusedVariables false

def rtF (ts : List Tg) : Fo → Bool
  | .nil => true
  | .cons c p r => (bif c.op == 1 then rtF ts p else bif c.op == 3 then tgd c ts else true) && rtF ts r
theorem rtF_plain (ns : List ByteArray) (ts : List Tg) : ∀ F : Fo, (plF ns ts F).1 = true → rtF ts F = (plF ns ts F).2
  | .nil => fun _ => rfl
  | .cons c p r => by
    intro h
    rw [plF_cons] at h ⊢
    simp only [Bool.and_eq_true] at h
    obtain ⟨h1, h2⟩ := h
    show ((bif c.op == 1 then rtF ts p else bif c.op == 3 then tgd c ts else true) && rtF ts r) = _
    rw [rtF_plain ns ts r h2]
    congr 1
    unfold plOne at h1 ⊢
    by_cases e1 : (c.op == 1) = true
    · rw [e1] at h1 ⊢
      simp only [cond_true] at h1 ⊢
      exact rtF_plain ns ts p h1
    · rw [Bool.not_eq_true] at e1
      rw [e1] at h1 ⊢
      simp only [cond_false] at h1 ⊢
      by_cases e3 : (c.op == 3) = true
      · rw [e3]; rfl
      · rw [Bool.not_eq_true] at e3
        rw [e3] at h1 ⊢
        simp only [cond_false] at h1 ⊢
        by_cases e4 : (c.op == 4) = true
        · rw [e4]; rfl
        · rw [Bool.not_eq_true] at e4
          rw [e4] at h1
          cases h1

set_option maxHeartbeats 4000000 in
set_option maxRecDepth 100000 in
theorem rtags_any (ts : List Tg) (rn : ByteArray) : ∀ (j : Nat) (F : Fo) (v tv : Value) (w : World), F.sz < j → RdF w v F → RdV w 2 tv ts.length (ts.flatMap Tg.cells) →
    Calls Try.prog 24 #[v, .agg #[.string rn, tv]] w fun e w' => e = .returned (.bool (rtF ts F)) ∧ Below w.heap.size w w' := by
  intro j
  induction j with
  | zero => intro F v tv w h; omega
  | succ j ih =>
    intro F v tv w hj hp hT
    obtain ⟨xs, hr, hm⟩ := hp
    obtain ⟨pa, pc, rfl, hn1, hn2⟩ := RdV.shape hr
    obtain ⟨ta, tc, rfl, hm1, hm2⟩ := RdV.shape hT
    unfold maxLen at hn2
    obtain ⟨V, hV0⟩ : ∃ V, rtF ts F = V := ⟨_, rfl⟩
    rw [hV0]
    obtain ⟨wA, hwA⟩ : ∃ wA, wA = w.alloc (.cells #[.string rn, .slice ta ts.length tc] 25) := ⟨_, rfl⟩
    have hbA : Below w.heap.size w wA := by rw [hwA]; exact (Below.refl _ _).alloc (Nat.le_refl _) _
    have s0 : wA.cell? ⟨w.heap.size, 0, none⟩ = some (.string rn) := by rw [hwA]; simp
    have s1 : wA.cell? ⟨w.heap.size, 1, none⟩ = some (.slice ta ts.length tc) := by rw [hwA]; simp
    have HS0 := Lib.hid s0
    have HS1 := Lib.hid s1
    have HV := Lib.hid hV0
    have HR := Lib.hid (hr.below hbA)
    have HM := Lib.hid (hm.below hbA)
    have HT := Lib.hid (hT.below hbA)
    have HBA := Lib.hid hbA
    have HIH := Lib.hid ih
    have HW := Lib.hid hwA
    clear hr hm hT hbA ih hm1 hm2 hV0 hwA s0 s1
    go_enter Try.func24, Try.ntmps24
    go_upto_region 1 with fail
    rw [← HW.out]
    clear HW
    go_wp2_with fail
    go_loopg [8] xs.length (fun m s8 wr => ∃ (k : Nat) (R : Fo), k + m = xs.length ∧ s8 = .int .i64 (k : Int) ∧ R.sz < j + 1 ∧ Hid (Mt wr R (xs.drop k)) ∧ Hid (RdV wr 7 (.slice pa xs.length pc) xs.length (xs.flatMap lcells)) ∧ Hid (rtF ts R = V) ∧ Hid (Below wA.heap.size wA wr))
    case atStart => exact ⟨0, F, by omega, rfl, hj, Lib.hid (by rw [List.drop_zero]; exact HM.out), HR, HV, Lib.hid (Below.refl _ _)⟩
    case round =>
      obtain ⟨k, R, hk, rfl, hRs, HMR, HRR, HE, HB⟩ := hrel
      clear HM HR HV
      cases R with
      | nil =>
        obtain rfl := Mt.end HMR.out (by omega)
        have HV2 : Hid (V = true) := Lib.hid (by rw [← HE.out]; rfl)
        clear HE HMR HRR
        go_wp2_with fail
        go_ret
        exact ⟨by rw [HV2.out]; rfl, HBA.out.trans (HB.out.mono HBA.out.size)⟩
      | cons c p2 r =>
        obtain ⟨hlt, pv2, hx, hp2, hmr⟩ := Mt.at HMR.out
        obtain ⟨bk, off, cap', he, e0, e1, e2, e3, e4, e5, e6⟩ := cond_at HRR.out k hlt
        simp only [Value.slice.injEq, true_and] at he
        obtain ⟨rfl, rfl⟩ := he
        rw [hx] at e0 e1 e2 e3 e4 e5 e6
        have hp2' := hp2
        obtain ⟨ys, hy, _⟩ := hp2'
        obtain ⟨qa, qc, rfl, _, _⟩ := RdV.shape hy
        clear hy
        have hE2 : ((bif c.op == 1 then rtF ts p2 else bif c.op == 3 then tgd c ts else true) && rtF ts r) = V := HE.out
        have hsz : p2.sz < j ∧ r.sz < j + 1 := by simp only [Fo.sz] at hRs; omega
        have hC := fun (w1 : World) (h : Below wr.heap.size wr w1) => HIH.out p2 _ (.slice ta ts.length tc) w1 hsz.1 (hp2.below h) ((HT.out.below HB.out).below h)
        have hTg := fun (w1 : World) (h : Below wr.heap.size wr w1) => rtagd_any c ts rn (.slice qa ys.length qc) (.slice ta ts.length tc) w1 ⟨_, _, _, rfl⟩ ((HT.out.below HB.out).below h)
        obtain ⟨op2, nm2, sg2, kd2, bb2, tt2⟩ := c
        dsimp only at e0 e1 e2 e3 e4 e5 e6 hC hTg hE2
        have q0 := (HB.out.cell (World.block_lt_of_cell? _ _ HS0.out)).trans HS0.out
        have q1 := (HB.out.cell (World.block_lt_of_cell? _ _ HS1.out)).trans HS1.out
        have HE2 := Lib.hid hE2
        have HMR2 := Lib.hid hmr
        have hr2 := hsz.2
        have HC := Lib.hid hC
        have HTg := Lib.hid hTg
        have hgo : ∀ w2 : World, Below wr.heap.size wr w2 → Hid (Mt w2 r (xs.drop (k + 1))) ∧ Hid (RdV w2 7 (.slice (some ⟨bk, off, none⟩) xs.length pc) xs.length (xs.flatMap lcells)) ∧ Hid (Below wA.heap.size wA w2) := fun w2 h =>
          ⟨Lib.hid (HMR2.out.below h), Lib.hid (HRR.out.below h), Lib.hid (HB.out.trans (h.mono HB.out.size))⟩
        have HGO := Lib.hid hgo
        have hB0 : Below wr.heap.size wr wr.drew := (Below.refl _ _).drew
        have hki : (k : Int) < (xs.length : Int) := by omega
        clear hE2 hmr HE HMR hx hp2 hRs hsz hC hTg hgo
        by_cases h1 : op2 = 1
        · subst h1
          have hS : ∀ w' : World, Below wr.heap.size wr w' → w'.cell? ⟨bk, off + k * 7, none⟩ = some (.int .i64 1) ∧ w'.cell? ⟨bk, off + k * 7 + 1, none⟩ = some (.string nm2) ∧ w'.cell? ⟨bk, off + k * 7 + 2, none⟩ = some (.string sg2) ∧ w'.cell? ⟨bk, off + k * 7 + 3, none⟩ = some (.int .i64 kd2) ∧ w'.cell? ⟨bk, off + k * 7 + 4, none⟩ = some (.int .u64 (bb2 : Int)) ∧ w'.cell? ⟨bk, off + k * 7 + 5, none⟩ = some (.string tt2) ∧ w'.cell? ⟨bk, off + k * 7 + 6, none⟩ = some (.slice qa ys.length qc) ∧ w'.cell? ⟨w.heap.size, 0, none⟩ = some (.string rn) ∧ w'.cell? ⟨w.heap.size, 1, none⟩ = some (.slice ta ts.length tc) := fun w' h =>
            have q : ∀ (bk o : Nat) (u : Value), wr.cell? ⟨bk, o, none⟩ = some u → w'.cell? ⟨bk, o, none⟩ = some u := fun bk o u q => (h.cell (World.block_lt_of_cell? _ _ q)).trans q
            ⟨q _ _ _ e0, q _ _ _ e1, q _ _ _ e2, q _ _ _ e3, q _ _ _ e4, q _ _ _ e5, q _ _ _ e6, q _ _ _ q0, q _ _ _ q1⟩
          have HKp := Lib.hid hS
          have HE3 : Hid ((rtF ts p2 && rtF ts r) = V) := HE2
          clear HE2 hS HTg
          generalize rtF ts p2 = x at *
          go_upto_region 4 with fail
          clear e0 e1 e2 e3 e4 e5 e6 q0 q1
          cases x
          · refine wp_region_held_drew (S := fun w' => w'.cell? ⟨bk, off + k * 7, none⟩ = some (.int .i64 1) ∧ w'.cell? ⟨bk, off + k * 7 + 1, none⟩ = some (.string nm2) ∧ w'.cell? ⟨bk, off + k * 7 + 2, none⟩ = some (.string sg2) ∧ w'.cell? ⟨bk, off + k * 7 + 3, none⟩ = some (.int .i64 kd2) ∧ w'.cell? ⟨bk, off + k * 7 + 4, none⟩ = some (.int .u64 (bb2 : Int)) ∧ w'.cell? ⟨bk, off + k * 7 + 5, none⟩ = some (.string tt2) ∧ w'.cell? ⟨bk, off + k * 7 + 6, none⟩ = some (.slice qa ys.length qc) ∧ w'.cell? ⟨w.heap.size, 0, none⟩ = some (.string rn) ∧ w'.cell? ⟨w.heap.size, 1, none⟩ = some (.slice ta ts.length tc)) (by kernel_rfl) (HKp.out _ hB0) (fun hS => ?_)
            refine wpAnyH_take (i := 0) (oi := { dst := some 11, op := Op.move (Operand.tmp 0), type := 22, pos := "ref.go:175", after := #[], guard := none }) (v := ?_) rfl (by kernel_rfl) (by kernel_rfl) (by kernel_rfl) (fun _ _ _ h => h) (Or.inl ⟨by rfl, ?_⟩) hS ?_
            rotate_left
            · intro w hSw; (try dsimp only at hSw); go_simp; try with_reducible rfl
            try simp only [Act.put, List.setIfInBounds_toArray, List.set_cons_zero, List.set_cons_succ]
            refine wpAnyH_take (i := 1) (oi := { dst := some 12, op := Op.move (Operand.tmp 5), type := 3, pos := "ref.go:175", after := #[], guard := none }) (v := ?_) rfl (by kernel_rfl) (by kernel_rfl) (by kernel_rfl) (fun _ _ _ h => h) (Or.inl ⟨by rfl, ?_⟩) hS ?_
            rotate_left
            · intro w hSw; (try dsimp only at hSw); go_simp; try with_reducible rfl
            try simp only [Act.put, List.setIfInBounds_toArray, List.set_cons_zero, List.set_cons_succ]
            refine wpAnyH_take (i := 2) (oi := { dst := some 13, op := Op.indexAddr 22 (Operand.tmp 11) (Operand.tmp 12), type := 0, pos := "ref.go:175", after := #[{ on := 0, ground := Ground.data }, { on := 1, ground := Ground.data }], guard := none }) (v := ?_) rfl (by kernel_rfl) (by kernel_rfl) (by kernel_rfl) (fun _ _ _ h => h) (Or.inl ⟨by rfl, ?_⟩) hS ?_
            rotate_left
            · intro w hSw; (try dsimp only at hSw); go_simp; try with_reducible rfl
            try simp only [Act.put, List.setIfInBounds_toArray, List.set_cons_zero, List.set_cons_succ]
            refine wpAnyH_take (i := 3) (oi := { dst := some 14, op := Op.fieldAddr 43 (Operand.tmp 13) 0, type := 0, pos := "ref.go:175", after := #[{ on := 2, ground := Ground.data }], guard := none }) (v := ?_) rfl (by kernel_rfl) (by kernel_rfl) (by kernel_rfl) (fun _ _ _ h => h) (Or.inl ⟨by rfl, ?_⟩) hS ?_
            rotate_left
            · intro w hSw; (try dsimp only at hSw); go_simp; try with_reducible rfl
            try simp only [Act.put, List.setIfInBounds_toArray, List.set_cons_zero, List.set_cons_succ]
            refine wpAnyH_take (i := 4) (oi := { dst := some 15, op := Op.load 3 (Operand.tmp 14), type := 3, pos := "ref.go:175", after := #[{ on := 3, ground := Ground.data }], guard := none }) (v := ?_) rfl (by kernel_rfl) (by kernel_rfl) (by kernel_rfl) (fun _ _ _ h => h) (Or.inl ⟨by rfl, ?_⟩) hS ?_
            rotate_left
            · intro w hSw; (try dsimp only at hSw); go_simp; try with_reducible rfl
            try simp only [Act.put, List.setIfInBounds_toArray, List.set_cons_zero, List.set_cons_succ]
            refine wpAnyH_take (i := 5) (oi := { dst := some 16, op := Op.binOp BinOp.eql 3 (Operand.tmp 15) (Operand.const (Value.int IntKind.i64 1)) 3, type := 4, pos := "ref.go:175", after := #[{ on := 4, ground := Ground.data }], guard := none }) (v := ?_) rfl (by kernel_rfl) (by kernel_rfl) (by kernel_rfl) (fun _ _ _ h => h) (Or.inl ⟨by rfl, ?_⟩) hS ?_
            rotate_left
            · intro w hSw; (try dsimp only at hSw); go_simp; try with_reducible rfl
            try simp only [Act.put, List.setIfInBounds_toArray, List.set_cons_zero, List.set_cons_succ]
            refine wpAnyH_take (i := 6) (oi := { dst := some 17, op := Op.move (Operand.tmp 16), type := 4, pos := "ref.go:175", after := #[{ on := 5, ground := Ground.data }], guard := none }) (v := ?_) rfl (by kernel_rfl) (by kernel_rfl) (by kernel_rfl) (fun _ _ _ h => h) (Or.inl ⟨by rfl, ?_⟩) hS ?_
            rotate_left
            · intro w hSw; (try dsimp only at hSw); go_simp; try with_reducible rfl
            try simp only [Act.put, List.setIfInBounds_toArray, List.set_cons_zero, List.set_cons_succ]
            refine wpAnyH_take (i := 7) (oi := { dst := some 18, op := Op.move (Operand.tmp 0), type := 22, pos := "ref.go:175", after := #[{ on := 6, ground := Ground.guard }], guard := some (6, true) }) (v := ?_) rfl (by kernel_rfl) (by kernel_rfl) (by kernel_rfl) (fun _ _ _ h => h) (Or.inl ⟨by rfl, ?_⟩) hS ?_
            rotate_left
            · intro w hSw; (try dsimp only at hSw); go_simp; try with_reducible rfl
            try simp only [Act.put, List.setIfInBounds_toArray, List.set_cons_zero, List.set_cons_succ]
            refine wpAnyH_take (i := 8) (oi := { dst := some 19, op := Op.move (Operand.tmp 5), type := 3, pos := "ref.go:175", after := #[{ on := 6, ground := Ground.guard }], guard := some (6, true) }) (v := ?_) rfl (by kernel_rfl) (by kernel_rfl) (by kernel_rfl) (fun _ _ _ h => h) (Or.inl ⟨by rfl, ?_⟩) hS ?_
            rotate_left
            · intro w hSw; (try dsimp only at hSw); go_simp; try with_reducible rfl
            try simp only [Act.put, List.setIfInBounds_toArray, List.set_cons_zero, List.set_cons_succ]
            refine wpAnyH_take (i := 9) (oi := { dst := some 20, op := Op.indexAddr 22 (Operand.tmp 18) (Operand.tmp 19), type := 0, pos := "ref.go:175", after := #[{ on := 7, ground := Ground.data }, { on := 8, ground := Ground.data }, { on := 6, ground := Ground.guard }], guard := some (6, true) }) (v := ?_) rfl (by kernel_rfl) (by kernel_rfl) (by kernel_rfl) (fun _ _ _ h => h) (Or.inl ⟨by rfl, ?_⟩) hS ?_
            rotate_left
            · intro w hSw; (try dsimp only at hSw); go_simp; try with_reducible rfl
            try simp only [Act.put, List.setIfInBounds_toArray, List.set_cons_zero, List.set_cons_succ]
            refine wpAnyH_take (i := 10) (oi := { dst := some 21, op := Op.fieldAddr 43 (Operand.tmp 20) 4, type := 0, pos := "ref.go:175", after := #[{ on := 9, ground := Ground.data }, { on := 6, ground := Ground.guard }], guard := some (6, true) }) (v := ?_) rfl (by kernel_rfl) (by kernel_rfl) (by kernel_rfl) (fun _ _ _ h => h) (Or.inl ⟨by rfl, ?_⟩) hS ?_
            rotate_left
            · intro w hSw; (try dsimp only at hSw); go_simp; try with_reducible rfl
            try simp only [Act.put, List.setIfInBounds_toArray, List.set_cons_zero, List.set_cons_succ]
            refine wpAnyH_take (i := 11) (oi := { dst := some 22, op := Op.load 22 (Operand.tmp 21), type := 22, pos := "ref.go:175", after := #[{ on := 10, ground := Ground.data }, { on := 6, ground := Ground.guard }], guard := some (6, true) }) (v := ?_) rfl (by kernel_rfl) (by kernel_rfl) (by kernel_rfl) (fun _ _ _ h => h) (Or.inl ⟨by rfl, ?_⟩) hS ?_
            rotate_left
            · intro w hSw; (try dsimp only at hSw); go_simp; try with_reducible rfl
            try simp only [Act.put, List.setIfInBounds_toArray, List.set_cons_zero, List.set_cons_succ]
            refine wpAnyH_take (i := 12) (oi := { dst := some 23, op := Op.load 25 (Operand.tmp 3), type := 25, pos := "ref.go:175", after := #[{ on := 6, ground := Ground.guard }], guard := some (6, true) }) (v := ?_) rfl (by kernel_rfl) (by kernel_rfl) (by kernel_rfl) (fun _ _ _ h => h) (Or.inl ⟨by rfl, ?_⟩) hS ?_
            rotate_left
            · intro w hSw; (try dsimp only at hSw); go_simp; try with_reducible rfl
            try simp only [Act.put, List.setIfInBounds_toArray, List.set_cons_zero, List.set_cons_succ]
            refine wpAnyH_ready (rs := [13]) (by kernel_rfl) (by simp) (AllReadyH.cons (o := { dst := some 24, op := Op.call { callee := Callee.value (Operand.func 24), args := #[Operand.tmp 22, Operand.tmp 23], argTypes := #[22, 25] }, type := 4, pos := "ref.go:175", after := #[{ on := 11, ground := Ground.data }, { on := 12, ground := Ground.data }, { on := 6, ground := Ground.chain }, { on := 6, ground := Ground.guard }], guard := some (6, true) }) rfl (fun K hK => ?_) AllReadyH.nil)
            go_simp
            go_at_call 24
            refine (HC.out _ hB0).mono ?_
            rintro _ w3 ⟨rfl, hb3⟩
            have hB3 : Below wr.heap.size wr w3 := hB0.trans (hb3.mono hB0.size)
            obtain ⟨HMR3, HRR3, HB3⟩ := HGO.out w3 hB3
            clear hb3
            dsimp only
            refine hK.out _ _ (HKp.out _ hB3) (fun hh => ?_)
            replace hS := hh
            clear hK K hh
            try simp only [Act.put, List.setIfInBounds_toArray, List.set_cons_zero, List.set_cons_succ]
            refine wpAnyH_take (i := 14) (oi := { dst := some 25, op := Op.unOp UnOp.not 4 (Operand.tmp 24), type := 4, pos := "ref.go:175", after := #[{ on := 13, ground := Ground.data }, { on := 6, ground := Ground.guard }], guard := some (6, true) }) (v := ?_) rfl (by kernel_rfl) (by kernel_rfl) (by kernel_rfl) (fun _ _ _ h => h) (Or.inl ⟨by rfl, ?_⟩) hS ?_
            rotate_left
            · intro w hSw; (try dsimp only at hSw); go_simp; try with_reducible rfl
            try simp only [Act.put, List.setIfInBounds_toArray, List.set_cons_zero, List.set_cons_succ]
            refine wpAnyH_take (i := 15) (oi := { dst := some 26, op := Op.pick (Operand.tmp 17) (Operand.tmp 25) (Operand.const (Value.bool false)), type := 4, pos := "ref.go:175", after := #[{ on := 6, ground := Ground.data }, { on := 14, ground := Ground.data }], guard := none }) (v := ?_) rfl (by kernel_rfl) (by kernel_rfl) (by kernel_rfl) (fun _ _ _ h => h) (Or.inl ⟨by rfl, ?_⟩) hS ?_
            rotate_left
            · intro w hSw; (try dsimp only at hSw); go_simp; try with_reducible rfl
            try simp only [Act.put, List.setIfInBounds_toArray, List.set_cons_zero, List.set_cons_succ]
            refine wpAnyH_take (i := 16) (oi := { dst := some 27, op := Op.move (Operand.tmp 26), type := 4, pos := "ref.go:175", after := #[{ on := 15, ground := Ground.data }, { on := 13, ground := Ground.chain }], guard := none }) (v := ?_) rfl (by kernel_rfl) (by kernel_rfl) (by kernel_rfl) (fun _ _ _ h => h) (Or.inl ⟨by rfl, ?_⟩) hS ?_
            rotate_left
            · intro w hSw; (try dsimp only at hSw); go_simp; try with_reducible rfl
            try simp only [Act.put, List.setIfInBounds_toArray, List.set_cons_zero, List.set_cons_succ]
            refine wpAnyH_take (i := 17) (oi := { dst := some 28, op := Op.move (Operand.tmp 0), type := 22, pos := "ref.go:175", after := #[{ on := 16, ground := Ground.guard }], guard := some (16, false) }) (v := undef) rfl (by kernel_rfl) (by kernel_rfl) (by kernel_rfl) (fun _ _ _ h => h) (Or.inr ⟨by rfl, rfl⟩) hS ?_
            try simp only [Act.put, List.setIfInBounds_toArray, List.set_cons_zero, List.set_cons_succ]
            refine wpAnyH_take (i := 18) (oi := { dst := some 29, op := Op.move (Operand.tmp 5), type := 3, pos := "ref.go:175", after := #[{ on := 16, ground := Ground.guard }], guard := some (16, false) }) (v := undef) rfl (by kernel_rfl) (by kernel_rfl) (by kernel_rfl) (fun _ _ _ h => h) (Or.inr ⟨by rfl, rfl⟩) hS ?_
            try simp only [Act.put, List.setIfInBounds_toArray, List.set_cons_zero, List.set_cons_succ]
            refine wpAnyH_take (i := 19) (oi := { dst := some 30, op := Op.indexAddr 22 (Operand.tmp 28) (Operand.tmp 29), type := 0, pos := "ref.go:175", after := #[{ on := 17, ground := Ground.data }, { on := 18, ground := Ground.data }, { on := 16, ground := Ground.guard }], guard := some (16, false) }) (v := undef) rfl (by kernel_rfl) (by kernel_rfl) (by kernel_rfl) (fun _ _ _ h => h) (Or.inr ⟨by rfl, rfl⟩) hS ?_
            try simp only [Act.put, List.setIfInBounds_toArray, List.set_cons_zero, List.set_cons_succ]
            refine wpAnyH_take (i := 20) (oi := { dst := some 31, op := Op.fieldAddr 43 (Operand.tmp 30) 0, type := 0, pos := "ref.go:175", after := #[{ on := 19, ground := Ground.data }, { on := 16, ground := Ground.guard }], guard := some (16, false) }) (v := undef) rfl (by kernel_rfl) (by kernel_rfl) (by kernel_rfl) (fun _ _ _ h => h) (Or.inr ⟨by rfl, rfl⟩) hS ?_
            try simp only [Act.put, List.setIfInBounds_toArray, List.set_cons_zero, List.set_cons_succ]
            refine wpAnyH_take (i := 21) (oi := { dst := some 32, op := Op.load 3 (Operand.tmp 31), type := 3, pos := "ref.go:175", after := #[{ on := 20, ground := Ground.data }, { on := 16, ground := Ground.guard }], guard := some (16, false) }) (v := undef) rfl (by kernel_rfl) (by kernel_rfl) (by kernel_rfl) (fun _ _ _ h => h) (Or.inr ⟨by rfl, rfl⟩) hS ?_
            try simp only [Act.put, List.setIfInBounds_toArray, List.set_cons_zero, List.set_cons_succ]
            refine wpAnyH_take (i := 22) (oi := { dst := some 33, op := Op.binOp BinOp.eql 3 (Operand.tmp 32) (Operand.const (Value.int IntKind.i64 3)) 3, type := 4, pos := "ref.go:175", after := #[{ on := 21, ground := Ground.data }, { on := 16, ground := Ground.guard }], guard := some (16, false) }) (v := undef) rfl (by kernel_rfl) (by kernel_rfl) (by kernel_rfl) (fun _ _ _ h => h) (Or.inr ⟨by rfl, rfl⟩) hS ?_
            try simp only [Act.put, List.setIfInBounds_toArray, List.set_cons_zero, List.set_cons_succ]
            refine wpAnyH_take (i := 23) (oi := { dst := some 34, op := Op.move (Operand.tmp 33), type := 4, pos := "ref.go:175", after := #[{ on := 22, ground := Ground.data }, { on := 16, ground := Ground.chain }, { on := 16, ground := Ground.guard }], guard := some (16, false) }) (v := undef) rfl (by kernel_rfl) (by kernel_rfl) (by kernel_rfl) (fun _ _ _ h => h) (Or.inr ⟨by rfl, rfl⟩) hS ?_
            try simp only [Act.put, List.setIfInBounds_toArray, List.set_cons_zero, List.set_cons_succ]
            refine wpAnyH_take (i := 24) (oi := { dst := some 35, op := Op.load 25 (Operand.tmp 3), type := 25, pos := "ref.go:175", after := #[{ on := 23, ground := Ground.guard }], guard := some (23, true) }) (v := undef) rfl (by kernel_rfl) (by kernel_rfl) (by kernel_rfl) (fun _ _ _ h => h) (Or.inr ⟨by rfl, rfl⟩) hS ?_
            try simp only [Act.put, List.setIfInBounds_toArray, List.set_cons_zero, List.set_cons_succ]
            refine wpAnyH_take (i := 25) (oi := { dst := some 36, op := Op.move (Operand.tmp 0), type := 22, pos := "ref.go:175", after := #[{ on := 23, ground := Ground.guard }], guard := some (23, true) }) (v := undef) rfl (by kernel_rfl) (by kernel_rfl) (by kernel_rfl) (fun _ _ _ h => h) (Or.inr ⟨by rfl, rfl⟩) hS ?_
            try simp only [Act.put, List.setIfInBounds_toArray, List.set_cons_zero, List.set_cons_succ]
            refine wpAnyH_take (i := 26) (oi := { dst := some 37, op := Op.move (Operand.tmp 5), type := 3, pos := "ref.go:175", after := #[{ on := 23, ground := Ground.guard }], guard := some (23, true) }) (v := undef) rfl (by kernel_rfl) (by kernel_rfl) (by kernel_rfl) (fun _ _ _ h => h) (Or.inr ⟨by rfl, rfl⟩) hS ?_
            try simp only [Act.put, List.setIfInBounds_toArray, List.set_cons_zero, List.set_cons_succ]
            refine wpAnyH_take (i := 27) (oi := { dst := some 38, op := Op.indexAddr 22 (Operand.tmp 36) (Operand.tmp 37), type := 0, pos := "ref.go:175", after := #[{ on := 25, ground := Ground.data }, { on := 26, ground := Ground.data }, { on := 23, ground := Ground.guard }], guard := some (23, true) }) (v := undef) rfl (by kernel_rfl) (by kernel_rfl) (by kernel_rfl) (fun _ _ _ h => h) (Or.inr ⟨by rfl, rfl⟩) hS ?_
            try simp only [Act.put, List.setIfInBounds_toArray, List.set_cons_zero, List.set_cons_succ]
            refine wpAnyH_take (i := 28) (oi := { dst := some 39, op := Op.load 43 (Operand.tmp 38), type := 43, pos := "ref.go:175", after := #[{ on := 27, ground := Ground.data }, { on := 23, ground := Ground.guard }], guard := some (23, true) }) (v := undef) rfl (by kernel_rfl) (by kernel_rfl) (by kernel_rfl) (fun _ _ _ h => h) (Or.inr ⟨by rfl, rfl⟩) hS ?_
            try simp only [Act.put, List.setIfInBounds_toArray, List.set_cons_zero, List.set_cons_succ]
            refine wpAnyH_take (i := 29) (oi := { dst := some 40, op := Op.call { callee := Callee.value (Operand.func 39), args := #[Operand.tmp 35, Operand.tmp 39], argTypes := #[25, 43] }, type := 4, pos := "ref.go:175", after := #[{ on := 24, ground := Ground.data }, { on := 28, ground := Ground.data }, { on := 23, ground := Ground.chain }, { on := 23, ground := Ground.guard }], guard := some (23, true) }) (v := undef) rfl (by kernel_rfl) (by kernel_rfl) (by kernel_rfl) (fun _ _ _ h => h) (Or.inr ⟨by rfl, rfl⟩) hS ?_
            try simp only [Act.put, List.setIfInBounds_toArray, List.set_cons_zero, List.set_cons_succ]
            refine wpAnyH_take (i := 30) (oi := { dst := some 41, op := Op.unOp UnOp.not 4 (Operand.tmp 40), type := 4, pos := "ref.go:175", after := #[{ on := 29, ground := Ground.data }, { on := 23, ground := Ground.guard }], guard := some (23, true) }) (v := undef) rfl (by kernel_rfl) (by kernel_rfl) (by kernel_rfl) (fun _ _ _ h => h) (Or.inr ⟨by rfl, rfl⟩) hS ?_
            try simp only [Act.put, List.setIfInBounds_toArray, List.set_cons_zero, List.set_cons_succ]
            refine wpAnyH_take (i := 31) (oi := { dst := some 42, op := Op.pick (Operand.tmp 34) (Operand.tmp 41) (Operand.const (Value.bool false)), type := 4, pos := "ref.go:175", after := #[{ on := 23, ground := Ground.data }, { on := 30, ground := Ground.data }, { on := 16, ground := Ground.guard }], guard := some (16, false) }) (v := undef) rfl (by kernel_rfl) (by kernel_rfl) (by kernel_rfl) (fun _ _ _ h => h) (Or.inr ⟨by rfl, rfl⟩) hS ?_
            try simp only [Act.put, List.setIfInBounds_toArray, List.set_cons_zero, List.set_cons_succ]
            refine wpAnyH_take (i := 32) (oi := { dst := some 43, op := Op.pick (Operand.tmp 27) (Operand.const (Value.bool true)) (Operand.tmp 42), type := 4, pos := "ref.go:175", after := #[{ on := 16, ground := Ground.data }, { on := 31, ground := Ground.data }], guard := none }) (v := ?_) rfl (by kernel_rfl) (by kernel_rfl) (by kernel_rfl) (fun _ _ _ h => h) (Or.inl ⟨by rfl, ?_⟩) hS ?_
            rotate_left
            · intro w hSw; (try dsimp only at hSw); go_simp; try with_reducible rfl
            try simp only [Act.put, List.setIfInBounds_toArray, List.set_cons_zero, List.set_cons_succ]
            refine wpAnyH_done (by kernel_rfl) ?_ _
            all_goals (have HV2 : Hid (V = false) := Lib.hid (by rw [← HE3.out]; rfl))
            all_goals go_wp2_with fail
            all_goals (go_ret; exact ⟨by rw [HV2.out]; rfl, HBA.out.trans (HB3.out.mono HBA.out.size)⟩)
          · refine wp_region_held_drew (S := fun w' => w'.cell? ⟨bk, off + k * 7, none⟩ = some (.int .i64 1) ∧ w'.cell? ⟨bk, off + k * 7 + 1, none⟩ = some (.string nm2) ∧ w'.cell? ⟨bk, off + k * 7 + 2, none⟩ = some (.string sg2) ∧ w'.cell? ⟨bk, off + k * 7 + 3, none⟩ = some (.int .i64 kd2) ∧ w'.cell? ⟨bk, off + k * 7 + 4, none⟩ = some (.int .u64 (bb2 : Int)) ∧ w'.cell? ⟨bk, off + k * 7 + 5, none⟩ = some (.string tt2) ∧ w'.cell? ⟨bk, off + k * 7 + 6, none⟩ = some (.slice qa ys.length qc) ∧ w'.cell? ⟨w.heap.size, 0, none⟩ = some (.string rn) ∧ w'.cell? ⟨w.heap.size, 1, none⟩ = some (.slice ta ts.length tc)) (by kernel_rfl) (HKp.out _ hB0) (fun hS => ?_)
            refine wpAnyH_take (i := 0) (oi := { dst := some 11, op := Op.move (Operand.tmp 0), type := 22, pos := "ref.go:175", after := #[], guard := none }) (v := ?_) rfl (by kernel_rfl) (by kernel_rfl) (by kernel_rfl) (fun _ _ _ h => h) (Or.inl ⟨by rfl, ?_⟩) hS ?_
            rotate_left
            · intro w hSw; (try dsimp only at hSw); go_simp; try with_reducible rfl
            try simp only [Act.put, List.setIfInBounds_toArray, List.set_cons_zero, List.set_cons_succ]
            refine wpAnyH_take (i := 1) (oi := { dst := some 12, op := Op.move (Operand.tmp 5), type := 3, pos := "ref.go:175", after := #[], guard := none }) (v := ?_) rfl (by kernel_rfl) (by kernel_rfl) (by kernel_rfl) (fun _ _ _ h => h) (Or.inl ⟨by rfl, ?_⟩) hS ?_
            rotate_left
            · intro w hSw; (try dsimp only at hSw); go_simp; try with_reducible rfl
            try simp only [Act.put, List.setIfInBounds_toArray, List.set_cons_zero, List.set_cons_succ]
            refine wpAnyH_take (i := 2) (oi := { dst := some 13, op := Op.indexAddr 22 (Operand.tmp 11) (Operand.tmp 12), type := 0, pos := "ref.go:175", after := #[{ on := 0, ground := Ground.data }, { on := 1, ground := Ground.data }], guard := none }) (v := ?_) rfl (by kernel_rfl) (by kernel_rfl) (by kernel_rfl) (fun _ _ _ h => h) (Or.inl ⟨by rfl, ?_⟩) hS ?_
            rotate_left
            · intro w hSw; (try dsimp only at hSw); go_simp; try with_reducible rfl
            try simp only [Act.put, List.setIfInBounds_toArray, List.set_cons_zero, List.set_cons_succ]
            refine wpAnyH_take (i := 3) (oi := { dst := some 14, op := Op.fieldAddr 43 (Operand.tmp 13) 0, type := 0, pos := "ref.go:175", after := #[{ on := 2, ground := Ground.data }], guard := none }) (v := ?_) rfl (by kernel_rfl) (by kernel_rfl) (by kernel_rfl) (fun _ _ _ h => h) (Or.inl ⟨by rfl, ?_⟩) hS ?_
            rotate_left
            · intro w hSw; (try dsimp only at hSw); go_simp; try with_reducible rfl
            try simp only [Act.put, List.setIfInBounds_toArray, List.set_cons_zero, List.set_cons_succ]
            refine wpAnyH_take (i := 4) (oi := { dst := some 15, op := Op.load 3 (Operand.tmp 14), type := 3, pos := "ref.go:175", after := #[{ on := 3, ground := Ground.data }], guard := none }) (v := ?_) rfl (by kernel_rfl) (by kernel_rfl) (by kernel_rfl) (fun _ _ _ h => h) (Or.inl ⟨by rfl, ?_⟩) hS ?_
            rotate_left
            · intro w hSw; (try dsimp only at hSw); go_simp; try with_reducible rfl
            try simp only [Act.put, List.setIfInBounds_toArray, List.set_cons_zero, List.set_cons_succ]
            refine wpAnyH_take (i := 5) (oi := { dst := some 16, op := Op.binOp BinOp.eql 3 (Operand.tmp 15) (Operand.const (Value.int IntKind.i64 1)) 3, type := 4, pos := "ref.go:175", after := #[{ on := 4, ground := Ground.data }], guard := none }) (v := ?_) rfl (by kernel_rfl) (by kernel_rfl) (by kernel_rfl) (fun _ _ _ h => h) (Or.inl ⟨by rfl, ?_⟩) hS ?_
            rotate_left
            · intro w hSw; (try dsimp only at hSw); go_simp; try with_reducible rfl
            try simp only [Act.put, List.setIfInBounds_toArray, List.set_cons_zero, List.set_cons_succ]
            refine wpAnyH_take (i := 6) (oi := { dst := some 17, op := Op.move (Operand.tmp 16), type := 4, pos := "ref.go:175", after := #[{ on := 5, ground := Ground.data }], guard := none }) (v := ?_) rfl (by kernel_rfl) (by kernel_rfl) (by kernel_rfl) (fun _ _ _ h => h) (Or.inl ⟨by rfl, ?_⟩) hS ?_
            rotate_left
            · intro w hSw; (try dsimp only at hSw); go_simp; try with_reducible rfl
            try simp only [Act.put, List.setIfInBounds_toArray, List.set_cons_zero, List.set_cons_succ]
            refine wpAnyH_take (i := 7) (oi := { dst := some 18, op := Op.move (Operand.tmp 0), type := 22, pos := "ref.go:175", after := #[{ on := 6, ground := Ground.guard }], guard := some (6, true) }) (v := ?_) rfl (by kernel_rfl) (by kernel_rfl) (by kernel_rfl) (fun _ _ _ h => h) (Or.inl ⟨by rfl, ?_⟩) hS ?_
            rotate_left
            · intro w hSw; (try dsimp only at hSw); go_simp; try with_reducible rfl
            try simp only [Act.put, List.setIfInBounds_toArray, List.set_cons_zero, List.set_cons_succ]
            refine wpAnyH_take (i := 8) (oi := { dst := some 19, op := Op.move (Operand.tmp 5), type := 3, pos := "ref.go:175", after := #[{ on := 6, ground := Ground.guard }], guard := some (6, true) }) (v := ?_) rfl (by kernel_rfl) (by kernel_rfl) (by kernel_rfl) (fun _ _ _ h => h) (Or.inl ⟨by rfl, ?_⟩) hS ?_
            rotate_left
            · intro w hSw; (try dsimp only at hSw); go_simp; try with_reducible rfl
            try simp only [Act.put, List.setIfInBounds_toArray, List.set_cons_zero, List.set_cons_succ]
            refine wpAnyH_take (i := 9) (oi := { dst := some 20, op := Op.indexAddr 22 (Operand.tmp 18) (Operand.tmp 19), type := 0, pos := "ref.go:175", after := #[{ on := 7, ground := Ground.data }, { on := 8, ground := Ground.data }, { on := 6, ground := Ground.guard }], guard := some (6, true) }) (v := ?_) rfl (by kernel_rfl) (by kernel_rfl) (by kernel_rfl) (fun _ _ _ h => h) (Or.inl ⟨by rfl, ?_⟩) hS ?_
            rotate_left
            · intro w hSw; (try dsimp only at hSw); go_simp; try with_reducible rfl
            try simp only [Act.put, List.setIfInBounds_toArray, List.set_cons_zero, List.set_cons_succ]
            refine wpAnyH_take (i := 10) (oi := { dst := some 21, op := Op.fieldAddr 43 (Operand.tmp 20) 4, type := 0, pos := "ref.go:175", after := #[{ on := 9, ground := Ground.data }, { on := 6, ground := Ground.guard }], guard := some (6, true) }) (v := ?_) rfl (by kernel_rfl) (by kernel_rfl) (by kernel_rfl) (fun _ _ _ h => h) (Or.inl ⟨by rfl, ?_⟩) hS ?_
            rotate_left
            · intro w hSw; (try dsimp only at hSw); go_simp; try with_reducible rfl
            try simp only [Act.put, List.setIfInBounds_toArray, List.set_cons_zero, List.set_cons_succ]
            refine wpAnyH_take (i := 11) (oi := { dst := some 22, op := Op.load 22 (Operand.tmp 21), type := 22, pos := "ref.go:175", after := #[{ on := 10, ground := Ground.data }, { on := 6, ground := Ground.guard }], guard := some (6, true) }) (v := ?_) rfl (by kernel_rfl) (by kernel_rfl) (by kernel_rfl) (fun _ _ _ h => h) (Or.inl ⟨by rfl, ?_⟩) hS ?_
            rotate_left
            · intro w hSw; (try dsimp only at hSw); go_simp; try with_reducible rfl
            try simp only [Act.put, List.setIfInBounds_toArray, List.set_cons_zero, List.set_cons_succ]
            refine wpAnyH_take (i := 12) (oi := { dst := some 23, op := Op.load 25 (Operand.tmp 3), type := 25, pos := "ref.go:175", after := #[{ on := 6, ground := Ground.guard }], guard := some (6, true) }) (v := ?_) rfl (by kernel_rfl) (by kernel_rfl) (by kernel_rfl) (fun _ _ _ h => h) (Or.inl ⟨by rfl, ?_⟩) hS ?_
            rotate_left
            · intro w hSw; (try dsimp only at hSw); go_simp; try with_reducible rfl
            try simp only [Act.put, List.setIfInBounds_toArray, List.set_cons_zero, List.set_cons_succ]
            refine wpAnyH_ready (rs := [13]) (by kernel_rfl) (by simp) (AllReadyH.cons (o := { dst := some 24, op := Op.call { callee := Callee.value (Operand.func 24), args := #[Operand.tmp 22, Operand.tmp 23], argTypes := #[22, 25] }, type := 4, pos := "ref.go:175", after := #[{ on := 11, ground := Ground.data }, { on := 12, ground := Ground.data }, { on := 6, ground := Ground.chain }, { on := 6, ground := Ground.guard }], guard := some (6, true) }) rfl (fun K hK => ?_) AllReadyH.nil)
            go_simp
            go_at_call 24
            refine (HC.out _ hB0).mono ?_
            rintro _ w3 ⟨rfl, hb3⟩
            have hB3 : Below wr.heap.size wr w3 := hB0.trans (hb3.mono hB0.size)
            obtain ⟨HMR3, HRR3, HB3⟩ := HGO.out w3 hB3
            clear hb3
            dsimp only
            refine hK.out _ _ (HKp.out _ hB3) (fun hh => ?_)
            replace hS := hh
            clear hK K hh
            try simp only [Act.put, List.setIfInBounds_toArray, List.set_cons_zero, List.set_cons_succ]
            refine wpAnyH_take (i := 14) (oi := { dst := some 25, op := Op.unOp UnOp.not 4 (Operand.tmp 24), type := 4, pos := "ref.go:175", after := #[{ on := 13, ground := Ground.data }, { on := 6, ground := Ground.guard }], guard := some (6, true) }) (v := ?_) rfl (by kernel_rfl) (by kernel_rfl) (by kernel_rfl) (fun _ _ _ h => h) (Or.inl ⟨by rfl, ?_⟩) hS ?_
            rotate_left
            · intro w hSw; (try dsimp only at hSw); go_simp; try with_reducible rfl
            try simp only [Act.put, List.setIfInBounds_toArray, List.set_cons_zero, List.set_cons_succ]
            refine wpAnyH_take (i := 15) (oi := { dst := some 26, op := Op.pick (Operand.tmp 17) (Operand.tmp 25) (Operand.const (Value.bool false)), type := 4, pos := "ref.go:175", after := #[{ on := 6, ground := Ground.data }, { on := 14, ground := Ground.data }], guard := none }) (v := ?_) rfl (by kernel_rfl) (by kernel_rfl) (by kernel_rfl) (fun _ _ _ h => h) (Or.inl ⟨by rfl, ?_⟩) hS ?_
            rotate_left
            · intro w hSw; (try dsimp only at hSw); go_simp; try with_reducible rfl
            try simp only [Act.put, List.setIfInBounds_toArray, List.set_cons_zero, List.set_cons_succ]
            refine wpAnyH_take (i := 16) (oi := { dst := some 27, op := Op.move (Operand.tmp 26), type := 4, pos := "ref.go:175", after := #[{ on := 15, ground := Ground.data }, { on := 13, ground := Ground.chain }], guard := none }) (v := ?_) rfl (by kernel_rfl) (by kernel_rfl) (by kernel_rfl) (fun _ _ _ h => h) (Or.inl ⟨by rfl, ?_⟩) hS ?_
            rotate_left
            · intro w hSw; (try dsimp only at hSw); go_simp; try with_reducible rfl
            try simp only [Act.put, List.setIfInBounds_toArray, List.set_cons_zero, List.set_cons_succ]
            refine wpAnyH_take (i := 17) (oi := { dst := some 28, op := Op.move (Operand.tmp 0), type := 22, pos := "ref.go:175", after := #[{ on := 16, ground := Ground.guard }], guard := some (16, false) }) (v := ?_) rfl (by kernel_rfl) (by kernel_rfl) (by kernel_rfl) (fun _ _ _ h => h) (Or.inl ⟨by rfl, ?_⟩) hS ?_
            rotate_left
            · intro w hSw; (try dsimp only at hSw); go_simp; try with_reducible rfl
            try simp only [Act.put, List.setIfInBounds_toArray, List.set_cons_zero, List.set_cons_succ]
            refine wpAnyH_take (i := 18) (oi := { dst := some 29, op := Op.move (Operand.tmp 5), type := 3, pos := "ref.go:175", after := #[{ on := 16, ground := Ground.guard }], guard := some (16, false) }) (v := ?_) rfl (by kernel_rfl) (by kernel_rfl) (by kernel_rfl) (fun _ _ _ h => h) (Or.inl ⟨by rfl, ?_⟩) hS ?_
            rotate_left
            · intro w hSw; (try dsimp only at hSw); go_simp; try with_reducible rfl
            try simp only [Act.put, List.setIfInBounds_toArray, List.set_cons_zero, List.set_cons_succ]
            refine wpAnyH_take (i := 19) (oi := { dst := some 30, op := Op.indexAddr 22 (Operand.tmp 28) (Operand.tmp 29), type := 0, pos := "ref.go:175", after := #[{ on := 17, ground := Ground.data }, { on := 18, ground := Ground.data }, { on := 16, ground := Ground.guard }], guard := some (16, false) }) (v := ?_) rfl (by kernel_rfl) (by kernel_rfl) (by kernel_rfl) (fun _ _ _ h => h) (Or.inl ⟨by rfl, ?_⟩) hS ?_
            rotate_left
            · intro w hSw; (try dsimp only at hSw); go_simp; try with_reducible rfl
            try simp only [Act.put, List.setIfInBounds_toArray, List.set_cons_zero, List.set_cons_succ]
            refine wpAnyH_take (i := 20) (oi := { dst := some 31, op := Op.fieldAddr 43 (Operand.tmp 30) 0, type := 0, pos := "ref.go:175", after := #[{ on := 19, ground := Ground.data }, { on := 16, ground := Ground.guard }], guard := some (16, false) }) (v := ?_) rfl (by kernel_rfl) (by kernel_rfl) (by kernel_rfl) (fun _ _ _ h => h) (Or.inl ⟨by rfl, ?_⟩) hS ?_
            rotate_left
            · intro w hSw; (try dsimp only at hSw); go_simp; try with_reducible rfl
            try simp only [Act.put, List.setIfInBounds_toArray, List.set_cons_zero, List.set_cons_succ]
            refine wpAnyH_take (i := 21) (oi := { dst := some 32, op := Op.load 3 (Operand.tmp 31), type := 3, pos := "ref.go:175", after := #[{ on := 20, ground := Ground.data }, { on := 16, ground := Ground.guard }], guard := some (16, false) }) (v := ?_) rfl (by kernel_rfl) (by kernel_rfl) (by kernel_rfl) (fun _ _ _ h => h) (Or.inl ⟨by rfl, ?_⟩) hS ?_
            rotate_left
            · intro w hSw; (try dsimp only at hSw); go_simp; try with_reducible rfl
            try simp only [Act.put, List.setIfInBounds_toArray, List.set_cons_zero, List.set_cons_succ]
            refine wpAnyH_take (i := 22) (oi := { dst := some 33, op := Op.binOp BinOp.eql 3 (Operand.tmp 32) (Operand.const (Value.int IntKind.i64 3)) 3, type := 4, pos := "ref.go:175", after := #[{ on := 21, ground := Ground.data }, { on := 16, ground := Ground.guard }], guard := some (16, false) }) (v := ?_) rfl (by kernel_rfl) (by kernel_rfl) (by kernel_rfl) (fun _ _ _ h => h) (Or.inl ⟨by rfl, ?_⟩) hS ?_
            rotate_left
            · intro w hSw; (try dsimp only at hSw); go_simp; try with_reducible rfl
            try simp only [Act.put, List.setIfInBounds_toArray, List.set_cons_zero, List.set_cons_succ]
            refine wpAnyH_take (i := 23) (oi := { dst := some 34, op := Op.move (Operand.tmp 33), type := 4, pos := "ref.go:175", after := #[{ on := 22, ground := Ground.data }, { on := 16, ground := Ground.chain }, { on := 16, ground := Ground.guard }], guard := some (16, false) }) (v := ?_) rfl (by kernel_rfl) (by kernel_rfl) (by kernel_rfl) (fun _ _ _ h => h) (Or.inl ⟨by rfl, ?_⟩) hS ?_
            rotate_left
            · intro w hSw; (try dsimp only at hSw); go_simp; try with_reducible rfl
            try simp only [Act.put, List.setIfInBounds_toArray, List.set_cons_zero, List.set_cons_succ]
            refine wpAnyH_take (i := 24) (oi := { dst := some 35, op := Op.load 25 (Operand.tmp 3), type := 25, pos := "ref.go:175", after := #[{ on := 23, ground := Ground.guard }], guard := some (23, true) }) (v := undef) rfl (by kernel_rfl) (by kernel_rfl) (by kernel_rfl) (fun _ _ _ h => h) (Or.inr ⟨by rfl, rfl⟩) hS ?_
            try simp only [Act.put, List.setIfInBounds_toArray, List.set_cons_zero, List.set_cons_succ]
            refine wpAnyH_take (i := 25) (oi := { dst := some 36, op := Op.move (Operand.tmp 0), type := 22, pos := "ref.go:175", after := #[{ on := 23, ground := Ground.guard }], guard := some (23, true) }) (v := undef) rfl (by kernel_rfl) (by kernel_rfl) (by kernel_rfl) (fun _ _ _ h => h) (Or.inr ⟨by rfl, rfl⟩) hS ?_
            try simp only [Act.put, List.setIfInBounds_toArray, List.set_cons_zero, List.set_cons_succ]
            refine wpAnyH_take (i := 26) (oi := { dst := some 37, op := Op.move (Operand.tmp 5), type := 3, pos := "ref.go:175", after := #[{ on := 23, ground := Ground.guard }], guard := some (23, true) }) (v := undef) rfl (by kernel_rfl) (by kernel_rfl) (by kernel_rfl) (fun _ _ _ h => h) (Or.inr ⟨by rfl, rfl⟩) hS ?_
            try simp only [Act.put, List.setIfInBounds_toArray, List.set_cons_zero, List.set_cons_succ]
            refine wpAnyH_take (i := 27) (oi := { dst := some 38, op := Op.indexAddr 22 (Operand.tmp 36) (Operand.tmp 37), type := 0, pos := "ref.go:175", after := #[{ on := 25, ground := Ground.data }, { on := 26, ground := Ground.data }, { on := 23, ground := Ground.guard }], guard := some (23, true) }) (v := undef) rfl (by kernel_rfl) (by kernel_rfl) (by kernel_rfl) (fun _ _ _ h => h) (Or.inr ⟨by rfl, rfl⟩) hS ?_
            try simp only [Act.put, List.setIfInBounds_toArray, List.set_cons_zero, List.set_cons_succ]
            refine wpAnyH_take (i := 28) (oi := { dst := some 39, op := Op.load 43 (Operand.tmp 38), type := 43, pos := "ref.go:175", after := #[{ on := 27, ground := Ground.data }, { on := 23, ground := Ground.guard }], guard := some (23, true) }) (v := undef) rfl (by kernel_rfl) (by kernel_rfl) (by kernel_rfl) (fun _ _ _ h => h) (Or.inr ⟨by rfl, rfl⟩) hS ?_
            try simp only [Act.put, List.setIfInBounds_toArray, List.set_cons_zero, List.set_cons_succ]
            refine wpAnyH_take (i := 29) (oi := { dst := some 40, op := Op.call { callee := Callee.value (Operand.func 39), args := #[Operand.tmp 35, Operand.tmp 39], argTypes := #[25, 43] }, type := 4, pos := "ref.go:175", after := #[{ on := 24, ground := Ground.data }, { on := 28, ground := Ground.data }, { on := 23, ground := Ground.chain }, { on := 23, ground := Ground.guard }], guard := some (23, true) }) (v := undef) rfl (by kernel_rfl) (by kernel_rfl) (by kernel_rfl) (fun _ _ _ h => h) (Or.inr ⟨by rfl, rfl⟩) hS ?_
            try simp only [Act.put, List.setIfInBounds_toArray, List.set_cons_zero, List.set_cons_succ]
            refine wpAnyH_take (i := 30) (oi := { dst := some 41, op := Op.unOp UnOp.not 4 (Operand.tmp 40), type := 4, pos := "ref.go:175", after := #[{ on := 29, ground := Ground.data }, { on := 23, ground := Ground.guard }], guard := some (23, true) }) (v := undef) rfl (by kernel_rfl) (by kernel_rfl) (by kernel_rfl) (fun _ _ _ h => h) (Or.inr ⟨by rfl, rfl⟩) hS ?_
            try simp only [Act.put, List.setIfInBounds_toArray, List.set_cons_zero, List.set_cons_succ]
            refine wpAnyH_take (i := 31) (oi := { dst := some 42, op := Op.pick (Operand.tmp 34) (Operand.tmp 41) (Operand.const (Value.bool false)), type := 4, pos := "ref.go:175", after := #[{ on := 23, ground := Ground.data }, { on := 30, ground := Ground.data }, { on := 16, ground := Ground.guard }], guard := some (16, false) }) (v := ?_) rfl (by kernel_rfl) (by kernel_rfl) (by kernel_rfl) (fun _ _ _ h => h) (Or.inl ⟨by rfl, ?_⟩) hS ?_
            rotate_left
            · intro w hSw; (try dsimp only at hSw); go_simp; try with_reducible rfl
            try simp only [Act.put, List.setIfInBounds_toArray, List.set_cons_zero, List.set_cons_succ]
            refine wpAnyH_take (i := 32) (oi := { dst := some 43, op := Op.pick (Operand.tmp 27) (Operand.const (Value.bool true)) (Operand.tmp 42), type := 4, pos := "ref.go:175", after := #[{ on := 16, ground := Ground.data }, { on := 31, ground := Ground.data }], guard := none }) (v := ?_) rfl (by kernel_rfl) (by kernel_rfl) (by kernel_rfl) (fun _ _ _ h => h) (Or.inl ⟨by rfl, ?_⟩) hS ?_
            rotate_left
            · intro w hSw; (try dsimp only at hSw); go_simp; try with_reducible rfl
            try simp only [Act.put, List.setIfInBounds_toArray, List.set_cons_zero, List.set_cons_succ]
            refine wpAnyH_done (by kernel_rfl) ?_ _
            all_goals (have HE4 : Hid (rtF ts r = V) := Lib.hid (by have := HE3.out; rwa [Bool.true_and] at this))
            all_goals go_wp2_with fail
            all_goals
              go_roundg (gk - 1)
              case measure => go_light; omega
              case rel =>
                go_light
                exact ⟨k + 1, r, by omega, by go_num, hr2, HMR3, HRR3, HE4, HB3⟩
        have n1 : (op2 == 1) = false := beq_false_of_ne h1
        by_cases h3 : op2 = 3
        · subst h3
          have hS : ∀ w' : World, Below wr.heap.size wr w' → w'.cell? ⟨bk, off + k * 7, none⟩ = some (.int .i64 3) ∧ w'.cell? ⟨bk, off + k * 7 + 1, none⟩ = some (.string nm2) ∧ w'.cell? ⟨bk, off + k * 7 + 2, none⟩ = some (.string sg2) ∧ w'.cell? ⟨bk, off + k * 7 + 3, none⟩ = some (.int .i64 kd2) ∧ w'.cell? ⟨bk, off + k * 7 + 4, none⟩ = some (.int .u64 (bb2 : Int)) ∧ w'.cell? ⟨bk, off + k * 7 + 5, none⟩ = some (.string tt2) ∧ w'.cell? ⟨bk, off + k * 7 + 6, none⟩ = some (.slice qa ys.length qc) ∧ w'.cell? ⟨w.heap.size, 0, none⟩ = some (.string rn) ∧ w'.cell? ⟨w.heap.size, 1, none⟩ = some (.slice ta ts.length tc) := fun w' h =>
            have q : ∀ (bk o : Nat) (u : Value), wr.cell? ⟨bk, o, none⟩ = some u → w'.cell? ⟨bk, o, none⟩ = some u := fun bk o u q => (h.cell (World.block_lt_of_cell? _ _ q)).trans q
            ⟨q _ _ _ e0, q _ _ _ e1, q _ _ _ e2, q _ _ _ e3, q _ _ _ e4, q _ _ _ e5, q _ _ _ e6, q _ _ _ q0, q _ _ _ q1⟩
          have HKp := Lib.hid hS
          have HE3 : Hid ((tgd ⟨3, nm2, sg2, kd2, bb2, tt2⟩ ts && rtF ts r) = V) := HE2
          clear HE2 hS HC n1 h1
          generalize tgd ⟨3, nm2, sg2, kd2, bb2, tt2⟩ ts = x at *
          go_upto_region 4 with fail
          clear e0 e1 e2 e3 e4 e5 e6 q0 q1
          cases x
          · refine wp_region_held_drew (S := fun w' => w'.cell? ⟨bk, off + k * 7, none⟩ = some (.int .i64 3) ∧ w'.cell? ⟨bk, off + k * 7 + 1, none⟩ = some (.string nm2) ∧ w'.cell? ⟨bk, off + k * 7 + 2, none⟩ = some (.string sg2) ∧ w'.cell? ⟨bk, off + k * 7 + 3, none⟩ = some (.int .i64 kd2) ∧ w'.cell? ⟨bk, off + k * 7 + 4, none⟩ = some (.int .u64 (bb2 : Int)) ∧ w'.cell? ⟨bk, off + k * 7 + 5, none⟩ = some (.string tt2) ∧ w'.cell? ⟨bk, off + k * 7 + 6, none⟩ = some (.slice qa ys.length qc) ∧ w'.cell? ⟨w.heap.size, 0, none⟩ = some (.string rn) ∧ w'.cell? ⟨w.heap.size, 1, none⟩ = some (.slice ta ts.length tc)) (by kernel_rfl) (HKp.out _ hB0) (fun hS => ?_)
            refine wpAnyH_take (i := 0) (oi := { dst := some 11, op := Op.move (Operand.tmp 0), type := 22, pos := "ref.go:175", after := #[], guard := none }) (v := ?_) rfl (by kernel_rfl) (by kernel_rfl) (by kernel_rfl) (fun _ _ _ h => h) (Or.inl ⟨by rfl, ?_⟩) hS ?_
            rotate_left
            · intro w hSw; (try dsimp only at hSw); go_simp; try with_reducible rfl
            try simp only [Act.put, List.setIfInBounds_toArray, List.set_cons_zero, List.set_cons_succ]
            refine wpAnyH_take (i := 1) (oi := { dst := some 12, op := Op.move (Operand.tmp 5), type := 3, pos := "ref.go:175", after := #[], guard := none }) (v := ?_) rfl (by kernel_rfl) (by kernel_rfl) (by kernel_rfl) (fun _ _ _ h => h) (Or.inl ⟨by rfl, ?_⟩) hS ?_
            rotate_left
            · intro w hSw; (try dsimp only at hSw); go_simp; try with_reducible rfl
            try simp only [Act.put, List.setIfInBounds_toArray, List.set_cons_zero, List.set_cons_succ]
            refine wpAnyH_take (i := 2) (oi := { dst := some 13, op := Op.indexAddr 22 (Operand.tmp 11) (Operand.tmp 12), type := 0, pos := "ref.go:175", after := #[{ on := 0, ground := Ground.data }, { on := 1, ground := Ground.data }], guard := none }) (v := ?_) rfl (by kernel_rfl) (by kernel_rfl) (by kernel_rfl) (fun _ _ _ h => h) (Or.inl ⟨by rfl, ?_⟩) hS ?_
            rotate_left
            · intro w hSw; (try dsimp only at hSw); go_simp; try with_reducible rfl
            try simp only [Act.put, List.setIfInBounds_toArray, List.set_cons_zero, List.set_cons_succ]
            refine wpAnyH_take (i := 3) (oi := { dst := some 14, op := Op.fieldAddr 43 (Operand.tmp 13) 0, type := 0, pos := "ref.go:175", after := #[{ on := 2, ground := Ground.data }], guard := none }) (v := ?_) rfl (by kernel_rfl) (by kernel_rfl) (by kernel_rfl) (fun _ _ _ h => h) (Or.inl ⟨by rfl, ?_⟩) hS ?_
            rotate_left
            · intro w hSw; (try dsimp only at hSw); go_simp; try with_reducible rfl
            try simp only [Act.put, List.setIfInBounds_toArray, List.set_cons_zero, List.set_cons_succ]
            refine wpAnyH_take (i := 4) (oi := { dst := some 15, op := Op.load 3 (Operand.tmp 14), type := 3, pos := "ref.go:175", after := #[{ on := 3, ground := Ground.data }], guard := none }) (v := ?_) rfl (by kernel_rfl) (by kernel_rfl) (by kernel_rfl) (fun _ _ _ h => h) (Or.inl ⟨by rfl, ?_⟩) hS ?_
            rotate_left
            · intro w hSw; (try dsimp only at hSw); go_simp; try with_reducible rfl
            try simp only [Act.put, List.setIfInBounds_toArray, List.set_cons_zero, List.set_cons_succ]
            refine wpAnyH_take (i := 5) (oi := { dst := some 16, op := Op.binOp BinOp.eql 3 (Operand.tmp 15) (Operand.const (Value.int IntKind.i64 1)) 3, type := 4, pos := "ref.go:175", after := #[{ on := 4, ground := Ground.data }], guard := none }) (v := ?_) rfl (by kernel_rfl) (by kernel_rfl) (by kernel_rfl) (fun _ _ _ h => h) (Or.inl ⟨by rfl, ?_⟩) hS ?_
            rotate_left
            · intro w hSw; (try dsimp only at hSw); go_simp; try with_reducible rfl
            try simp only [Act.put, List.setIfInBounds_toArray, List.set_cons_zero, List.set_cons_succ]
            refine wpAnyH_take (i := 6) (oi := { dst := some 17, op := Op.move (Operand.tmp 16), type := 4, pos := "ref.go:175", after := #[{ on := 5, ground := Ground.data }], guard := none }) (v := ?_) rfl (by kernel_rfl) (by kernel_rfl) (by kernel_rfl) (fun _ _ _ h => h) (Or.inl ⟨by rfl, ?_⟩) hS ?_
            rotate_left
            · intro w hSw; (try dsimp only at hSw); go_simp; try with_reducible rfl
            try simp only [Act.put, List.setIfInBounds_toArray, List.set_cons_zero, List.set_cons_succ]
            refine wpAnyH_take (i := 7) (oi := { dst := some 18, op := Op.move (Operand.tmp 0), type := 22, pos := "ref.go:175", after := #[{ on := 6, ground := Ground.guard }], guard := some (6, true) }) (v := undef) rfl (by kernel_rfl) (by kernel_rfl) (by kernel_rfl) (fun _ _ _ h => h) (Or.inr ⟨by rfl, rfl⟩) hS ?_
            try simp only [Act.put, List.setIfInBounds_toArray, List.set_cons_zero, List.set_cons_succ]
            refine wpAnyH_take (i := 8) (oi := { dst := some 19, op := Op.move (Operand.tmp 5), type := 3, pos := "ref.go:175", after := #[{ on := 6, ground := Ground.guard }], guard := some (6, true) }) (v := undef) rfl (by kernel_rfl) (by kernel_rfl) (by kernel_rfl) (fun _ _ _ h => h) (Or.inr ⟨by rfl, rfl⟩) hS ?_
            try simp only [Act.put, List.setIfInBounds_toArray, List.set_cons_zero, List.set_cons_succ]
            refine wpAnyH_take (i := 9) (oi := { dst := some 20, op := Op.indexAddr 22 (Operand.tmp 18) (Operand.tmp 19), type := 0, pos := "ref.go:175", after := #[{ on := 7, ground := Ground.data }, { on := 8, ground := Ground.data }, { on := 6, ground := Ground.guard }], guard := some (6, true) }) (v := undef) rfl (by kernel_rfl) (by kernel_rfl) (by kernel_rfl) (fun _ _ _ h => h) (Or.inr ⟨by rfl, rfl⟩) hS ?_
            try simp only [Act.put, List.setIfInBounds_toArray, List.set_cons_zero, List.set_cons_succ]
            refine wpAnyH_take (i := 10) (oi := { dst := some 21, op := Op.fieldAddr 43 (Operand.tmp 20) 4, type := 0, pos := "ref.go:175", after := #[{ on := 9, ground := Ground.data }, { on := 6, ground := Ground.guard }], guard := some (6, true) }) (v := undef) rfl (by kernel_rfl) (by kernel_rfl) (by kernel_rfl) (fun _ _ _ h => h) (Or.inr ⟨by rfl, rfl⟩) hS ?_
            try simp only [Act.put, List.setIfInBounds_toArray, List.set_cons_zero, List.set_cons_succ]
            refine wpAnyH_take (i := 11) (oi := { dst := some 22, op := Op.load 22 (Operand.tmp 21), type := 22, pos := "ref.go:175", after := #[{ on := 10, ground := Ground.data }, { on := 6, ground := Ground.guard }], guard := some (6, true) }) (v := undef) rfl (by kernel_rfl) (by kernel_rfl) (by kernel_rfl) (fun _ _ _ h => h) (Or.inr ⟨by rfl, rfl⟩) hS ?_
            try simp only [Act.put, List.setIfInBounds_toArray, List.set_cons_zero, List.set_cons_succ]
            refine wpAnyH_take (i := 12) (oi := { dst := some 23, op := Op.load 25 (Operand.tmp 3), type := 25, pos := "ref.go:175", after := #[{ on := 6, ground := Ground.guard }], guard := some (6, true) }) (v := undef) rfl (by kernel_rfl) (by kernel_rfl) (by kernel_rfl) (fun _ _ _ h => h) (Or.inr ⟨by rfl, rfl⟩) hS ?_
            try simp only [Act.put, List.setIfInBounds_toArray, List.set_cons_zero, List.set_cons_succ]
            refine wpAnyH_take (i := 13) (oi := { dst := some 24, op := Op.call { callee := Callee.value (Operand.func 24), args := #[Operand.tmp 22, Operand.tmp 23], argTypes := #[22, 25] }, type := 4, pos := "ref.go:175", after := #[{ on := 11, ground := Ground.data }, { on := 12, ground := Ground.data }, { on := 6, ground := Ground.chain }, { on := 6, ground := Ground.guard }], guard := some (6, true) }) (v := undef) rfl (by kernel_rfl) (by kernel_rfl) (by kernel_rfl) (fun _ _ _ h => h) (Or.inr ⟨by rfl, rfl⟩) hS ?_
            try simp only [Act.put, List.setIfInBounds_toArray, List.set_cons_zero, List.set_cons_succ]
            refine wpAnyH_take (i := 14) (oi := { dst := some 25, op := Op.unOp UnOp.not 4 (Operand.tmp 24), type := 4, pos := "ref.go:175", after := #[{ on := 13, ground := Ground.data }, { on := 6, ground := Ground.guard }], guard := some (6, true) }) (v := undef) rfl (by kernel_rfl) (by kernel_rfl) (by kernel_rfl) (fun _ _ _ h => h) (Or.inr ⟨by rfl, rfl⟩) hS ?_
            try simp only [Act.put, List.setIfInBounds_toArray, List.set_cons_zero, List.set_cons_succ]
            refine wpAnyH_take (i := 15) (oi := { dst := some 26, op := Op.pick (Operand.tmp 17) (Operand.tmp 25) (Operand.const (Value.bool false)), type := 4, pos := "ref.go:175", after := #[{ on := 6, ground := Ground.data }, { on := 14, ground := Ground.data }], guard := none }) (v := ?_) rfl (by kernel_rfl) (by kernel_rfl) (by kernel_rfl) (fun _ _ _ h => h) (Or.inl ⟨by rfl, ?_⟩) hS ?_
            rotate_left
            · intro w hSw; (try dsimp only at hSw); go_simp; try with_reducible rfl
            try simp only [Act.put, List.setIfInBounds_toArray, List.set_cons_zero, List.set_cons_succ]
            refine wpAnyH_take (i := 16) (oi := { dst := some 27, op := Op.move (Operand.tmp 26), type := 4, pos := "ref.go:175", after := #[{ on := 15, ground := Ground.data }, { on := 13, ground := Ground.chain }], guard := none }) (v := ?_) rfl (by kernel_rfl) (by kernel_rfl) (by kernel_rfl) (fun _ _ _ h => h) (Or.inl ⟨by rfl, ?_⟩) hS ?_
            rotate_left
            · intro w hSw; (try dsimp only at hSw); go_simp; try with_reducible rfl
            try simp only [Act.put, List.setIfInBounds_toArray, List.set_cons_zero, List.set_cons_succ]
            refine wpAnyH_take (i := 17) (oi := { dst := some 28, op := Op.move (Operand.tmp 0), type := 22, pos := "ref.go:175", after := #[{ on := 16, ground := Ground.guard }], guard := some (16, false) }) (v := ?_) rfl (by kernel_rfl) (by kernel_rfl) (by kernel_rfl) (fun _ _ _ h => h) (Or.inl ⟨by rfl, ?_⟩) hS ?_
            rotate_left
            · intro w hSw; (try dsimp only at hSw); go_simp; try with_reducible rfl
            try simp only [Act.put, List.setIfInBounds_toArray, List.set_cons_zero, List.set_cons_succ]
            refine wpAnyH_take (i := 18) (oi := { dst := some 29, op := Op.move (Operand.tmp 5), type := 3, pos := "ref.go:175", after := #[{ on := 16, ground := Ground.guard }], guard := some (16, false) }) (v := ?_) rfl (by kernel_rfl) (by kernel_rfl) (by kernel_rfl) (fun _ _ _ h => h) (Or.inl ⟨by rfl, ?_⟩) hS ?_
            rotate_left
            · intro w hSw; (try dsimp only at hSw); go_simp; try with_reducible rfl
            try simp only [Act.put, List.setIfInBounds_toArray, List.set_cons_zero, List.set_cons_succ]
            refine wpAnyH_take (i := 19) (oi := { dst := some 30, op := Op.indexAddr 22 (Operand.tmp 28) (Operand.tmp 29), type := 0, pos := "ref.go:175", after := #[{ on := 17, ground := Ground.data }, { on := 18, ground := Ground.data }, { on := 16, ground := Ground.guard }], guard := some (16, false) }) (v := ?_) rfl (by kernel_rfl) (by kernel_rfl) (by kernel_rfl) (fun _ _ _ h => h) (Or.inl ⟨by rfl, ?_⟩) hS ?_
            rotate_left
            · intro w hSw; (try dsimp only at hSw); go_simp; try with_reducible rfl
            try simp only [Act.put, List.setIfInBounds_toArray, List.set_cons_zero, List.set_cons_succ]
            refine wpAnyH_take (i := 20) (oi := { dst := some 31, op := Op.fieldAddr 43 (Operand.tmp 30) 0, type := 0, pos := "ref.go:175", after := #[{ on := 19, ground := Ground.data }, { on := 16, ground := Ground.guard }], guard := some (16, false) }) (v := ?_) rfl (by kernel_rfl) (by kernel_rfl) (by kernel_rfl) (fun _ _ _ h => h) (Or.inl ⟨by rfl, ?_⟩) hS ?_
            rotate_left
            · intro w hSw; (try dsimp only at hSw); go_simp; try with_reducible rfl
            try simp only [Act.put, List.setIfInBounds_toArray, List.set_cons_zero, List.set_cons_succ]
            refine wpAnyH_take (i := 21) (oi := { dst := some 32, op := Op.load 3 (Operand.tmp 31), type := 3, pos := "ref.go:175", after := #[{ on := 20, ground := Ground.data }, { on := 16, ground := Ground.guard }], guard := some (16, false) }) (v := ?_) rfl (by kernel_rfl) (by kernel_rfl) (by kernel_rfl) (fun _ _ _ h => h) (Or.inl ⟨by rfl, ?_⟩) hS ?_
            rotate_left
            · intro w hSw; (try dsimp only at hSw); go_simp; try with_reducible rfl
            try simp only [Act.put, List.setIfInBounds_toArray, List.set_cons_zero, List.set_cons_succ]
            refine wpAnyH_take (i := 22) (oi := { dst := some 33, op := Op.binOp BinOp.eql 3 (Operand.tmp 32) (Operand.const (Value.int IntKind.i64 3)) 3, type := 4, pos := "ref.go:175", after := #[{ on := 21, ground := Ground.data }, { on := 16, ground := Ground.guard }], guard := some (16, false) }) (v := ?_) rfl (by kernel_rfl) (by kernel_rfl) (by kernel_rfl) (fun _ _ _ h => h) (Or.inl ⟨by rfl, ?_⟩) hS ?_
            rotate_left
            · intro w hSw; (try dsimp only at hSw); go_simp; try with_reducible rfl
            try simp only [Act.put, List.setIfInBounds_toArray, List.set_cons_zero, List.set_cons_succ]
            refine wpAnyH_take (i := 23) (oi := { dst := some 34, op := Op.move (Operand.tmp 33), type := 4, pos := "ref.go:175", after := #[{ on := 22, ground := Ground.data }, { on := 16, ground := Ground.chain }, { on := 16, ground := Ground.guard }], guard := some (16, false) }) (v := ?_) rfl (by kernel_rfl) (by kernel_rfl) (by kernel_rfl) (fun _ _ _ h => h) (Or.inl ⟨by rfl, ?_⟩) hS ?_
            rotate_left
            · intro w hSw; (try dsimp only at hSw); go_simp; try with_reducible rfl
            try simp only [Act.put, List.setIfInBounds_toArray, List.set_cons_zero, List.set_cons_succ]
            refine wpAnyH_take (i := 24) (oi := { dst := some 35, op := Op.load 25 (Operand.tmp 3), type := 25, pos := "ref.go:175", after := #[{ on := 23, ground := Ground.guard }], guard := some (23, true) }) (v := ?_) rfl (by kernel_rfl) (by kernel_rfl) (by kernel_rfl) (fun _ _ _ h => h) (Or.inl ⟨by rfl, ?_⟩) hS ?_
            rotate_left
            · intro w hSw; (try dsimp only at hSw); go_simp; try with_reducible rfl
            try simp only [Act.put, List.setIfInBounds_toArray, List.set_cons_zero, List.set_cons_succ]
            refine wpAnyH_take (i := 25) (oi := { dst := some 36, op := Op.move (Operand.tmp 0), type := 22, pos := "ref.go:175", after := #[{ on := 23, ground := Ground.guard }], guard := some (23, true) }) (v := ?_) rfl (by kernel_rfl) (by kernel_rfl) (by kernel_rfl) (fun _ _ _ h => h) (Or.inl ⟨by rfl, ?_⟩) hS ?_
            rotate_left
            · intro w hSw; (try dsimp only at hSw); go_simp; try with_reducible rfl
            try simp only [Act.put, List.setIfInBounds_toArray, List.set_cons_zero, List.set_cons_succ]
            refine wpAnyH_take (i := 26) (oi := { dst := some 37, op := Op.move (Operand.tmp 5), type := 3, pos := "ref.go:175", after := #[{ on := 23, ground := Ground.guard }], guard := some (23, true) }) (v := ?_) rfl (by kernel_rfl) (by kernel_rfl) (by kernel_rfl) (fun _ _ _ h => h) (Or.inl ⟨by rfl, ?_⟩) hS ?_
            rotate_left
            · intro w hSw; (try dsimp only at hSw); go_simp; try with_reducible rfl
            try simp only [Act.put, List.setIfInBounds_toArray, List.set_cons_zero, List.set_cons_succ]
            refine wpAnyH_take (i := 27) (oi := { dst := some 38, op := Op.indexAddr 22 (Operand.tmp 36) (Operand.tmp 37), type := 0, pos := "ref.go:175", after := #[{ on := 25, ground := Ground.data }, { on := 26, ground := Ground.data }, { on := 23, ground := Ground.guard }], guard := some (23, true) }) (v := ?_) rfl (by kernel_rfl) (by kernel_rfl) (by kernel_rfl) (fun _ _ _ h => h) (Or.inl ⟨by rfl, ?_⟩) hS ?_
            rotate_left
            · intro w hSw; (try dsimp only at hSw); go_simp; try with_reducible rfl
            try simp only [Act.put, List.setIfInBounds_toArray, List.set_cons_zero, List.set_cons_succ]
            refine wpAnyH_take (i := 28) (oi := { dst := some 39, op := Op.load 43 (Operand.tmp 38), type := 43, pos := "ref.go:175", after := #[{ on := 27, ground := Ground.data }, { on := 23, ground := Ground.guard }], guard := some (23, true) }) (v := ?_) rfl (by kernel_rfl) (by kernel_rfl) (by kernel_rfl) (fun _ _ _ h => h) (Or.inl ⟨by rfl, ?_⟩) hS ?_
            rotate_left
            · intro w hSw; (try dsimp only at hSw); go_simp; try with_reducible rfl
            try simp only [Act.put, List.setIfInBounds_toArray, List.set_cons_zero, List.set_cons_succ]
            refine wpAnyH_ready (rs := [29]) (by kernel_rfl) (by simp) (AllReadyH.cons (o := { dst := some 40, op := Op.call { callee := Callee.value (Operand.func 39), args := #[Operand.tmp 35, Operand.tmp 39], argTypes := #[25, 43] }, type := 4, pos := "ref.go:175", after := #[{ on := 24, ground := Ground.data }, { on := 28, ground := Ground.data }, { on := 23, ground := Ground.chain }, { on := 23, ground := Ground.guard }], guard := some (23, true) }) rfl (fun K hK => ?_) AllReadyH.nil)
            go_simp
            go_at_call 39
            refine (HTg.out _ hB0).mono ?_
            rintro _ w3 ⟨rfl, hb3⟩
            have hB3 : Below wr.heap.size wr w3 := hB0.trans (hb3.mono hB0.size)
            obtain ⟨HMR3, HRR3, HB3⟩ := HGO.out w3 hB3
            clear hb3
            dsimp only
            refine hK.out _ _ (HKp.out _ hB3) (fun hh => ?_)
            replace hS := hh
            clear hK K hh
            try simp only [Act.put, List.setIfInBounds_toArray, List.set_cons_zero, List.set_cons_succ]
            refine wpAnyH_take (i := 30) (oi := { dst := some 41, op := Op.unOp UnOp.not 4 (Operand.tmp 40), type := 4, pos := "ref.go:175", after := #[{ on := 29, ground := Ground.data }, { on := 23, ground := Ground.guard }], guard := some (23, true) }) (v := ?_) rfl (by kernel_rfl) (by kernel_rfl) (by kernel_rfl) (fun _ _ _ h => h) (Or.inl ⟨by rfl, ?_⟩) hS ?_
            rotate_left
            · intro w hSw; (try dsimp only at hSw); go_simp; try with_reducible rfl
            try simp only [Act.put, List.setIfInBounds_toArray, List.set_cons_zero, List.set_cons_succ]
            refine wpAnyH_take (i := 31) (oi := { dst := some 42, op := Op.pick (Operand.tmp 34) (Operand.tmp 41) (Operand.const (Value.bool false)), type := 4, pos := "ref.go:175", after := #[{ on := 23, ground := Ground.data }, { on := 30, ground := Ground.data }, { on := 16, ground := Ground.guard }], guard := some (16, false) }) (v := ?_) rfl (by kernel_rfl) (by kernel_rfl) (by kernel_rfl) (fun _ _ _ h => h) (Or.inl ⟨by rfl, ?_⟩) hS ?_
            rotate_left
            · intro w hSw; (try dsimp only at hSw); go_simp; try with_reducible rfl
            try simp only [Act.put, List.setIfInBounds_toArray, List.set_cons_zero, List.set_cons_succ]
            refine wpAnyH_take (i := 32) (oi := { dst := some 43, op := Op.pick (Operand.tmp 27) (Operand.const (Value.bool true)) (Operand.tmp 42), type := 4, pos := "ref.go:175", after := #[{ on := 16, ground := Ground.data }, { on := 31, ground := Ground.data }], guard := none }) (v := ?_) rfl (by kernel_rfl) (by kernel_rfl) (by kernel_rfl) (fun _ _ _ h => h) (Or.inl ⟨by rfl, ?_⟩) hS ?_
            rotate_left
            · intro w hSw; (try dsimp only at hSw); go_simp; try with_reducible rfl
            try simp only [Act.put, List.setIfInBounds_toArray, List.set_cons_zero, List.set_cons_succ]
            refine wpAnyH_done (by kernel_rfl) ?_ _
            all_goals (have HV2 : Hid (V = false) := Lib.hid (by rw [← HE3.out]; rfl))
            all_goals go_wp2_with fail
            all_goals (go_ret; exact ⟨by rw [HV2.out]; rfl, HBA.out.trans (HB3.out.mono HBA.out.size)⟩)
          · refine wp_region_held_drew (S := fun w' => w'.cell? ⟨bk, off + k * 7, none⟩ = some (.int .i64 3) ∧ w'.cell? ⟨bk, off + k * 7 + 1, none⟩ = some (.string nm2) ∧ w'.cell? ⟨bk, off + k * 7 + 2, none⟩ = some (.string sg2) ∧ w'.cell? ⟨bk, off + k * 7 + 3, none⟩ = some (.int .i64 kd2) ∧ w'.cell? ⟨bk, off + k * 7 + 4, none⟩ = some (.int .u64 (bb2 : Int)) ∧ w'.cell? ⟨bk, off + k * 7 + 5, none⟩ = some (.string tt2) ∧ w'.cell? ⟨bk, off + k * 7 + 6, none⟩ = some (.slice qa ys.length qc) ∧ w'.cell? ⟨w.heap.size, 0, none⟩ = some (.string rn) ∧ w'.cell? ⟨w.heap.size, 1, none⟩ = some (.slice ta ts.length tc)) (by kernel_rfl) (HKp.out _ hB0) (fun hS => ?_)
            refine wpAnyH_take (i := 0) (oi := { dst := some 11, op := Op.move (Operand.tmp 0), type := 22, pos := "ref.go:175", after := #[], guard := none }) (v := ?_) rfl (by kernel_rfl) (by kernel_rfl) (by kernel_rfl) (fun _ _ _ h => h) (Or.inl ⟨by rfl, ?_⟩) hS ?_
            rotate_left
            · intro w hSw; (try dsimp only at hSw); go_simp; try with_reducible rfl
            try simp only [Act.put, List.setIfInBounds_toArray, List.set_cons_zero, List.set_cons_succ]
            refine wpAnyH_take (i := 1) (oi := { dst := some 12, op := Op.move (Operand.tmp 5), type := 3, pos := "ref.go:175", after := #[], guard := none }) (v := ?_) rfl (by kernel_rfl) (by kernel_rfl) (by kernel_rfl) (fun _ _ _ h => h) (Or.inl ⟨by rfl, ?_⟩) hS ?_
            rotate_left
            · intro w hSw; (try dsimp only at hSw); go_simp; try with_reducible rfl
            try simp only [Act.put, List.setIfInBounds_toArray, List.set_cons_zero, List.set_cons_succ]
            refine wpAnyH_take (i := 2) (oi := { dst := some 13, op := Op.indexAddr 22 (Operand.tmp 11) (Operand.tmp 12), type := 0, pos := "ref.go:175", after := #[{ on := 0, ground := Ground.data }, { on := 1, ground := Ground.data }], guard := none }) (v := ?_) rfl (by kernel_rfl) (by kernel_rfl) (by kernel_rfl) (fun _ _ _ h => h) (Or.inl ⟨by rfl, ?_⟩) hS ?_
            rotate_left
            · intro w hSw; (try dsimp only at hSw); go_simp; try with_reducible rfl
            try simp only [Act.put, List.setIfInBounds_toArray, List.set_cons_zero, List.set_cons_succ]
            refine wpAnyH_take (i := 3) (oi := { dst := some 14, op := Op.fieldAddr 43 (Operand.tmp 13) 0, type := 0, pos := "ref.go:175", after := #[{ on := 2, ground := Ground.data }], guard := none }) (v := ?_) rfl (by kernel_rfl) (by kernel_rfl) (by kernel_rfl) (fun _ _ _ h => h) (Or.inl ⟨by rfl, ?_⟩) hS ?_
            rotate_left
            · intro w hSw; (try dsimp only at hSw); go_simp; try with_reducible rfl
            try simp only [Act.put, List.setIfInBounds_toArray, List.set_cons_zero, List.set_cons_succ]
            refine wpAnyH_take (i := 4) (oi := { dst := some 15, op := Op.load 3 (Operand.tmp 14), type := 3, pos := "ref.go:175", after := #[{ on := 3, ground := Ground.data }], guard := none }) (v := ?_) rfl (by kernel_rfl) (by kernel_rfl) (by kernel_rfl) (fun _ _ _ h => h) (Or.inl ⟨by rfl, ?_⟩) hS ?_
            rotate_left
            · intro w hSw; (try dsimp only at hSw); go_simp; try with_reducible rfl
            try simp only [Act.put, List.setIfInBounds_toArray, List.set_cons_zero, List.set_cons_succ]
            refine wpAnyH_take (i := 5) (oi := { dst := some 16, op := Op.binOp BinOp.eql 3 (Operand.tmp 15) (Operand.const (Value.int IntKind.i64 1)) 3, type := 4, pos := "ref.go:175", after := #[{ on := 4, ground := Ground.data }], guard := none }) (v := ?_) rfl (by kernel_rfl) (by kernel_rfl) (by kernel_rfl) (fun _ _ _ h => h) (Or.inl ⟨by rfl, ?_⟩) hS ?_
            rotate_left
            · intro w hSw; (try dsimp only at hSw); go_simp; try with_reducible rfl
            try simp only [Act.put, List.setIfInBounds_toArray, List.set_cons_zero, List.set_cons_succ]
            refine wpAnyH_take (i := 6) (oi := { dst := some 17, op := Op.move (Operand.tmp 16), type := 4, pos := "ref.go:175", after := #[{ on := 5, ground := Ground.data }], guard := none }) (v := ?_) rfl (by kernel_rfl) (by kernel_rfl) (by kernel_rfl) (fun _ _ _ h => h) (Or.inl ⟨by rfl, ?_⟩) hS ?_
            rotate_left
            · intro w hSw; (try dsimp only at hSw); go_simp; try with_reducible rfl
            try simp only [Act.put, List.setIfInBounds_toArray, List.set_cons_zero, List.set_cons_succ]
            refine wpAnyH_take (i := 7) (oi := { dst := some 18, op := Op.move (Operand.tmp 0), type := 22, pos := "ref.go:175", after := #[{ on := 6, ground := Ground.guard }], guard := some (6, true) }) (v := undef) rfl (by kernel_rfl) (by kernel_rfl) (by kernel_rfl) (fun _ _ _ h => h) (Or.inr ⟨by rfl, rfl⟩) hS ?_
            try simp only [Act.put, List.setIfInBounds_toArray, List.set_cons_zero, List.set_cons_succ]
            refine wpAnyH_take (i := 8) (oi := { dst := some 19, op := Op.move (Operand.tmp 5), type := 3, pos := "ref.go:175", after := #[{ on := 6, ground := Ground.guard }], guard := some (6, true) }) (v := undef) rfl (by kernel_rfl) (by kernel_rfl) (by kernel_rfl) (fun _ _ _ h => h) (Or.inr ⟨by rfl, rfl⟩) hS ?_
            try simp only [Act.put, List.setIfInBounds_toArray, List.set_cons_zero, List.set_cons_succ]
            refine wpAnyH_take (i := 9) (oi := { dst := some 20, op := Op.indexAddr 22 (Operand.tmp 18) (Operand.tmp 19), type := 0, pos := "ref.go:175", after := #[{ on := 7, ground := Ground.data }, { on := 8, ground := Ground.data }, { on := 6, ground := Ground.guard }], guard := some (6, true) }) (v := undef) rfl (by kernel_rfl) (by kernel_rfl) (by kernel_rfl) (fun _ _ _ h => h) (Or.inr ⟨by rfl, rfl⟩) hS ?_
            try simp only [Act.put, List.setIfInBounds_toArray, List.set_cons_zero, List.set_cons_succ]
            refine wpAnyH_take (i := 10) (oi := { dst := some 21, op := Op.fieldAddr 43 (Operand.tmp 20) 4, type := 0, pos := "ref.go:175", after := #[{ on := 9, ground := Ground.data }, { on := 6, ground := Ground.guard }], guard := some (6, true) }) (v := undef) rfl (by kernel_rfl) (by kernel_rfl) (by kernel_rfl) (fun _ _ _ h => h) (Or.inr ⟨by rfl, rfl⟩) hS ?_
            try simp only [Act.put, List.setIfInBounds_toArray, List.set_cons_zero, List.set_cons_succ]
            refine wpAnyH_take (i := 11) (oi := { dst := some 22, op := Op.load 22 (Operand.tmp 21), type := 22, pos := "ref.go:175", after := #[{ on := 10, ground := Ground.data }, { on := 6, ground := Ground.guard }], guard := some (6, true) }) (v := undef) rfl (by kernel_rfl) (by kernel_rfl) (by kernel_rfl) (fun _ _ _ h => h) (Or.inr ⟨by rfl, rfl⟩) hS ?_
            try simp only [Act.put, List.setIfInBounds_toArray, List.set_cons_zero, List.set_cons_succ]
            refine wpAnyH_take (i := 12) (oi := { dst := some 23, op := Op.load 25 (Operand.tmp 3), type := 25, pos := "ref.go:175", after := #[{ on := 6, ground := Ground.guard }], guard := some (6, true) }) (v := undef) rfl (by kernel_rfl) (by kernel_rfl) (by kernel_rfl) (fun _ _ _ h => h) (Or.inr ⟨by rfl, rfl⟩) hS ?_
            try simp only [Act.put, List.setIfInBounds_toArray, List.set_cons_zero, List.set_cons_succ]
            refine wpAnyH_take (i := 13) (oi := { dst := some 24, op := Op.call { callee := Callee.value (Operand.func 24), args := #[Operand.tmp 22, Operand.tmp 23], argTypes := #[22, 25] }, type := 4, pos := "ref.go:175", after := #[{ on := 11, ground := Ground.data }, { on := 12, ground := Ground.data }, { on := 6, ground := Ground.chain }, { on := 6, ground := Ground.guard }], guard := some (6, true) }) (v := undef) rfl (by kernel_rfl) (by kernel_rfl) (by kernel_rfl) (fun _ _ _ h => h) (Or.inr ⟨by rfl, rfl⟩) hS ?_
            try simp only [Act.put, List.setIfInBounds_toArray, List.set_cons_zero, List.set_cons_succ]
            refine wpAnyH_take (i := 14) (oi := { dst := some 25, op := Op.unOp UnOp.not 4 (Operand.tmp 24), type := 4, pos := "ref.go:175", after := #[{ on := 13, ground := Ground.data }, { on := 6, ground := Ground.guard }], guard := some (6, true) }) (v := undef) rfl (by kernel_rfl) (by kernel_rfl) (by kernel_rfl) (fun _ _ _ h => h) (Or.inr ⟨by rfl, rfl⟩) hS ?_
            try simp only [Act.put, List.setIfInBounds_toArray, List.set_cons_zero, List.set_cons_succ]
            refine wpAnyH_take (i := 15) (oi := { dst := some 26, op := Op.pick (Operand.tmp 17) (Operand.tmp 25) (Operand.const (Value.bool false)), type := 4, pos := "ref.go:175", after := #[{ on := 6, ground := Ground.data }, { on := 14, ground := Ground.data }], guard := none }) (v := ?_) rfl (by kernel_rfl) (by kernel_rfl) (by kernel_rfl) (fun _ _ _ h => h) (Or.inl ⟨by rfl, ?_⟩) hS ?_
            rotate_left
            · intro w hSw; (try dsimp only at hSw); go_simp; try with_reducible rfl
            try simp only [Act.put, List.setIfInBounds_toArray, List.set_cons_zero, List.set_cons_succ]
            refine wpAnyH_take (i := 16) (oi := { dst := some 27, op := Op.move (Operand.tmp 26), type := 4, pos := "ref.go:175", after := #[{ on := 15, ground := Ground.data }, { on := 13, ground := Ground.chain }], guard := none }) (v := ?_) rfl (by kernel_rfl) (by kernel_rfl) (by kernel_rfl) (fun _ _ _ h => h) (Or.inl ⟨by rfl, ?_⟩) hS ?_
            rotate_left
            · intro w hSw; (try dsimp only at hSw); go_simp; try with_reducible rfl
            try simp only [Act.put, List.setIfInBounds_toArray, List.set_cons_zero, List.set_cons_succ]
            refine wpAnyH_take (i := 17) (oi := { dst := some 28, op := Op.move (Operand.tmp 0), type := 22, pos := "ref.go:175", after := #[{ on := 16, ground := Ground.guard }], guard := some (16, false) }) (v := ?_) rfl (by kernel_rfl) (by kernel_rfl) (by kernel_rfl) (fun _ _ _ h => h) (Or.inl ⟨by rfl, ?_⟩) hS ?_
            rotate_left
            · intro w hSw; (try dsimp only at hSw); go_simp; try with_reducible rfl
            try simp only [Act.put, List.setIfInBounds_toArray, List.set_cons_zero, List.set_cons_succ]
            refine wpAnyH_take (i := 18) (oi := { dst := some 29, op := Op.move (Operand.tmp 5), type := 3, pos := "ref.go:175", after := #[{ on := 16, ground := Ground.guard }], guard := some (16, false) }) (v := ?_) rfl (by kernel_rfl) (by kernel_rfl) (by kernel_rfl) (fun _ _ _ h => h) (Or.inl ⟨by rfl, ?_⟩) hS ?_
            rotate_left
            · intro w hSw; (try dsimp only at hSw); go_simp; try with_reducible rfl
            try simp only [Act.put, List.setIfInBounds_toArray, List.set_cons_zero, List.set_cons_succ]
            refine wpAnyH_take (i := 19) (oi := { dst := some 30, op := Op.indexAddr 22 (Operand.tmp 28) (Operand.tmp 29), type := 0, pos := "ref.go:175", after := #[{ on := 17, ground := Ground.data }, { on := 18, ground := Ground.data }, { on := 16, ground := Ground.guard }], guard := some (16, false) }) (v := ?_) rfl (by kernel_rfl) (by kernel_rfl) (by kernel_rfl) (fun _ _ _ h => h) (Or.inl ⟨by rfl, ?_⟩) hS ?_
            rotate_left
            · intro w hSw; (try dsimp only at hSw); go_simp; try with_reducible rfl
            try simp only [Act.put, List.setIfInBounds_toArray, List.set_cons_zero, List.set_cons_succ]
            refine wpAnyH_take (i := 20) (oi := { dst := some 31, op := Op.fieldAddr 43 (Operand.tmp 30) 0, type := 0, pos := "ref.go:175", after := #[{ on := 19, ground := Ground.data }, { on := 16, ground := Ground.guard }], guard := some (16, false) }) (v := ?_) rfl (by kernel_rfl) (by kernel_rfl) (by kernel_rfl) (fun _ _ _ h => h) (Or.inl ⟨by rfl, ?_⟩) hS ?_
            rotate_left
            · intro w hSw; (try dsimp only at hSw); go_simp; try with_reducible rfl
            try simp only [Act.put, List.setIfInBounds_toArray, List.set_cons_zero, List.set_cons_succ]
            refine wpAnyH_take (i := 21) (oi := { dst := some 32, op := Op.load 3 (Operand.tmp 31), type := 3, pos := "ref.go:175", after := #[{ on := 20, ground := Ground.data }, { on := 16, ground := Ground.guard }], guard := some (16, false) }) (v := ?_) rfl (by kernel_rfl) (by kernel_rfl) (by kernel_rfl) (fun _ _ _ h => h) (Or.inl ⟨by rfl, ?_⟩) hS ?_
            rotate_left
            · intro w hSw; (try dsimp only at hSw); go_simp; try with_reducible rfl
            try simp only [Act.put, List.setIfInBounds_toArray, List.set_cons_zero, List.set_cons_succ]
            refine wpAnyH_take (i := 22) (oi := { dst := some 33, op := Op.binOp BinOp.eql 3 (Operand.tmp 32) (Operand.const (Value.int IntKind.i64 3)) 3, type := 4, pos := "ref.go:175", after := #[{ on := 21, ground := Ground.data }, { on := 16, ground := Ground.guard }], guard := some (16, false) }) (v := ?_) rfl (by kernel_rfl) (by kernel_rfl) (by kernel_rfl) (fun _ _ _ h => h) (Or.inl ⟨by rfl, ?_⟩) hS ?_
            rotate_left
            · intro w hSw; (try dsimp only at hSw); go_simp; try with_reducible rfl
            try simp only [Act.put, List.setIfInBounds_toArray, List.set_cons_zero, List.set_cons_succ]
            refine wpAnyH_take (i := 23) (oi := { dst := some 34, op := Op.move (Operand.tmp 33), type := 4, pos := "ref.go:175", after := #[{ on := 22, ground := Ground.data }, { on := 16, ground := Ground.chain }, { on := 16, ground := Ground.guard }], guard := some (16, false) }) (v := ?_) rfl (by kernel_rfl) (by kernel_rfl) (by kernel_rfl) (fun _ _ _ h => h) (Or.inl ⟨by rfl, ?_⟩) hS ?_
            rotate_left
            · intro w hSw; (try dsimp only at hSw); go_simp; try with_reducible rfl
            try simp only [Act.put, List.setIfInBounds_toArray, List.set_cons_zero, List.set_cons_succ]
            refine wpAnyH_take (i := 24) (oi := { dst := some 35, op := Op.load 25 (Operand.tmp 3), type := 25, pos := "ref.go:175", after := #[{ on := 23, ground := Ground.guard }], guard := some (23, true) }) (v := ?_) rfl (by kernel_rfl) (by kernel_rfl) (by kernel_rfl) (fun _ _ _ h => h) (Or.inl ⟨by rfl, ?_⟩) hS ?_
            rotate_left
            · intro w hSw; (try dsimp only at hSw); go_simp; try with_reducible rfl
            try simp only [Act.put, List.setIfInBounds_toArray, List.set_cons_zero, List.set_cons_succ]
            refine wpAnyH_take (i := 25) (oi := { dst := some 36, op := Op.move (Operand.tmp 0), type := 22, pos := "ref.go:175", after := #[{ on := 23, ground := Ground.guard }], guard := some (23, true) }) (v := ?_) rfl (by kernel_rfl) (by kernel_rfl) (by kernel_rfl) (fun _ _ _ h => h) (Or.inl ⟨by rfl, ?_⟩) hS ?_
            rotate_left
            · intro w hSw; (try dsimp only at hSw); go_simp; try with_reducible rfl
            try simp only [Act.put, List.setIfInBounds_toArray, List.set_cons_zero, List.set_cons_succ]
            refine wpAnyH_take (i := 26) (oi := { dst := some 37, op := Op.move (Operand.tmp 5), type := 3, pos := "ref.go:175", after := #[{ on := 23, ground := Ground.guard }], guard := some (23, true) }) (v := ?_) rfl (by kernel_rfl) (by kernel_rfl) (by kernel_rfl) (fun _ _ _ h => h) (Or.inl ⟨by rfl, ?_⟩) hS ?_
            rotate_left
            · intro w hSw; (try dsimp only at hSw); go_simp; try with_reducible rfl
            try simp only [Act.put, List.setIfInBounds_toArray, List.set_cons_zero, List.set_cons_succ]
            refine wpAnyH_take (i := 27) (oi := { dst := some 38, op := Op.indexAddr 22 (Operand.tmp 36) (Operand.tmp 37), type := 0, pos := "ref.go:175", after := #[{ on := 25, ground := Ground.data }, { on := 26, ground := Ground.data }, { on := 23, ground := Ground.guard }], guard := some (23, true) }) (v := ?_) rfl (by kernel_rfl) (by kernel_rfl) (by kernel_rfl) (fun _ _ _ h => h) (Or.inl ⟨by rfl, ?_⟩) hS ?_
            rotate_left
            · intro w hSw; (try dsimp only at hSw); go_simp; try with_reducible rfl
            try simp only [Act.put, List.setIfInBounds_toArray, List.set_cons_zero, List.set_cons_succ]
            refine wpAnyH_take (i := 28) (oi := { dst := some 39, op := Op.load 43 (Operand.tmp 38), type := 43, pos := "ref.go:175", after := #[{ on := 27, ground := Ground.data }, { on := 23, ground := Ground.guard }], guard := some (23, true) }) (v := ?_) rfl (by kernel_rfl) (by kernel_rfl) (by kernel_rfl) (fun _ _ _ h => h) (Or.inl ⟨by rfl, ?_⟩) hS ?_
            rotate_left
            · intro w hSw; (try dsimp only at hSw); go_simp; try with_reducible rfl
            try simp only [Act.put, List.setIfInBounds_toArray, List.set_cons_zero, List.set_cons_succ]
            refine wpAnyH_ready (rs := [29]) (by kernel_rfl) (by simp) (AllReadyH.cons (o := { dst := some 40, op := Op.call { callee := Callee.value (Operand.func 39), args := #[Operand.tmp 35, Operand.tmp 39], argTypes := #[25, 43] }, type := 4, pos := "ref.go:175", after := #[{ on := 24, ground := Ground.data }, { on := 28, ground := Ground.data }, { on := 23, ground := Ground.chain }, { on := 23, ground := Ground.guard }], guard := some (23, true) }) rfl (fun K hK => ?_) AllReadyH.nil)
            go_simp
            go_at_call 39
            refine (HTg.out _ hB0).mono ?_
            rintro _ w3 ⟨rfl, hb3⟩
            have hB3 : Below wr.heap.size wr w3 := hB0.trans (hb3.mono hB0.size)
            obtain ⟨HMR3, HRR3, HB3⟩ := HGO.out w3 hB3
            clear hb3
            dsimp only
            refine hK.out _ _ (HKp.out _ hB3) (fun hh => ?_)
            replace hS := hh
            clear hK K hh
            try simp only [Act.put, List.setIfInBounds_toArray, List.set_cons_zero, List.set_cons_succ]
            refine wpAnyH_take (i := 30) (oi := { dst := some 41, op := Op.unOp UnOp.not 4 (Operand.tmp 40), type := 4, pos := "ref.go:175", after := #[{ on := 29, ground := Ground.data }, { on := 23, ground := Ground.guard }], guard := some (23, true) }) (v := ?_) rfl (by kernel_rfl) (by kernel_rfl) (by kernel_rfl) (fun _ _ _ h => h) (Or.inl ⟨by rfl, ?_⟩) hS ?_
            rotate_left
            · intro w hSw; (try dsimp only at hSw); go_simp; try with_reducible rfl
            try simp only [Act.put, List.setIfInBounds_toArray, List.set_cons_zero, List.set_cons_succ]
            refine wpAnyH_take (i := 31) (oi := { dst := some 42, op := Op.pick (Operand.tmp 34) (Operand.tmp 41) (Operand.const (Value.bool false)), type := 4, pos := "ref.go:175", after := #[{ on := 23, ground := Ground.data }, { on := 30, ground := Ground.data }, { on := 16, ground := Ground.guard }], guard := some (16, false) }) (v := ?_) rfl (by kernel_rfl) (by kernel_rfl) (by kernel_rfl) (fun _ _ _ h => h) (Or.inl ⟨by rfl, ?_⟩) hS ?_
            rotate_left
            · intro w hSw; (try dsimp only at hSw); go_simp; try with_reducible rfl
            try simp only [Act.put, List.setIfInBounds_toArray, List.set_cons_zero, List.set_cons_succ]
            refine wpAnyH_take (i := 32) (oi := { dst := some 43, op := Op.pick (Operand.tmp 27) (Operand.const (Value.bool true)) (Operand.tmp 42), type := 4, pos := "ref.go:175", after := #[{ on := 16, ground := Ground.data }, { on := 31, ground := Ground.data }], guard := none }) (v := ?_) rfl (by kernel_rfl) (by kernel_rfl) (by kernel_rfl) (fun _ _ _ h => h) (Or.inl ⟨by rfl, ?_⟩) hS ?_
            rotate_left
            · intro w hSw; (try dsimp only at hSw); go_simp; try with_reducible rfl
            try simp only [Act.put, List.setIfInBounds_toArray, List.set_cons_zero, List.set_cons_succ]
            refine wpAnyH_done (by kernel_rfl) ?_ _
            all_goals (have HE4 : Hid (rtF ts r = V) := Lib.hid (by have := HE3.out; rwa [Bool.true_and] at this))
            all_goals go_wp2_with fail
            all_goals
              go_roundg (gk - 1)
              case measure => go_light; omega
              case rel =>
                go_light
                exact ⟨k + 1, r, by omega, by go_num, hr2, HMR3, HRR3, HE4, HB3⟩
        · have n3 : (op2 == 3) = false := beq_false_of_ne h3
          have HE4 : Hid (rtF ts r = V) := Lib.hid (by have := HE2.out; rw [n1, n3] at this; simpa using this)
          clear HE2 HC HTg h1 h3
          go_upto_region 4 with fail
          go_quiet (fail)
          have hnq : Below wr.heap.size wr (wr.drewN nq) := Below.drewN_of (Below.refl _ _) _
          obtain ⟨HMR3, HRR3, HB3⟩ := HGO.out _ hnq
          clear hnq HRR HB HMR2
          go_wp2_with fail
          go_roundg (gk - 1)
          case measure => go_light; omega
          case rel =>
            go_light
            exact ⟨k + 1, r, by omega, by go_num, hr2, HMR3, HRR3, HE4, HB3⟩
end Go.Proofs.Ytjifgipkfkhnpaa

