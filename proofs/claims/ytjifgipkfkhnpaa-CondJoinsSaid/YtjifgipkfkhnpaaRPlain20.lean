/- gristref20.plain: may conditions say what is deleted? Printed by gen_rplain20.py. -/
import Derived.Test.YtjifgipkfkhnpaaRTag20
namespace Go.Proofs.Ytjifgipkfkhnpaa
open Go.RowKit
set_option linter.unusedVariables false

set_option maxHeartbeats 4000000 in
set_option maxRecDepth 100000 in
theorem rplain_any (ns : List ByteArray) (ts : List Tg) : ∀ (j : Nat) (F : Fo) (v nv : Value) (w : World), F.sz < j → RdF w v F → RdV w 1 nv ns.length (ns.map Value.string) →
    Calls Try.prog 23 #[v, nv] w fun e w' => e = .returned (.bool (plF ns ts F).1) ∧ Below w.heap.size w w' := by
  intro j
  induction j with
  | zero => intro F v nv w h; omega
  | succ j ih =>
    intro F v nv w hj hp hN
    obtain ⟨xs, hr, hm⟩ := hp
    obtain ⟨pa, pc, rfl, hn1, hn2⟩ := RdV.shape hr
    obtain ⟨na, nc, rfl, hm1, hm2⟩ := RdV.shape hN
    unfold maxLen at hn2
    have HV : Hid ((plF ns ts F).1 = (plF ns ts F).1) := Lib.hid rfl
    revert HV
    generalize hV0 : (plF ns ts F).1 = V
    intro _
    have HV := Lib.hid hV0
    have HR := Lib.hid hr
    have HM := Lib.hid hm
    have HN := Lib.hid hN
    have HIH := Lib.hid ih
    clear hr hm hN ih hm1 hm2 hV0
    go_enter Try.func23, Try.ntmps23
    go_wp2_with fail
    go_loopg [9] xs.length (fun m s9 wr => ∃ (k : Nat) (R : Fo), k + m = xs.length ∧ s9 = .int .i64 (k : Int) ∧ R.sz < j + 1 ∧ Hid (Mt wr R (xs.drop k)) ∧ Hid (RdV wr 7 (.slice pa xs.length pc) xs.length (xs.flatMap lcells)) ∧ Hid ((plF ns ts R).1 = V) ∧ Hid (Below w.heap.size w wr))
    case atStart => exact ⟨0, F, by omega, rfl, hj, Lib.hid (by rw [List.drop_zero]; exact HM.out), HR, HV, Lib.hid (Below.refl _ _)⟩
    case round =>
      obtain ⟨k, R, hk, rfl, hRs, HMR, HRR, HE, HB⟩ := hrel
      clear HM HR HV
      cases R with
      | nil =>
        obtain rfl := Mt.end HMR.out (by omega)
        have HV2 : Hid (V = true) := Lib.hid (by rw [← HE.out]; rfl)
        clear HE HMR HRR
        go_wp2_with fail
        go_ret
        exact ⟨by rw [HV2.out]; rfl, HB.out⟩
      | cons c p2 r =>
        obtain ⟨hlt, pv2, hx, hp2, hmr⟩ := Mt.at HMR.out
        obtain ⟨bk, off, cap', he, e0, e1, e2, e3, e4, e5, e6⟩ := cond_at HRR.out k hlt
        simp only [Value.slice.injEq, true_and] at he
        obtain ⟨rfl, rfl⟩ := he
        rw [hx] at e0 e1 e2 e3 e4 e5 e6
        have hp2' := hp2
        obtain ⟨ys, hy, _⟩ := hp2'
        obtain ⟨qa, qc, rfl, _, _⟩ := RdV.shape hy
        clear hy
        have hE2 := HE.out
        rw [plF_cons] at hE2
        dsimp only at hE2
        have hsz : p2.sz < j ∧ r.sz < j + 1 := by simp only [Fo.sz] at hRs; omega
        have hC := fun (w1 : World) (h : Below wr.heap.size wr w1) => HIH.out p2 _ (.slice na ns.length nc) w1 hsz.1 (hp2.below h) ((HN.out.below HB.out).below h)
        have hval := show plOne ns ts c p2 = bif c.op == 1 then plF ns ts p2 else bif c.op == 3 then (knw c.sg && !inS ns c.nm, tgd c ts) else bif c.op == 4 then (knw c.sg && !(c.sg.toList == [33, 61]), true) else (false, false) from rfl
        obtain ⟨op2, nm2, sg2, kd2, bb2, tt2⟩ := c
        dsimp only at e0 e1 e2 e3 e4 e5 e6 hC hval
        generalize plOne ns ts ⟨op2, nm2, sg2, kd2, bb2, tt2⟩ p2 = x at *
        have HX := Lib.hid hval
        have HE2 := Lib.hid hE2
        have HMR2 := Lib.hid hmr
        have hr2 := hsz.2
        have HC := Lib.hid hC
        obtain ⟨wB, hwB⟩ : ∃ wB, wB = wr.alloc (.cells #[.int .i64 op2, .string nm2, .string sg2, .int .i64 kd2, .int .u64 (bb2 : Int), .string tt2, .slice qa ys.length qc] 43) := ⟨_, rfl⟩
        have hB1 : Below wr.heap.size wr wB := by rw [hwB]; exact (Below.refl _ _).alloc (Nat.le_refl _) _
        have g0 : wB.cell? ⟨wr.heap.size, 0, none⟩ = some (.int .i64 op2) := by rw [hwB]; simp
        have g1 : wB.cell? ⟨wr.heap.size, 1, none⟩ = some (.string nm2) := by rw [hwB]; simp
        have g2 : wB.cell? ⟨wr.heap.size, 2, none⟩ = some (.string sg2) := by rw [hwB]; simp
        have g6 : wB.cell? ⟨wr.heap.size, 6, none⟩ = some (.slice qa ys.length qc) := by rw [hwB]; simp
        have HB1 := Lib.hid hB1
        have HW := Lib.hid hwB
        have HNB := Lib.hid ((HN.out.below HB.out).below hB1)
        have hkeep : ∀ w' : World, Below wB.heap.size wB w' → w'.cell? ⟨wr.heap.size, 1, none⟩ = some (.string nm2) ∧ w'.cell? ⟨wr.heap.size, 2, none⟩ = some (.string sg2) := fun w' h =>
          have q : ∀ (bk o : Nat) (u : Value), wB.cell? ⟨bk, o, none⟩ = some u → w'.cell? ⟨bk, o, none⟩ = some u := fun bk o u q => (h.cell (World.block_lt_of_cell? _ _ q)).trans q
          ⟨q _ _ _ g1, q _ _ _ g2⟩
        have HKp := Lib.hid hkeep
        have hgo : ∀ w2 : World, Below wB.heap.size wB w2 → Hid (Mt w2 r (xs.drop (k + 1))) ∧ Hid (RdV w2 7 (.slice (some ⟨bk, off, none⟩) xs.length pc) xs.length (xs.flatMap lcells)) ∧ Hid (Below w.heap.size w w2) := fun w2 h =>
          have h2 := HB1.out.trans (h.mono HB1.out.size)
          ⟨Lib.hid (HMR2.out.below h2), Lib.hid (HRR.out.below h2), Lib.hid (HB.out.trans (h2.mono HB.out.size))⟩
        have HGO := Lib.hid hgo
        have hSg := fun (w : World) => signs_any w
        have hB0 : Below wB.heap.size wB wB.drew := (Below.refl _ _).drew
        clear hE2 hmr HE HMR hx hp2 hRs hsz hC hB1 hval hwB hkeep hgo
        go_upto_region 5 with fail
        rw [← HW.out]
        clear HW e0 e1 e2 e3 e4 e5 e6
        by_cases h1 : op2 = 1
        · subst h1
          have HX2 : Hid (x = plF ns ts p2) := Lib.hid (by rw [HX.out]; rfl)
          have hC := HC.out wB HB1.out
          rw [← HX2.out] at hC
          clear HX HX2 HC g1 g2 HKp
          obtain ⟨x1, x2⟩ := x
          dsimp only at hC HE2
          cases x1
          · go_wp2_with (go_at_call 23; refine hC.mono ?_; rintro _ w2 ⟨rfl, hb2⟩; obtain ⟨HMR3, HRR3, HB3⟩ := HGO.out w2 hb2; clear hb2)
            have HV2 : Hid (V = false) := Lib.hid (by rw [← HE2.out]; rfl)
            go_ret
            exact ⟨by rw [HV2.out]; rfl, HB3.out⟩
          · go_wp2_with (go_at_call 23; refine hC.mono ?_; rintro _ w2 ⟨rfl, hb2⟩; obtain ⟨HMR3, HRR3, HB3⟩ := HGO.out w2 hb2; clear hb2)
            have HE3 : Hid ((plF ns ts r).1 = V) := Lib.hid (by have := HE2.out; rwa [Bool.true_and] at this)
            go_roundg (gk - 1)
            case measure => go_light; omega
            case rel =>
              go_light
              exact ⟨k + 1, r, by omega, by go_num, hr2, HMR3, HRR3, HE3, HB3⟩
        have n1 : (op2 == 1) = false := beq_false_of_ne h1
        by_cases h3 : op2 = 3
        · subst h3
          have HX2 : Hid (x.1 = (knw sg2 && !inS ns nm2)) := Lib.hid (by rw [HX.out]; rfl)
          have hIn := fun (w1 : World) (h : Below wB.heap.size wB w1) => rin_any ns nm2 (.slice na ns.length nc) w1 (HNB.out.below h)
          have HIn := Lib.hid hIn
          clear HX HC g6 hIn n1 h1
          generalize inS ns nm2 = IN at *
          cases IN
          · have hIs := fun (w1 : World) (v : Value) (h : RdV w1 1 v signL.length (signL.map Value.string)) => rin_any signL sg2 v w1 h
            rw [inS_signs] at hIs
            have HIs := Lib.hid hIs
            clear hIs
            generalize knw sg2 = KN at *
            have HE3 : Hid ((KN && (plF ns ts r).1) = V) := Lib.hid (by have := HE2.out; rw [HX2.out] at this; simpa using this)
            clear HE2 HX2
            go_upto_region 11 with fail
            cases KN
            · refine wp_region_held_drew (S := fun w' => w'.cell? ⟨wr.heap.size, 1, none⟩ = some (.string nm2) ∧ w'.cell? ⟨wr.heap.size, 2, none⟩ = some (.string sg2)) (by kernel_rfl) (HKp.out _ hB0) (fun hS => ?_)
              refine wpAnyH_take (i := 0) (oi := { dst := some 27, op := Op.move (Operand.tmp 1), type := 29, pos := "ref.go:158", after := #[], guard := none }) (v := ?_) rfl (by kernel_rfl) (by kernel_rfl) (by kernel_rfl) (fun _ _ _ h => h) (Or.inl ⟨by rfl, ?_⟩) hS ?_
              rotate_left
              · intro w hSw; (try dsimp only at hSw); go_simp; try with_reducible rfl
              try simp only [Act.put, List.setIfInBounds_toArray, List.set_cons_zero, List.set_cons_succ]
              refine wpAnyH_take (i := 1) (oi := { dst := some 28, op := Op.fieldAddr 43 (Operand.tmp 6) 1, type := 0, pos := "ref.go:158", after := #[], guard := none }) (v := ?_) rfl (by kernel_rfl) (by kernel_rfl) (by kernel_rfl) (fun _ _ _ h => h) (Or.inl ⟨by rfl, ?_⟩) hS ?_
              rotate_left
              · intro w hSw; (try dsimp only at hSw); go_simp; try with_reducible rfl
              try simp only [Act.put, List.setIfInBounds_toArray, List.set_cons_zero, List.set_cons_succ]
              refine wpAnyH_take (i := 2) (oi := { dst := some 29, op := Op.load 9 (Operand.tmp 28), type := 9, pos := "ref.go:158", after := #[{ on := 1, ground := Ground.data }], guard := none }) (v := ?_) rfl (by kernel_rfl) (by kernel_rfl) (by kernel_rfl) (fun _ _ _ h => h) (Or.inl ⟨by rfl, ?_⟩) hS ?_
              rotate_left
              · intro w hSw; (try dsimp only at hSw); go_simp; try with_reducible rfl
              try simp only [Act.put, List.setIfInBounds_toArray, List.set_cons_zero, List.set_cons_succ]
              refine wpAnyH_ready (rs := [3]) (by kernel_rfl) (by simp) (AllReadyH.cons (o := { dst := some 30, op := Op.call { callee := Callee.value (Operand.func 37), args := #[Operand.tmp 27, Operand.tmp 29], argTypes := #[29, 9] }, type := 4, pos := "ref.go:158", after := #[{ on := 0, ground := Ground.data }, { on := 2, ground := Ground.data }], guard := none }) rfl (fun K hK => ?_) AllReadyH.nil)
              go_simp
              go_at_call 37
              refine (HIn.out _ hB0).mono ?_
              rintro _ _ ⟨rfl, rfl⟩
              dsimp only
              refine hK.out _ _ hS (fun hh => ?_)
              clear hK K hh
              try simp only [Act.put, List.setIfInBounds_toArray, List.set_cons_zero, List.set_cons_succ]
              refine wpAnyH_take (i := 4) (oi := { dst := some 31, op := Op.move (Operand.tmp 30), type := 4, pos := "ref.go:158", after := #[{ on := 3, ground := Ground.data }, { on := 3, ground := Ground.chain }], guard := none }) (v := ?_) rfl (by kernel_rfl) (by kernel_rfl) (by kernel_rfl) (fun _ _ _ h => h) (Or.inl ⟨by rfl, ?_⟩) hS ?_
              rotate_left
              · intro w hSw; (try dsimp only at hSw); go_simp; try with_reducible rfl
              try simp only [Act.put, List.setIfInBounds_toArray, List.set_cons_zero, List.set_cons_succ]
              refine wpAnyH_take (i := 6) (oi := { dst := some 33, op := Op.fieldAddr 43 (Operand.tmp 6) 2, type := 0, pos := "ref.go:158", after := #[{ on := 4, ground := Ground.guard }], guard := some (4, false) }) (v := ?_) rfl (by kernel_rfl) (by kernel_rfl) (by kernel_rfl) (fun _ _ _ h => h) (Or.inl ⟨by rfl, ?_⟩) hS ?_
              rotate_left
              · intro w hSw; (try dsimp only at hSw); go_simp; try with_reducible rfl
              try simp only [Act.put, List.setIfInBounds_toArray, List.set_cons_zero, List.set_cons_succ]
              refine wpAnyH_take (i := 7) (oi := { dst := some 34, op := Op.load 9 (Operand.tmp 33), type := 9, pos := "ref.go:158", after := #[{ on := 6, ground := Ground.data }, { on := 4, ground := Ground.guard }], guard := some (4, false) }) (v := ?_) rfl (by kernel_rfl) (by kernel_rfl) (by kernel_rfl) (fun _ _ _ h => h) (Or.inl ⟨by rfl, ?_⟩) hS ?_
              rotate_left
              · intro w hSw; (try dsimp only at hSw); go_simp; try with_reducible rfl
              try simp only [Act.put, List.setIfInBounds_toArray, List.set_cons_zero, List.set_cons_succ]
              refine wpAnyH_ready (rs := [5]) (by kernel_rfl) (by simp) (AllReadyH.cons (o := { dst := some 32, op := Op.call { callee := Callee.value (Operand.func 38), args := #[], argTypes := #[] }, type := 29, pos := "ref.go:158", after := #[{ on := 4, ground := Ground.chain }, { on := 4, ground := Ground.guard }], guard := some (4, false) }) rfl (fun K hK => ?_) AllReadyH.nil)
              go_simp
              go_at_call 38
              refine (hSg _).mono ?_
              rintro _ w3 ⟨sv, rfl, hsv, hb3⟩
              have HSV := Lib.hid hsv
              have hB3 : Below wB.heap.size wB w3 := hB0.trans (hb3.mono hB0.size)
              obtain ⟨HMR3, HRR3, HB3⟩ := HGO.out w3 hB3
              clear hsv hb3
              dsimp only
              refine hK.out _ _ (HKp.out _ hB3) (fun hh => ?_)
              replace hS := hh
              clear hK K hh
              try simp only [Act.put, List.setIfInBounds_toArray, List.set_cons_zero, List.set_cons_succ]
              refine wpAnyH_ready (rs := [8]) (by kernel_rfl) (by simp) (AllReadyH.cons (o := { dst := some 35, op := Op.call { callee := Callee.value (Operand.func 37), args := #[Operand.tmp 32, Operand.tmp 34], argTypes := #[29, 9] }, type := 4, pos := "ref.go:158", after := #[{ on := 5, ground := Ground.data }, { on := 7, ground := Ground.data }, { on := 5, ground := Ground.chain }, { on := 4, ground := Ground.guard }], guard := some (4, false) }) rfl (fun K hK => ?_) AllReadyH.nil)
              go_simp
              go_at_call 37
              refine (HIs.out _ _ HSV.out).mono ?_
              rintro _ _ ⟨rfl, rfl⟩
              dsimp only
              refine hK.out _ _ hS (fun hh => ?_)
              clear hK K hh
              try simp only [Act.put, List.setIfInBounds_toArray, List.set_cons_zero, List.set_cons_succ]
              refine wpAnyH_take (i := 9) (oi := { dst := some 36, op := Op.unOp UnOp.not 4 (Operand.tmp 35), type := 4, pos := "ref.go:158", after := #[{ on := 8, ground := Ground.data }, { on := 4, ground := Ground.guard }], guard := some (4, false) }) (v := ?_) rfl (by kernel_rfl) (by kernel_rfl) (by kernel_rfl) (fun _ _ _ h => h) (Or.inl ⟨by rfl, ?_⟩) hS ?_
              rotate_left
              · intro w hSw; (try dsimp only at hSw); go_simp; try with_reducible rfl
              try simp only [Act.put, List.setIfInBounds_toArray, List.set_cons_zero, List.set_cons_succ]
              refine wpAnyH_take (i := 10) (oi := { dst := some 37, op := Op.pick (Operand.tmp 31) (Operand.const (Value.bool true)) (Operand.tmp 36), type := 4, pos := "ref.go:158", after := #[{ on := 4, ground := Ground.data }, { on := 9, ground := Ground.data }], guard := none }) (v := ?_) rfl (by kernel_rfl) (by kernel_rfl) (by kernel_rfl) (fun _ _ _ h => h) (Or.inl ⟨by rfl, ?_⟩) hS ?_
              rotate_left
              · intro w hSw; (try dsimp only at hSw); go_simp; try with_reducible rfl
              try simp only [Act.put, List.setIfInBounds_toArray, List.set_cons_zero, List.set_cons_succ]
              refine wpAnyH_done (by kernel_rfl) ?_ _
              all_goals (have HV2 : Hid (V = false) := Lib.hid (by rw [← HE3.out]; rfl))
              all_goals go_wp2_with fail
              all_goals (go_ret; exact ⟨by rw [HV2.out]; rfl, HB3.out⟩)
            · refine wp_region_held_drew (S := fun w' => w'.cell? ⟨wr.heap.size, 1, none⟩ = some (.string nm2) ∧ w'.cell? ⟨wr.heap.size, 2, none⟩ = some (.string sg2)) (by kernel_rfl) (HKp.out _ hB0) (fun hS => ?_)
              refine wpAnyH_take (i := 0) (oi := { dst := some 27, op := Op.move (Operand.tmp 1), type := 29, pos := "ref.go:158", after := #[], guard := none }) (v := ?_) rfl (by kernel_rfl) (by kernel_rfl) (by kernel_rfl) (fun _ _ _ h => h) (Or.inl ⟨by rfl, ?_⟩) hS ?_
              rotate_left
              · intro w hSw; (try dsimp only at hSw); go_simp; try with_reducible rfl
              try simp only [Act.put, List.setIfInBounds_toArray, List.set_cons_zero, List.set_cons_succ]
              refine wpAnyH_take (i := 1) (oi := { dst := some 28, op := Op.fieldAddr 43 (Operand.tmp 6) 1, type := 0, pos := "ref.go:158", after := #[], guard := none }) (v := ?_) rfl (by kernel_rfl) (by kernel_rfl) (by kernel_rfl) (fun _ _ _ h => h) (Or.inl ⟨by rfl, ?_⟩) hS ?_
              rotate_left
              · intro w hSw; (try dsimp only at hSw); go_simp; try with_reducible rfl
              try simp only [Act.put, List.setIfInBounds_toArray, List.set_cons_zero, List.set_cons_succ]
              refine wpAnyH_take (i := 2) (oi := { dst := some 29, op := Op.load 9 (Operand.tmp 28), type := 9, pos := "ref.go:158", after := #[{ on := 1, ground := Ground.data }], guard := none }) (v := ?_) rfl (by kernel_rfl) (by kernel_rfl) (by kernel_rfl) (fun _ _ _ h => h) (Or.inl ⟨by rfl, ?_⟩) hS ?_
              rotate_left
              · intro w hSw; (try dsimp only at hSw); go_simp; try with_reducible rfl
              try simp only [Act.put, List.setIfInBounds_toArray, List.set_cons_zero, List.set_cons_succ]
              refine wpAnyH_ready (rs := [3]) (by kernel_rfl) (by simp) (AllReadyH.cons (o := { dst := some 30, op := Op.call { callee := Callee.value (Operand.func 37), args := #[Operand.tmp 27, Operand.tmp 29], argTypes := #[29, 9] }, type := 4, pos := "ref.go:158", after := #[{ on := 0, ground := Ground.data }, { on := 2, ground := Ground.data }], guard := none }) rfl (fun K hK => ?_) AllReadyH.nil)
              go_simp
              go_at_call 37
              refine (HIn.out _ hB0).mono ?_
              rintro _ _ ⟨rfl, rfl⟩
              dsimp only
              refine hK.out _ _ hS (fun hh => ?_)
              clear hK K hh
              try simp only [Act.put, List.setIfInBounds_toArray, List.set_cons_zero, List.set_cons_succ]
              refine wpAnyH_take (i := 4) (oi := { dst := some 31, op := Op.move (Operand.tmp 30), type := 4, pos := "ref.go:158", after := #[{ on := 3, ground := Ground.data }, { on := 3, ground := Ground.chain }], guard := none }) (v := ?_) rfl (by kernel_rfl) (by kernel_rfl) (by kernel_rfl) (fun _ _ _ h => h) (Or.inl ⟨by rfl, ?_⟩) hS ?_
              rotate_left
              · intro w hSw; (try dsimp only at hSw); go_simp; try with_reducible rfl
              try simp only [Act.put, List.setIfInBounds_toArray, List.set_cons_zero, List.set_cons_succ]
              refine wpAnyH_take (i := 6) (oi := { dst := some 33, op := Op.fieldAddr 43 (Operand.tmp 6) 2, type := 0, pos := "ref.go:158", after := #[{ on := 4, ground := Ground.guard }], guard := some (4, false) }) (v := ?_) rfl (by kernel_rfl) (by kernel_rfl) (by kernel_rfl) (fun _ _ _ h => h) (Or.inl ⟨by rfl, ?_⟩) hS ?_
              rotate_left
              · intro w hSw; (try dsimp only at hSw); go_simp; try with_reducible rfl
              try simp only [Act.put, List.setIfInBounds_toArray, List.set_cons_zero, List.set_cons_succ]
              refine wpAnyH_take (i := 7) (oi := { dst := some 34, op := Op.load 9 (Operand.tmp 33), type := 9, pos := "ref.go:158", after := #[{ on := 6, ground := Ground.data }, { on := 4, ground := Ground.guard }], guard := some (4, false) }) (v := ?_) rfl (by kernel_rfl) (by kernel_rfl) (by kernel_rfl) (fun _ _ _ h => h) (Or.inl ⟨by rfl, ?_⟩) hS ?_
              rotate_left
              · intro w hSw; (try dsimp only at hSw); go_simp; try with_reducible rfl
              try simp only [Act.put, List.setIfInBounds_toArray, List.set_cons_zero, List.set_cons_succ]
              refine wpAnyH_ready (rs := [5]) (by kernel_rfl) (by simp) (AllReadyH.cons (o := { dst := some 32, op := Op.call { callee := Callee.value (Operand.func 38), args := #[], argTypes := #[] }, type := 29, pos := "ref.go:158", after := #[{ on := 4, ground := Ground.chain }, { on := 4, ground := Ground.guard }], guard := some (4, false) }) rfl (fun K hK => ?_) AllReadyH.nil)
              go_simp
              go_at_call 38
              refine (hSg _).mono ?_
              rintro _ w3 ⟨sv, rfl, hsv, hb3⟩
              have HSV := Lib.hid hsv
              have hB3 : Below wB.heap.size wB w3 := hB0.trans (hb3.mono hB0.size)
              obtain ⟨HMR3, HRR3, HB3⟩ := HGO.out w3 hB3
              clear hsv hb3
              dsimp only
              refine hK.out _ _ (HKp.out _ hB3) (fun hh => ?_)
              replace hS := hh
              clear hK K hh
              try simp only [Act.put, List.setIfInBounds_toArray, List.set_cons_zero, List.set_cons_succ]
              refine wpAnyH_ready (rs := [8]) (by kernel_rfl) (by simp) (AllReadyH.cons (o := { dst := some 35, op := Op.call { callee := Callee.value (Operand.func 37), args := #[Operand.tmp 32, Operand.tmp 34], argTypes := #[29, 9] }, type := 4, pos := "ref.go:158", after := #[{ on := 5, ground := Ground.data }, { on := 7, ground := Ground.data }, { on := 5, ground := Ground.chain }, { on := 4, ground := Ground.guard }], guard := some (4, false) }) rfl (fun K hK => ?_) AllReadyH.nil)
              go_simp
              go_at_call 37
              refine (HIs.out _ _ HSV.out).mono ?_
              rintro _ _ ⟨rfl, rfl⟩
              dsimp only
              refine hK.out _ _ hS (fun hh => ?_)
              clear hK K hh
              try simp only [Act.put, List.setIfInBounds_toArray, List.set_cons_zero, List.set_cons_succ]
              refine wpAnyH_take (i := 9) (oi := { dst := some 36, op := Op.unOp UnOp.not 4 (Operand.tmp 35), type := 4, pos := "ref.go:158", after := #[{ on := 8, ground := Ground.data }, { on := 4, ground := Ground.guard }], guard := some (4, false) }) (v := ?_) rfl (by kernel_rfl) (by kernel_rfl) (by kernel_rfl) (fun _ _ _ h => h) (Or.inl ⟨by rfl, ?_⟩) hS ?_
              rotate_left
              · intro w hSw; (try dsimp only at hSw); go_simp; try with_reducible rfl
              try simp only [Act.put, List.setIfInBounds_toArray, List.set_cons_zero, List.set_cons_succ]
              refine wpAnyH_take (i := 10) (oi := { dst := some 37, op := Op.pick (Operand.tmp 31) (Operand.const (Value.bool true)) (Operand.tmp 36), type := 4, pos := "ref.go:158", after := #[{ on := 4, ground := Ground.data }, { on := 9, ground := Ground.data }], guard := none }) (v := ?_) rfl (by kernel_rfl) (by kernel_rfl) (by kernel_rfl) (fun _ _ _ h => h) (Or.inl ⟨by rfl, ?_⟩) hS ?_
              rotate_left
              · intro w hSw; (try dsimp only at hSw); go_simp; try with_reducible rfl
              try simp only [Act.put, List.setIfInBounds_toArray, List.set_cons_zero, List.set_cons_succ]
              refine wpAnyH_done (by kernel_rfl) ?_ _
              all_goals (have HE4 : Hid ((plF ns ts r).1 = V) := Lib.hid (by have := HE3.out; rwa [Bool.true_and] at this))
              all_goals go_wp2_with fail
              all_goals
                go_roundg (gk - 1)
                case measure => go_light; omega
                case rel =>
                  go_light
                  exact ⟨k + 1, r, by omega, by go_num, hr2, HMR3, HRR3, HE4, HB3⟩
          · have HV2 : Hid (V = false) := Lib.hid (by rw [← HE2.out, HX2.out]; simp)
            clear HE2 HX2
            go_upto_region 11 with fail
            clear g0 g1 g2
            refine wp_region_held_drew (S := fun w' => w'.cell? ⟨wr.heap.size, 1, none⟩ = some (.string nm2) ∧ w'.cell? ⟨wr.heap.size, 2, none⟩ = some (.string sg2)) (by kernel_rfl) (HKp.out _ hB0) (fun hS => ?_)
            refine wpAnyH_take (i := 0) (oi := { dst := some 27, op := Op.move (Operand.tmp 1), type := 29, pos := "ref.go:158", after := #[], guard := none }) (v := ?_) rfl (by kernel_rfl) (by kernel_rfl) (by kernel_rfl) (fun _ _ _ h => h) (Or.inl ⟨by rfl, ?_⟩) hS ?_
            rotate_left
            · intro w hSw; (try dsimp only at hSw); go_simp; try with_reducible rfl
            try simp only [Act.put, List.setIfInBounds_toArray, List.set_cons_zero, List.set_cons_succ]
            refine wpAnyH_take (i := 1) (oi := { dst := some 28, op := Op.fieldAddr 43 (Operand.tmp 6) 1, type := 0, pos := "ref.go:158", after := #[], guard := none }) (v := ?_) rfl (by kernel_rfl) (by kernel_rfl) (by kernel_rfl) (fun _ _ _ h => h) (Or.inl ⟨by rfl, ?_⟩) hS ?_
            rotate_left
            · intro w hSw; (try dsimp only at hSw); go_simp; try with_reducible rfl
            try simp only [Act.put, List.setIfInBounds_toArray, List.set_cons_zero, List.set_cons_succ]
            refine wpAnyH_take (i := 2) (oi := { dst := some 29, op := Op.load 9 (Operand.tmp 28), type := 9, pos := "ref.go:158", after := #[{ on := 1, ground := Ground.data }], guard := none }) (v := ?_) rfl (by kernel_rfl) (by kernel_rfl) (by kernel_rfl) (fun _ _ _ h => h) (Or.inl ⟨by rfl, ?_⟩) hS ?_
            rotate_left
            · intro w hSw; (try dsimp only at hSw); go_simp; try with_reducible rfl
            try simp only [Act.put, List.setIfInBounds_toArray, List.set_cons_zero, List.set_cons_succ]
            refine wpAnyH_ready (rs := [3]) (by kernel_rfl) (by simp) (AllReadyH.cons (o := { dst := some 30, op := Op.call { callee := Callee.value (Operand.func 37), args := #[Operand.tmp 27, Operand.tmp 29], argTypes := #[29, 9] }, type := 4, pos := "ref.go:158", after := #[{ on := 0, ground := Ground.data }, { on := 2, ground := Ground.data }], guard := none }) rfl (fun K hK => ?_) AllReadyH.nil)
            go_simp
            go_at_call 37
            refine (HIn.out _ hB0).mono ?_
            rintro _ _ ⟨rfl, rfl⟩
            dsimp only
            refine hK.out _ _ hS (fun hh => ?_)
            clear hK K hh
            try simp only [Act.put, List.setIfInBounds_toArray, List.set_cons_zero, List.set_cons_succ]
            refine wpAnyH_take (i := 4) (oi := { dst := some 31, op := Op.move (Operand.tmp 30), type := 4, pos := "ref.go:158", after := #[{ on := 3, ground := Ground.data }, { on := 3, ground := Ground.chain }], guard := none }) (v := ?_) rfl (by kernel_rfl) (by kernel_rfl) (by kernel_rfl) (fun _ _ _ h => h) (Or.inl ⟨by rfl, ?_⟩) hS ?_
            rotate_left
            · intro w hSw; (try dsimp only at hSw); go_simp; try with_reducible rfl
            try simp only [Act.put, List.setIfInBounds_toArray, List.set_cons_zero, List.set_cons_succ]
            refine wpAnyH_take (i := 5) (oi := { dst := some 32, op := Op.call { callee := Callee.value (Operand.func 38), args := #[], argTypes := #[] }, type := 29, pos := "ref.go:158", after := #[{ on := 4, ground := Ground.chain }, { on := 4, ground := Ground.guard }], guard := some (4, false) }) (v := undef) rfl (by kernel_rfl) (by kernel_rfl) (by kernel_rfl) (fun _ _ _ h => h) (Or.inr ⟨by rfl, rfl⟩) hS ?_
            try simp only [Act.put, List.setIfInBounds_toArray, List.set_cons_zero, List.set_cons_succ]
            refine wpAnyH_take (i := 6) (oi := { dst := some 33, op := Op.fieldAddr 43 (Operand.tmp 6) 2, type := 0, pos := "ref.go:158", after := #[{ on := 4, ground := Ground.guard }], guard := some (4, false) }) (v := undef) rfl (by kernel_rfl) (by kernel_rfl) (by kernel_rfl) (fun _ _ _ h => h) (Or.inr ⟨by rfl, rfl⟩) hS ?_
            try simp only [Act.put, List.setIfInBounds_toArray, List.set_cons_zero, List.set_cons_succ]
            refine wpAnyH_take (i := 7) (oi := { dst := some 34, op := Op.load 9 (Operand.tmp 33), type := 9, pos := "ref.go:158", after := #[{ on := 6, ground := Ground.data }, { on := 4, ground := Ground.guard }], guard := some (4, false) }) (v := undef) rfl (by kernel_rfl) (by kernel_rfl) (by kernel_rfl) (fun _ _ _ h => h) (Or.inr ⟨by rfl, rfl⟩) hS ?_
            try simp only [Act.put, List.setIfInBounds_toArray, List.set_cons_zero, List.set_cons_succ]
            refine wpAnyH_take (i := 8) (oi := { dst := some 35, op := Op.call { callee := Callee.value (Operand.func 37), args := #[Operand.tmp 32, Operand.tmp 34], argTypes := #[29, 9] }, type := 4, pos := "ref.go:158", after := #[{ on := 5, ground := Ground.data }, { on := 7, ground := Ground.data }, { on := 5, ground := Ground.chain }, { on := 4, ground := Ground.guard }], guard := some (4, false) }) (v := undef) rfl (by kernel_rfl) (by kernel_rfl) (by kernel_rfl) (fun _ _ _ h => h) (Or.inr ⟨by rfl, rfl⟩) hS ?_
            try simp only [Act.put, List.setIfInBounds_toArray, List.set_cons_zero, List.set_cons_succ]
            refine wpAnyH_take (i := 9) (oi := { dst := some 36, op := Op.unOp UnOp.not 4 (Operand.tmp 35), type := 4, pos := "ref.go:158", after := #[{ on := 8, ground := Ground.data }, { on := 4, ground := Ground.guard }], guard := some (4, false) }) (v := undef) rfl (by kernel_rfl) (by kernel_rfl) (by kernel_rfl) (fun _ _ _ h => h) (Or.inr ⟨by rfl, rfl⟩) hS ?_
            try simp only [Act.put, List.setIfInBounds_toArray, List.set_cons_zero, List.set_cons_succ]
            refine wpAnyH_take (i := 10) (oi := { dst := some 37, op := Op.pick (Operand.tmp 31) (Operand.const (Value.bool true)) (Operand.tmp 36), type := 4, pos := "ref.go:158", after := #[{ on := 4, ground := Ground.data }, { on := 9, ground := Ground.data }], guard := none }) (v := ?_) rfl (by kernel_rfl) (by kernel_rfl) (by kernel_rfl) (fun _ _ _ h => h) (Or.inl ⟨by rfl, ?_⟩) hS ?_
            rotate_left
            · intro w hSw; (try dsimp only at hSw); go_simp; try with_reducible rfl
            try simp only [Act.put, List.setIfInBounds_toArray, List.set_cons_zero, List.set_cons_succ]
            refine wpAnyH_done (by kernel_rfl) ?_ _
            all_goals go_wp2_with fail
            all_goals (go_ret; exact ⟨by rw [HV2.out]; rfl, (HGO.out _ hB0).2.2.out⟩)
        have n3 : (op2 == 3) = false := beq_false_of_ne h3
        by_cases h4 : op2 = 4
        · subst h4
          have HX2 : Hid (x.1 = (knw sg2 && !(sg2.toList == [33, 61]))) := Lib.hid (by rw [HX.out]; rfl)
          clear HX HC g1 g6 HNB n1 n3 h1 h3
          by_cases hne : (sg2.toList == [33, 61]) = true
          · have HV2 : Hid (V = false) := Lib.hid (by rw [← HE2.out, HX2.out, hne]; simp)
            clear HE2 HX2
            go_upto_region 14 with fail
            go_quiet (fail)
            go_wp2_with fail
            go_ret
            exact ⟨by rw [HV2.out]; rfl, Below.drewN_of (HB.out.trans (HB1.out.mono HB.out.size)) _⟩
          · rw [Bool.not_eq_true] at hne
            have hIs := fun (w1 : World) (v : Value) (h : RdV w1 1 v signL.length (signL.map Value.string)) => rin_any signL sg2 v w1 h
            rw [inS_signs] at hIs
            have HIs := Lib.hid hIs
            clear hIs
            generalize knw sg2 = KN at *
            have HE3 : Hid ((KN && (plF ns ts r).1) = V) := Lib.hid (by have := HE2.out; rw [HX2.out, hne] at this; simpa using this)
            clear HE2 HX2
            go_upto_region 14 with fail
            cases KN
            · refine wp_region_held_drew (S := fun w' => w'.cell? ⟨wr.heap.size, 1, none⟩ = some (.string nm2) ∧ w'.cell? ⟨wr.heap.size, 2, none⟩ = some (.string sg2)) (by kernel_rfl) (HKp.out _ hB0) (fun hS => ?_)
              refine wpAnyH_take (i := 0) (oi := { dst := some 40, op := Op.fieldAddr 43 (Operand.tmp 6) 2, type := 0, pos := "ref.go:162", after := #[], guard := none }) (v := ?_) rfl (by kernel_rfl) (by kernel_rfl) (by kernel_rfl) (fun _ _ _ h => h) (Or.inl ⟨by rfl, ?_⟩) hS ?_
              rotate_left
              · intro w hSw; (try dsimp only at hSw); go_simp; try with_reducible rfl
              try simp only [Act.put, List.setIfInBounds_toArray, List.set_cons_zero, List.set_cons_succ]
              refine wpAnyH_take (i := 1) (oi := { dst := some 41, op := Op.load 9 (Operand.tmp 40), type := 9, pos := "ref.go:162", after := #[{ on := 0, ground := Ground.data }], guard := none }) (v := ?_) rfl (by kernel_rfl) (by kernel_rfl) (by kernel_rfl) (fun _ _ _ h => h) (Or.inl ⟨by rfl, ?_⟩) hS ?_
              rotate_left
              · intro w hSw; (try dsimp only at hSw); go_simp; try with_reducible rfl
              try simp only [Act.put, List.setIfInBounds_toArray, List.set_cons_zero, List.set_cons_succ]
              refine wpAnyH_take (i := 2) (oi := { dst := some 42, op := Op.binOp BinOp.eql 9 (Operand.tmp 41) (Operand.const (Value.string { data := #[33, 61] })) 9, type := 4, pos := "ref.go:162", after := #[{ on := 1, ground := Ground.data }], guard := none }) (v := .bool false) rfl (by kernel_rfl) (by kernel_rfl) (by kernel_rfl) (fun _ _ _ h => h) (Or.inl ⟨by rfl, fun w hSw => by (try dsimp only at hSw); go_simp⟩) hS ?_
              try simp only [Act.put, List.setIfInBounds_toArray, List.set_cons_zero, List.set_cons_succ]
              refine wpAnyH_take (i := 3) (oi := { dst := some 43, op := Op.move (Operand.tmp 42), type := 4, pos := "ref.go:162", after := #[{ on := 2, ground := Ground.data }], guard := none }) (v := ?_) rfl (by kernel_rfl) (by kernel_rfl) (by kernel_rfl) (fun _ _ _ h => h) (Or.inl ⟨by rfl, ?_⟩) hS ?_
              rotate_left
              · intro w hSw; (try dsimp only at hSw); go_simp; try with_reducible rfl
              try simp only [Act.put, List.setIfInBounds_toArray, List.set_cons_zero, List.set_cons_succ]
              refine wpAnyH_take (i := 5) (oi := { dst := some 45, op := Op.fieldAddr 43 (Operand.tmp 6) 2, type := 0, pos := "ref.go:162", after := #[{ on := 3, ground := Ground.guard }], guard := some (3, false) }) (v := ?_) rfl (by kernel_rfl) (by kernel_rfl) (by kernel_rfl) (fun _ _ _ h => h) (Or.inl ⟨by rfl, ?_⟩) hS ?_
              rotate_left
              · intro w hSw; (try dsimp only at hSw); go_simp; try with_reducible rfl
              try simp only [Act.put, List.setIfInBounds_toArray, List.set_cons_zero, List.set_cons_succ]
              refine wpAnyH_take (i := 6) (oi := { dst := some 46, op := Op.load 9 (Operand.tmp 45), type := 9, pos := "ref.go:162", after := #[{ on := 5, ground := Ground.data }, { on := 3, ground := Ground.guard }], guard := some (3, false) }) (v := ?_) rfl (by kernel_rfl) (by kernel_rfl) (by kernel_rfl) (fun _ _ _ h => h) (Or.inl ⟨by rfl, ?_⟩) hS ?_
              rotate_left
              · intro w hSw; (try dsimp only at hSw); go_simp; try with_reducible rfl
              try simp only [Act.put, List.setIfInBounds_toArray, List.set_cons_zero, List.set_cons_succ]
              refine wpAnyH_ready (rs := [4]) (by kernel_rfl) (by simp) (AllReadyH.cons (o := { dst := some 44, op := Op.call { callee := Callee.value (Operand.func 38), args := #[], argTypes := #[] }, type := 29, pos := "ref.go:162", after := #[{ on := 3, ground := Ground.chain }, { on := 3, ground := Ground.guard }], guard := some (3, false) }) rfl (fun K hK => ?_) AllReadyH.nil)
              go_simp
              go_at_call 38
              refine (hSg _).mono ?_
              rintro _ w3 ⟨sv, rfl, hsv, hb3⟩
              have HSV := Lib.hid hsv
              have hB3 : Below wB.heap.size wB w3 := hB0.trans (hb3.mono hB0.size)
              obtain ⟨HMR3, HRR3, HB3⟩ := HGO.out w3 hB3
              clear hsv hb3
              dsimp only
              refine hK.out _ _ (HKp.out _ hB3) (fun hh => ?_)
              replace hS := hh
              clear hK K hh
              try simp only [Act.put, List.setIfInBounds_toArray, List.set_cons_zero, List.set_cons_succ]
              refine wpAnyH_ready (rs := [7]) (by kernel_rfl) (by simp) (AllReadyH.cons (o := { dst := some 47, op := Op.call { callee := Callee.value (Operand.func 37), args := #[Operand.tmp 44, Operand.tmp 46], argTypes := #[29, 9] }, type := 4, pos := "ref.go:162", after := #[{ on := 4, ground := Ground.data }, { on := 6, ground := Ground.data }, { on := 4, ground := Ground.chain }, { on := 3, ground := Ground.guard }], guard := some (3, false) }) rfl (fun K hK => ?_) AllReadyH.nil)
              go_simp
              go_at_call 37
              refine (HIs.out _ _ HSV.out).mono ?_
              rintro _ _ ⟨rfl, rfl⟩
              dsimp only
              refine hK.out _ _ hS (fun hh => ?_)
              clear hK K hh
              try simp only [Act.put, List.setIfInBounds_toArray, List.set_cons_zero, List.set_cons_succ]
              refine wpAnyH_take (i := 8) (oi := { dst := some 48, op := Op.unOp UnOp.not 4 (Operand.tmp 47), type := 4, pos := "ref.go:162", after := #[{ on := 7, ground := Ground.data }, { on := 3, ground := Ground.guard }], guard := some (3, false) }) (v := ?_) rfl (by kernel_rfl) (by kernel_rfl) (by kernel_rfl) (fun _ _ _ h => h) (Or.inl ⟨by rfl, ?_⟩) hS ?_
              rotate_left
              · intro w hSw; (try dsimp only at hSw); go_simp; try with_reducible rfl
              try simp only [Act.put, List.setIfInBounds_toArray, List.set_cons_zero, List.set_cons_succ]
              refine wpAnyH_take (i := 9) (oi := { dst := some 49, op := Op.pick (Operand.tmp 43) (Operand.const (Value.bool true)) (Operand.tmp 48), type := 4, pos := "ref.go:162", after := #[{ on := 3, ground := Ground.data }, { on := 8, ground := Ground.data }], guard := none }) (v := ?_) rfl (by kernel_rfl) (by kernel_rfl) (by kernel_rfl) (fun _ _ _ h => h) (Or.inl ⟨by rfl, ?_⟩) hS ?_
              rotate_left
              · intro w hSw; (try dsimp only at hSw); go_simp; try with_reducible rfl
              try simp only [Act.put, List.setIfInBounds_toArray, List.set_cons_zero, List.set_cons_succ]
              refine wpAnyH_done (by kernel_rfl) ?_ _
              all_goals (have HV2 : Hid (V = false) := Lib.hid (by rw [← HE3.out]; rfl))
              all_goals go_wp2_with fail
              all_goals (go_ret; exact ⟨by rw [HV2.out]; rfl, HB3.out⟩)
            · refine wp_region_held_drew (S := fun w' => w'.cell? ⟨wr.heap.size, 1, none⟩ = some (.string nm2) ∧ w'.cell? ⟨wr.heap.size, 2, none⟩ = some (.string sg2)) (by kernel_rfl) (HKp.out _ hB0) (fun hS => ?_)
              refine wpAnyH_take (i := 0) (oi := { dst := some 40, op := Op.fieldAddr 43 (Operand.tmp 6) 2, type := 0, pos := "ref.go:162", after := #[], guard := none }) (v := ?_) rfl (by kernel_rfl) (by kernel_rfl) (by kernel_rfl) (fun _ _ _ h => h) (Or.inl ⟨by rfl, ?_⟩) hS ?_
              rotate_left
              · intro w hSw; (try dsimp only at hSw); go_simp; try with_reducible rfl
              try simp only [Act.put, List.setIfInBounds_toArray, List.set_cons_zero, List.set_cons_succ]
              refine wpAnyH_take (i := 1) (oi := { dst := some 41, op := Op.load 9 (Operand.tmp 40), type := 9, pos := "ref.go:162", after := #[{ on := 0, ground := Ground.data }], guard := none }) (v := ?_) rfl (by kernel_rfl) (by kernel_rfl) (by kernel_rfl) (fun _ _ _ h => h) (Or.inl ⟨by rfl, ?_⟩) hS ?_
              rotate_left
              · intro w hSw; (try dsimp only at hSw); go_simp; try with_reducible rfl
              try simp only [Act.put, List.setIfInBounds_toArray, List.set_cons_zero, List.set_cons_succ]
              refine wpAnyH_take (i := 2) (oi := { dst := some 42, op := Op.binOp BinOp.eql 9 (Operand.tmp 41) (Operand.const (Value.string { data := #[33, 61] })) 9, type := 4, pos := "ref.go:162", after := #[{ on := 1, ground := Ground.data }], guard := none }) (v := .bool false) rfl (by kernel_rfl) (by kernel_rfl) (by kernel_rfl) (fun _ _ _ h => h) (Or.inl ⟨by rfl, fun w hSw => by (try dsimp only at hSw); go_simp⟩) hS ?_
              try simp only [Act.put, List.setIfInBounds_toArray, List.set_cons_zero, List.set_cons_succ]
              refine wpAnyH_take (i := 3) (oi := { dst := some 43, op := Op.move (Operand.tmp 42), type := 4, pos := "ref.go:162", after := #[{ on := 2, ground := Ground.data }], guard := none }) (v := ?_) rfl (by kernel_rfl) (by kernel_rfl) (by kernel_rfl) (fun _ _ _ h => h) (Or.inl ⟨by rfl, ?_⟩) hS ?_
              rotate_left
              · intro w hSw; (try dsimp only at hSw); go_simp; try with_reducible rfl
              try simp only [Act.put, List.setIfInBounds_toArray, List.set_cons_zero, List.set_cons_succ]
              refine wpAnyH_take (i := 5) (oi := { dst := some 45, op := Op.fieldAddr 43 (Operand.tmp 6) 2, type := 0, pos := "ref.go:162", after := #[{ on := 3, ground := Ground.guard }], guard := some (3, false) }) (v := ?_) rfl (by kernel_rfl) (by kernel_rfl) (by kernel_rfl) (fun _ _ _ h => h) (Or.inl ⟨by rfl, ?_⟩) hS ?_
              rotate_left
              · intro w hSw; (try dsimp only at hSw); go_simp; try with_reducible rfl
              try simp only [Act.put, List.setIfInBounds_toArray, List.set_cons_zero, List.set_cons_succ]
              refine wpAnyH_take (i := 6) (oi := { dst := some 46, op := Op.load 9 (Operand.tmp 45), type := 9, pos := "ref.go:162", after := #[{ on := 5, ground := Ground.data }, { on := 3, ground := Ground.guard }], guard := some (3, false) }) (v := ?_) rfl (by kernel_rfl) (by kernel_rfl) (by kernel_rfl) (fun _ _ _ h => h) (Or.inl ⟨by rfl, ?_⟩) hS ?_
              rotate_left
              · intro w hSw; (try dsimp only at hSw); go_simp; try with_reducible rfl
              try simp only [Act.put, List.setIfInBounds_toArray, List.set_cons_zero, List.set_cons_succ]
              refine wpAnyH_ready (rs := [4]) (by kernel_rfl) (by simp) (AllReadyH.cons (o := { dst := some 44, op := Op.call { callee := Callee.value (Operand.func 38), args := #[], argTypes := #[] }, type := 29, pos := "ref.go:162", after := #[{ on := 3, ground := Ground.chain }, { on := 3, ground := Ground.guard }], guard := some (3, false) }) rfl (fun K hK => ?_) AllReadyH.nil)
              go_simp
              go_at_call 38
              refine (hSg _).mono ?_
              rintro _ w3 ⟨sv, rfl, hsv, hb3⟩
              have HSV := Lib.hid hsv
              have hB3 : Below wB.heap.size wB w3 := hB0.trans (hb3.mono hB0.size)
              obtain ⟨HMR3, HRR3, HB3⟩ := HGO.out w3 hB3
              clear hsv hb3
              dsimp only
              refine hK.out _ _ (HKp.out _ hB3) (fun hh => ?_)
              replace hS := hh
              clear hK K hh
              try simp only [Act.put, List.setIfInBounds_toArray, List.set_cons_zero, List.set_cons_succ]
              refine wpAnyH_ready (rs := [7]) (by kernel_rfl) (by simp) (AllReadyH.cons (o := { dst := some 47, op := Op.call { callee := Callee.value (Operand.func 37), args := #[Operand.tmp 44, Operand.tmp 46], argTypes := #[29, 9] }, type := 4, pos := "ref.go:162", after := #[{ on := 4, ground := Ground.data }, { on := 6, ground := Ground.data }, { on := 4, ground := Ground.chain }, { on := 3, ground := Ground.guard }], guard := some (3, false) }) rfl (fun K hK => ?_) AllReadyH.nil)
              go_simp
              go_at_call 37
              refine (HIs.out _ _ HSV.out).mono ?_
              rintro _ _ ⟨rfl, rfl⟩
              dsimp only
              refine hK.out _ _ hS (fun hh => ?_)
              clear hK K hh
              try simp only [Act.put, List.setIfInBounds_toArray, List.set_cons_zero, List.set_cons_succ]
              refine wpAnyH_take (i := 8) (oi := { dst := some 48, op := Op.unOp UnOp.not 4 (Operand.tmp 47), type := 4, pos := "ref.go:162", after := #[{ on := 7, ground := Ground.data }, { on := 3, ground := Ground.guard }], guard := some (3, false) }) (v := ?_) rfl (by kernel_rfl) (by kernel_rfl) (by kernel_rfl) (fun _ _ _ h => h) (Or.inl ⟨by rfl, ?_⟩) hS ?_
              rotate_left
              · intro w hSw; (try dsimp only at hSw); go_simp; try with_reducible rfl
              try simp only [Act.put, List.setIfInBounds_toArray, List.set_cons_zero, List.set_cons_succ]
              refine wpAnyH_take (i := 9) (oi := { dst := some 49, op := Op.pick (Operand.tmp 43) (Operand.const (Value.bool true)) (Operand.tmp 48), type := 4, pos := "ref.go:162", after := #[{ on := 3, ground := Ground.data }, { on := 8, ground := Ground.data }], guard := none }) (v := ?_) rfl (by kernel_rfl) (by kernel_rfl) (by kernel_rfl) (fun _ _ _ h => h) (Or.inl ⟨by rfl, ?_⟩) hS ?_
              rotate_left
              · intro w hSw; (try dsimp only at hSw); go_simp; try with_reducible rfl
              try simp only [Act.put, List.setIfInBounds_toArray, List.set_cons_zero, List.set_cons_succ]
              refine wpAnyH_done (by kernel_rfl) ?_ _
              all_goals (have HE4 : Hid ((plF ns ts r).1 = V) := Lib.hid (by have := HE3.out; rwa [Bool.true_and] at this))
              all_goals go_wp2_with fail
              all_goals
                go_roundg (gk - 1)
                case measure => go_light; omega
                case rel =>
                  go_light
                  exact ⟨k + 1, r, by omega, by go_num, hr2, HMR3, HRR3, HE4, HB3⟩
        · have n4 : (op2 == 4) = false := beq_false_of_ne h4
          have HV2 : Hid (V = false) := Lib.hid (by rw [← HE2.out, HX.out, n1, n3, n4]; rfl)
          clear HX HC g1 g2 g6 HE2 h1 h3 h4
          go_wp2_with fail
          go_ret
          exact ⟨by rw [HV2.out]; rfl, HB.out.trans (HB1.out.mono HB.out.size)⟩
end Go.Proofs.Ytjifgipkfkhnpaa

