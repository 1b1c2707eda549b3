/- cond.holds, Holds. -/
import Derived.Test.YtjifgipkfkhnpaaHold20
import Derived.Laws.EntriesVeiled
import Derived.Deep.RegionHeld3
namespace Go.Proofs.Ytjifgipkfkhnpaa
open Go.RowKit
set_option linter.unusedVariables false

theorem contC1_any (l : List (Lf × Value)) (p : Nat → Bool) (v : Value) (p1 p2 : Nat) (w : World) (hr : RdV w 7 v l.length (l.flatMap lcells))
    (hcl : ∀ k (hk : k < l.length) (w1 : World), Below w.heap.size w w1 → Calls Try.prog 26 #[cV l[k].1 l[k].2, .pointer (some ⟨p1, 0, none⟩), .pointer (some ⟨p2, 0, none⟩)] w1 fun e w2 => e = .returned (.bool (p k)) ∧ Below w1.heap.size w1 w2) :
    Calls Try.prog 27 #[v, .func (.func 26) #[] #[.pointer (some ⟨p1, 0, none⟩), .pointer (some ⟨p2, 0, none⟩)]] w fun e w' => e = .returned (.bool ((List.range l.length).any p)) ∧ Below w.heap.size w w' := by
  have hi := idxC1_any l p v p1 p2 w hr hcl
  obtain ⟨ao0, cap0, rfl, hlc, hcm⟩ := RdV.shape hr
  clear hcl
  go_enter Try.func27, Try.ntmps27
  go_wp2_with (go_at_call 40; refine hi.mono ?_; rintro _ w2 ⟨r, rfl, hx, hb⟩; have HX := Lib.hid hx.any; have HB := Lib.hid hb; clear hx hb)
  go_ret
  exact ⟨by rw [← HX.out]; rfl, HB.out⟩
theorem contC2_any (l : List (Lf × Value)) (p : Nat → Bool) (v : Value) (p1 : Nat) (w : World) (hr : RdV w 7 v l.length (l.flatMap lcells))
    (hcl : ∀ k (hk : k < l.length) (w1 : World), Below w.heap.size w w1 → Calls Try.prog 28 #[cV l[k].1 l[k].2, .pointer (some ⟨p1, 0, none⟩)] w1 fun e w2 => e = .returned (.bool (p k)) ∧ Below w1.heap.size w1 w2) :
    Calls Try.prog 27 #[v, .func (.func 28) #[] #[.pointer (some ⟨p1, 0, none⟩)]] w fun e w' => e = .returned (.bool ((List.range l.length).any p)) ∧ Below w.heap.size w w' := by
  have hi := idxC2_any l p v p1 w hr hcl
  obtain ⟨ao0, cap0, rfl, hlc, hcm⟩ := RdV.shape hr
  clear hcl
  go_enter Try.func27, Try.ntmps27
  go_wp2_with (go_at_call 40; refine hi.mono ?_; rintro _ w2 ⟨r, rfl, hx, hb⟩; have HX := Lib.hid hx.any; have HB := Lib.hid hb; clear hx hb)
  go_ret
  exact ⟨by rw [← HX.out]; rfl, HB.out⟩

/-- What stands in memory while holds runs (B: the size ahead). -/
structure HAt (B : Nat) (w : World) (op : Int) (nm sg : ByteArray) (kd : Int) (bb : Nat) (tt : ByteArray) (rn : ByteArray) (time : Int) (pv tv fv nv : Value) : Prop where
  s : w.heap.size = B + 4
  c0 : w.cell? ⟨B, 0, none⟩ = some (.int .i64 op)
  c1 : w.cell? ⟨B, 1, none⟩ = some (.string nm)
  c2 : w.cell? ⟨B, 2, none⟩ = some (.string sg)
  c3 : w.cell? ⟨B, 3, none⟩ = some (.int .i64 kd)
  c4 : w.cell? ⟨B, 4, none⟩ = some (.int .u64 (bb : Int))
  c5 : w.cell? ⟨B, 5, none⟩ = some (.string tt)
  c6 : w.cell? ⟨B, 6, none⟩ = some pv
  r0 : w.cell? ⟨B + 1, 0, none⟩ = some (.string rn)
  r1 : w.cell? ⟨B + 1, 1, none⟩ = some tv
  r2 : w.cell? ⟨B + 1, 2, none⟩ = some fv
  r3 : w.cell? ⟨B + 1, 3, none⟩ = some (.int .i64 time)
  n0 : w.cell? ⟨B + 1 + 1, 0, none⟩ = some nv
  f0 : w.cell? ⟨B + 1 + 1 + 1, 0, none⟩ = some (.func (.func 26) #[] #[.pointer (some ⟨B + 1, 0, none⟩), .pointer (some ⟨B + 1 + 1, 0, none⟩)])
theorem hat_mk (w : World) (op : Int) (nm sg : ByteArray) (kd : Int) (bb : Nat) (tt : ByteArray) (rn : ByteArray) (time : Int) (pv tv fv nv : Value) {wA : World}
    (hwA : wA = (((w.alloc (.cells #[.int .i64 op, .string nm, .string sg, .int .i64 kd, .int .u64 (bb : Int), .string tt, pv] 45)).alloc (.cells #[.string rn, tv, fv, .int .i64 time] 28)).alloc (.cells #[nv] 29)).alloc
      (.cells #[.func (.func 26) #[] #[.pointer (some ⟨w.heap.size + 1, 0, none⟩), .pointer (some ⟨w.heap.size + 1 + 1, 0, none⟩)]] 64)) :
    HAt w.heap.size wA op nm sg kd bb tt rn time pv tv fv nv ∧ Below w.heap.size w wA := by
  subst hwA
  have p1 : ∀ (w : World) (o : Obj) (n i : Nat), n < w.heap.size → (w.alloc o).cell? ⟨n, i, none⟩ = w.cell? ⟨n, i, none⟩ := fun w o n i h => World.cell?_alloc_past _ _ _ h
  refine ⟨⟨by simp <;> omega, ?_, ?_, ?_, ?_, ?_, ?_, ?_, ?_, ?_, ?_, ?_, ?_, ?_⟩, (((Below.refl _ _).alloc (Nat.le_refl _) _).alloc (by simp <;> omega) _).alloc (by simp <;> omega) _ |>.alloc (by simp <;> omega) _⟩
  iterate 7 (rw [p1 _ _ _ _ (by simp <;> omega), p1 _ _ _ _ (by simp <;> omega), p1 _ _ _ _ (by simp <;> omega)]; simp)
  iterate 4 (rw [p1 _ _ _ _ (by simp <;> omega), p1 _ _ _ _ (by simp <;> omega)]; simp)
  · rw [p1 _ _ _ _ (by simp <;> omega)]
    exact World.cell?_alloc_at _ _ _ _ (by simp <;> omega)
  · exact World.cell?_alloc_at _ _ _ _ (by simp <;> omega)

set_option maxHeartbeats 2000000 in
set_option maxRecDepth 100000 in
theorem holds_any (E : Env) : ∀ (j : Nat) (c : Lf) (p : Fo) (pv tv fv nv : Value) (w : World), p.sz < j → RdF w pv p → EnvAt w E tv fv nv →
    Calls Try.prog 21 #[cV c pv, .agg #[.string E.nm, tv, fv, .int .i64 E.time], nv] w fun e w' => e = .returned (.bool (oneH E c p)) ∧ Below w.heap.size w w' := by
  intro j
  induction j with
  | zero => intro c p pv tv fv nv w h; omega
  | succ j ih =>
    intro c p pv tv fv nv w hj hp hE
    obtain ⟨xs, hr, hm⟩ := hp
    obtain ⟨pa, pc, rfl, hn1, hn2⟩ := RdV.shape hr
    obtain ⟨ta, tc, rfl, ht1, ht2⟩ := RdV.shape hE.t
    obtain ⟨fa, fc, rfl, hf1, hf2⟩ := RdV.shape hE.f
    obtain ⟨na, nc, rfl, hm1, hm2⟩ := RdV.shape hE.n
    unfold maxLen at hn2 ht2 hf2 hm2
    have hval := show oneH E c p = bif c.op == 1 then hl E true p else bif c.op == 2 then hl E false p else leafH E c from rfl
    have hlf := show leafH E c = (if c.op == 4 then sgn c.sg (cmpI E.time (wrap64 (c.b : Int))) else if c.op == 3 then (if inS E.names c.nm then (match E.fds.find? (nameP c.nm) with | some f => fdHold c f | none => false) else tgd c E.tags) else false) from rfl
    unfold cV
    obtain ⟨op, nm, sg, kd, bb, tt⟩ := c
    dsimp only at hval hlf ⊢
    obtain ⟨V, hV⟩ : ∃ V, V = oneH E ⟨op, nm, sg, kd, bb, tt⟩ p := ⟨_, rfl⟩
    rw [← hV] at hval ⊢
    obtain ⟨wA, hwA⟩ : ∃ wA, wA = (((w.alloc (.cells #[.int .i64 op, .string nm, .string sg, .int .i64 kd, .int .u64 (bb : Int), .string tt, .slice pa xs.length pc] 45)).alloc (.cells #[.string E.nm, .slice ta E.tags.length tc, .slice fa E.fds.length fc, .int .i64 E.time] 28)).alloc (.cells #[.slice na E.names.length nc] 29)).alloc
      (.cells #[.func (.func 26) #[] #[.pointer (some ⟨w.heap.size + 1, 0, none⟩), .pointer (some ⟨w.heap.size + 1 + 1, 0, none⟩)]] 64) := ⟨_, rfl⟩
    obtain ⟨hA, hbA⟩ := hat_mk w op nm sg kd bb tt E.nm E.time (.slice pa xs.length pc) (.slice ta E.tags.length tc) (.slice fa E.fds.length fc) (.slice na E.names.length nc) hwA
    have HA := Lib.hid hA
    have HBA := Lib.hid hbA
    have HM := Lib.hid (hm.below hbA)
    have HR := Lib.hid (hr.below hbA)
    have HE := Lib.hid (hE.below hbA)
    have HV := Lib.hid hval
    have HLF := Lib.hid hlf
    have HW := Lib.hid hwA
    have HIH := Lib.hid ih
    have hlen := hm.len
    have HLEN := Lib.hid hlen
    have hPart : ∀ k (hk : k < xs.length) (w1 : World), Below wA.heap.size wA w1 → Calls Try.prog 26 #[cV xs[k].1 xs[k].2, .pointer (some ⟨w.heap.size + 1, 0, none⟩), .pointer (some ⟨w.heap.size + 1 + 1, 0, none⟩)] w1 fun e w2 => e = .returned (.bool (holdAt E p k)) ∧ Below w1.heap.size w1 w2 := by
      intro k hk w1 hb
      obtain ⟨q, e1, e2, e3⟩ := Mt.get HM.out hk
      have hh : holdAt E p k = oneH E xs[k].1 q := by unfold holdAt; rw [e1]
      rw [hh]
      have e2' := e2
      obtain ⟨ys, hy, _⟩ := e2'
      obtain ⟨qa, qc, hq, _, _⟩ := RdV.shape hy
      rw [hq] at e2 ⊢
      have hs := hA.s
      refine part_any _ _ _ _ E.nm _ _ _ _ _ _ _ _ _ E.time _ _ _ w1 ((hb.cell (by simp; omega)).trans hA.r0) ((hb.cell (by simp; omega)).trans hA.r1) ((hb.cell (by simp; omega)).trans hA.r2) ((hb.cell (by simp; omega)).trans hA.r3) ((hb.cell (by simp; omega)).trans hA.n0) (fun w2 hb2 => ?_)
      exact ih xs[k].1 q _ _ _ _ w2 (by omega) ((e2.below hb).below hb2) ((HE.out.below hb).below hb2)
    have HP := Lib.hid hPart
    clear hA hbA hm hr hE hval hlf ih hV hwA hlen hPart
    go_enter Try.func21, Try.ntmps21
    go_upto_region 3 with fail
    rw [← HW.out]
    clear HW
    by_cases h1 : op = 1
    · subst h1
      have hc6 := HA.out.c6
      have hC := (contC2_any xs (fun k => !holdAt E p k) (.slice pa xs.length pc) (w.heap.size + 1 + 1 + 1) wA HR.out (fun k hk w1 hb => by
        obtain ⟨q, e1, e2, e3⟩ := Mt.get HM.out hk
        obtain ⟨ys, hy, _⟩ := e2
        obtain ⟨qa, qc, hq, _, _⟩ := RdV.shape hy
        have hpp := HP.out k hk
        rw [hq] at hpp ⊢
        exact npart_any _ _ _ _ _ _ _ _ w1 ((hb.cell (by simp; have := HA.out.s; omega)).trans HA.out.f0) (fun w2 hb2 => hpp w2 (hb.trans (hb2.mono hb.size))))).mono (R' := fun e w2 => e = .returned (.bool (!hl E true p)) ∧ Hid (Below w.heap.size w w2))
        (by rintro _ w2 ⟨rfl, hb⟩; exact ⟨by rw [HLEN.out, hl_allAt], Lib.hid (HBA.out.trans (hb.mono HBA.out.size))⟩)
      have HV2 : Hid (V = hl E true p) := Lib.hid (by rw [HV.out]; simp)
      clear HV HLF HA HBA HM HR HE HIH HP
      generalize hl E true p = X at *
      go_wp2_with (go_at_call 27; refine hC.mono ?_; rintro _ w2 ⟨rfl, HB⟩)
      go_ret
      exact ⟨by rw [HV2.out]; rfl, HB.out⟩
    by_cases h2 : op = 2
    · subst h2
      have hc6 := HA.out.c6
      have hf0 := HA.out.f0
      have hC := (contC1_any xs (holdAt E p) (.slice pa xs.length pc) (w.heap.size + 1) (w.heap.size + 1 + 1) wA HR.out HP.out).mono (R' := fun e w2 => e = .returned (.bool (hl E false p)) ∧ Hid (Below w.heap.size w w2))
        (by rintro _ w2 ⟨rfl, hb⟩; exact ⟨by rw [HLEN.out, hl_anyAt], Lib.hid (HBA.out.trans (hb.mono HBA.out.size))⟩)
      have HV2 : Hid (V = hl E false p) := Lib.hid (by rw [HV.out]; simp)
      clear HV HLF HA HBA HM HR HE HIH HP
      generalize hl E false p = X at *
      go_wp2_with (go_at_call 27; refine hC.mono ?_; rintro _ w2 ⟨rfl, HB⟩)
      go_ret
      exact ⟨by rw [HV2.out]; rfl, HB.out⟩
    have n1 : (op == 1) = false := beq_false_of_ne h1
    have n2 : (op == 2) = false := beq_false_of_ne h2
    have HV2 : Hid (V = leafH E ⟨op, nm, sg, kd, bb, tt⟩) := Lib.hid (by rw [HV.out, n1, n2]; rfl)
    clear HP HM HR HIH HLEN HV
    by_cases h4 : op = 4
    · subst h4
      have hc2 := HA.out.c2
      have hc4 := HA.out.c4
      have hr3 := HA.out.r3
      have hCI := fun a b (w : World) => cmpI_any a b w
      have hS := fun c (w : World) => signed_any sg c w
      have HV3 : Hid (V = sgn sg (cmpI E.time (wrap64 (bb : Int)))) := Lib.hid (by rw [HV2.out, HLF.out]; rfl)
      clear HV2 HLF HA HE n1 n2 h1 h2
      go_upto_region 8 with fail
      go_quiet (first
        | (go_at_call 30; exact Calls.quiet_of_same (hCI _ _ _))
        | (go_at_call 29; exact Calls.quiet_of_same (hS _ _)))
      go_wp2_with fail
      go_ret
      exact ⟨by rw [HV3.out]; rfl, Below.drewN_of HBA.out _⟩
    by_cases h3 : op = 3
    · subst h3
      have hc1 := HA.out.c1
      have hn0 := HA.out.n0
      have HV3 : Hid (V = (if inS E.names nm then (match E.fds.find? (nameP nm) with | some f => fdHold ⟨3, nm, sg, kd, bb, tt⟩ f | none => false) else tgd ⟨3, nm, sg, kd, bb, tt⟩ E.tags)) := Lib.hid (by rw [HV2.out, HLF.out]; rfl)
      have hC := contains_any E.names nm (.slice na E.names.length nc) wA HE.out.n
      clear HV2 HLF n1 n2 h1 h2 h4
      by_cases hI : inS E.names nm = true
      · rw [hI] at hC
        have hr2 := HA.out.r2
        have HV4 : Hid (V = match E.fds.find? (nameP nm) with | some f => fdHold ⟨3, nm, sg, kd, bb, tt⟩ f | none => false) := Lib.hid (by rw [HV3.out, hI]; rfl)
        have hF := (idxFd_any E.fds (onAt E.fds (nameP nm)) (.slice fa E.fds.length fc) w.heap.size wA HE.out.f (fun k hk w1 hb => by
          rw [onAt_lt _ _ _ hk]
          exact fdC_any E.fds[k] nm _ w1 ((hb.cell (by simp; have := HA.out.s; omega)).trans HA.out.c1))).mono
          (R' := fun e w2 => ∃ r : Int, e = .returned (.int .i64 r) ∧ Hid (Idx E.fds.length (onAt E.fds (nameP nm)) r) ∧ w2.cell? ⟨w.heap.size, 2, none⟩ = some (.string sg) ∧ w2.cell? ⟨w.heap.size, 3, none⟩ = some (.int .i64 kd) ∧ w2.cell? ⟨w.heap.size, 4, none⟩ = some (.int .u64 (bb : Int)) ∧
            w2.cell? ⟨w.heap.size, 5, none⟩ = some (.string tt) ∧ w2.cell? ⟨w.heap.size + 1, 2, none⟩ = some (.slice fa E.fds.length fc) ∧ Hid (EnvAt w2 E (.slice ta E.tags.length tc) (.slice fa E.fds.length fc) (.slice na E.names.length nc)) ∧ Hid (Below w.heap.size w w2))
          (by
            rintro _ w2 ⟨r, rfl, hx, hb⟩
            have hs := HA.out.s
            exact ⟨r, rfl, Lib.hid hx, (hb.cell (by simp; omega)).trans HA.out.c2, (hb.cell (by simp; omega)).trans HA.out.c3, (hb.cell (by simp; omega)).trans HA.out.c4, (hb.cell (by simp; omega)).trans HA.out.c5, (hb.cell (by simp; omega)).trans HA.out.r2, Lib.hid (HE.out.below hb), Lib.hid (HBA.out.trans (hb.mono HBA.out.size))⟩)
        clear HV3 HA HE HBA hI
        go_upto_region 13 with (first | (go_at_call 31; refine hC.mono ?_; rintro _ _ ⟨rfl, rfl⟩) | (go_at_call 33; refine hF.mono ?_; rintro _ w2 ⟨r, rfl, HX, q2, q3, q4, q5, k2, HE, HB⟩))
        clear hC hF
        rcases HX.out.find with ⟨rfl, hf⟩ | ⟨k, hk, rfl, hf⟩
        · have HV5 : Hid (V = false) := Lib.hid (by rw [HV4.out, hf])
          clear HV4 HX hf
          go_wp2_with fail
          go_ret
          exact ⟨by rw [HV5.out]; rfl, HB.out⟩
        · obtain ⟨b, off, cap', he, e0, e1, e2, e3⟩ := fd_at HE.out.f k hk
          simp only [Value.slice.injEq, true_and] at he
          obtain ⟨rfl, rfl⟩ := he
          have HV5 : Hid (V = fdHold ⟨3, nm, sg, kd, bb, tt⟩ E.fds[k]) := Lib.hid (by rw [HV4.out, hf])
          clear HV4 HX hf
          generalize E.fds[k] = fd at *
          obtain ⟨fn, fk, fb, ft⟩ := fd
          unfold fdHold at HV5
          dsimp only at e0 e1 e2 e3 HV5
          have hCO := fun (w : World) => compared_any fk fb ft kd bb tt sg w
          generalize cmpD fk fb ft kd bb tt sg = D at *
          obtain ⟨d1, d2⟩ := D
          dsimp only at hCO HV5
          have hkeep : ∀ w' : World, Below w2.heap.size w2 w' → w'.cell? ⟨w.heap.size + 1, 2, none⟩ = some (.slice (some ⟨b, off, none⟩) E.fds.length fc) ∧ w'.cell? ⟨b, off + k * 4 + 1, none⟩ = some (.int .i64 fk) ∧ w'.cell? ⟨b, off + k * 4 + 2, none⟩ = some (.int .u64 (fb : Int)) ∧ w'.cell? ⟨b, off + k * 4 + 3, none⟩ = some (.string ft) ∧ w'.cell? ⟨w.heap.size, 3, none⟩ = some (.int .i64 kd) ∧ w'.cell? ⟨w.heap.size, 4, none⟩ = some (.int .u64 (bb : Int)) ∧ w'.cell? ⟨w.heap.size, 5, none⟩ = some (.string tt) ∧ w'.cell? ⟨w.heap.size, 2, none⟩ = some (.string sg) := fun w' h =>
            have q : ∀ (bk o : Nat) (u : Value), w2.cell? ⟨bk, o, none⟩ = some u → w'.cell? ⟨bk, o, none⟩ = some u := fun bk o u q => (h.cell (World.block_lt_of_cell? _ _ q)).trans q
            ⟨q _ _ _ k2, q _ _ _ e1, q _ _ _ e2, q _ _ _ e3, q _ _ _ q3, q _ _ _ q4, q _ _ _ q5, q _ _ _ q2⟩
          have hB0 : Below w2.heap.size w2 w2.drew := (Below.refl _ _).drew
          have hS := fun c (w : World) => signed_any sg c w
          clear HE q2 q3 q4 q5 k2 e0 e1 e2 e3
          go_upto_region 15 with fail
          go_region_held3 (fun w' => w'.cell? ⟨w.heap.size + 1, 2, none⟩ = some (.slice (some ⟨b, off, none⟩) E.fds.length fc) ∧ w'.cell? ⟨b, off + k * 4 + 1, none⟩ = some (.int .i64 fk) ∧ w'.cell? ⟨b, off + k * 4 + 2, none⟩ = some (.int .u64 (fb : Int)) ∧ w'.cell? ⟨b, off + k * 4 + 3, none⟩ = some (.string ft) ∧ w'.cell? ⟨w.heap.size, 3, none⟩ = some (.int .i64 kd) ∧ w'.cell? ⟨w.heap.size, 4, none⟩ = some (.int .u64 (bb : Int)) ∧ w'.cell? ⟨w.heap.size, 5, none⟩ = some (.string tt) ∧ w'.cell? ⟨w.heap.size, 2, none⟩ = some (.string sg))
            (first | exact hkeep _ hB0 | exact hkeep _ hB3)
            ((go_at_call 35; refine (hCO _).mono ?_; rintro _ w3 ⟨rfl, hb3⟩; have hB3 : Below w2.heap.size w2 w3 := hB0.trans (hb3.mono hB0.size); clear hb3))
          have g2 := (hkeep _ hB3).2.2.2.2.2.2.2
          have HB3 := Lib.hid (HB.out.trans (hB3.mono HB.out.size))
          clear hkeep hB0 hB3 HB
          cases d2
          all_goals go_wp2_with (go_at_call 29; refine (hS _ _).mono ?_; rintro _ _ ⟨rfl, rfl⟩)
          all_goals (go_ret; exact ⟨by rw [HV5.out]; rfl, HB3.out⟩)
      · rw [Bool.not_eq_true] at hI
        rw [hI] at hC
        have hc0 := HA.out.c0
        have hc2 := HA.out.c2
        have hc3 := HA.out.c3
        have hc4 := HA.out.c4
        have hc5 := HA.out.c5
        have hc6 := HA.out.c6
        have hr0 := HA.out.r0
        have hr1 := HA.out.r1
        have HV4 : Hid (V = tgd ⟨3, nm, sg, kd, bb, tt⟩ E.tags) := Lib.hid (by rw [HV3.out, hI]; rfl)
        have hT := (tagged_any ⟨3, nm, sg, kd, bb, tt⟩ E.tags E.nm (.slice pa xs.length pc) (.slice ta E.tags.length tc) wA ⟨_, _, _, rfl⟩ HE.out.t).mono (R' := fun e w2 => e = .returned (.bool V) ∧ Hid (Below w.heap.size w w2))
          (by rintro _ w2 ⟨rfl, hb⟩; exact ⟨by rw [HV4.out], Lib.hid (HBA.out.trans (hb.mono HBA.out.size))⟩)
        dsimp only at hT
        clear HV3 HV4 HA HE HBA hI
        go_wp2_with (first | (go_at_call 31; refine hC.mono ?_; rintro _ _ ⟨rfl, rfl⟩) | (go_at_call 32; refine hT.mono ?_; rintro _ w2 ⟨rfl, HB⟩))
        go_ret
        exact ⟨rfl, HB.out⟩
    · have n4 : (op == 4) = false := beq_false_of_ne h4
      have n3 : (op == 3) = false := beq_false_of_ne h3
      have HV3 : Hid (V = false) := Lib.hid (by rw [HV2.out, HLF.out, n4, n3]; rfl)
      clear HV2 HLF HA HE h1 h2 h3 h4
      go_wp2_with fail
      go_ret
      exact ⟨by rw [HV3.out]; rfl, HBA.out⟩
end Go.Proofs.Ytjifgipkfkhnpaa
