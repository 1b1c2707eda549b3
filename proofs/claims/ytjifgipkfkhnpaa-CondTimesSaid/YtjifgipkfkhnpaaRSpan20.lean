/- The bounds of conditions, by the document; cond.Span. -/
import Derived.Test.YtjifgipkfkhnpaaSpan20
namespace Go.Proofs.Ytjifgipkfkhnpaa
open Go.RowKit
set_option linter.unusedVariables false

theorem spanT_any (F : Fo) (pv : Value) (w : World) (hp : RdF w pv F) :
    Calls Try.prog 10 #[pv] w fun e w' => e = .returned (.tuple #[.int .i64 (rg (sp true F (-9223372036854775808) 9223372036854775807)).1, .int .i64 (rg (sp true F (-9223372036854775808) 9223372036854775807)).2]) ∧ Below w.heap.size w w' := by
  have hp' := hp
  obtain ⟨xs, hr, hm⟩ := hp'
  obtain ⟨pa, pc, rfl, hn1, hn2⟩ := RdV.shape hr
  have hA := fun (w : World) => all_any pa xs.length pc w
  have hH : ∀ w1, Below w.heap.size w w1 → Calls Try.prog 17 #[.agg #[.int .i64 1, .string { data := #[] }, .string { data := #[] }, .int .i64 0, .int .u64 0, .string { data := #[] }, .slice pa xs.length pc]] w1 fun e w' => e = .returned (.tuple #[.int .i64 (rg (sp true F (-9223372036854775808) 9223372036854775807)).1, .int .i64 (rg (sp true F (-9223372036854775808) 9223372036854775807)).2]) ∧ Below w1.heap.size w1 w' :=
    fun w1 h => span_any (F.sz + 1) leaf1 F _ w1 (by omega) (hp.below h)
  have HH := Lib.hid hH
  generalize rg (sp true F (-9223372036854775808) 9223372036854775807) = V at *
  clear hH hp hr hm
  go_enter Try.func10, Try.ntmps10
  go_wp2_with (first
    | (go_at_call 18; refine (hA _).mono ?_; rintro _ w3 ⟨rfl, hb3⟩; have HB3 := Lib.hid hb3; clear hb3)
    | (go_at_call 17; refine (HH.out _ HB3.out).mono ?_; rintro _ w4 ⟨rfl, hb4⟩; have HB4 := Lib.hid (HB3.out.trans (hb4.mono HB3.out.size)); clear hb4))
  go_ret2
  exact ⟨rfl, HB4.out⟩

theorem bounds_any (a b : Int) (w : World) : Calls Try.prog 20 #[.int .i64 a, .int .i64 b] w fun e w' => e = .returned (.tuple #[.int .i64 (rg (a, b)).1, .int .i64 (rg (a, b)).2]) ∧ w' = w := by
  by_cases h : b < a
  · have e : rg (a, b) = (1, 0) := by unfold rg; rw [if_pos h]
    rw [e]
    go_enter Try.func20, Try.ntmps20
    go_wp2_with fail
    go_ret2
    exact ⟨rfl, rfl⟩
  · have e : rg (a, b) = (a, b) := by unfold rg; rw [if_neg h]
    rw [e]
    go_enter Try.func20, Try.ntmps20
    go_wp2_with fail
    go_ret2
    exact ⟨rfl, rfl⟩

/-- The document's order of signs. -/
theorem spLeaf_ref (s : ByteArray) (n : Int) : spLeaf s n = if s.toList == [61] then (n, n) else if s.toList == [60] then (if n = -9223372036854775808 then (1, 0) else (-9223372036854775808, n - 1)) else if s.toList == [60, 61] then (-9223372036854775808, n)
    else if s.toList == [62] then (if n = 9223372036854775807 then (1, 0) else (n + 1, 9223372036854775807)) else if s.toList == [62, 61] then (n, 9223372036854775807) else (-9223372036854775808, 9223372036854775807) := by
  unfold spLeaf
  generalize s.toList = l
  by_cases h1 : l = [60]
  · subst h1; rfl
  by_cases h2 : l = [60, 61]
  · subst h2; rfl
  by_cases h3 : l = [62]
  · subst h3; rfl
  by_cases h4 : l = [62, 61]
  · subst h4; rfl
  rw [beq_false_of_ne h1, beq_false_of_ne h2, beq_false_of_ne h3, beq_false_of_ne h4]
  simp
/-- gristref20.span, for parts of fewer than j conditions. -/
def RSp (j : Nat) : Prop := ∀ (c : Lf) (p : Fo) (pv : Value) (w : World), p.sz < j → RdF w pv p →
    Calls Try.prog 19 #[cV c pv] w fun e w' => e = .returned (.tuple #[.int .i64 (spOne c p).1, .int .i64 (spOne c p).2]) ∧ Below w.heap.size w w'
def RSpT (j : Nat) : Prop := ∀ (F : Fo) (pv : Value) (w : World), F.sz < j → RdF w pv F →
    Calls Try.prog 12 #[pv] w fun e w' => e = .returned (.tuple #[.int .i64 (rg (sp true F (-9223372036854775808) 9223372036854775807)).1, .int .i64 (rg (sp true F (-9223372036854775808) 9223372036854775807)).2]) ∧ Below w.heap.size w w'

set_option maxHeartbeats 2000000 in
theorem rspanT_step (j : Nat) (hI : RSp j) : RSpT (j + 1) := by
  intro p pv w hj hp
  obtain ⟨xs, hr, hm⟩ := hp
  obtain ⟨pa, pc, rfl, hn1, hn2⟩ := RdV.shape hr
  unfold maxLen at hn2
  unfold RSp at hI
  have HIH := Lib.hid hI
  have HV2 := Lib.hid (rfl : rg (sp true p (-9223372036854775808) 9223372036854775807) = rg (sp true p (-9223372036854775808) 9223372036854775807))
  revert HV2
  generalize hV : rg (sp true p (-9223372036854775808) 9223372036854775807) = V
  intro _
  have HV2 := Lib.hid hV.symm
  have hRG := fun a b (w : World) => bounds_any a b w
  have HR := Lib.hid hr
  have HM := Lib.hid hm
  have HBA := Lib.hid (Below.refl w.heap.size w)
  clear hr hm hI hV
  generalize hwA : w = wA at *
  clear hwA
  go_enter Try.func12, Try.ntmps12
  go_wp2_with fail
  go_loopg [4, 5, 11] xs.length (fun m s4 s5 s11 wr => ∃ (k : Nat) (R : Fo) (a b : Int), k + m = xs.length ∧ s11 = .int .i64 (k : Int) ∧ s4 = .int .i64 a ∧ s5 = .int .i64 b ∧ R.sz < j + 1 ∧ Hid (Mt wr R (xs.drop k)) ∧ Hid (RdV wr 7 (.slice pa xs.length pc) xs.length (xs.flatMap lcells)) ∧ Hid (sp true R a b = sp true p (-9223372036854775808) 9223372036854775807) ∧ Hid (Below wA.heap.size wA wr))
  case atStart => exact ⟨0, p, _, _, by omega, rfl, rfl, rfl, hj, Lib.hid (by rw [List.drop_zero]; exact HM.out), HR, Lib.hid rfl, Lib.hid (Below.refl _ _)⟩
  case round =>
    obtain ⟨k, R, a, b, hk, rfl, rfl, rfl, hRs, HMR, HRR, HE, HB⟩ := hrel
    clear HM HR
    cases R with
    | nil =>
      obtain rfl := Mt.end HMR.out (by omega)
      have HV3 : Hid (V = rg (a, b)) := Lib.hid (by rw [HV2.out, ← HE.out]; rfl)
      clear HV2 HE HMR HRR
      go_wp2_with (go_at_call 20; refine (hRG _ _ _).mono ?_; rintro _ _ ⟨rfl, rfl⟩)
      go_ret2
      exact ⟨by rw [HV3.out]; rfl, HBA.out.trans (HB.out.mono HBA.out.size)⟩
    | cons c p2 r =>
      obtain ⟨hlt, pv2, hx, hp2, hmr⟩ := Mt.at HMR.out
      obtain ⟨bk, off, cap', he, e0, e1, e2, e3, e4, e5, e6⟩ := cond_at HRR.out k hlt
      simp only [Value.slice.injEq, true_and] at he
      obtain ⟨rfl, rfl⟩ := he
      rw [hx] at e0 e1 e2 e3 e4 e5 e6
      have hp2' := hp2
      obtain ⟨ys, hy, _⟩ := hp2'
      obtain ⟨qa, qc, rfl, _, _⟩ := RdV.shape hy
      clear hy
      have hE2 := HE.out
      rw [sp_all] at hE2
      have hsz : p2.sz < j ∧ r.sz < j + 1 := by simp only [Fo.sz] at hRs; omega
      have hC := HIH.out c p2 _ wr hsz.1 hp2
      unfold cV at hC
      obtain ⟨op2, nm2, sg2, kd2, bb2, tt2⟩ := c
      dsimp only at e0 e1 e2 e3 e4 e5 e6 hC
      generalize spOne ⟨op2, nm2, sg2, kd2, bb2, tt2⟩ p2 = x at *
      obtain ⟨x1, x2⟩ := x
      dsimp only at hE2 hC
      have HE2 := Lib.hid hE2
      have HMR2 := Lib.hid hmr
      have hr2 := hsz.2
      skip
      clear hE2 hmr HE HMR hx hp2 hRs hsz
      go_upto_region 5 with fail
      go_upto_region 6 with (go_at_call 19; refine hC.mono ?_; rintro _ w2 ⟨rfl, hb2⟩; have HB2 := Lib.hid hb2; clear hb2)
      have HMR3 := Lib.hid (HMR2.out.below HB2.out)
      have HRR3 := Lib.hid (HRR.out.below HB2.out)
      have HB3 := Lib.hid (HB.out.trans (HB2.out.mono HB.out.size))
      clear HMR2 HRR HB HB2 hC e0 e1 e2 e3 e4 e5 e6
      go_wp2_with fail
      all_goals
        go_roundg (gk - 1)
        case measure => go_light; omega
        case rel =>
          go_light
          exact ⟨k + 1, r, _, _, by omega, by go_num, rfl, rfl, hr2, HMR3, HRR3, Lib.hid (by rw [← HE2.out]; congr 1 <;> omega), HB3⟩

set_option maxHeartbeats 2000000 in
set_option maxRecDepth 100000 in
theorem rspan_step (j : Nat) (hI : RSp j) (hT : RSpT (j + 1)) : RSp (j + 1) := by
  intro c p pv w hj hp
  have hSp := fun (w1 : World) (h : Below w.heap.size w w1) => hT p pv w1 hj (hp.below h)
  obtain ⟨xs, hr, hm⟩ := hp
  obtain ⟨pa, pc, rfl, hn1, hn2⟩ := RdV.shape hr
  unfold maxLen at hn2
  unfold RSp at hI
  have hval := show spOne c p = bif c.op == 1 then rg (sp true p (-9223372036854775808) 9223372036854775807) else bif c.op == 2 then rg (sp false p 9223372036854775807 (-9223372036854775808)) else bif c.op == 4 then spLeaf c.sg (wrap64 (c.b : Int)) else (-9223372036854775808, 9223372036854775807) from rfl
  unfold cV
  obtain ⟨op, nm, sg, kd, bb, tt⟩ := c
  dsimp only at hval ⊢
  generalize spOne ⟨op, nm, sg, kd, bb, tt⟩ p = V at *
  have HV := Lib.hid hval
  have hRG := fun a b (w : World) => bounds_any a b w
  obtain ⟨wA, hwA⟩ : ∃ wA, wA = w.alloc (.cells #[.int .i64 op, .string nm, .string sg, .int .i64 kd, .int .u64 (bb : Int), .string tt, .slice pa xs.length pc] 43) := ⟨_, rfl⟩
  have hbA : Below w.heap.size w wA := by rw [hwA]; exact (Below.refl _ _).alloc (Nat.le_refl _) _
  have hsA : wA.heap.size = w.heap.size + 1 := by rw [hwA]; simp
  have c6 : wA.cell? ⟨w.heap.size, 6, none⟩ = some (.slice pa xs.length pc) := by rw [hwA]; simp
  have HR := Lib.hid (hr.below hbA)
  have HM := Lib.hid (hm.below hbA)
  have HBA := Lib.hid hbA
  have HIH := Lib.hid hI
  have HW := Lib.hid hwA
  have HC6 := Lib.hid c6
  have HSA := Lib.hid hsA
  clear hr hm hbA hI hval hwA c6 hsA
  by_cases h1 : op = 1
  · subst h1
    have HV2 : Hid (V = rg (sp true p (-9223372036854775808) 9223372036854775807)) := Lib.hid (by rw [HV.out]; rfl)
    have hS := hSp wA HBA.out
    have HB := HBA
    clear HV HR HM HIH hSp HC6 HSA hT
    generalize rg (sp true p (-9223372036854775808) 9223372036854775807) = V2 at *
    go_enter Try.func19, Try.ntmps19
    go_upto_region 3 with fail
    rw [← HW.out]
    have c6 : wA.cell? ⟨w.heap.size, 6, none⟩ = some (.slice pa xs.length pc) := by rw [HW.out]; simp
    clear HW
    go_wp2_with (go_at_call 12; refine hS.mono ?_; rintro _ w2 ⟨rfl, hb2⟩; have HB2 := Lib.hid (HB.out.trans (hb2.mono HB.out.size)); clear hb2)
    go_ret2
    exact ⟨by rw [HV2.out]; rfl, HB2.out⟩
  clear hSp hT
  by_cases h2 : op = 2
  · subst h2
    have HV2 : Hid (V = rg (sp false p 9223372036854775807 (-9223372036854775808))) := Lib.hid (by rw [HV.out]; rfl)
    clear HV
    go_enter Try.func19, Try.ntmps19
    go_upto_region 6 with fail
    rw [← HW.out]
    have c6 := HC6.out
    clear HW
    go_wp2_with fail
    go_loopg [5, 6, 30] xs.length (fun m s5 s6 s30 wr => ∃ (k : Nat) (R : Fo) (a b : Int), k + m = xs.length ∧ s30 = .int .i64 (k : Int) ∧ s5 = .int .i64 a ∧ s6 = .int .i64 b ∧ R.sz < j + 1 ∧ Hid (Mt wr R (xs.drop k)) ∧ Hid (RdV wr 7 (.slice pa xs.length pc) xs.length (xs.flatMap lcells)) ∧ Hid (sp false R a b = sp false p 9223372036854775807 (-9223372036854775808)) ∧ Hid (Below wA.heap.size wA wr))
    case atStart => exact ⟨0, p, _, _, by omega, rfl, rfl, rfl, hj, Lib.hid (by rw [List.drop_zero]; exact HM.out), HR, Lib.hid rfl, Lib.hid (Below.refl _ _)⟩
    case round =>
      obtain ⟨k, R, a, b, hk, rfl, rfl, rfl, hRs, HMR, HRR, HE, HB⟩ := hrel
      clear HM HR
      cases R with
      | nil =>
        obtain rfl := Mt.end HMR.out (by omega)
        have HV3 : Hid (V = rg (a, b)) := Lib.hid (by rw [HV2.out, ← HE.out]; rfl)
        clear HV2 HE HMR HRR
        go_wp2_with (go_at_call 20; refine (hRG _ _ _).mono ?_; rintro _ _ ⟨rfl, rfl⟩)
        go_ret2
        exact ⟨by rw [HV3.out]; rfl, HBA.out.trans (HB.out.mono HBA.out.size)⟩
      | cons c p2 r =>
        obtain ⟨hlt, pv2, hx, hp2, hmr⟩ := Mt.at HMR.out
        obtain ⟨bk, off, cap', he, e0, e1, e2, e3, e4, e5, e6⟩ := cond_at HRR.out k hlt
        simp only [Value.slice.injEq, true_and] at he
        obtain ⟨rfl, rfl⟩ := he
        rw [hx] at e0 e1 e2 e3 e4 e5 e6
        have hp2' := hp2
        obtain ⟨ys, hy, _⟩ := hp2'
        obtain ⟨qa, qc, rfl, _, _⟩ := RdV.shape hy
        clear hy
        have hE2 := HE.out
        rw [sp_any] at hE2
        have hsz : p2.sz < j ∧ r.sz < j + 1 := by simp only [Fo.sz] at hRs; omega
        have hC := HIH.out c p2 _ wr hsz.1 hp2
        unfold cV at hC
        obtain ⟨op2, nm2, sg2, kd2, bb2, tt2⟩ := c
        dsimp only at e0 e1 e2 e3 e4 e5 e6 hC
        generalize spOne ⟨op2, nm2, sg2, kd2, bb2, tt2⟩ p2 = x at *
        obtain ⟨x1, x2⟩ := x
        dsimp only at hE2 hC
        have HE2 := Lib.hid hE2
        have HMR2 := Lib.hid hmr
        have hr2 := hsz.2
        have c7 := (HB.out.cell (p := ⟨w.heap.size, 6, none⟩) (by simp; have := HSA.out; omega)).trans HC6.out
        clear c6
        clear hE2 hmr HE HMR hx hp2 hRs hsz
        go_upto_region 9 with fail
        go_upto_region 10 with (go_at_call 19; refine hC.mono ?_; rintro _ w2 ⟨rfl, hb2⟩; have HB2 := Lib.hid hb2; clear hb2)
        have HMR3 := Lib.hid (HMR2.out.below HB2.out)
        have HRR3 := Lib.hid (HRR.out.below HB2.out)
        have HB3 := Lib.hid (HB.out.trans (HB2.out.mono HB.out.size))
        clear HMR2 HRR HB HB2 hC e0 e1 e2 e3 e4 e5 e6
        go_wp2_with fail
        all_goals
          go_roundg (gk - 1)
          case measure => go_light; omega
          case rel =>
            go_light
            exact ⟨k + 1, r, _, _, by omega, by go_num, rfl, rfl, hr2, HMR3, HRR3, Lib.hid (by rw [← HE2.out]; congr 1 <;> omega), HB3⟩
  have n1 : (op == 1) = false := beq_false_of_ne h1
  have n2 : (op == 2) = false := beq_false_of_ne h2
  clear HR HM HIH HC6 HSA
  have HBW := Lib.hid (HW.out ▸ HBA.out)
  by_cases h4 : op = 4
  · subst h4
    have hn : -9223372036854775808 ≤ wrap64 (bb : Int) ∧ wrap64 (bb : Int) ≤ 9223372036854775807 := by unfold wrap64; omega
    have HV2 : Hid (V = spLeaf sg (wrap64 (bb : Int))) := Lib.hid (by rw [HV.out]; rfl)
    have HN := Lib.hid hn
    clear HV h1 h2 n1 n2 hn hRG HW HBA
    go_enter Try.func19, Try.ntmps19
    go_upto_region 13 with fail
    generalize wrap64 (bb : Int) = n at *
    have hn := HN.out
    by_cases hlo : n = -9223372036854775808
    · subst hlo
      go_wp2_with fail
      all_goals (go_ret2; refine ⟨?_, HBW.out⟩)
      all_goals (rw [HV2.out, spLeaf_ref]; simp only [*, Bool.false_eq_true, if_false, if_true]; rfl)
    by_cases hhi : n = 9223372036854775807
    · subst hhi
      go_wp2_with fail
      all_goals (go_ret2; refine ⟨?_, HBW.out⟩)
      all_goals (rw [HV2.out, spLeaf_ref]; simp only [*, Bool.false_eq_true, if_false, if_true]; rfl)
    have hn3 : -9223372036854775808 < n ∧ n < 9223372036854775807 := by omega
    obtain ⟨hn4, hn5⟩ := hn3
    have q1 : (n == -9223372036854775808) = false := beq_false_of_ne hlo
    have q2 : (n == 9223372036854775807) = false := beq_false_of_ne hhi
    have hlo' := Lib.hid hlo
    have hhi' := Lib.hid hhi
    clear hlo hhi
    go_wp2_with fail
    all_goals (go_ret2; refine ⟨?_, HBW.out⟩)
    all_goals (rw [HV2.out, spLeaf_ref]; rw [if_neg hlo'.out, if_neg hhi'.out]; simp only [*, Bool.false_eq_true, if_false, if_true]; rfl)
  · have n4 : (op == 4) = false := beq_false_of_ne h4
    have HV2 : Hid (V = (-9223372036854775808, 9223372036854775807)) := Lib.hid (by rw [HV.out, n1, n2, n4]; rfl)
    clear HV h1 h2 h4 HBA HW
    go_enter Try.func19, Try.ntmps19
    go_wp2_with fail
    go_ret2
    exact ⟨by rw [HV2.out]; rfl, HBW.out⟩

theorem rspan_all : ∀ j, RSp j
  | 0 => fun c p pv w h _ => by omega
  | j + 1 => rspan_step j (rspan_all j) (rspanT_step j (rspan_all j))
theorem rspanT_any (F : Fo) (pv : Value) (w : World) (hp : RdF w pv F) :
    Calls Try.prog 12 #[pv] w fun e w' => e = .returned (.tuple #[.int .i64 (rg (sp true F (-9223372036854775808) 9223372036854775807)).1, .int .i64 (rg (sp true F (-9223372036854775808) 9223372036854775807)).2]) ∧ Below w.heap.size w w' :=
  rspanT_step F.sz (rspan_all F.sz) F pv w (by omega) hp
end Go.Proofs.Ytjifgipkfkhnpaa
