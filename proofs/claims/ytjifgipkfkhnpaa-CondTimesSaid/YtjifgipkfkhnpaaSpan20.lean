/- cond.Span: the bounds of a condition, by the program. -/
import Derived.Test.YtjifgipkfkhnpaaHoldsT20
namespace Go.Proofs.Ytjifgipkfkhnpaa
open Go.RowKit
set_option linter.unusedVariables false

/-- 1 and 0, if nothing lies between. -/
def rg (x : Int × Int) : Int × Int := if x.2 < x.1 then (1, 0) else x
def lo64 : Int := -9223372036854775808
def hi64 : Int := 9223372036854775807
/-- For which times a test of the time holds. -/
def spLeaf (s : ByteArray) (n : Int) : Int × Int :=
  if s.toList == [61] then (n, n) else if s.toList == [60, 61] then (-9223372036854775808, n) else if s.toList == [62, 61] then (n, 9223372036854775807)
  else if s.toList == [60] then (if n = -9223372036854775808 then (1, 0) else (-9223372036854775808, n - 1)) else if s.toList == [62] then (if n = 9223372036854775807 then (1, 0) else (n + 1, 9223372036854775807)) else (-9223372036854775808, 9223372036854775807)
/-- The bounds of all of a list (m), or of one of it. -/
def sp : Bool → Fo → Int → Int → Int × Int
  | m, .nil, a, b => (a, b)
  | m, .cons c p r, a, b =>
    let x := bif c.op == 1 then rg (sp true p (-9223372036854775808) 9223372036854775807) else bif c.op == 2 then rg (sp false p 9223372036854775807 (-9223372036854775808)) else bif c.op == 4 then spLeaf c.sg (wrap64 (c.b : Int)) else (-9223372036854775808, 9223372036854775807)
    bif m then sp true r (max a x.1) (min b x.2) else sp false r (min a x.1) (max b x.2)
def spOne (c : Lf) (p : Fo) : Int × Int :=
  bif c.op == 1 then rg (sp true p (-9223372036854775808) 9223372036854775807) else bif c.op == 2 then rg (sp false p 9223372036854775807 (-9223372036854775808)) else bif c.op == 4 then spLeaf c.sg (wrap64 (c.b : Int)) else (-9223372036854775808, 9223372036854775807)
theorem sp_all (c : Lf) (p r : Fo) (a b : Int) : sp true (.cons c p r) a b = sp true r (max a (spOne c p).1) (min b (spOne c p).2) := rfl
theorem sp_any (c : Lf) (p r : Fo) (a b : Int) : sp false (.cons c p r) a b = sp false r (min a (spOne c p).1) (max b (spOne c p).2) := rfl

theorem ranged_any (a b : Int) (w : World) : Calls Try.prog 25 #[.int .i64 a, .int .i64 b] w fun e w' => e = .returned (.tuple #[.int .i64 (rg (a, b)).1, .int .i64 (rg (a, b)).2]) ∧ w' = w := by
  by_cases h : b < a
  · have e : rg (a, b) = (1, 0) := by unfold rg; rw [if_pos h]
    rw [e]
    go_enter Try.func25, Try.ntmps25
    go_wp2_with fail
    go_ret2
    exact ⟨rfl, rfl⟩
  · have e : rg (a, b) = (a, b) := by unfold rg; rw [if_neg h]
    rw [e]
    go_enter Try.func25, Try.ntmps25
    go_wp2_with fail
    go_ret2
    exact ⟨rfl, rfl⟩

set_option maxHeartbeats 2000000 in
set_option maxRecDepth 100000 in
theorem span_any : ∀ (j : Nat) (c : Lf) (p : Fo) (pv : Value) (w : World), p.sz < j → RdF w pv p →
    Calls Try.prog 17 #[cV c pv] w fun e w' => e = .returned (.tuple #[.int .i64 (spOne c p).1, .int .i64 (spOne c p).2]) ∧ Below w.heap.size w w' := by
  intro j
  induction j with
  | zero => intro c p pv w h; omega
  | succ j ih =>
    intro c p pv w hj hp
    obtain ⟨xs, hr, hm⟩ := hp
    obtain ⟨pa, pc, rfl, hn1, hn2⟩ := RdV.shape hr
    unfold maxLen at hn2
    have hval := show spOne c p = bif c.op == 1 then rg (sp true p (-9223372036854775808) 9223372036854775807) else bif c.op == 2 then rg (sp false p 9223372036854775807 (-9223372036854775808)) else bif c.op == 4 then spLeaf c.sg (wrap64 (c.b : Int)) else (-9223372036854775808, 9223372036854775807) from rfl
    unfold cV
    obtain ⟨op, nm, sg, kd, bb, tt⟩ := c
    dsimp only at hval ⊢
    generalize spOne ⟨op, nm, sg, kd, bb, tt⟩ p = V at *
    have HV := Lib.hid hval
    have hRG := fun a b (w : World) => ranged_any a b w
    have hbA : Below w.heap.size w (w.alloc (.cells #[.int .i64 op, .string nm, .string sg, .int .i64 kd, .int .u64 (bb : Int), .string tt, .slice pa xs.length pc] 45)) := (Below.refl _ _).alloc (Nat.le_refl _) _
    have HR := Lib.hid hr
    have HM := Lib.hid hm
    have HBA := Lib.hid hbA
    have HIH := Lib.hid ih
    clear hr hm hbA ih hval
    by_cases h1 : op = 1
    · subst h1
      have HV2 : Hid (V = rg (sp true p (-9223372036854775808) 9223372036854775807)) := Lib.hid (by rw [HV.out]; rfl)
      clear HV
      go_enter Try.func17, Try.ntmps17
      go_wp2_with fail
      go_loopg [4, 5, 26] xs.length (fun m s4 s5 s26 wr => ∃ (k : Nat) (R : Fo) (a b : Int), k + m = xs.length ∧ s26 = .int .i64 (k : Int) ∧ s4 = .int .i64 a ∧ s5 = .int .i64 b ∧ R.sz < j + 1 ∧ Hid (Mt wr R (xs.drop k)) ∧ Hid (RdV wr 7 (.slice pa xs.length pc) xs.length (xs.flatMap lcells)) ∧ Hid (sp true R a b = sp true p (-9223372036854775808) 9223372036854775807) ∧ Hid (Below w.heap.size w wr))
      case atStart => exact ⟨0, p, _, _, by omega, rfl, rfl, rfl, hj, Lib.hid (by rw [List.drop_zero]; exact HM.out.below HBA.out), Lib.hid (HR.out.below HBA.out), Lib.hid rfl, HBA⟩
      case round =>
        obtain ⟨k, R, a, b, hk, rfl, rfl, rfl, hRs, HMR, HRR, HE, HB⟩ := hrel
        clear HM HR HBA
        cases R with
        | nil =>
          obtain rfl := Mt.end HMR.out (by omega)
          have HV3 : Hid (V = rg (a, b)) := Lib.hid (by rw [HV2.out, ← HE.out]; rfl)
          clear HV2 HE HMR HRR
          go_wp2_with (go_at_call 25; refine (hRG _ _ _).mono ?_; rintro _ _ ⟨rfl, rfl⟩)
          go_ret2
          exact ⟨by rw [HV3.out]; rfl, HB.out⟩
        | cons c p2 r =>
          obtain ⟨hlt, pv2, hx, hp2, hmr⟩ := Mt.at HMR.out
          obtain ⟨bk, off, cap', he, e0, e1, e2, e3, e4, e5, e6⟩ := cond_at HRR.out k hlt
          simp only [Value.slice.injEq, true_and] at he
          obtain ⟨rfl, rfl⟩ := he
          rw [hx] at e0 e1 e2 e3 e4 e5 e6
          have hp2' := hp2
          obtain ⟨ys, hy, _⟩ := hp2'
          obtain ⟨qa, qc, rfl, _, _⟩ := RdV.shape hy
          clear hy
          have hE2 := HE.out
          rw [sp_all] at hE2
          have hsz : p2.sz < j ∧ r.sz < j + 1 := by simp only [Fo.sz] at hRs; omega
          have hC := fun (w1 : World) (h : Below wr.heap.size wr w1) => HIH.out c p2 _ w1 hsz.1 (hp2.below h)
          unfold cV at hC
          obtain ⟨op2, nm2, sg2, kd2, bb2, tt2⟩ := c
          dsimp only at e0 e1 e2 e3 e4 e5 e6 hC
          generalize spOne ⟨op2, nm2, sg2, kd2, bb2, tt2⟩ p2 = x at *
          obtain ⟨x1, x2⟩ := x
          dsimp only at hE2 hC
          have HE2 := Lib.hid hE2
          have HMR2 := Lib.hid hmr
          have hr2 := hsz.2
          have HC := Lib.hid hC
          have hB1 : Below wr.heap.size wr (wr.alloc (.cells #[.int .i64 op2, .string nm2, .string sg2, .int .i64 kd2, .int .u64 (bb2 : Int), .string tt2, .slice qa ys.length qc] 45)) := (Below.refl _ _).alloc (Nat.le_refl _) _
          have HB1 := Lib.hid hB1
          clear hE2 hmr HE HMR hx hp2 hRs hsz hC hB1
          go_upto_region 8 with fail
          go_upto_region 9 with (go_at_call 17; refine (HC.out _ HB1.out).mono ?_; rintro _ w2 ⟨rfl, hb2⟩; have HB2 := Lib.hid (HB1.out.trans (hb2.mono HB1.out.size)); clear hb2)
          have HMR3 := Lib.hid (HMR2.out.below HB2.out)
          have HRR3 := Lib.hid (HRR.out.below HB2.out)
          have HB3 := Lib.hid (HB.out.trans (HB2.out.mono HB.out.size))
          clear HMR2 HRR HB HB1 HB2 HC e0 e1 e2 e3 e4 e5 e6
          go_wp2_with fail
          all_goals
            go_roundg (gk - 1)
            case measure => go_light; omega
            case rel =>
              go_light
              exact ⟨k + 1, r, _, _, by omega, by go_num, rfl, rfl, hr2, HMR3, HRR3, Lib.hid (by rw [← HE2.out]; congr 1 <;> omega), HB3⟩
    by_cases h2 : op = 2
    · subst h2
      have HV2 : Hid (V = rg (sp false p 9223372036854775807 (-9223372036854775808))) := Lib.hid (by rw [HV.out]; rfl)
      clear HV
      go_enter Try.func17, Try.ntmps17
      go_wp2_with fail
      go_loopg [4, 5, 49] xs.length (fun m s4 s5 s49 wr => ∃ (k : Nat) (R : Fo) (a b : Int), k + m = xs.length ∧ s49 = .int .i64 (k : Int) ∧ s4 = .int .i64 a ∧ s5 = .int .i64 b ∧ R.sz < j + 1 ∧ Hid (Mt wr R (xs.drop k)) ∧ Hid (RdV wr 7 (.slice pa xs.length pc) xs.length (xs.flatMap lcells)) ∧ Hid (sp false R a b = sp false p 9223372036854775807 (-9223372036854775808)) ∧ Hid (Below w.heap.size w wr))
      case atStart => exact ⟨0, p, _, _, by omega, rfl, rfl, rfl, hj, Lib.hid (by rw [List.drop_zero]; exact HM.out.below HBA.out), Lib.hid (HR.out.below HBA.out), Lib.hid rfl, HBA⟩
      case round =>
        obtain ⟨k, R, a, b, hk, rfl, rfl, rfl, hRs, HMR, HRR, HE, HB⟩ := hrel
        clear HM HR HBA
        cases R with
        | nil =>
          obtain rfl := Mt.end HMR.out (by omega)
          have HV3 : Hid (V = rg (a, b)) := Lib.hid (by rw [HV2.out, ← HE.out]; rfl)
          clear HV2 HE HMR HRR
          go_wp2_with (go_at_call 25; refine (hRG _ _ _).mono ?_; rintro _ _ ⟨rfl, rfl⟩)
          go_ret2
          exact ⟨by rw [HV3.out]; rfl, HB.out⟩
        | cons c p2 r =>
          obtain ⟨hlt, pv2, hx, hp2, hmr⟩ := Mt.at HMR.out
          obtain ⟨bk, off, cap', he, e0, e1, e2, e3, e4, e5, e6⟩ := cond_at HRR.out k hlt
          simp only [Value.slice.injEq, true_and] at he
          obtain ⟨rfl, rfl⟩ := he
          rw [hx] at e0 e1 e2 e3 e4 e5 e6
          have hp2' := hp2
          obtain ⟨ys, hy, _⟩ := hp2'
          obtain ⟨qa, qc, rfl, _, _⟩ := RdV.shape hy
          clear hy
          have hE2 := HE.out
          rw [sp_any] at hE2
          have hsz : p2.sz < j ∧ r.sz < j + 1 := by simp only [Fo.sz] at hRs; omega
          have hC := fun (w1 : World) (h : Below wr.heap.size wr w1) => HIH.out c p2 _ w1 hsz.1 (hp2.below h)
          unfold cV at hC
          obtain ⟨op2, nm2, sg2, kd2, bb2, tt2⟩ := c
          dsimp only at e0 e1 e2 e3 e4 e5 e6 hC
          generalize spOne ⟨op2, nm2, sg2, kd2, bb2, tt2⟩ p2 = x at *
          obtain ⟨x1, x2⟩ := x
          dsimp only at hE2 hC
          have HE2 := Lib.hid hE2
          have HMR2 := Lib.hid hmr
          have hr2 := hsz.2
          have HC := Lib.hid hC
          have hB1 : Below wr.heap.size wr (wr.alloc (.cells #[.int .i64 op2, .string nm2, .string sg2, .int .i64 kd2, .int .u64 (bb2 : Int), .string tt2, .slice qa ys.length qc] 45)) := (Below.refl _ _).alloc (Nat.le_refl _) _
          have HB1 := Lib.hid hB1
          clear hE2 hmr HE HMR hx hp2 hRs hsz hC hB1
          go_upto_region 16 with fail
          go_upto_region 17 with (go_at_call 17; refine (HC.out _ HB1.out).mono ?_; rintro _ w2 ⟨rfl, hb2⟩; have HB2 := Lib.hid (HB1.out.trans (hb2.mono HB1.out.size)); clear hb2)
          have HMR3 := Lib.hid (HMR2.out.below HB2.out)
          have HRR3 := Lib.hid (HRR.out.below HB2.out)
          have HB3 := Lib.hid (HB.out.trans (HB2.out.mono HB.out.size))
          clear HMR2 HRR HB HB1 HB2 HC e0 e1 e2 e3 e4 e5 e6
          go_wp2_with fail
          all_goals
            go_roundg (gk - 1)
            case measure => go_light; omega
            case rel =>
              go_light
              exact ⟨k + 1, r, _, _, by omega, by go_num, rfl, rfl, hr2, HMR3, HRR3, Lib.hid (by rw [← HE2.out]; congr 1 <;> omega), HB3⟩
    have n1 : (op == 1) = false := beq_false_of_ne h1
    have n2 : (op == 2) = false := beq_false_of_ne h2
    by_cases h4 : op = 4
    · subst h4
      have hn : -9223372036854775808 ≤ wrap64 (bb : Int) ∧ wrap64 (bb : Int) ≤ 9223372036854775807 := by unfold wrap64; omega
      have HV2 : Hid (V = spLeaf sg (wrap64 (bb : Int))) := Lib.hid (by rw [HV.out]; rfl)
      clear HV HR HM HIH h1 h2 n1 n2
      have HN := Lib.hid hn
      have hRG2 : ∀ (w : World), Calls Try.prog 25 #[.int .i64 (-9223372036854775808), .int .i64 9223372036854775807] w fun e w' => e = .returned (.tuple #[.int .i64 (-9223372036854775808), .int .i64 9223372036854775807]) ∧ w' = w := fun w => ranged_any _ _ w
      clear hn hRG
      go_enter Try.func17, Try.ntmps17
      go_upto_region 20 with fail
      generalize wrap64 (bb : Int) = n at *
      have hn := HN.out
      by_cases hlo : n = -9223372036854775808
      · subst hlo
        go_wp2_with (go_at_call 25; refine (hRG2 _).mono ?_; rintro _ _ ⟨rfl, rfl⟩)
        all_goals (go_ret2; refine ⟨?_, HBA.out⟩)
        all_goals (rw [HV2.out]; unfold spLeaf; simp only [*, Bool.false_eq_true, if_false, if_true]; rfl)
      by_cases hhi : n = 9223372036854775807
      · subst hhi
        go_wp2_with (go_at_call 25; refine (hRG2 _).mono ?_; rintro _ _ ⟨rfl, rfl⟩)
        all_goals (go_ret2; refine ⟨?_, HBA.out⟩)
        all_goals (rw [HV2.out]; unfold spLeaf; simp only [*, Bool.false_eq_true, if_false, if_true]; rfl)
      have hn3 : -9223372036854775808 < n ∧ n < 9223372036854775807 := by omega
      obtain ⟨hn4, hn5⟩ := hn3
      have q1 : (n == -9223372036854775808) = false := beq_false_of_ne hlo
      have q2 : (n == 9223372036854775807) = false := beq_false_of_ne hhi
      have hlo' := Lib.hid hlo
      have hhi' := Lib.hid hhi
      clear hlo hhi
      go_wp2_with (go_at_call 25; refine (hRG2 _).mono ?_; rintro _ _ ⟨rfl, rfl⟩)
      all_goals (go_ret2; refine ⟨?_, HBA.out⟩)
      all_goals (rw [HV2.out]; unfold spLeaf; rw [if_neg hlo'.out, if_neg hhi'.out]; simp only [*, Bool.false_eq_true, if_false, if_true]; rfl)
    · have n4 : (op == 4) = false := beq_false_of_ne h4
      have HV2 : Hid (V = (-9223372036854775808, 9223372036854775807)) := Lib.hid (by rw [HV.out, n1, n2, n4]; rfl)
      clear HV HR HM HIH h1 h2 h4
      have e : rg (-9223372036854775808, 9223372036854775807) = (-9223372036854775808, 9223372036854775807) := by decide
      go_enter Try.func17, Try.ntmps17
      go_wp2_with (go_at_call 25; refine (hRG _ _ _).mono ?_; rintro _ _ ⟨rfl, rfl⟩)
      go_ret2
      exact ⟨by rw [HV2.out]; rfl, HBA.out⟩
end Go.Proofs.Ytjifgipkfkhnpaa
