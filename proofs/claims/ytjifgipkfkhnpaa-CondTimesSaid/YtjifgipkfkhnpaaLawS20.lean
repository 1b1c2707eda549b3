/- The statements of cond on bounds: what is called, and what is said of it. -/
import Derived.Test.YtjifgipkfkhnpaaConds20
namespace Go.Proofs.Ytjifgipkfkhnpaa
open Go.RowKit
set_option linter.unusedVariables false

theorem condsR_any (F : Fo) (v : Value) (w : World) (h3 : F.sz ≤ 3000) (hr : RdF w v F) : Calls Try.prog 11 #[v] w fun e w' => ∃ ao cap, e = .returned (.slice ao F.len cap) ∧ RdF w' (.slice ao F.len cap) F ∧ Below w.heap.size w w' := by
  refine (conds_any (F.sz + 1) F v w (by omega) h3 hr).mono ?_
  rintro _ w' ⟨hb, ao, cap, zs, rfl, hz, ho, hm⟩
  refine ⟨ao, cap, rfl, ⟨zs, ?_, hm.mt⟩, hb⟩
  have := RdV.ofOwns ho
  rw [hz]
  exact this


theorem spLeaf_eq (n : Int) : spLeaf { data := #[61] } n = (n, n) := by
  unfold spLeaf
  rw [str_mk [61] _ rfl]
  rfl

set_option maxHeartbeats 800000 in
theorem awake20_any (w : World) : Calls Try.prog 8 #[] w fun e w' => e = .returned (.bool true) ∧ Below w.heap.size w w' := by
  have hF : RdF (w.alloc (.cells #[.int .i64 4, .string { data := #[] }, .string { data := #[61] }, .int .i64 2, .int .u64 5, .string { data := #[] }, .slice none 0 0] 45)) (.slice (some ⟨w.heap.size, 0, none⟩) 1 1) (.cons ⟨4, { data := #[] }, { data := #[61] }, 2, 5, { data := #[] }⟩ .nil .nil) :=
    ⟨[(⟨4, { data := #[] }, { data := #[61] }, 2, 5, { data := #[] }⟩, .slice none 0 0)], RdV.lit w _ _ 1 7 (by decide) rfl, .slice none 0 0, [], [], rfl, RdV.nil _ _, rfl, rfl⟩
  have hS := (spanT_any _ _ _ hF).mono (R' := fun e w' => e = .returned (.tuple #[.int .i64 5, .int .i64 5]) ∧ Hid (Below w.heap.size w w')) (by
    rintro _ w' ⟨rfl, hb⟩
    refine ⟨?_, Lib.hid (((Below.refl w.heap.size w).alloc (Nat.le_refl _) _).trans (hb.mono (by simp)))⟩
    have e : rg (sp true (.cons ⟨4, { data := #[] }, { data := #[61] }, 2, 5, { data := #[] }⟩ .nil .nil) (-9223372036854775808) 9223372036854775807) = (5, 5) := by
      rw [sp_all]
      have e1 : spOne ⟨4, { data := #[] }, { data := #[61] }, 2, 5, { data := #[] }⟩ .nil = (5, 5) := by
        show spLeaf { data := #[61] } (wrap64 ((5 : Nat) : Int)) = (5, 5)
        rw [spLeaf_eq, show wrap64 ((5 : Nat) : Int) = 5 by unfold wrap64; omega]
      rw [e1]
      rfl
    rw [e])
  have hH := fun (w1 : World) => holdsT_any ⟨{ data := #[] }, [], [], 0, []⟩ .nil (.slice none 0 0) (.slice none 0 0) (.slice none 0 0) (.slice none 0 0) w1 ⟨[], RdV.nil _ _, rfl⟩ ⟨RdV.nil _ _, RdV.nil _ _, RdV.nil _ _⟩
  dsimp only at hH
  clear hF
  go_enter Try.func8, Try.ntmps8
  go_wp2_with (first
    | (go_at_call 10; refine hS.mono ?_; rintro _ w2 ⟨rfl, HB⟩)
    | (go_at_call 13; refine (hH _).mono ?_; rintro _ w3 ⟨rfl, hb3⟩; have HB3 := Lib.hid (HB.out.trans (hb3.mono HB.out.size)); clear hb3))
  go_ret
  exact ⟨rfl, HB3.out⟩

theorem cmpI_lt {a b : Int} (h : cmpI a b < 0) : a < b := by
  unfold cmpI at h
  split at h
  · assumption
  · split at h <;> omega
theorem cmpI_gt {a b : Int} (h : 0 < cmpI a b) : b < a := by
  unfold cmpI at h
  split at h
  · omega
  · split at h
    · assumption
    · omega
theorem cmpI_eq {a b : Int} (h : cmpI a b = 0) : a = b := by
  unfold cmpI at h
  split at h
  · omega
  · split at h <;> omega
/-- A time for which a test of the time holds lies within the test's bounds. -/
theorem leaf_within (s : ByteArray) (t n : Int) (ht1 : -9223372036854775808 ≤ t) (ht2 : t ≤ 9223372036854775807) (h : sgn s (cmpI t n) = true) : (spLeaf s n).1 ≤ t ∧ t ≤ (spLeaf s n).2 := by
  unfold sgn at h
  unfold spLeaf
  generalize s.toList = l at *
  by_cases h1 : l = [61]
  · subst h1
    have := cmpI_eq (by simpa using h)
    subst this
    exact ⟨Int.le_refl _, Int.le_refl _⟩
  by_cases h2 : l = [33, 61]
  · subst h2; exact ⟨ht1, ht2⟩
  by_cases h3 : l = [60]
  · subst h3
    have := cmpI_lt (a := t) (b := n) (by simpa using h)
    have e : ¬ n = -9223372036854775808 := by omega
    show (if n = -9223372036854775808 then ((1 : Int), (0 : Int)) else (-9223372036854775808, n - 1)).1 ≤ t ∧ t ≤ (if n = -9223372036854775808 then ((1 : Int), (0 : Int)) else (-9223372036854775808, n - 1)).2
    rw [if_neg e]
    exact ⟨ht1, by simp; omega⟩
  by_cases h4 : l = [60, 61]
  · subst h4
    have : cmpI t n ≤ 0 := by simpa using h
    have h5 : t ≤ n := by
      unfold cmpI at this
      split at this
      · omega
      · split at this <;> omega
    exact ⟨ht1, h5⟩
  by_cases h5 : l = [62]
  · subst h5
    have := cmpI_gt (a := t) (b := n) (by simpa using h)
    have e : ¬ n = 9223372036854775807 := by omega
    show (if n = 9223372036854775807 then ((1 : Int), (0 : Int)) else (n + 1, 9223372036854775807)).1 ≤ t ∧ t ≤ (if n = 9223372036854775807 then ((1 : Int), (0 : Int)) else (n + 1, 9223372036854775807)).2
    rw [if_neg e]
    exact ⟨by simp; omega, ht2⟩
  by_cases h6 : l = [62, 61]
  · subst h6
    have : 0 ≤ cmpI t n := by simpa using h
    have h5 : n ≤ t := by
      unfold cmpI at this
      split at this
      · omega
      · split at this <;> omega
    exact ⟨h5, ht2⟩
  · rw [beq_false_of_ne h1, beq_false_of_ne h2, beq_false_of_ne h3, beq_false_of_ne h4, beq_false_of_ne h5, beq_false_of_ne h6] at h
    simp at h

theorem rg_within {x : Int × Int} {t : Int} (h1 : x.1 ≤ t) (h2 : t ≤ x.2) : rg x = x := by unfold rg; rw [if_neg (by omega)]
/-- Where conditions hold, the row's time lies within their bounds. -/
theorem within (E : Env) (ht1 : -9223372036854775808 ≤ E.time) (ht2 : E.time ≤ 9223372036854775807) : ∀ F : Fo,
    (hl E true F = true → ∀ a b, a ≤ E.time → E.time ≤ b → (sp true F a b).1 ≤ E.time ∧ E.time ≤ (sp true F a b).2) ∧
    (hl E false F = true → ∀ a b, (sp false F a b).1 ≤ E.time ∧ E.time ≤ (sp false F a b).2) ∧ (∀ a b, (sp false F a b).1 ≤ a ∧ b ≤ (sp false F a b).2)
  | .nil => ⟨fun _ a b h1 h2 => ⟨h1, h2⟩, (fun h => Bool.noConfusion h), fun a b => ⟨Int.le_refl _, Int.le_refl _⟩⟩
  | .cons c p r => by
    obtain ⟨p1, p2, p3⟩ := within E ht1 ht2 p
    obtain ⟨r1, r2, r3⟩ := within E ht1 ht2 r
    have hone : oneH E c p = true → (spOne c p).1 ≤ E.time ∧ E.time ≤ (spOne c p).2 := by
      intro h
      unfold oneH at h
      unfold spOne
      by_cases h1 : (c.op == 1) = true
      · rw [h1] at h ⊢
        have := p1 h _ _ ht1 ht2
        simp only [cond_true]
        rw [rg_within this.1 this.2]
        exact this
      · rw [Bool.not_eq_true] at h1
        rw [h1] at h ⊢
        simp only [cond_false] at h ⊢
        by_cases h2 : (c.op == 2) = true
        · rw [h2] at h ⊢
          have := p2 h 9223372036854775807 (-9223372036854775808)
          simp only [cond_true]
          rw [rg_within this.1 this.2]
          exact this
        · rw [Bool.not_eq_true] at h2
          rw [h2] at h ⊢
          simp only [cond_false] at h ⊢
          by_cases h4 : (c.op == 4) = true
          · rw [h4]
            unfold leafH at h
            rw [if_pos h4] at h
            exact leaf_within _ _ _ ht1 ht2 h
          · rw [Bool.not_eq_true] at h4
            rw [h4]
            exact ⟨ht1, ht2⟩
    refine ⟨fun h a b h1 h2 => ?_, fun h a b => ?_, fun a b => ?_⟩
    · rw [hl_all, Bool.and_eq_true] at h
      rw [sp_all]
      have := hone h.1
      exact r1 h.2 _ _ (by omega) (by omega)
    · rw [hl_any, Bool.or_eq_true] at h
      rw [sp_any]
      rcases h with h | h
      · have h1 := hone h
        have h2 := r3 (min a (spOne c p).1) (max b (spOne c p).2)
        omega
      · exact r2 h _ _
    · rw [sp_any]
      have := r3 (min a (spOne c p).1) (max b (spOne c p).2)
      omega
theorem outside (E : Env) (F : Fo) (ht1 : -9223372036854775808 ≤ E.time) (ht2 : E.time ≤ 9223372036854775807) (h : ¬ ((rg (sp true F (-9223372036854775808) 9223372036854775807)).1 ≤ E.time ∧ E.time ≤ (rg (sp true F (-9223372036854775808) 9223372036854775807)).2)) : hl E true F = false := by
  cases hx : hl E true F with
  | false => rfl
  | true =>
    exfalso
    apply h
    have := (within E ht1 ht2 F).1 hx _ _ ht1 ht2
    rw [rg_within this.1 this.2]
    exact this

set_option maxHeartbeats 2000000 in
theorem condSpans_run (F : Fo) (E : Env) (pv tv fv nv : Value) (w : World) (hF : RdF w pv F) (hE : EnvAt w E tv fv nv) (ht1 : -9223372036854775808 ≤ E.time) (ht2 : E.time ≤ 9223372036854775807) :
    Calls Try.prog 3 #[pv, .agg #[.string E.nm, tv, fv, .int .i64 E.time], nv] w fun e w' => e = .returned (.bool true) ∧ Below w.heap.size w w' := by
  have hF' := hF
  obtain ⟨xs, hr, hm⟩ := hF'
  obtain ⟨pa, pc, rfl, hn1, hn2⟩ := RdV.shape hr
  obtain ⟨ta, tc, rfl, hq1, hq2⟩ := RdV.shape hE.t
  obtain ⟨fa, fc, rfl, hf1, hf2⟩ := RdV.shape hE.f
  obtain ⟨na, nc, rfl, hm1, hm2⟩ := RdV.shape hE.n
  clear hr hm
  have hA := fun (w : World) => awake20_any w
  obtain ⟨wA, hwA⟩ : ∃ wA, wA = w.alloc (.cells #[.string E.nm, .slice ta E.tags.length tc, .slice fa E.fds.length fc, .int .i64 E.time] 28) := ⟨_, rfl⟩
  have hbA : Below w.heap.size w wA := by rw [hwA]; exact (Below.refl _ _).alloc (Nat.le_refl _) _
  have c0 : wA.cell? ⟨w.heap.size, 0, none⟩ = some (.string E.nm) := by rw [hwA]; simp
  have c1 : wA.cell? ⟨w.heap.size, 1, none⟩ = some (.slice ta E.tags.length tc) := by rw [hwA]; simp
  have c2 : wA.cell? ⟨w.heap.size, 2, none⟩ = some (.slice fa E.fds.length fc) := by rw [hwA]; simp
  have c3 : wA.cell? ⟨w.heap.size, 3, none⟩ = some (.int .i64 E.time) := by rw [hwA]; simp
  have HF := Lib.hid (hF.below hbA)
  have HE := Lib.hid (hE.below hbA)
  have HW := Lib.hid hwA
  have HBA := Lib.hid hbA
  have hkeep : ∀ w' : World, Below wA.heap.size wA w' → w'.cell? ⟨w.heap.size, 0, none⟩ = some (.string E.nm) ∧ w'.cell? ⟨w.heap.size, 1, none⟩ = some (.slice ta E.tags.length tc) ∧ w'.cell? ⟨w.heap.size, 2, none⟩ = some (.slice fa E.fds.length fc) ∧ w'.cell? ⟨w.heap.size, 3, none⟩ = some (.int .i64 E.time) := fun w' h =>
    have q : ∀ (bk o : Nat) (u : Value), wA.cell? ⟨bk, o, none⟩ = some u → w'.cell? ⟨bk, o, none⟩ = some u := fun bk o u q => (h.cell (World.block_lt_of_cell? _ _ q)).trans q
    ⟨q _ _ _ c0, q _ _ _ c1, q _ _ _ c2, q _ _ _ c3⟩
  have HK := Lib.hid hkeep
  clear c0 c1 c2 c3 hF hE hbA hwA hkeep
  have hFew := fun (w1 : World) (h : Below wA.heap.size wA w1) => few_any F (.slice pa xs.length pc) w1 (HF.out.below h)
  by_cases hfew : 0 ≤ leftF F 3000
  · have h3 : F.sz ≤ 3000 := by have := leftF_few F 3000 hfew; omega
    have e : decide (0 ≤ leftF F 3000) = true := decide_eq_true hfew
    rw [e] at hFew
    have HFew := Lib.hid hFew
    have HC := Lib.hid (fun (w1 : World) (h : Below wA.heap.size wA w1) => condsR_any F (.slice pa xs.length pc) w1 h3 (HF.out.below h))
    have HR := Lib.hid (fun (w1 : World) (h : Below wA.heap.size wA w1) => rspanT_any F (.slice pa xs.length pc) w1 (HF.out.below h))
    have HO := Lib.hid (outside E F ht1 ht2)
    have HSp := Lib.hid (fun (w1 : World) (v : Value) (h : RdF w1 v F) => spanT_any F v w1 h)
    have HH := Lib.hid (fun (w1 : World) (v : Value) (h : RdF w1 v F) (hb : Below wA.heap.size wA w1) => holdsT_any E F v _ _ _ w1 h (HE.out.below hb))
    generalize rg (sp true F (-9223372036854775808) 9223372036854775807) = V at *
    obtain ⟨va, vb⟩ := V
    clear hFew hfew e h3 HE
    go_enter Try.func3, Try.ntmps3
    go_upto_region 1 with fail
    rw [← HW.out]
    clear HW
    go_upto_region 7 with (first
      | (go_at_call 8; refine (hA _).mono ?_; rintro _ w2 ⟨rfl, hb2⟩; have HB2 := Lib.hid hb2; clear hb2)
      | (go_at_call 9; refine (HFew.out _ HB2.out).mono ?_; rintro _ _ ⟨rfl, rfl⟩)
      | (go_at_call 11; refine (HC.out _ HB2.out).mono ?_; rintro _ w3 ⟨ao3, cap3, rfl, hr3, hb3⟩; have HR3 := Lib.hid hr3; have HB3 := Lib.hid (HB2.out.trans (hb3.mono HB2.out.size)); clear hr3 hb3)
      | (go_at_call 10; refine (HSp.out _ _ HR3.out).mono ?_; rintro _ w4 ⟨rfl, hb4⟩; have HB4 := Lib.hid (HB3.out.trans (hb4.mono HB3.out.size)); clear hb4)
      | (go_at_call 12; refine (HR.out _ HB4.out).mono ?_; rintro _ w5 ⟨rfl, hb5⟩; have HB5 := Lib.hid (HB4.out.trans (hb5.mono HB4.out.size)); clear hb5))
    have hk5 := HK.out _ HB5.out
    obtain ⟨k0, k1, k2, k3⟩ := hk5
    clear HFew HR HSp HR3 HB2 HB3 HB4
    have HOut : Hid (¬ (va ≤ E.time ∧ E.time ≤ vb) → hl E true F = false) := HO
    clear HO
    by_cases hin : va ≤ E.time ∧ E.time ≤ vb
    · have d1 : decide (va ≤ E.time) = true := decide_eq_true hin.1
      have d2 : decide (E.time ≤ vb) = true := decide_eq_true hin.2
      obtain ⟨i1, i2⟩ := hin
      generalize E.time = t at *
      clear HOut HC HH
      go_quiet (fail)
      go_wp2_with fail
      go_ret
      exact ⟨rfl, Below.drewN_of (HBA.out.trans (HB5.out.mono HBA.out.size)) _⟩
    · have hno := HOut.out hin
      have HH2 := Lib.hid (show ∀ (w1 : World) (v : Value), RdF w1 v F → Below wA.heap.size wA w1 → Calls Try.prog 13 #[v, .agg #[.string E.nm, .slice ta E.tags.length tc, .slice fa E.fds.length fc, .int .i64 E.time], .slice na E.names.length nc] w1 fun e w' => e = .returned (.bool false) ∧ Below w1.heap.size w1 w' from fun w1 v h hb => by have := HH.out w1 v h hb; rwa [hno] at this)
      have hb0 : Below wA.heap.size wA w5.drew := HB5.out.drew
      have hd : (decide (va ≤ E.time) = false ∧ True) ∨ (decide (va ≤ E.time) = true ∧ decide (E.time ≤ vb) = false) := by
        by_cases h : va ≤ E.time
        · exact .inr ⟨decide_eq_true h, decide_eq_false (fun h2 => hin ⟨h, h2⟩)⟩
        · exact .inl ⟨decide_eq_false h, trivial⟩
      have HHin := Lib.hid hin
      clear HOut HH hno hin ht1 ht2
      rcases hd with ⟨d1, _⟩ | ⟨d1, d2⟩
      · refine wp_region_held_drew (S := fun w' => w'.cell? ⟨w.heap.size, 0, none⟩ = some (.string E.nm) ∧ w'.cell? ⟨w.heap.size, 1, none⟩ = some (.slice ta E.tags.length tc) ∧ w'.cell? ⟨w.heap.size, 2, none⟩ = some (.slice fa E.fds.length fc) ∧ w'.cell? ⟨w.heap.size, 3, none⟩ = some (.int .i64 E.time)) (by kernel_rfl) (HK.out _ hb0) (fun hS => ?_)
        refine wpAnyH_take (i := 0) (oi := { dst := some 38, op := Op.fieldAddr 28 (Operand.tmp 4) 2, type := 0, pos := "law.go:37", after := #[], guard := none }) (v := ?_) rfl (by kernel_rfl) (by kernel_rfl) (by kernel_rfl) (fun _ _ _ h => h) (Or.inl ⟨by rfl, ?_⟩) hS ?_
        rotate_left
        · intro w hSw; (try dsimp only at hSw); go_simp; try with_reducible rfl
        try simp only [Act.put, List.setIfInBounds_toArray, List.set_cons_zero, List.set_cons_succ]
        refine wpAnyH_take (i := 1) (oi := { dst := some 39, op := Op.load 2 (Operand.tmp 38), type := 2, pos := "law.go:37", after := #[{ on := 0, ground := Ground.data }], guard := none }) (v := ?_) rfl (by kernel_rfl) (by kernel_rfl) (by kernel_rfl) (fun _ _ _ h => h) (Or.inl ⟨by rfl, ?_⟩) hS ?_
        rotate_left
        · intro w hSw; (try dsimp only at hSw); go_simp; try with_reducible rfl
        try simp only [Act.put, List.setIfInBounds_toArray, List.set_cons_zero, List.set_cons_succ]
        refine wpAnyH_take (i := 2) (oi := { dst := some 40, op := Op.move (Operand.tmp 7), type := 2, pos := "law.go:37", after := #[], guard := none }) (v := ?_) rfl (by kernel_rfl) (by kernel_rfl) (by kernel_rfl) (fun _ _ _ h => h) (Or.inl ⟨by rfl, ?_⟩) hS ?_
        rotate_left
        · intro w hSw; (try dsimp only at hSw); go_simp; try with_reducible rfl
        try simp only [Act.put, List.setIfInBounds_toArray, List.set_cons_zero, List.set_cons_succ]
        refine wpAnyH_take (i := 3) (oi := { dst := some 41, op := Op.binOp BinOp.geq 2 (Operand.tmp 39) (Operand.tmp 40) 2, type := 4, pos := "law.go:37", after := #[{ on := 1, ground := Ground.data }, { on := 2, ground := Ground.data }], guard := none }) (v := .bool false) rfl (by kernel_rfl) (by kernel_rfl) (by kernel_rfl) (fun _ _ _ h => h) (Or.inl ⟨by rfl, fun w hSw => by (try dsimp only at hSw); go_simp⟩) hS ?_
        try simp only [Act.put, List.setIfInBounds_toArray, List.set_cons_zero, List.set_cons_succ]
        refine wpAnyH_take (i := 4) (oi := { dst := some 42, op := Op.move (Operand.tmp 41), type := 4, pos := "law.go:37", after := #[{ on := 3, ground := Ground.data }], guard := none }) (v := ?_) rfl (by kernel_rfl) (by kernel_rfl) (by kernel_rfl) (fun _ _ _ h => h) (Or.inl ⟨by rfl, ?_⟩) hS ?_
        rotate_left
        · intro w hSw; (try dsimp only at hSw); go_simp; try with_reducible rfl
        try simp only [Act.put, List.setIfInBounds_toArray, List.set_cons_zero, List.set_cons_succ]
        refine wpAnyH_take (i := 5) (oi := { dst := some 43, op := Op.fieldAddr 28 (Operand.tmp 4) 2, type := 0, pos := "law.go:37", after := #[{ on := 4, ground := Ground.guard }], guard := some (4, true) }) (v := undef) rfl (by kernel_rfl) (by kernel_rfl) (by kernel_rfl) (fun _ _ _ h => h) (Or.inr ⟨by rfl, rfl⟩) hS ?_
        try simp only [Act.put, List.setIfInBounds_toArray, List.set_cons_zero, List.set_cons_succ]
        refine wpAnyH_take (i := 6) (oi := { dst := some 44, op := Op.load 2 (Operand.tmp 43), type := 2, pos := "law.go:37", after := #[{ on := 5, ground := Ground.data }, { on := 4, ground := Ground.guard }], guard := some (4, true) }) (v := undef) rfl (by kernel_rfl) (by kernel_rfl) (by kernel_rfl) (fun _ _ _ h => h) (Or.inr ⟨by rfl, rfl⟩) hS ?_
        try simp only [Act.put, List.setIfInBounds_toArray, List.set_cons_zero, List.set_cons_succ]
        refine wpAnyH_take (i := 7) (oi := { dst := some 45, op := Op.move (Operand.tmp 8), type := 2, pos := "law.go:37", after := #[{ on := 4, ground := Ground.guard }], guard := some (4, true) }) (v := undef) rfl (by kernel_rfl) (by kernel_rfl) (by kernel_rfl) (fun _ _ _ h => h) (Or.inr ⟨by rfl, rfl⟩) hS ?_
        try simp only [Act.put, List.setIfInBounds_toArray, List.set_cons_zero, List.set_cons_succ]
        refine wpAnyH_take (i := 8) (oi := { dst := some 46, op := Op.binOp BinOp.leq 2 (Operand.tmp 44) (Operand.tmp 45) 2, type := 4, pos := "law.go:37", after := #[{ on := 6, ground := Ground.data }, { on := 7, ground := Ground.data }, { on := 4, ground := Ground.guard }], guard := some (4, true) }) (v := undef) rfl (by kernel_rfl) (by kernel_rfl) (by kernel_rfl) (fun _ _ _ h => h) (Or.inr ⟨by rfl, rfl⟩) hS ?_
        try simp only [Act.put, List.setIfInBounds_toArray, List.set_cons_zero, List.set_cons_succ]
        refine wpAnyH_take (i := 9) (oi := { dst := some 47, op := Op.pick (Operand.tmp 42) (Operand.tmp 46) (Operand.const (Value.bool false)), type := 4, pos := "law.go:37", after := #[{ on := 4, ground := Ground.data }, { on := 8, ground := Ground.data }], guard := none }) (v := ?_) rfl (by kernel_rfl) (by kernel_rfl) (by kernel_rfl) (fun _ _ _ h => h) (Or.inl ⟨by rfl, ?_⟩) hS ?_
        rotate_left
        · intro w hSw; (try dsimp only at hSw); go_simp; try with_reducible rfl
        try simp only [Act.put, List.setIfInBounds_toArray, List.set_cons_zero, List.set_cons_succ]
        refine wpAnyH_take (i := 10) (oi := { dst := some 48, op := Op.move (Operand.tmp 47), type := 4, pos := "law.go:37", after := #[{ on := 9, ground := Ground.data }, { on := 4, ground := Ground.chain }], guard := none }) (v := ?_) rfl (by kernel_rfl) (by kernel_rfl) (by kernel_rfl) (fun _ _ _ h => h) (Or.inl ⟨by rfl, ?_⟩) hS ?_
        rotate_left
        · intro w hSw; (try dsimp only at hSw); go_simp; try with_reducible rfl
        try simp only [Act.put, List.setIfInBounds_toArray, List.set_cons_zero, List.set_cons_succ]
        refine wpAnyH_take (i := 11) (oi := { dst := some 49, op := Op.move (Operand.tmp 0), type := 22, pos := "law.go:37", after := #[{ on := 10, ground := Ground.guard }], guard := some (10, false) }) (v := ?_) rfl (by kernel_rfl) (by kernel_rfl) (by kernel_rfl) (fun _ _ _ h => h) (Or.inl ⟨by rfl, ?_⟩) hS ?_
        rotate_left
        · intro w hSw; (try dsimp only at hSw); go_simp; try with_reducible rfl
        try simp only [Act.put, List.setIfInBounds_toArray, List.set_cons_zero, List.set_cons_succ]
        refine wpAnyH_take (i := 13) (oi := { dst := some 51, op := Op.load 28 (Operand.tmp 4), type := 28, pos := "law.go:37", after := #[{ on := 10, ground := Ground.guard }], guard := some (10, false) }) (v := ?_) rfl (by kernel_rfl) (by kernel_rfl) (by kernel_rfl) (fun _ _ _ h => h) (Or.inl ⟨by rfl, ?_⟩) hS ?_
        rotate_left
        · intro w hSw; (try dsimp only at hSw); go_simp; try with_reducible rfl
        try simp only [Act.put, List.setIfInBounds_toArray, List.set_cons_zero, List.set_cons_succ]
        refine wpAnyH_take (i := 14) (oi := { dst := some 52, op := Op.move (Operand.tmp 2), type := 29, pos := "law.go:37", after := #[{ on := 10, ground := Ground.guard }], guard := some (10, false) }) (v := ?_) rfl (by kernel_rfl) (by kernel_rfl) (by kernel_rfl) (fun _ _ _ h => h) (Or.inl ⟨by rfl, ?_⟩) hS ?_
        rotate_left
        · intro w hSw; (try dsimp only at hSw); go_simp; try with_reducible rfl
        try simp only [Act.put, List.setIfInBounds_toArray, List.set_cons_zero, List.set_cons_succ]
        refine wpAnyH_ready (rs := [12]) (by kernel_rfl) (by simp) (AllReadyH.cons (o := { dst := some 50, op := Op.call { callee := Callee.value (Operand.func 11), args := #[Operand.tmp 49], argTypes := #[22] }, type := 34, pos := "law.go:37", after := #[{ on := 11, ground := Ground.data }, { on := 10, ground := Ground.chain }, { on := 10, ground := Ground.guard }], guard := some (10, false) }) rfl (fun K hK => ?_) AllReadyH.nil)
        go_simp
        go_at_call 11
        refine (HC.out _ hb0).mono ?_
        rintro _ w6 ⟨ao6, cap6, rfl, hr6, hb6⟩
        have HR6 := Lib.hid hr6
        have hB6 : Below wA.heap.size wA w6 := hb0.trans (hb6.mono hb0.size)
        clear hr6 hb6
        dsimp only
        refine hK.out _ _ (HK.out _ hB6) (fun hh => ?_)
        replace hS := hh
        clear hK K hh
        try simp only [Act.put, List.setIfInBounds_toArray, List.set_cons_zero, List.set_cons_succ]
        refine wpAnyH_ready (rs := [15]) (by kernel_rfl) (by simp) (AllReadyH.cons (o := { dst := some 53, op := Op.call { callee := Callee.value (Operand.func 13), args := #[Operand.tmp 50, Operand.tmp 51, Operand.tmp 52], argTypes := #[34, 28, 29] }, type := 4, pos := "law.go:37", after := #[{ on := 12, ground := Ground.data }, { on := 13, ground := Ground.data }, { on := 14, ground := Ground.data }, { on := 12, ground := Ground.chain }, { on := 10, ground := Ground.guard }], guard := some (10, false) }) rfl (fun K hK => ?_) AllReadyH.nil)
        go_simp
        go_at_call 13
        refine (HH2.out _ _ HR6.out hB6).mono ?_
        rintro _ w7 ⟨rfl, hb7⟩
        have hB7 : Below wA.heap.size wA w7 := hB6.trans (hb7.mono hB6.size)
        clear hb7
        dsimp only
        refine hK.out _ _ (HK.out _ hB7) (fun hh => ?_)
        replace hS := hh
        clear hK K hh
        try simp only [Act.put, List.setIfInBounds_toArray, List.set_cons_zero, List.set_cons_succ]
        refine wpAnyH_take (i := 16) (oi := { dst := some 54, op := Op.unOp UnOp.not 4 (Operand.tmp 53), type := 4, pos := "law.go:37", after := #[{ on := 15, ground := Ground.data }, { on := 10, ground := Ground.guard }], guard := some (10, false) }) (v := ?_) rfl (by kernel_rfl) (by kernel_rfl) (by kernel_rfl) (fun _ _ _ h => h) (Or.inl ⟨by rfl, ?_⟩) hS ?_
        rotate_left
        · intro w hSw; (try dsimp only at hSw); go_simp; try with_reducible rfl
        try simp only [Act.put, List.setIfInBounds_toArray, List.set_cons_zero, List.set_cons_succ]
        refine wpAnyH_take (i := 17) (oi := { dst := some 55, op := Op.pick (Operand.tmp 48) (Operand.const (Value.bool true)) (Operand.tmp 54), type := 4, pos := "law.go:37", after := #[{ on := 10, ground := Ground.data }, { on := 16, ground := Ground.data }], guard := none }) (v := ?_) rfl (by kernel_rfl) (by kernel_rfl) (by kernel_rfl) (fun _ _ _ h => h) (Or.inl ⟨by rfl, ?_⟩) hS ?_
        rotate_left
        · intro w hSw; (try dsimp only at hSw); go_simp; try with_reducible rfl
        try simp only [Act.put, List.setIfInBounds_toArray, List.set_cons_zero, List.set_cons_succ]
        refine wpAnyH_take (i := 18) (oi := { dst := some 6, op := Op.assign (Operand.tmp 55), type := 4, pos := "law.go:37", after := #[{ on := 17, ground := Ground.data }, { on := 15, ground := Ground.chain }, { on := 0, ground := Ground.phase }, { on := 1, ground := Ground.phase }, { on := 2, ground := Ground.phase }, { on := 3, ground := Ground.phase }, { on := 4, ground := Ground.phase }, { on := 5, ground := Ground.phase }, { on := 6, ground := Ground.phase }, { on := 7, ground := Ground.phase }, { on := 8, ground := Ground.phase }, { on := 9, ground := Ground.phase }, { on := 10, ground := Ground.phase }, { on := 11, ground := Ground.phase }, { on := 12, ground := Ground.phase }, { on := 13, ground := Ground.phase }, { on := 14, ground := Ground.phase }, { on := 15, ground := Ground.phase }, { on := 16, ground := Ground.phase }, { on := 17, ground := Ground.phase }], guard := none }) (v := ?_) rfl (by kernel_rfl) (by kernel_rfl) (by kernel_rfl) (fun _ _ _ h => h) (Or.inl ⟨by rfl, ?_⟩) hS ?_
        rotate_left
        · intro w hSw; (try dsimp only at hSw); go_simp; try with_reducible rfl
        try simp only [Act.put, List.setIfInBounds_toArray, List.set_cons_zero, List.set_cons_succ]
        refine wpAnyH_done (by kernel_rfl) ?_ _
        go_wp2_with fail
        go_ret
        exact ⟨rfl, HBA.out.trans (hB7.mono HBA.out.size)⟩
      · refine wp_region_held_drew (S := fun w' => w'.cell? ⟨w.heap.size, 0, none⟩ = some (.string E.nm) ∧ w'.cell? ⟨w.heap.size, 1, none⟩ = some (.slice ta E.tags.length tc) ∧ w'.cell? ⟨w.heap.size, 2, none⟩ = some (.slice fa E.fds.length fc) ∧ w'.cell? ⟨w.heap.size, 3, none⟩ = some (.int .i64 E.time)) (by kernel_rfl) (HK.out _ hb0) (fun hS => ?_)
        refine wpAnyH_take (i := 0) (oi := { dst := some 38, op := Op.fieldAddr 28 (Operand.tmp 4) 2, type := 0, pos := "law.go:37", after := #[], guard := none }) (v := ?_) rfl (by kernel_rfl) (by kernel_rfl) (by kernel_rfl) (fun _ _ _ h => h) (Or.inl ⟨by rfl, ?_⟩) hS ?_
        rotate_left
        · intro w hSw; (try dsimp only at hSw); go_simp; try with_reducible rfl
        try simp only [Act.put, List.setIfInBounds_toArray, List.set_cons_zero, List.set_cons_succ]
        refine wpAnyH_take (i := 1) (oi := { dst := some 39, op := Op.load 2 (Operand.tmp 38), type := 2, pos := "law.go:37", after := #[{ on := 0, ground := Ground.data }], guard := none }) (v := ?_) rfl (by kernel_rfl) (by kernel_rfl) (by kernel_rfl) (fun _ _ _ h => h) (Or.inl ⟨by rfl, ?_⟩) hS ?_
        rotate_left
        · intro w hSw; (try dsimp only at hSw); go_simp; try with_reducible rfl
        try simp only [Act.put, List.setIfInBounds_toArray, List.set_cons_zero, List.set_cons_succ]
        refine wpAnyH_take (i := 2) (oi := { dst := some 40, op := Op.move (Operand.tmp 7), type := 2, pos := "law.go:37", after := #[], guard := none }) (v := ?_) rfl (by kernel_rfl) (by kernel_rfl) (by kernel_rfl) (fun _ _ _ h => h) (Or.inl ⟨by rfl, ?_⟩) hS ?_
        rotate_left
        · intro w hSw; (try dsimp only at hSw); go_simp; try with_reducible rfl
        try simp only [Act.put, List.setIfInBounds_toArray, List.set_cons_zero, List.set_cons_succ]
        refine wpAnyH_take (i := 3) (oi := { dst := some 41, op := Op.binOp BinOp.geq 2 (Operand.tmp 39) (Operand.tmp 40) 2, type := 4, pos := "law.go:37", after := #[{ on := 1, ground := Ground.data }, { on := 2, ground := Ground.data }], guard := none }) (v := .bool true) rfl (by kernel_rfl) (by kernel_rfl) (by kernel_rfl) (fun _ _ _ h => h) (Or.inl ⟨by rfl, fun w hSw => by (try dsimp only at hSw); go_simp⟩) hS ?_
        try simp only [Act.put, List.setIfInBounds_toArray, List.set_cons_zero, List.set_cons_succ]
        refine wpAnyH_take (i := 4) (oi := { dst := some 42, op := Op.move (Operand.tmp 41), type := 4, pos := "law.go:37", after := #[{ on := 3, ground := Ground.data }], guard := none }) (v := ?_) rfl (by kernel_rfl) (by kernel_rfl) (by kernel_rfl) (fun _ _ _ h => h) (Or.inl ⟨by rfl, ?_⟩) hS ?_
        rotate_left
        · intro w hSw; (try dsimp only at hSw); go_simp; try with_reducible rfl
        try simp only [Act.put, List.setIfInBounds_toArray, List.set_cons_zero, List.set_cons_succ]
        refine wpAnyH_take (i := 5) (oi := { dst := some 43, op := Op.fieldAddr 28 (Operand.tmp 4) 2, type := 0, pos := "law.go:37", after := #[{ on := 4, ground := Ground.guard }], guard := some (4, true) }) (v := ?_) rfl (by kernel_rfl) (by kernel_rfl) (by kernel_rfl) (fun _ _ _ h => h) (Or.inl ⟨by rfl, ?_⟩) hS ?_
        rotate_left
        · intro w hSw; (try dsimp only at hSw); go_simp; try with_reducible rfl
        try simp only [Act.put, List.setIfInBounds_toArray, List.set_cons_zero, List.set_cons_succ]
        refine wpAnyH_take (i := 6) (oi := { dst := some 44, op := Op.load 2 (Operand.tmp 43), type := 2, pos := "law.go:37", after := #[{ on := 5, ground := Ground.data }, { on := 4, ground := Ground.guard }], guard := some (4, true) }) (v := ?_) rfl (by kernel_rfl) (by kernel_rfl) (by kernel_rfl) (fun _ _ _ h => h) (Or.inl ⟨by rfl, ?_⟩) hS ?_
        rotate_left
        · intro w hSw; (try dsimp only at hSw); go_simp; try with_reducible rfl
        try simp only [Act.put, List.setIfInBounds_toArray, List.set_cons_zero, List.set_cons_succ]
        refine wpAnyH_take (i := 7) (oi := { dst := some 45, op := Op.move (Operand.tmp 8), type := 2, pos := "law.go:37", after := #[{ on := 4, ground := Ground.guard }], guard := some (4, true) }) (v := ?_) rfl (by kernel_rfl) (by kernel_rfl) (by kernel_rfl) (fun _ _ _ h => h) (Or.inl ⟨by rfl, ?_⟩) hS ?_
        rotate_left
        · intro w hSw; (try dsimp only at hSw); go_simp; try with_reducible rfl
        try simp only [Act.put, List.setIfInBounds_toArray, List.set_cons_zero, List.set_cons_succ]
        refine wpAnyH_take (i := 8) (oi := { dst := some 46, op := Op.binOp BinOp.leq 2 (Operand.tmp 44) (Operand.tmp 45) 2, type := 4, pos := "law.go:37", after := #[{ on := 6, ground := Ground.data }, { on := 7, ground := Ground.data }, { on := 4, ground := Ground.guard }], guard := some (4, true) }) (v := .bool false) rfl (by kernel_rfl) (by kernel_rfl) (by kernel_rfl) (fun _ _ _ h => h) (Or.inl ⟨by rfl, fun w hSw => by (try dsimp only at hSw); go_simp⟩) hS ?_
        try simp only [Act.put, List.setIfInBounds_toArray, List.set_cons_zero, List.set_cons_succ]
        refine wpAnyH_take (i := 9) (oi := { dst := some 47, op := Op.pick (Operand.tmp 42) (Operand.tmp 46) (Operand.const (Value.bool false)), type := 4, pos := "law.go:37", after := #[{ on := 4, ground := Ground.data }, { on := 8, ground := Ground.data }], guard := none }) (v := ?_) rfl (by kernel_rfl) (by kernel_rfl) (by kernel_rfl) (fun _ _ _ h => h) (Or.inl ⟨by rfl, ?_⟩) hS ?_
        rotate_left
        · intro w hSw; (try dsimp only at hSw); go_simp; try with_reducible rfl
        try simp only [Act.put, List.setIfInBounds_toArray, List.set_cons_zero, List.set_cons_succ]
        refine wpAnyH_take (i := 10) (oi := { dst := some 48, op := Op.move (Operand.tmp 47), type := 4, pos := "law.go:37", after := #[{ on := 9, ground := Ground.data }, { on := 4, ground := Ground.chain }], guard := none }) (v := ?_) rfl (by kernel_rfl) (by kernel_rfl) (by kernel_rfl) (fun _ _ _ h => h) (Or.inl ⟨by rfl, ?_⟩) hS ?_
        rotate_left
        · intro w hSw; (try dsimp only at hSw); go_simp; try with_reducible rfl
        try simp only [Act.put, List.setIfInBounds_toArray, List.set_cons_zero, List.set_cons_succ]
        refine wpAnyH_take (i := 11) (oi := { dst := some 49, op := Op.move (Operand.tmp 0), type := 22, pos := "law.go:37", after := #[{ on := 10, ground := Ground.guard }], guard := some (10, false) }) (v := ?_) rfl (by kernel_rfl) (by kernel_rfl) (by kernel_rfl) (fun _ _ _ h => h) (Or.inl ⟨by rfl, ?_⟩) hS ?_
        rotate_left
        · intro w hSw; (try dsimp only at hSw); go_simp; try with_reducible rfl
        try simp only [Act.put, List.setIfInBounds_toArray, List.set_cons_zero, List.set_cons_succ]
        refine wpAnyH_take (i := 13) (oi := { dst := some 51, op := Op.load 28 (Operand.tmp 4), type := 28, pos := "law.go:37", after := #[{ on := 10, ground := Ground.guard }], guard := some (10, false) }) (v := ?_) rfl (by kernel_rfl) (by kernel_rfl) (by kernel_rfl) (fun _ _ _ h => h) (Or.inl ⟨by rfl, ?_⟩) hS ?_
        rotate_left
        · intro w hSw; (try dsimp only at hSw); go_simp; try with_reducible rfl
        try simp only [Act.put, List.setIfInBounds_toArray, List.set_cons_zero, List.set_cons_succ]
        refine wpAnyH_take (i := 14) (oi := { dst := some 52, op := Op.move (Operand.tmp 2), type := 29, pos := "law.go:37", after := #[{ on := 10, ground := Ground.guard }], guard := some (10, false) }) (v := ?_) rfl (by kernel_rfl) (by kernel_rfl) (by kernel_rfl) (fun _ _ _ h => h) (Or.inl ⟨by rfl, ?_⟩) hS ?_
        rotate_left
        · intro w hSw; (try dsimp only at hSw); go_simp; try with_reducible rfl
        try simp only [Act.put, List.setIfInBounds_toArray, List.set_cons_zero, List.set_cons_succ]
        refine wpAnyH_ready (rs := [12]) (by kernel_rfl) (by simp) (AllReadyH.cons (o := { dst := some 50, op := Op.call { callee := Callee.value (Operand.func 11), args := #[Operand.tmp 49], argTypes := #[22] }, type := 34, pos := "law.go:37", after := #[{ on := 11, ground := Ground.data }, { on := 10, ground := Ground.chain }, { on := 10, ground := Ground.guard }], guard := some (10, false) }) rfl (fun K hK => ?_) AllReadyH.nil)
        go_simp
        go_at_call 11
        refine (HC.out _ hb0).mono ?_
        rintro _ w6 ⟨ao6, cap6, rfl, hr6, hb6⟩
        have HR6 := Lib.hid hr6
        have hB6 : Below wA.heap.size wA w6 := hb0.trans (hb6.mono hb0.size)
        clear hr6 hb6
        dsimp only
        refine hK.out _ _ (HK.out _ hB6) (fun hh => ?_)
        replace hS := hh
        clear hK K hh
        try simp only [Act.put, List.setIfInBounds_toArray, List.set_cons_zero, List.set_cons_succ]
        refine wpAnyH_ready (rs := [15]) (by kernel_rfl) (by simp) (AllReadyH.cons (o := { dst := some 53, op := Op.call { callee := Callee.value (Operand.func 13), args := #[Operand.tmp 50, Operand.tmp 51, Operand.tmp 52], argTypes := #[34, 28, 29] }, type := 4, pos := "law.go:37", after := #[{ on := 12, ground := Ground.data }, { on := 13, ground := Ground.data }, { on := 14, ground := Ground.data }, { on := 12, ground := Ground.chain }, { on := 10, ground := Ground.guard }], guard := some (10, false) }) rfl (fun K hK => ?_) AllReadyH.nil)
        go_simp
        go_at_call 13
        refine (HH2.out _ _ HR6.out hB6).mono ?_
        rintro _ w7 ⟨rfl, hb7⟩
        have hB7 : Below wA.heap.size wA w7 := hB6.trans (hb7.mono hB6.size)
        clear hb7
        dsimp only
        refine hK.out _ _ (HK.out _ hB7) (fun hh => ?_)
        replace hS := hh
        clear hK K hh
        try simp only [Act.put, List.setIfInBounds_toArray, List.set_cons_zero, List.set_cons_succ]
        refine wpAnyH_take (i := 16) (oi := { dst := some 54, op := Op.unOp UnOp.not 4 (Operand.tmp 53), type := 4, pos := "law.go:37", after := #[{ on := 15, ground := Ground.data }, { on := 10, ground := Ground.guard }], guard := some (10, false) }) (v := ?_) rfl (by kernel_rfl) (by kernel_rfl) (by kernel_rfl) (fun _ _ _ h => h) (Or.inl ⟨by rfl, ?_⟩) hS ?_
        rotate_left
        · intro w hSw; (try dsimp only at hSw); go_simp; try with_reducible rfl
        try simp only [Act.put, List.setIfInBounds_toArray, List.set_cons_zero, List.set_cons_succ]
        refine wpAnyH_take (i := 17) (oi := { dst := some 55, op := Op.pick (Operand.tmp 48) (Operand.const (Value.bool true)) (Operand.tmp 54), type := 4, pos := "law.go:37", after := #[{ on := 10, ground := Ground.data }, { on := 16, ground := Ground.data }], guard := none }) (v := ?_) rfl (by kernel_rfl) (by kernel_rfl) (by kernel_rfl) (fun _ _ _ h => h) (Or.inl ⟨by rfl, ?_⟩) hS ?_
        rotate_left
        · intro w hSw; (try dsimp only at hSw); go_simp; try with_reducible rfl
        try simp only [Act.put, List.setIfInBounds_toArray, List.set_cons_zero, List.set_cons_succ]
        refine wpAnyH_take (i := 18) (oi := { dst := some 6, op := Op.assign (Operand.tmp 55), type := 4, pos := "law.go:37", after := #[{ on := 17, ground := Ground.data }, { on := 15, ground := Ground.chain }, { on := 0, ground := Ground.phase }, { on := 1, ground := Ground.phase }, { on := 2, ground := Ground.phase }, { on := 3, ground := Ground.phase }, { on := 4, ground := Ground.phase }, { on := 5, ground := Ground.phase }, { on := 6, ground := Ground.phase }, { on := 7, ground := Ground.phase }, { on := 8, ground := Ground.phase }, { on := 9, ground := Ground.phase }, { on := 10, ground := Ground.phase }, { on := 11, ground := Ground.phase }, { on := 12, ground := Ground.phase }, { on := 13, ground := Ground.phase }, { on := 14, ground := Ground.phase }, { on := 15, ground := Ground.phase }, { on := 16, ground := Ground.phase }, { on := 17, ground := Ground.phase }], guard := none }) (v := ?_) rfl (by kernel_rfl) (by kernel_rfl) (by kernel_rfl) (fun _ _ _ h => h) (Or.inl ⟨by rfl, ?_⟩) hS ?_
        rotate_left
        · intro w hSw; (try dsimp only at hSw); go_simp; try with_reducible rfl
        try simp only [Act.put, List.setIfInBounds_toArray, List.set_cons_zero, List.set_cons_succ]
        refine wpAnyH_done (by kernel_rfl) ?_ _
        go_wp2_with fail
        go_ret
        exact ⟨rfl, HBA.out.trans (hB7.mono HBA.out.size)⟩
  · have e : decide (0 ≤ leftF F 3000) = false := decide_eq_false hfew
    rw [e] at hFew
    have HFew := Lib.hid hFew
    clear hFew hfew e HE HK
    go_enter Try.func3, Try.ntmps3
    go_upto_region 1 with fail
    rw [← HW.out]
    clear HW
    go_upto_region 2 with (first
      | (go_at_call 8; refine (hA _).mono ?_; rintro _ w2 ⟨rfl, hb2⟩; have HB2 := Lib.hid hb2; clear hb2)
      | (go_at_call 9; refine (HFew.out _ HB2.out).mono ?_; rintro _ _ ⟨rfl, rfl⟩))
    go_wp2_with (go_at_call 8; refine (hA _).mono ?_; rintro _ w3 ⟨rfl, hb3⟩; have HB3 := Lib.hid (HB2.out.trans (hb3.mono HB2.out.size)); clear hb3)
    go_ret
    exact ⟨rfl, HBA.out.trans (HB3.out.mono HBA.out.size)⟩
end Go.Proofs.Ytjifgipkfkhnpaa

