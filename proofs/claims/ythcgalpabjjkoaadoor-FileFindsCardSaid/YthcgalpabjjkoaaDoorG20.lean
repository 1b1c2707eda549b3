/- Texts of ours, behind one another: Sort12, Bsf12. No conditions but those that each states. -/
import Derived.Test.YthcgalpabjjkoaaDoorG13
import Derived.Deep.RegionHeld3
/- XSort12: Well formed columns stand in their names' order: what a search among them finds. -/
namespace Go.Proofs.YthcgalpabjjkoaaDoor
open Go.RowKit
set_option linter.unusedVariables false

theorem frmC_step {l : List Cn} (h : frmC l = true) {k : Nat} (hk : k + 1 < l.length) : ltC (l.getD k c0) (l.getD (k + 1) c0) = true := by
  unfold frmC at h
  rw [Bool.and_eq_true] at h
  have h1 := colsF_at h.1 hk
  unfold colF hdF at h1
  simp only [Bool.and_eq_true, Bool.or_eq_true, decide_eq_true_eq] at h1
  rcases h1.1.1 with h2 | h2
  · omega
  · exact h2
theorem frmC_lt {l : List Cn} (h : frmC l = true) {i : Nat} : ∀ {j : Nat}, i < j → j < l.length → ltC (l.getD i c0) (l.getD j c0) = true
  | 0, hij, _ => by omega
  | j + 1, hij, hj => by
    by_cases he : i = j
    · subst he; exact frmC_step h hj
    · exact ltC_trans (frmC_lt h (by omega) (by omega)) (frmC_step h hj)
/-- Ahead of a column that stands ahead of the name all do. -/
theorem ord_down {l : List Cn} (h : frmC l = true) {t : Cn} {k j : Nat} (hj : j < l.length) (hk : k ≤ j) (ho : ordC (l.getD j c0) t < 0) : ordC (l.getD k c0) t < 0 := by
  by_cases he : k = j
  · subst he; exact ho
  · rw [ordC_neg] at ho ⊢
    exact ltC_trans (frmC_lt h (by omega) hj) ho
theorem ord_up {l : List Cn} (h : frmC l = true) {t : Cn} {k j : Nat} (hk : k < l.length) (hj : j ≤ k) (ho : ¬ ordC (l.getD j c0) t < 0) : ¬ ordC (l.getD k c0) t < 0 := fun hc => ho (ord_down h hk hj hc)
/-- What stands at the first place that isn't ahead of the name has it, or none has. -/
theorem ord_none {l : List Cn} (h : frmC l = true) {t : Cn} {i : Nat} (hl : ∀ k, k < i → k < l.length → ordC (l.getD k c0) t < 0) (hi : i < l.length → ordC (l.getD i c0) t ≠ 0) (hu : i < l.length → ¬ ordC (l.getD i c0) t < 0) :
    ∀ k, k < l.length → ¬ ((l.getD k c0).s = t.s ∧ (l.getD k c0).f = t.f) := by
  intro k hk e
  have e0 := (ordC_zero _ _).2 e
  rcases Nat.lt_trichotomy k i with h1 | h1 | h1
  · have := hl k h1 hk; omega
  · subst h1; exact hi hk e0
  · have h2 := frmC_lt h h1 hk
    have h3 : ltC (l.getD i c0) t = true := by
      unfold ltC at h2 ⊢
      rw [e.1, e.2] at h2
      exact h2
    rw [← ordC_neg] at h3
    exact hu (by omega) h3
end Go.Proofs.YthcgalpabjjkoaaDoor

/- XBsf12: slices.BinarySearchFunc of columns by file.order. -/
namespace Go.Proofs.YthcgalpabjjkoaaDoor
open Go.RowKit
set_option linter.unusedVariables false
set_option maxRecDepth 100000

set_option maxHeartbeats 4000000 in
theorem bsearch_any (cs : List Cb) (t : Cn) (tp : Value) (v : Value) (w : World) (hl : cs.length ≤ 1048576) (hf : frmC (cnS cs) = true) (hr : Cols w v cs) :
    Calls Tryd.prog 28 #[v, .agg #[.string t.s, .string t.f, tp], .func (.func 29) #[] #[]] w fun e w' => ∃ (k : Nat) (ok : Bool), e = .returned (.tuple #[.int .i64 (k : Int), .bool ok]) ∧ Below w.heap.size w w' ∧
      (ok = true → k < cs.length ∧ (cs.getD k b0).c.s = t.s ∧ (cs.getD k b0).c.f = t.f) ∧ (ok = false → ∀ j, j < cs.length → ¬ ((cs.getD j b0).c.s = t.s ∧ (cs.getD j b0).c.f = t.f)) := by
  obtain ⟨ao, cap, rfl, hn, hcm⟩ := RdV.shape hr.1
  have HR := Lib.hid hr
  have HF := Lib.hid hf
  obtain ⟨n, hnl⟩ : ∃ n, n = cs.length := ⟨_, rfl⟩
  rw [← hnl] at hn hl ⊢
  have HN := Lib.hid hnl
  clear hr hf hnl
  unfold maxLen at hcm
  go_enter Tryd.func28, Tryd.ntmps28
  go_upto_region 3 with fail
  have hb0 : Below w.heap.size w (w.alloc (.cells #[.string t.s, .string t.f, tp] 31)) := (Below.refl _ _).alloc (Nat.le_refl _) _
  have k0 : (w.alloc (.cells #[.string t.s, .string t.f, tp] 31)).cell? ⟨w.heap.size, 0, none⟩ = some (.string t.s) := by simp [go_sem]
  have k1 : (w.alloc (.cells #[.string t.s, .string t.f, tp] 31)).cell? ⟨w.heap.size, 1, none⟩ = some (.string t.f) := by simp [go_sem]
  have k2 : (w.alloc (.cells #[.string t.s, .string t.f, tp] 31)).cell? ⟨w.heap.size, 2, none⟩ = some tp := by simp [go_sem]
  have kl : w.heap.size < (w.alloc (.cells #[.string t.s, .string t.f, tp] 31)).heap.size := by simp
  have HB0 := Lib.hid hb0
  have HK0 := Lib.hid (And.intro k0 (And.intro k1 (And.intro k2 kl)))
  clear hb0 k0 k1 k2 kl
  generalize w.alloc (.cells #[.string t.s, .string t.f, tp] 31) = w0 at *
  obtain ⟨g, hg⟩ : ∃ g, g = w.heap.size := ⟨_, rfl⟩
  rw [← hg] at HK0 ⊢
  replace hg := Lib.hid hg
  have HOL : Hid (∀ k, k < n → (cnS cs).getD k c0 = (cs.getD k b0).c) := Lib.hid (fun k hk => cnS_get cs k (by rw [← HN.out]; exact hk))
  have HLN : Hid ((cnS cs).length = n) := Lib.hid (by rw [cnS_len, HN.out])
  go_loopg [9, 10] n (fun m s9 s10 wz => ∃ i j : Nat, i + m = j ∧ j ≤ n ∧ s9 = .int .i64 (i : Int) ∧ s10 = .int .i64 (j : Int) ∧ Hid (∀ k, k < i → ordC ((cnS cs).getD k c0) t < 0) ∧ Hid (∀ k, j ≤ k → k < n → 0 ≤ ordC ((cnS cs).getD k c0) t) ∧ Hid (Below w.heap.size w wz) ∧
    Hid (wz.cell? ⟨g, 0, none⟩ = some (.string t.s) ∧ wz.cell? ⟨g, 1, none⟩ = some (.string t.f) ∧ wz.cell? ⟨g, 2, none⟩ = some tp ∧ g < wz.heap.size))
  case atStart => exact ⟨0, n, by omega, Nat.le_refl _, rfl, rfl, Lib.hid (fun k hk => by omega), Lib.hid (fun k h1 h2 => by omega), HB0, HK0⟩
  case round =>
    clear HB0 HK0
    obtain ⟨i, j, hij, hjn, rfl, rfl, HL, HU, HB, HK⟩ := hrel
    by_cases h0 : gk = 0
    · obtain rfl : i = j := by omega
      clear hij h0
      by_cases hin : i < n
      · have hinI : (i : Int) < (n : Int) := by omega
        go_upto_region 8 with fail
        obtain ⟨lb, lo, lc, he, hlb, f0, f1, f2, hp⟩ := col_at HR.out i (by rw [← HN.out]; omega)
        rw [← HN.out] at he
        simp only [Value.slice.injEq, true_and] at he
        obtain ⟨rfl, rfl⟩ := he
        have g0 : wr.drew.cell? ⟨lb, lo + i * 3, none⟩ = _ := (HB.out.cell (p := ⟨lb, lo + i * 3, none⟩) hlb).trans f0
        have g1 : wr.drew.cell? ⟨lb, lo + i * 3 + 1, none⟩ = _ := (HB.out.cell (p := ⟨lb, lo + i * 3 + 1, none⟩) hlb).trans f1
        have g2 : wr.drew.cell? ⟨lb, lo + i * 3 + 2, none⟩ = _ := (HB.out.cell (p := ⟨lb, lo + i * 3 + 2, none⟩) hlb).trans f2
        have HCI := HOL.out i (by omega)
        obtain ⟨O, hO⟩ : ∃ o, o = ordC (cs.getD i b0).c t := ⟨_, rfl⟩
        have hOR := fun (w' : World) => order_any (cs.getD i b0).c t (cs.getD i b0).pv tp w'
        rw [← hO] at hOR
        rw [← HCI] at hO
        replace hO := Lib.hid hO
        replace HCI := Lib.hid HCI
        have hlw : lb < wr.drew.heap.size := Nat.lt_of_lt_of_le hlb HB.out.size
        have hgw : g < wr.drew.heap.size := HK.out.2.2.2
        have m0 : wr.drew.cell? ⟨g, 0, none⟩ = _ := HK.out.1
        have m1 : wr.drew.cell? ⟨g, 1, none⟩ = _ := HK.out.2.1
        have m2 : wr.drew.cell? ⟨g, 2, none⟩ = _ := HK.out.2.2.1
        replace hOR := Lib.hid hOR
        clear f0 f1 f2 hp
        generalize (cs.getD i b0).c = d at *
        generalize (cs.getD i b0).pv = dv at *
        have hdt : decide ((i : Int) < (n : Int)) = true := by simp; omega
        go_region_held3 (fun wz => wz.cell? ⟨lb, lo + i * 3, none⟩ = some (.string d.s) ∧ wz.cell? ⟨lb, lo + i * 3 + 1, none⟩ = some (.string d.f) ∧ wz.cell? ⟨lb, lo + i * 3 + 2, none⟩ = some dv ∧ wz.cell? ⟨g, 0, none⟩ = some (.string t.s) ∧ wz.cell? ⟨g, 1, none⟩ = some (.string t.f) ∧ wz.cell? ⟨g, 2, none⟩ = some tp)
          (first | exact ⟨g0, g1, g2, m0, m1, m2⟩ | exact ⟨(hb5.cell (p := ⟨lb, lo + i * 3, none⟩) hlw).trans g0, (hb5.cell (p := ⟨lb, lo + i * 3 + 1, none⟩) hlw).trans g1, (hb5.cell (p := ⟨lb, lo + i * 3 + 2, none⟩) hlw).trans g2, (hb5.cell (p := ⟨g, 0, none⟩) hgw).trans m0, (hb5.cell (p := ⟨g, 1, none⟩) hgw).trans m1, (hb5.cell (p := ⟨g, 2, none⟩) hgw).trans m2⟩)
          ((go_at_call 29; refine (hOR.out _).mono ?_; rintro _ w5 ⟨rfl, hb5⟩))
        go_wp2_with fail
        go_ret2
        have HB5 := HB.out.drew.trans (hb5.mono HB.out.size)
        refine ⟨i, O == 0, rfl, HB5, fun h => ⟨hin, ?_⟩, fun h j hj => ?_⟩
        · have h1 := (ordC_zero _ _).1 (by rw [← hO.out]; simpa using h : ordC ((cnS cs).getD i c0) t = 0)
          rwa [HOL.out i hin] at h1
        · have h1 := ord_none HF.out (i := i) (fun k hk _ => HL.out k hk) (fun _ => by rw [← hO.out]; simpa using h) (fun h2 => Int.not_lt.2 (HU.out i (Nat.le_refl _) hin)) j (by rw [HLN.out]; exact hj)
          rwa [HOL.out j hj] at h1
      · obtain rfl : i = n := by omega
        go_upto_region 8 with fail
        have hdt : decide ((i : Int) < (i : Int)) = false := by simp
        go_quiet (fail)
        go_wp2_with fail
        go_ret2
        refine ⟨i, false, rfl, below_dr HB.out _, fun h => by simp at h, fun h j hj => ?_⟩
        have h1 := ord_none HF.out (i := i) (fun k hk _ => HL.out k hk) (fun h => by rw [HLN.out] at h; omega) (fun h => by rw [HLN.out] at h; omega) j (by rw [HLN.out]; exact hj)
        rwa [HOL.out j hj] at h1
    · have hij2 : i < j := by omega
      have hsum : IntKind.i64.wrap ((i : Int) + (j : Int)) = (i : Int) + (j : Int) := IntWalk.i64_in _ (by omega)
      have hsu : IntKind.u64.wrap ((i : Int) + (j : Int)) = (i : Int) + (j : Int) := IntWalk.u64_in _ (by omega)
      obtain ⟨h, hh⟩ : ∃ h, h = (i + j) / 2 := ⟨_, rfl⟩
      have hih : i ≤ h ∧ h < j := by omega
      have hhn : h < n := by omega
      have hhI : ((i : Int) + (j : Int)) / 2 = (h : Int) := by omega
      replace hh := Lib.hid hh
      go_upto_region 5 with fail
      clear hsum hsu hhI
      obtain ⟨lb, lo, lc, he, hlb, f0, f1, f2, hp⟩ := col_at HR.out h (by rw [← HN.out]; omega)
      rw [← HN.out] at he
      simp only [Value.slice.injEq, true_and] at he
      obtain ⟨rfl, rfl⟩ := he
      have g0 : wr.drew.cell? ⟨lb, lo + h * 3, none⟩ = _ := (HB.out.cell (p := ⟨lb, lo + h * 3, none⟩) hlb).trans f0
      have g1 : wr.drew.cell? ⟨lb, lo + h * 3 + 1, none⟩ = _ := (HB.out.cell (p := ⟨lb, lo + h * 3 + 1, none⟩) hlb).trans f1
      have g2 : wr.drew.cell? ⟨lb, lo + h * 3 + 2, none⟩ = _ := (HB.out.cell (p := ⟨lb, lo + h * 3 + 2, none⟩) hlb).trans f2
      have HCI := HOL.out h (by omega)
      obtain ⟨O, hO⟩ : ∃ o, o = ordC (cs.getD h b0).c t := ⟨_, rfl⟩
      have hOR := fun (w' : World) => order_any (cs.getD h b0).c t (cs.getD h b0).pv tp w'
      rw [← hO] at hOR
      rw [← HCI] at hO
      replace hO := Lib.hid hO
      replace HCI := Lib.hid HCI
      have hlw : lb < wr.drew.heap.size := Nat.lt_of_lt_of_le hlb HB.out.size
      have hgw : g < wr.drew.heap.size := HK.out.2.2.2
      have m0 : wr.drew.cell? ⟨g, 0, none⟩ = _ := HK.out.1
      have m1 : wr.drew.cell? ⟨g, 1, none⟩ = _ := HK.out.2.1
      have m2 : wr.drew.cell? ⟨g, 2, none⟩ = _ := HK.out.2.2.1
      replace hOR := Lib.hid hOR
      clear f0 f1 f2 hp
      generalize (cs.getD h b0).c = d at *
      generalize (cs.getD h b0).pv = dv at *
      have hhnI : (h : Int) < (n : Int) := by omega
      by_cases hO0 : O < 0
      · go_region_held3 (fun wz => wz.cell? ⟨lb, lo + h * 3, none⟩ = some (.string d.s) ∧ wz.cell? ⟨lb, lo + h * 3 + 1, none⟩ = some (.string d.f) ∧ wz.cell? ⟨lb, lo + h * 3 + 2, none⟩ = some dv ∧ wz.cell? ⟨g, 0, none⟩ = some (.string t.s) ∧ wz.cell? ⟨g, 1, none⟩ = some (.string t.f) ∧ wz.cell? ⟨g, 2, none⟩ = some tp)
          (first | exact ⟨g0, g1, g2, m0, m1, m2⟩ | exact ⟨(hb5.cell (p := ⟨lb, lo + h * 3, none⟩) hlw).trans g0, (hb5.cell (p := ⟨lb, lo + h * 3 + 1, none⟩) hlw).trans g1, (hb5.cell (p := ⟨lb, lo + h * 3 + 2, none⟩) hlw).trans g2, (hb5.cell (p := ⟨g, 0, none⟩) hgw).trans m0, (hb5.cell (p := ⟨g, 1, none⟩) hgw).trans m1, (hb5.cell (p := ⟨g, 2, none⟩) hgw).trans m2⟩)
          ((go_at_call 29; refine (hOR.out _).mono ?_; rintro _ w5 ⟨rfl, hb5⟩))
        go_wp2_with fail
        go_roundg (j - (h + 1))
        case measure => go_light; omega
        case rel =>
          go_light
          exact ⟨h + 1, j, by omega, hjn, by go_num, rfl, Lib.hid (fun k hk => ord_down HF.out (by rw [HLN.out]; exact hhn) (by omega) (by rw [← hO.out]; exact hO0)), HU, Lib.hid (HB.out.drew.trans (hb5.mono HB.out.size)),
            Lib.hid ⟨(hb5.cell (p := ⟨g, 0, none⟩) hgw).trans m0, (hb5.cell (p := ⟨g, 1, none⟩) hgw).trans m1, (hb5.cell (p := ⟨g, 2, none⟩) hgw).trans m2, Nat.lt_of_lt_of_le hgw hb5.size⟩⟩
      · go_region_held3 (fun wz => wz.cell? ⟨lb, lo + h * 3, none⟩ = some (.string d.s) ∧ wz.cell? ⟨lb, lo + h * 3 + 1, none⟩ = some (.string d.f) ∧ wz.cell? ⟨lb, lo + h * 3 + 2, none⟩ = some dv ∧ wz.cell? ⟨g, 0, none⟩ = some (.string t.s) ∧ wz.cell? ⟨g, 1, none⟩ = some (.string t.f) ∧ wz.cell? ⟨g, 2, none⟩ = some tp)
          (first | exact ⟨g0, g1, g2, m0, m1, m2⟩ | exact ⟨(hb5.cell (p := ⟨lb, lo + h * 3, none⟩) hlw).trans g0, (hb5.cell (p := ⟨lb, lo + h * 3 + 1, none⟩) hlw).trans g1, (hb5.cell (p := ⟨lb, lo + h * 3 + 2, none⟩) hlw).trans g2, (hb5.cell (p := ⟨g, 0, none⟩) hgw).trans m0, (hb5.cell (p := ⟨g, 1, none⟩) hgw).trans m1, (hb5.cell (p := ⟨g, 2, none⟩) hgw).trans m2⟩)
          ((go_at_call 29; refine (hOR.out _).mono ?_; rintro _ w5 ⟨rfl, hb5⟩))
        go_wp2_with fail
        go_roundg (h - i)
        case measure => go_light; omega
        case rel =>
          go_light
          exact ⟨i, h, by omega, by omega, rfl, rfl, HL, Lib.hid (fun k h1 h2 => Int.not_lt.1 (ord_up HF.out (by rw [HLN.out]; exact h2) h1 (by rw [← hO.out]; omega))), Lib.hid (HB.out.drew.trans (hb5.mono HB.out.size)),
            Lib.hid ⟨(hb5.cell (p := ⟨g, 0, none⟩) hgw).trans m0, (hb5.cell (p := ⟨g, 1, none⟩) hgw).trans m1, (hb5.cell (p := ⟨g, 2, none⟩) hgw).trans m2, Nat.lt_of_lt_of_le hgw hb5.size⟩⟩
end Go.Proofs.YthcgalpabjjkoaaDoor
