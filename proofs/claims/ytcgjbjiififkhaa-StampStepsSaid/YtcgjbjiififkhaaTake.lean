/- The contract of pack.take. -/
import Derived.Test.YtcgjbjiififkhaaWidths
namespace Go.Proofs.Ytcgjbjiififkhaa
open Go.RowKit
set_option linter.unusedVariables false

def uV (x : Nat) : Value := .int .u64 (x : Int)
/-- A slice of numbers. -/
def Nums (w : World) (v : Value) (l : List Nat) : Prop := RdV w 1 v l.length (l.map uV)

theorem num_at {w : World} {v : Value} {l : List Nat} (h : Nums w v l) (i : Nat) (hi : i < l.length) :
    ∃ b off cap, v = .slice (some ⟨b, off, none⟩) l.length cap ∧ b < w.heap.size ∧ w.cell? ⟨b, off + i, none⟩ = some (.int .u64 (l.getD i 0 : Nat)) := by
  obtain ⟨b, off, cap, rfl, _, _, hb, hc⟩ := RdV.some h (by omega) (by decide)
  exact ⟨b, off, cap, rfl, hb, by have := hc i (uV l[i]) (by simp [hi]); simpa [uV, hi] using this⟩

def takeR (l : List Nat) : Int × Int := match takeS l with | some (s, w) => (s, ((min (60 / w) l.length : Nat) : Int)) | none => (-1, 0)

theorem most_next (l : List Nat) (j M : Nat) (hj : j < l.length) (h : ∀ w, M ≤ w ↔ fitsB (l.take j) w = true) : ∀ w, max M (bl (l.getD j 0)) ≤ w ↔ fitsB (l.take (j + 1)) w = true := by
  intro w
  have e : l.getD j 0 = l[j] := by simp [hj]
  rw [e]
  have h1 := h w
  unfold fitsB at h1 ⊢
  rw [List.take_succ_eq_append_getElem hj, List.all_append, Bool.and_eq_true, ← h1]
  simp only [List.all_cons, List.all_nil, Bool.and_true, decide_eq_true_eq]
  rw [← bl_le]
  omega

theorem bl_le64 (v : Nat) (h : v < 18446744073709551616) : bl v ≤ 64 := by rw [bl_le]; exact h

theorem tdiv60 (W : Nat) : (60 : Int).tdiv (W : Int) = ((60 / W : Nat) : Int) := by
  rw [Int.tdiv_eq_ediv_of_nonneg (by omega)]; simp

set_option maxHeartbeats 2000000 in
set_option maxRecDepth 100000 in
theorem take_any (l : List Nat) (v : Value) (w : World) (hl : l.length ≤ 140737488355328) (hx : ∀ x ∈ l, x < 18446744073709551616) (hr : Nums w v l) :
    Calls Try.prog 34 #[v] w fun e w' => e = .returned (.tuple #[.int .i64 (takeR l).1, .int .i64 (takeR l).2]) ∧ Below w.heap.size w w' := by
  obtain ⟨ao0, cap0, rfl, hnc, hcm⟩ := RdV.shape hr
  unfold maxLen at hcm
  have hidx : ∀ (s : Nat) (w : World), s < 14 → (Instr.index 64 (.agg wArr) (.int .i64 (s : Int))).run Try.prog w = .ok (.int .i64 (wds.getD s 0 : Nat)) w := by
    intro s w hs
    have hcase : s = 0 ∨ s = 1 ∨ s = 2 ∨ s = 3 ∨ s = 4 ∨ s = 5 ∨ s = 6 ∨ s = 7 ∨ s = 8 ∨ s = 9 ∨ s = 10 ∨ s = 11 ∨ s = 12 ∨ s = 13 := by omega
    rcases hcase with rfl | rfl | rfl | rfl | rfl | rfl | rfl | rfl | rfl | rfl | rfl | rfl | rfl | rfl <;> rfl
  go_enter Try.func34, Try.ntmps34
  go_upto_region 1 with (fail)
  go_wp2_with (refine Calls.mono (widths_any _) ?_; rintro _ _ ⟨rfl, rfl⟩)
  generalize wArr = A at *
  go_loopg [11] 14 (fun m s11 wr => ∃ s : Nat, s + m = 14 ∧ s11 = .int .i64 (s : Int) ∧ Hid (takeF l s (wds.drop s) = takeS l) ∧ Hid (Below w.heap.size w wr))
  case atStart => exact ⟨0, rfl, rfl, Lib.hid rfl, Lib.hid ((Below.refl _ _).alloc (Nat.le_refl _) _)⟩
  case round =>
    obtain ⟨s, hm, rfl, hT, hB⟩ := hrel
    by_cases h0 : gk = 0
    · obtain rfl : s = 14 := by omega
      go_wp2_with fail
      go_ret2
      refine ⟨?_, hB.out⟩
      have h := hT.out
      have e : takeF l 14 (List.drop 14 wds) = none := rfl
      rw [e] at h
      simp only [takeR, ← h]
      rfl
    · have hs : s < 14 := by omega
      have hI := hidx s wr hs
      have hW := wds_get s hs
      have hTS := Lib.hid (takeF_step l s hs)
      clear hidx
      obtain ⟨W, hWe⟩ : ∃ W, W = wds.getD s 0 := ⟨_, rfl⟩
      rw [← hWe] at hI hW hTS
      obtain ⟨q, hqe⟩ : ∃ q, q = 60 / W := ⟨_, rfl⟩
      rw [← hqe] at hTS
      have hQ : wrap64 (Int.tdiv 60 (W : Int)) = (q : Int) := by
        rw [tdiv60, ← hqe, ← IntWalk.i64_left]
        exact IntWalk.i64_in _ (by have : 60 / W ≤ 60 := Nat.div_le_self _ _; omega)
      have hq1 : q ≤ 60 := by rw [hqe]; exact Nat.div_le_self _ _
      have hW0 : ¬ W = 0 := by omega
      obtain ⟨n, hne⟩ : ∃ n, n = min q l.length := ⟨_, rfl⟩
      have hnl : n ≤ l.length := by omega
      have HNE := Lib.hid hne
      have HWE := Lib.hid hWe
      have HQE := Lib.hid hqe
      clear hWe hqe
      go_upto_region 4 with (fail)
      go_cut [6] (fun s6 wx => s6 = .int .i64 (n : Int) ∧ wx = wr)
      case first =>
        have hmin : (if (l.length : Int) < (q : Int) then (l.length : Int) else (q : Int)) = (n : Int) := by split <;> omega
        clear hne
        go_wp2_with fail
        all_goals go_meet
        all_goals go_light
        all_goals (refine ⟨?_, rfl⟩; congr 1; have h1 := HNE.out; have h2 := HQE.out; clear HNE HQE; subst h2; have h3 : ((60 / W : Nat) : Int) = 60 / (W : Int) := (by simp); omega)
      case rest =>
      obtain ⟨rfl, rfl⟩ := hcut
      clear hne hQ hI
      obtain ⟨g0, hg0⟩ : ∃ g, g = gk := ⟨gk, rfl⟩
      rw [← hg0] at hm h0
      have HG0 := Lib.hid hg0
      clear hg0
      go_wp2_with fail
      go_loopg [7, 24] n (fun m s7 s24 wr => ∃ j M : Nat, j + m = n ∧ s24 = .int .i64 (j : Int) ∧ s7 = .int .i64 (M : Int) ∧ M ≤ 64 ∧ Hid (∀ w, M ≤ w ↔ fitsB (l.take j) w = true) ∧ Hid (Below w.heap.size w wr))
      case atStart => exact ⟨0, 0, by omega, rfl, rfl, by omega, Lib.hid (fun w => by simp [fitsB]), hB⟩
      case round =>
        clear hB
        obtain ⟨j, M, hj, rfl, rfl, hM, hF, hB⟩ := hrel
        by_cases h2 : gk = 0
        · obtain rfl : j = n := by omega
          clear hj
          have hF' : M ≤ W ↔ fitsB (l.take q) W = true := by
            have e : l.take j = l.take q := by
              have := HNE.out
              by_cases hc : q ≤ l.length
              · rw [show j = q by omega]
              · rw [List.take_of_length_le (by omega), List.take_of_length_le (by omega)]
            rw [← e]; exact hF.out W
          have HF := Lib.hid hF'
          clear hF'
          by_cases hMW : M ≤ W
          · have hMW' : (M : Int) ≤ (W : Int) := by omega
            go_wp2_with fail
            go_ret2
            go_light
            refine ⟨?_, hB.out⟩
            have h := hT.out
            rw [hTS.out, if_pos (HF.out.1 hMW)] at h
            simp only [takeR, ← h]
            rw [← HQE.out, ← HNE.out]
            rfl
          · have hMW' : ¬ (M : Int) ≤ (W : Int) := by omega
            go_wp2_with fail
            go_roundg (g0 - 1)
            case measure => go_light; have := HG0.out; omega
            case rel =>
              go_light
              refine ⟨s + 1, by omega, by go_num, ?_, hB⟩
              have h := hT.out
              rw [hTS.out, if_neg (fun h => hMW (HF.out.2 h))] at h
              exact Lib.hid h
        · have hjn : j < n := by omega
          have hN : Nums wr (.slice ao0 l.length cap0) l := RdV.below hr hB.out
          obtain ⟨b, off, cap, he, hb, hc⟩ := num_at hN j (by omega)
          simp only [Value.slice.injEq, true_and] at he
          obtain ⟨rfl, rfl⟩ := he
          have hv : l.getD j 0 < 18446744073709551616 := by
            have : j < l.length := by omega
            rw [show l.getD j 0 = l[j] by simp [this]]
            exact hx _ (List.getElem_mem this)
          have hF2 := Lib.hid (most_next l j M (by omega) hF.out)
          clear hF hN
          generalize l.getD j 0 = x at *
          have hL := len64_any x hv wr
          have hbl := bl_le64 x hv
          generalize bl x = X at *
          go_upto_region 9 with fail
          go_wp2_with (refine Calls.mono hL ?_; rintro _ _ ⟨rfl, rfl⟩)
          all_goals go_roundg (gk - 1)
          all_goals (try (case measure => go_light; omega))
          all_goals (try go_light)
          all_goals (refine ⟨j + 1, max M X, by omega, by go_num, ?_, by omega, hF2, hB⟩)
          all_goals (congr 1; omega)

end Go.Proofs.Ytcgjbjiififkhaa
