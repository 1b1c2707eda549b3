/- gristlaw13.ours: the same tombs again; gristref13.Same: true of what reads alike. -/
import Derived.Test.YtmhmmnleijadnaaTheirs13
namespace Go.Proofs.Ytmhmmnleijadnaa
open Go.RowKit Go.ChangeShapes Go.WideShapes Go.ChangeAt
set_option linter.unusedVariables false

theorem infoTombR : (Try.prog.info? 32).map (fun i => (i.zero, i.size, i.bytes)) = some (some (.agg #[.string .empty, .string .empty, .int .i64 0, .int .i64 0]), 4, 48) := by kernel_rfl

set_option maxHeartbeats 1000000 in
theorem ours_any (l : List Tm) (v : Value) (w : World) (hl : l.length * 48 ≤ 140737488351232) (hr : RdV w 4 v l.length (l.flatMap Tm.cells)) :
    Calls Try.prog 21 #[v] w fun e w' => ∃ ao cap, e = .returned (.slice ao l.length cap) ∧ w'.ownsRow w.heap.size 32 4 (.slice ao l.length cap) l.length (l.flatMap Tm.cells) ∧ Below w.heap.size w w' := by
  obtain ⟨ao0, cap0, rfl, hlc, hcm⟩ := RdV.shape hr
  unfold maxLen at hcm
  go_enter Try.func21, Try.ntmps21
  go_wp2_with fail
  go_loopg [3, 4, 7] l.length (fun m s3 s4 s7 wr => ∃ k : Nat, k + m = l.length ∧ s7 = .int .i64 k ∧ ∃ ao cap, s3 = .slice ao k cap ∧ wr.ownsRow w.heap.size 32 4 (.slice ao k cap) k ((l.take k).flatMap Tm.cells) ∧ Below w.heap.size w wr)
  case atStart => exact ⟨0, by omega, rfl, none, 0, rfl, World.ownsRow_nil _ _ _ _, Below.refl _ _⟩
  case round =>
    obtain ⟨k, hk, rfl, ao1, cap1, rfl, hown, hbel⟩ := hrel
    by_cases h0 : gk = 0
    · obtain rfl : k = l.length := by omega
      clear hk
      rw [List.take_length] at hown
      have HO := Lib.hid hown
      have HB := Lib.hid hbel
      clear hown hbel
      go_wp2_with fail
      go_ret
      exact ⟨_, _, rfl, HO.out, HB.out⟩
    · have hlt : k < l.length := by omega
      obtain ⟨b, off, cap', he, c0, c1, c2, c3⟩ := tomb_at hr k hlt
      simp only [Value.slice.injEq, true_and] at he
      obtain ⟨rfl, rfl⟩ := he
      have hbs : b < w.heap.size := World.block_lt_of_cell? w _ c0
      have e0 := (hbel.cell (p := ⟨b, off + k * 4, none⟩) hbs).trans c0
      have e1 := (hbel.cell (p := ⟨b, off + k * 4 + 1, none⟩) hbs).trans c1
      have e2 := (hbel.cell (p := ⟨b, off + k * 4 + 2, none⟩) hbs).trans c2
      have e3 := (hbel.cell (p := ⟨b, off + k * 4 + 3, none⟩) hbs).trans c3
      clear c0 c1 c2 c3
      have HT := Lib.hid (cells_take l k hlt)
      generalize l[k] = t at *
      obtain ⟨ts, tf, ta, tb⟩ := t
      dsimp only at *
      go_upto_region 5 with fail
      have hod : wr.drew.ownsRow w.heap.size 32 4 (.slice ao1 k cap1) k ((l.take k).flatMap Tm.cells) := hown
      have hbd : Below w.heap.size w wr.drew := hbel.drew
      have hbw : b < wr.drew.heap.size := World.block_lt_of_cell? wr _ e0
      have hbo : ∀ i, (Value.slice ao1 k cap1).ownBlock = some i → i ≠ b := fun i hi e => by have := (hod.lt i hi).1; omega
      have h63 : k + 1 ≤ maxLen := by unfold maxLen; omega
      have hby : (k + 1) * 48 ≤ 140737488355328 := by omega
      have hba : ∀ o, w.heap.size ≤ (wr.drew.alloc o).heap.size := fun o => by have := hbel.size; have e : wr.drew.heap.size = wr.heap.size := rfl; simp; omega
      go_region_held3 (fun w' => w'.cell? ⟨b, off + k * 4, none⟩ = some (.string ts) ∧ w'.cell? ⟨b, off + k * 4 + 1, none⟩ = some (.string tf) ∧ w'.cell? ⟨b, off + k * 4 + 2, none⟩ = some (.int .i64 ta) ∧ w'.cell? ⟨b, off + k * 4 + 3, none⟩ = some (.int .i64 tb))
          (first
            | exact ⟨e0, e1, e2, e3⟩
            | exact ⟨(World.cell?_alloc_past _ _ _ hbw).trans e0, (World.cell?_alloc_past _ _ _ hbw).trans e1, (World.cell?_alloc_past _ _ _ hbw).trans e2, (World.cell?_alloc_past _ _ _ hbw).trans e3⟩
            | exact ⟨(hCg.cell (by exact hbw) (by exact fun h => hnb h rfl)).trans e0, (hCg.cell (by exact hbw) (by exact fun h => hnb h rfl)).trans e1, (hCg.cell (by exact hbw) (by exact fun h => hnb h rfl)).trans e2, (hCg.cell (by exact hbw) (by exact fun h => hnb h rfl)).trans e3⟩)
          ((refine step_append_rd (wr.drew.alloc _) rfl (.tmp 10) (.tmp 32) 22 rfl w.heap.size 32 (.agg #[.string .empty, .string .empty, .int .i64 0, .int .i64 0]) 4 48 Try.underlying22 infoTombR rfl (by decide) (.slice ao1 k cap1) k ((l.take k).flatMap Tm.cells) rfl (hod.alloc _) (.slice (some ⟨wr.drew.heap.size, 0, none⟩) 1 1) 1 [.string ts, .string tf, .int .i64 ta, .int .i64 tb] rfl (RdV.lit _ _ _ 1 4 (by decide) rfl) (tm_one _ _ _ _) h63 hby (hba _) ?_; intro ao6 cap6 w6 hg6; have HG := Lib.hid hg6.ofAlloc; have hCg := HG.out.chg; have hnb := hbo b; clear hg6))
      all_goals go_wp2
      go_roundg (gk - 1)
      case measure => go_light; omega
      case rel =>
        go_light
        have hg := HG.out
        refine ⟨k + 1, by omega, by go_num, ao6, cap6, rfl, ?_, hbd.trans (hg.below hbd.size (fun i hi => (hod.lt i hi).1))⟩
        rw [HT.out]
        exact hg.owns

set_option maxHeartbeats 1000000 in
theorem sameTombs_any (l : List Tm) (a b : Value) (w : World) (ha : RdV w 4 a l.length (l.flatMap Tm.cells)) (hb : RdV w 4 b l.length (l.flatMap Tm.cells)) :
    Calls Try.prog 20 #[a, b] w fun e w' => e = .returned (.bool true) ∧ ∃ m, w' = w.drewN m := by
  obtain ⟨ao, ac, rfl, hx1, hx2⟩ := RdV.shape ha
  obtain ⟨bo, bc, rfl, _, _⟩ := RdV.shape hb
  unfold maxLen at hx2
  go_enter Try.func20, Try.ntmps20
  go_wp2_with fail
  go_loopg [5, 13] l.length (fun m s5 s13 wr => ∃ k : Nat, k + m = l.length ∧ s13 = .int .i64 k ∧ ∃ q, wr = w.drewN q)
  case atStart => exact ⟨0, by omega, rfl, 0, rfl⟩
  case round =>
    obtain ⟨k, hk, rfl, q, rfl⟩ := hrel
    by_cases h0 : gk = 0
    · obtain rfl : k = l.length := by omega
      go_wp2_with fail
      go_ret
      exact ⟨rfl, q, rfl⟩
    · have hkl : k < l.length := by omega
      obtain ⟨b1, o1, c1, he1, hz1⟩ := tomb_at ha k hkl
      obtain ⟨b2, o2, c2, he2, hz2⟩ := tomb_at hb k hkl
      simp only [Value.slice.injEq, true_and] at he1 he2
      obtain ⟨rfl, rfl⟩ := he1
      obtain ⟨rfl, rfl⟩ := he2
      generalize l[k] = t at *
      obtain ⟨ts, tf, ta, tb⟩ := t
      dsimp only at *
      obtain ⟨x0, x1, x2, x3⟩ := hz1
      obtain ⟨y0, y1, y2, y3⟩ := hz2
      go_upto_region 6 with fail
      go_quiet (fail)
      go_wp2_with fail
      go_roundg (gk - 1)
      case measure => go_light; omega
      case rel =>
        go_light
        exact ⟨k + 1, by omega, by go_num, _, rfl⟩
end Go.Proofs.Ytmhmmnleijadnaa
