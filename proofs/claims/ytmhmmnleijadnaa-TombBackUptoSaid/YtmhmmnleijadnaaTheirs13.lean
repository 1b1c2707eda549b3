/- gristlaw13's awake and theirs: true; the same tombs again, in memory of the call's own. -/
import Derived.Test.YtmhmmnleijadnaaTomb13
import Derived.Test.YtmhmmnleijadnaaBytes
import Derived.Deep.RegionHeld3
namespace Go.Proofs.Ytmhmmnleijadnaa
open Go.RowKit Go.ChangeShapes Go.WideShapes Go.ChangeAt
set_option linter.unusedVariables false

set_option maxHeartbeats 400000 in
theorem awake_any (w : World) : Calls Try.prog 9 #[] w fun e w' => e = .returned (.bool true) ∧ Below w.heap.size w w' := by
  go_enter Try.func9, Try.ntmps9
  go_wp2_with fail
  refine (tcovers_any [⟨⟨#[115]⟩, .empty, 0, 9⟩] _ ⟨#[115]⟩ ⟨#[102]⟩ 9 _ (by simp) (RdV.lit w _ _ 1 4 (by decide) rfl)).mono ?_
  rintro e w1 ⟨rfl, hb⟩
  have HB := Lib.hid ((Below.refl w.heap.size w).alloc (Nat.le_refl _) (.cells #[.string ⟨#[115]⟩, .string .empty, .int .i64 0, .int .i64 9] 45) |>.trans (hb.mono (by simp)))
  clear hb
  have hc : Hid (([⟨⟨#[115]⟩, .empty, 0, 9⟩] : List Tm).any (fun t => t.cov ⟨#[115]⟩ ⟨#[102]⟩ 9) = true) := Lib.hid (by
    have e : ByteArray.empty.toList = [] := by simp
    simp [Tm.cov, e])
  rw [hc.out]
  go_wp2_with fail
  go_ret
  exact ⟨rfl, HB.out⟩

theorem infoTomb : (Try.prog.info? 45).map (fun i => (i.zero, i.size, i.bytes)) = some (some (.agg #[.string .empty, .string .empty, .int .i64 0, .int .i64 0]), 4, 48) := by kernel_rfl

theorem cells_take (l : List Tm) (k : Nat) (h : k < l.length) : (l.take (k + 1)).flatMap Tm.cells = (l.take k).flatMap Tm.cells ++ [.string l[k].s, .string l[k].f, .int .i64 l[k].a, .int .i64 l[k].b] := by
  rw [List.take_succ_eq_append_getElem h, List.flatMap_append]; rfl

theorem tm_one (s f : ByteArray) (a b : Int) : ∀ u ∈ [Value.string s, .string f, .int .i64 a, .int .i64 b], u.oneCell' = true := by
  intro u hu
  simp at hu
  rcases hu with rfl | rfl | rfl | rfl <;> rfl

set_option maxHeartbeats 1000000 in
theorem theirs_any (l : List Tm) (v : Value) (w : World) (hl : l.length * 48 ≤ 140737488351232) (hr : RdV w 4 v l.length (l.flatMap Tm.cells)) :
    Calls Try.prog 12 #[v] w fun e w' => ∃ ao cap, e = .returned (.slice ao l.length cap) ∧ w'.ownsRow w.heap.size 45 4 (.slice ao l.length cap) l.length (l.flatMap Tm.cells) ∧ Below w.heap.size w w' := by
  obtain ⟨ao0, cap0, rfl, hlc, hcm⟩ := RdV.shape hr
  unfold maxLen at hcm
  go_enter Try.func12, Try.ntmps12
  go_wp2_with fail
  go_loopg [3, 4, 7] l.length (fun m s3 s4 s7 wr => ∃ k : Nat, k + m = l.length ∧ s7 = .int .i64 k ∧ ∃ ao cap, s3 = .slice ao k cap ∧ wr.ownsRow w.heap.size 45 4 (.slice ao k cap) k ((l.take k).flatMap Tm.cells) ∧ Below w.heap.size w wr)
  case atStart => exact ⟨0, by omega, rfl, none, 0, rfl, World.ownsRow_nil _ _ _ _, Below.refl _ _⟩
  case round =>
    obtain ⟨k, hk, rfl, ao1, cap1, rfl, hown, hbel⟩ := hrel
    by_cases h0 : gk = 0
    · obtain rfl : k = l.length := by omega
      clear hk
      rw [List.take_length] at hown
      have HO := Lib.hid hown
      have HB := Lib.hid hbel
      clear hown hbel
      go_wp2_with fail
      go_ret
      exact ⟨_, _, rfl, HO.out, HB.out⟩
    · have hlt : k < l.length := by omega
      obtain ⟨b, off, cap', he, c0, c1, c2, c3⟩ := tomb_at hr k hlt
      simp only [Value.slice.injEq, true_and] at he
      obtain ⟨rfl, rfl⟩ := he
      have hbs : b < w.heap.size := World.block_lt_of_cell? w _ c0
      have e0 := (hbel.cell (p := ⟨b, off + k * 4, none⟩) hbs).trans c0
      have e1 := (hbel.cell (p := ⟨b, off + k * 4 + 1, none⟩) hbs).trans c1
      have e2 := (hbel.cell (p := ⟨b, off + k * 4 + 2, none⟩) hbs).trans c2
      have e3 := (hbel.cell (p := ⟨b, off + k * 4 + 3, none⟩) hbs).trans c3
      clear c0 c1 c2 c3
      have HT := Lib.hid (cells_take l k hlt)
      generalize l[k] = t at *
      obtain ⟨ts, tf, ta, tb⟩ := t
      dsimp only at *
      go_upto_region 5 with fail
      have hod : wr.drew.ownsRow w.heap.size 45 4 (.slice ao1 k cap1) k ((l.take k).flatMap Tm.cells) := hown
      have hbd : Below w.heap.size w wr.drew := hbel.drew
      have hbw : b < wr.drew.heap.size := World.block_lt_of_cell? wr _ e0
      have hbo : ∀ i, (Value.slice ao1 k cap1).ownBlock = some i → i ≠ b := fun i hi e => by have := (hod.lt i hi).1; omega
      have h63 : k + 1 ≤ maxLen := by unfold maxLen; omega
      have hby : (k + 1) * 48 ≤ 140737488355328 := by omega
      have hba : ∀ o, w.heap.size ≤ (wr.drew.alloc o).heap.size := fun o => by have := hbel.size; have e : wr.drew.heap.size = wr.heap.size := rfl; simp; omega
      go_region_held3 (fun w' => w'.cell? ⟨b, off + k * 4, none⟩ = some (.string ts) ∧ w'.cell? ⟨b, off + k * 4 + 1, none⟩ = some (.string tf) ∧ w'.cell? ⟨b, off + k * 4 + 2, none⟩ = some (.int .i64 ta) ∧ w'.cell? ⟨b, off + k * 4 + 3, none⟩ = some (.int .i64 tb))
          (first
            | exact ⟨e0, e1, e2, e3⟩
            | exact ⟨(World.cell?_alloc_past _ _ _ hbw).trans e0, (World.cell?_alloc_past _ _ _ hbw).trans e1, (World.cell?_alloc_past _ _ _ hbw).trans e2, (World.cell?_alloc_past _ _ _ hbw).trans e3⟩
            | exact ⟨(hCg.cell (by exact hbw) (by exact fun h => hnb h rfl)).trans e0, (hCg.cell (by exact hbw) (by exact fun h => hnb h rfl)).trans e1, (hCg.cell (by exact hbw) (by exact fun h => hnb h rfl)).trans e2, (hCg.cell (by exact hbw) (by exact fun h => hnb h rfl)).trans e3⟩)
          ((refine step_append_rd (wr.drew.alloc _) rfl (.tmp 10) (.tmp 32) 27 rfl w.heap.size 45 (.agg #[.string .empty, .string .empty, .int .i64 0, .int .i64 0]) 4 48 Try.underlying27 infoTomb rfl (by decide) (.slice ao1 k cap1) k ((l.take k).flatMap Tm.cells) rfl (hod.alloc _) (.slice (some ⟨wr.drew.heap.size, 0, none⟩) 1 1) 1 [.string ts, .string tf, .int .i64 ta, .int .i64 tb] rfl (RdV.lit _ _ _ 1 4 (by decide) rfl) (tm_one _ _ _ _) h63 hby (hba _) ?_; intro ao6 cap6 w6 hg6; have HG := Lib.hid hg6.ofAlloc; have hCg := HG.out.chg; have hnb := hbo b; clear hg6))
      all_goals go_wp2
      go_roundg (gk - 1)
      case measure => go_light; omega
      case rel =>
        go_light
        have hg := HG.out
        refine ⟨k + 1, by omega, by go_num, ao6, cap6, rfl, ?_, hbd.trans (hg.below hbd.size (fun i hi => (hod.lt i hi).1))⟩
        rw [HT.out]
        exact hg.owns

end Go.Proofs.Ytmhmmnleijadnaa
