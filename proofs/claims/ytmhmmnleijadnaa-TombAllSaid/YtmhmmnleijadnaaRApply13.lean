/- gristref13.Apply: the document's answer of what stays of columns. -/
import Derived.Test.YtmhmmnleijadnaaSame13
namespace Go.Proofs.Ytmhmmnleijadnaa
open Go.RowKit Go.ChangeShapes Go.WideShapes Go.ChangeAt
set_option linter.unusedVariables false

/-- A column's block. -/
def ClBlk (w : World) (h : Nat) (s f : ByteArray) (u : Value) : Prop :=
  w.cell? ⟨h, 0, none⟩ = some (.string s) ∧ w.cell? ⟨h, 1, none⟩ = some (.string f) ∧ w.cell? ⟨h, 2, none⟩ = some u ∧ w.frozen? ⟨h, 2, none⟩ = false

theorem ClBlk.new (w : World) (s f : ByteArray) (u : Value) (t : TypeId) : ClBlk (w.alloc (.cells #[.string s, .string f, u] t)) w.heap.size s f u := by
  refine ⟨by simp [World.cell?_alloc_new], by simp [World.cell?_alloc_new], by simp [World.cell?_alloc_new], by simp [go_sem]⟩
theorem ClBlk.set {w : World} {h : Nat} {s f : ByteArray} {u : Value} (hb : ClBlk w h s f u) (u' : Value) : ClBlk (w.setCell ⟨h, 2, none⟩ u') h s f u' := by
  obtain ⟨h0, h1, h2, h3⟩ := hb
  refine ⟨by simp [go_sem, h0], by simp [go_sem, h1], by simp [go_sem, h2], by simp [go_sem, h3]⟩
theorem ClBlk.lt {w : World} {h : Nat} {s f : ByteArray} {u : Value} (hb : ClBlk w h s f u) : h < w.heap.size := World.block_lt_of_cell? w _ hb.1
theorem ClBlk.chg {S : Nat → Prop} {w w' : World} {h : Nat} {s f : ByteArray} {u : Value} (hb : ClBlk w h s f u) (hc : Chg S w w') (hs : ¬ S h) : ClBlk w' h s f u := by
  have hl := hb.lt
  obtain ⟨h0, h1, h2, h3⟩ := hb
  exact ⟨(hc.cell (p := ⟨h, 0, none⟩) hl hs).trans h0, (hc.cell (p := ⟨h, 1, none⟩) hl hs).trans h1, (hc.cell (p := ⟨h, 2, none⟩) hl hs).trans h2, (hc.frozen (p := ⟨h, 2, none⟩) hl hs).trans h3⟩

set_option maxHeartbeats 2000000 in
theorem rapply_any (l : List Tm) (lv : Value) (cs : List Cl) (v : Value) (w : World) (hl : l.length ≤ 140737488355328) (hlr : RdV w 4 lv l.length (l.flatMap Tm.cells))
    (hc : cs.length * 56 ≤ 140737488351232) (hp : ∀ c ∈ cs, c.ps.length * 40 ≤ 140737488351232) (hr : Cols w v cs) :
    Calls Try.prog 13 #[lv, v] w fun e w' => ∃ ao cap rs, e = .returned (.slice ao rs.length cap) ∧ rs.map Cl.tag = applied l (cs.map Cl.tag) ∧ OutOk w' w.heap.size (.slice ao rs.length cap) rs ∧ Below w.heap.size w w' := by
  obtain ⟨ao0, cap0, rfl, hlc, hcm⟩ := RdV.shape hr.1
  unfold maxLen at hcm
  go_enter Try.func13, Try.ntmps13
  go_wp2_with fail
  go_loopg [5, 6, 7, 9, 12] cs.length (fun m s5 s6 s7 s9 s12 wr => ∃ k : Nat, k + m = cs.length ∧ s12 = .int .i64 k ∧ ∃ ao cap rs, s5 = .slice ao rs.length cap ∧ Hid (rs.map Cl.tag = applied l ((cs.take k).map Cl.tag)) ∧ Hid (OutOk wr w.heap.size (.slice ao rs.length cap) rs) ∧ Hid (Below w.heap.size w wr))
  case atStart => exact ⟨0, by omega, rfl, none, 0, [], rfl, Lib.hid rfl, Lib.hid ⟨World.ownsRow_nil _ _ _ _, fun r hr => by cases hr⟩, Lib.hid (Below.refl _ _)⟩
  case round =>
    obtain ⟨k, hk, rfl, ao1, cap1, rs, rfl, htag, hout, hbel⟩ := hrel
    by_cases h0 : gk = 0
    · obtain rfl : k = cs.length := by omega
      clear hk
      go_wp2_with fail
      go_ret
      have := htag.out
      rw [List.take_length] at this
      exact ⟨_, _, rs, rfl, this, hout.out, hbel.out⟩
    · have hlt : k < cs.length := by omega
      obtain ⟨b, off, cap', he, e0, e1, e2, hpr⟩ := col_at hr k hlt
      simp only [Value.slice.injEq, true_and] at he
      obtain ⟨rfl, rfl⟩ := he
      have hbs : b < w.heap.size := World.block_lt_of_cell? w _ e0
      have d0 := (hbel.out.cell (p := ⟨b, off + k * 3, none⟩) hbs).trans e0
      have d1 := (hbel.out.cell (p := ⟨b, off + k * 3 + 1, none⟩) hbs).trans e1
      have d2 := (hbel.out.cell (p := ⟨b, off + k * 3 + 2, none⟩) hbs).trans e2
      have hbw : b < wr.heap.size := by have := hbel.out.size; omega
      clear e0 e1 e2
      have HP := Lib.hid hpr
      have HT := Lib.hid (applied_take l cs k hlt)
      have hpl := hp cs[k] (List.getElem_mem hlt)
      generalize cs[k] = c at *
      obtain ⟨cs_, cf, cpv, cps⟩ := c
      dsimp only at *
      obtain ⟨aop, capp, rfl, hplc, hpcm⟩ := RdV.shape hpr
      unfold maxLen at hpcm
      clear hpr
      have HC0 := Lib.hid ((Below.refl wr.heap.size wr).alloc (Nat.le_refl _) (.cells #[.string cs_, .string cf, .slice none 0 0] 41))
      have HK := Lib.hid (ClBlk.new wr cs_ cf (.slice none 0 0) 41)
      have hvb : ∀ i, (Value.slice ao1 rs.length cap1).ownBlock = some i → i < wr.heap.size := fun i hi => (hout.out.1.lt i hi).2
      have hH0 := hbel.out.size
      go_wp2_with fail
      clear d0 d1 d2 hbw
      generalize wr.alloc (.cells #[.string cs_, .string cf, .slice none 0 0] 41) = w1 at *
      generalize wr = wa at *
      generalize hH : wa.heap.size = H at *
      obtain ⟨m0, hm0⟩ : ∃ m, m + 1 = gk := ⟨gk - 1, by omega⟩
      go_loopg [9, 26] cps.length (fun m s9 s26 wr => ∃ j : Nat, j + m = cps.length ∧ s26 = .int .i64 j ∧ ∃ ao cap, Hid (ClBlk wr H cs_ cf (.slice ao (left l cs_ cf (cps.take j)).length cap)) ∧
        Hid (wr.ownsRow (H + 1) 38 4 (.slice ao (left l cs_ cf (cps.take j)).length cap) (left l cs_ cf (cps.take j)).length ((left l cs_ cf (cps.take j)).flatMap Pt.cells)) ∧ Hid (Below H wa wr))
      case atStart => exact ⟨0, by omega, rfl, none, 0, HK, Lib.hid (World.ownsRow_nil _ _ _ _), HC0⟩
      case round =>
        obtain ⟨j, hj, rfl, ao2, cap2, hblk, hown, hchg⟩ := hrel
        clear h0
        have hwb : Below w.heap.size w wr := hbel.out.trans (hchg.out.mono (by omega))
        have hlr2 := hlr.below hwb
        by_cases h0 : gk = 0
        · obtain rfl : j = cps.length := by omega
          clear hj
          rw [List.take_length] at hblk hown
          have HO2 := Lib.hid (hout.out.below (hH ▸ hchg.out))
          have hll := left_le l cs_ cf cps
          have HWB := Lib.hid hwb
          have hrl : rs.length ≤ cs.length := by
            have h1 := congrArg List.length htag.out
            have h2 := applied_le l ((cs.take k).map Cl.tag)
            rw [List.length_map] at h1 h2
            rw [List.length_take] at h2
            omega
          have hHw : H < wr.heap.size := hblk.out.lt
          obtain ⟨c0, c1, c2, c3⟩ := hblk.out
          clear hwb hlr2 hchg hblk HK HC0 hout hbel
          generalize left l cs_ cf cps = L at *
          by_cases hL0 : L = []
          · subst hL0
            clear hown
            go_wp2_with fail
            go_roundg m0
            case measure => go_light; omega
            case rel =>
              go_light
              exact ⟨k + 1, by omega, by go_num, ao1, cap1, rs, rfl, Lib.hid (by rw [HT.out, if_pos (by first | rfl | trivial), List.append_nil]; exact htag.out), HO2, HWB⟩
          · have hL1 : 0 < L.length := List.length_pos_iff.2 hL0
            have hd : decide (0 < (L.length : Int)) = true := by simp; omega
            have h63 : rs.length + 1 ≤ maxLen := by unfold maxLen; omega
            have hby : (rs.length + 1) * 56 ≤ 140737488355328 := by omega
            have hba : ∀ o, w.heap.size ≤ (wr.alloc o).heap.size := fun o => by have := HWB.out.size; simp; omega
            have hpo := cl_one ⟨cs_, cf, .slice ao2 L.length cap2, L⟩ ao2 L.length cap2 rfl
            go_wp2_with (at_builtin; refine wpList_append_rd _ rfl (.tmp 50) (.tmp 52) 23 rfl w.heap.size 41 (.agg #[.string .empty, .string .empty, .slice none 0 0]) 3 56 Try.underlying23 infoCl rfl (by decide) _ _ _ rfl (HO2.out.1.alloc _) (.slice (some ⟨wr.heap.size, 0, none⟩) 1 1) 1 [.string cs_, .string cf, .slice ao2 L.length cap2] rfl (RdV.lit _ _ _ 1 3 (by decide) rfl) hpo h63 hby (hba _) ?_; intro ao6 cap6 w6 hg6; have HG := Lib.hid hg6; clear hg6)
            go_roundg m0
            case measure => go_light; omega
            case rel =>
              go_light
              have hg := HG.out.ofAlloc
              refine ⟨k + 1, by omega, by go_num, ao6, cap6, rs ++ [⟨cs_, cf, .slice ao2 L.length cap2, L⟩], ?_, Lib.hid ?_, Lib.hid ?_, Lib.hid ?_⟩
              · rw [List.length_append]; rfl
              · rw [HT.out, if_neg hL0, List.map_append, htag.out]; rfl
              · rw [List.length_append]
                exact out_step HO2.out (ownsRow_mono hown.out (by omega)) (fun i hi h => by have := (hown.out.lt i hi).1; have := hvb i h; omega) hg
              · exact HWB.out.trans (hg.below HWB.out.size (fun i hi => (HO2.out.1.lt i hi).1))
        · have hjl : j < cps.length := by omega
          obtain ⟨pb, po, pcap, he, e0, e1, e2, e3⟩ := pt_at (HP.out) j hjl
          simp only [Value.slice.injEq, true_and] at he
          obtain ⟨rfl, rfl⟩ := he
          have hbs := World.block_lt_of_cell? w _ e0
          have d0 := (hwb.cell (p := ⟨pb, po + j * 4, none⟩) hbs).trans e0
          have d1 := (hwb.cell (p := ⟨pb, po + j * 4 + 1, none⟩) hbs).trans e1
          have d2 := (hwb.cell (p := ⟨pb, po + j * 4 + 2, none⟩) hbs).trans e2
          have d3 := (hwb.cell (p := ⟨pb, po + j * 4 + 3, none⟩) hbs).trans e3
          clear e0 e1 e2 e3
          have HL := Lib.hid (left_take l cs_ cf cps j hjl)
          have hLl := left_le l cs_ cf (cps.take j)
          rw [List.length_take] at hLl
          generalize cps[j] = pt at *
          obtain ⟨pt, pk, pbits, px⟩ := pt
          dsimp only at *
          have hHw : H < wr.heap.size := hblk.out.lt
          have HK4 := Lib.hid (hblk.out.chg (Chg.refl (fun _ => False) wr |>.alloc (.cells #[.int .i64 pt, .int .i64 pk, .int .u64 pbits, .string px] 38)) (fun h => h))
          obtain ⟨c0, c1, c2, c3⟩ := HK4.out
          have hcov := rcovers_any l lv cs_ cf pt _ hl (hlr2.alloc (.cells #[.int .i64 pt, .int .i64 pk, .int .u64 pbits, .string px] 38))
          have ho4 := Lib.hid (hown.out.alloc (.cells #[.int .i64 pt, .int .i64 pk, .int .u64 pbits, .string px] 38))
          have hb4 := Lib.hid (hchg.out.alloc (by omega) (.cells #[.int .i64 pt, .int .i64 pk, .int .u64 pbits, .string px] 38))
          have hz0 : (wr.alloc (.cells #[.int .i64 pt, .int .i64 pk, .int .u64 pbits, .string px] 38)).cell? ⟨wr.heap.size, 0, none⟩ = some (.int .i64 pt) := (by rw [World.cell?_alloc_at _ _ _ _ rfl]; rfl)
          have hz1 : (wr.alloc (.cells #[.int .i64 pt, .int .i64 pk, .int .u64 pbits, .string px] 38)).cell? ⟨wr.heap.size, 1, none⟩ = some (.int .i64 pk) := (by rw [World.cell?_alloc_at _ _ _ _ rfl]; rfl)
          have hz2 : (wr.alloc (.cells #[.int .i64 pt, .int .i64 pk, .int .u64 pbits, .string px] 38)).cell? ⟨wr.heap.size, 2, none⟩ = some (.int .u64 pbits) := (by rw [World.cell?_alloc_at _ _ _ _ rfl]; rfl)
          have hz3 : (wr.alloc (.cells #[.int .i64 pt, .int .i64 pk, .int .u64 pbits, .string px] 38)).cell? ⟨wr.heap.size, 3, none⟩ = some (.string px) := (by rw [World.cell?_alloc_at _ _ _ _ rfl]; rfl)
          have hzs : wr.heap.size < (wr.alloc (.cells #[.int .i64 pt, .int .i64 pk, .int .u64 pbits, .string px] 38)).heap.size := by simp
          clear hlr2
          go_wp2_with fail
          refine hcov.mono ?_
          rintro e w5 ⟨rfl, rfl⟩
          clear hcov hown hchg d0 d1 d2 d3 hblk
          generalize hw5 : wr.alloc (.cells #[.int .i64 pt, .int .i64 pk, .int .u64 pbits, .string px] 38) = w5 at *
          generalize left l cs_ cf (cps.take j) = L at *
          by_cases h2 : (l.any fun t => t.cov cs_ cf pt) = true
          · have HL2 : Hid (left l cs_ cf (cps.take (j + 1)) = L) := Lib.hid (by rw [HL.out, if_pos h2, List.append_nil])
            rw [h2]
            clear h2 HL
            go_wp2_with fail
            go_roundg (gk - 1)
            case measure => go_light; omega
            case rel =>
              go_light
              refine ⟨j + 1, by omega, by go_num, ?_⟩
              rw [HL2.out]
              exact ⟨ao2, cap2, HK4, ho4, hb4⟩
          · have HL2 : Hid (left l cs_ cf (cps.take (j + 1)) = L ++ [⟨pt, pk, pbits, px⟩]) := Lib.hid (by rw [HL.out, if_neg h2])
            rw [Bool.not_eq_true] at h2
            rw [h2]
            have h63 : L.length + 1 ≤ maxLen := by unfold maxLen; omega
            have hby : (L.length + 1) * 40 ≤ 140737488355328 := by omega
            have hba : ∀ o, H + 1 ≤ (w5.alloc o).heap.size := fun o => by simp; omega
            have hpo := pt_one ⟨pt, pk, pbits, px⟩
            clear h2 HL
            go_wp2_with (at_builtin; refine wpList_append_rd _ rfl (.tmp 40) (.tmp 42) 39 rfl (H + 1) 38 (.agg #[.int .i64 0, .int .i64 0, .int .u64 0, .string .empty]) 4 40 Try.underlying39 infoPt rfl (by decide) _ _ _ rfl (ho4.out.alloc _) (.slice (some ⟨w5.heap.size, 0, none⟩) 1 1) 1 [.int .i64 pt, .int .i64 pk, .int .u64 pbits, .string px] rfl (RdV.lit _ _ _ 1 4 (by decide) rfl) hpo h63 hby (hba _) ?_; intro ao6 cap6 w6 hg6; have HG := Lib.hid hg6; have HK6 := Lib.hid (HK4.out.chg hg6.ofAlloc.chg (fun h => by have := (ho4.out.lt _ h).1; omega)); obtain ⟨q0, q1, q2, q3⟩ := HK6.out; clear hg6 c0 c1 c2 c3)
            go_roundg (gk - 1)
            case measure => go_light; omega
            case rel =>
              go_light
              have hg := HG.out.ofAlloc
              refine ⟨j + 1, by omega, by go_num, ?_⟩
              rw [HL2.out, List.length_append, List.flatMap_append]
              exact ⟨ao6, cap6, Lib.hid (HK6.out.set _), Lib.hid (ownsRow_setCell_below hg.owns (by simp) _), Lib.hid ((hb4.out.trans (hg.below (by omega) (fun i hi => by have := (ho4.out.lt i hi).1; omega))).setCell (Nat.le_refl _) _)⟩

end Go.Proofs.Ytmhmmnleijadnaa
