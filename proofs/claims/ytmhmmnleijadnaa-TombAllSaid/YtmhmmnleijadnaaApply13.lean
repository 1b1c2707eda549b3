/- tomb.Apply: of any columns just the points that no tomb takes, in memory of the call's own. -/
import Derived.Test.YtmhmmnleijadnaaTheirs13
namespace Go.Proofs.Ytmhmmnleijadnaa
open Go.RowKit Go.ChangeShapes Go.WideShapes Go.ChangeAt
set_option linter.unusedVariables false

/-- A point; a column, whose points are the slice value pv. -/
structure Pt where
  t : Int
  k : Int
  b : Int
  x : ByteArray
def Pt.cells (p : Pt) : List Value := [.int .i64 p.t, .int .i64 p.k, .int .u64 p.b, .string p.x]
structure Cl where
  s : ByteArray
  f : ByteArray
  pv : Value
  ps : List Pt
def Cl.cells (c : Cl) : List Value := [.string c.s, .string c.f, c.pv]
def Cl.tag (c : Cl) : ByteArray × ByteArray × List Pt := (c.s, c.f, c.ps)

/-- Columns, as they are read. -/
def Cols (w : World) (v : Value) (cs : List Cl) : Prop := RdV w 3 v cs.length (cs.flatMap Cl.cells) ∧ ∀ c ∈ cs, RdV w 4 c.pv c.ps.length (c.ps.flatMap Pt.cells)

def left (l : List Tm) (s f : ByteArray) (ps : List Pt) : List Pt := ps.filter fun p => !(l.any fun t => t.cov s f p.t)
def applied (l : List Tm) (cs : List (ByteArray × ByteArray × List Pt)) : List (ByteArray × ByteArray × List Pt) :=
  (cs.map fun c => (c.1, c.2.1, left l c.1 c.2.1 c.2.2)).filter fun c => !c.2.2.isEmpty

theorem Cols.below {w w' : World} {v : Value} {cs : List Cl} (h : Cols w v cs) (hb : Below w.heap.size w w') : Cols w' v cs := ⟨h.1.below hb, fun c hc => (h.2 c hc).below hb⟩

theorem col_at {w : World} {v : Value} {cs : List Cl} (h : Cols w v cs) (i : Nat) (hi : i < cs.length) :
    ∃ b off cap, v = .slice (some ⟨b, off, none⟩) cs.length cap ∧ w.cell? ⟨b, off + i * 3, none⟩ = some (.string cs[i].s) ∧ w.cell? ⟨b, off + i * 3 + 1, none⟩ = some (.string cs[i].f) ∧
      w.cell? ⟨b, off + i * 3 + 2, none⟩ = some cs[i].pv ∧ RdV w 4 cs[i].pv cs[i].ps.length (cs[i].ps.flatMap Pt.cells) := by
  obtain ⟨b, off, cap, rfl, _, _, _, hc⟩ := RdV.some h.1 (by omega) (by omega)
  have e0 := flat_at Cl.cells 3 (fun _ => rfl) cs i hi 0 (by omega)
  have e1 := flat_at Cl.cells 3 (fun _ => rfl) cs i hi 1 (by omega)
  have e2 := flat_at Cl.cells 3 (fun _ => rfl) cs i hi 2 (by omega)
  refine ⟨b, off, cap, rfl, ?_, ?_, ?_, h.2 _ (List.getElem_mem hi)⟩
  · have := hc (i * 3 + 0) _ e0
    simpa [Cl.cells] using this
  · have := hc (i * 3 + 1) _ e1
    simpa [Cl.cells, Nat.add_assoc] using this
  · have := hc (i * 3 + 2) _ e2
    simpa [Cl.cells, Nat.add_assoc] using this

theorem pt_at {w : World} {v : Value} {l : List Pt} (h : RdV w 4 v l.length (l.flatMap Pt.cells)) (i : Nat) (hi : i < l.length) :
    ∃ b off cap, v = .slice (some ⟨b, off, none⟩) l.length cap ∧ w.cell? ⟨b, off + i * 4, none⟩ = some (.int .i64 l[i].t) ∧ w.cell? ⟨b, off + i * 4 + 1, none⟩ = some (.int .i64 l[i].k) ∧
      w.cell? ⟨b, off + i * 4 + 2, none⟩ = some (.int .u64 l[i].b) ∧ w.cell? ⟨b, off + i * 4 + 3, none⟩ = some (.string l[i].x) := by
  obtain ⟨b, off, cap, rfl, _, _, _, hc⟩ := RdV.some h (by omega) (by omega)
  have e0 := flat_at Pt.cells 4 (fun _ => rfl) l i hi 0 (by omega)
  have e1 := flat_at Pt.cells 4 (fun _ => rfl) l i hi 1 (by omega)
  have e2 := flat_at Pt.cells 4 (fun _ => rfl) l i hi 2 (by omega)
  have e3 := flat_at Pt.cells 4 (fun _ => rfl) l i hi 3 (by omega)
  refine ⟨b, off, cap, rfl, ?_, ?_, ?_, ?_⟩
  · have := hc (i * 4 + 0) _ e0
    simpa [Pt.cells] using this
  · have := hc (i * 4 + 1) _ e1
    simpa [Pt.cells, Nat.add_assoc] using this
  · have := hc (i * 4 + 2) _ e2
    simpa [Pt.cells, Nat.add_assoc] using this
  · have := hc (i * 4 + 3) _ e3
    simpa [Pt.cells, Nat.add_assoc] using this

/-- What Apply gives: columns of the call's own, whose points are the call's own. -/
def OutOk (w : World) (base : Nat) (v : Value) (rs : List Cl) : Prop :=
  w.ownsRow base 41 3 v rs.length (rs.flatMap Cl.cells) ∧
    ∀ r ∈ rs, w.ownsRow base 38 4 r.pv r.ps.length (r.ps.flatMap Pt.cells) ∧ ∀ i, r.pv.ownBlock = some i → v.ownBlock ≠ some i

theorem left_take (l : List Tm) (s f : ByteArray) (ps : List Pt) (k : Nat) (h : k < ps.length) :
    left l s f (ps.take (k + 1)) = left l s f (ps.take k) ++ (if (l.any fun t => t.cov s f ps[k].t) = true then [] else [ps[k]]) := by
  unfold left
  rw [List.take_succ_eq_append_getElem h, List.filter_append]
  congr 1
  by_cases h1 : (l.any fun t => t.cov s f ps[k].t) = true
  · simp only [List.filter_cons, h1, List.filter_nil]; rfl
  · rw [Bool.not_eq_true] at h1
    simp only [List.filter_cons, h1, List.filter_nil]; rfl

theorem left_le (l : List Tm) (s f : ByteArray) (ps : List Pt) : (left l s f ps).length ≤ ps.length := List.length_filter_le _ _

theorem applied_take (l : List Tm) (cs : List Cl) (k : Nat) (h : k < cs.length) :
    applied l ((cs.take (k + 1)).map Cl.tag) = applied l ((cs.take k).map Cl.tag) ++ (if left l cs[k].s cs[k].f cs[k].ps = [] then [] else [(cs[k].s, cs[k].f, left l cs[k].s cs[k].f cs[k].ps)]) := by
  unfold applied
  rw [List.take_succ_eq_append_getElem h, List.map_append, List.map_append, List.filter_append]
  congr 1
  by_cases h1 : left l cs[k].s cs[k].f cs[k].ps = []
  · simp [Cl.tag, h1]
  · simp [Cl.tag, h1]

theorem applied_le (l : List Tm) (cs : List (ByteArray × ByteArray × List Pt)) : (applied l cs).length ≤ cs.length := by
  unfold applied
  exact Nat.le_trans (List.length_filter_le _ _) (by simp)

theorem infoPt : (Try.prog.info? 38).map (fun i => (i.zero, i.size, i.bytes)) = some (some (.agg #[.int .i64 0, .int .i64 0, .int .u64 0, .string .empty]), 4, 40) := by kernel_rfl
theorem infoCl : (Try.prog.info? 41).map (fun i => (i.zero, i.size, i.bytes)) = some (some (.agg #[.string .empty, .string .empty, .slice none 0 0]), 3, 56) := by kernel_rfl

theorem out_step {w w' : World} {base : Nat} {v v' : Value} {rs : List Cl} {c : Cl} (ho : OutOk w base v rs) (hc : w.ownsRow base 38 4 c.pv c.ps.length (c.ps.flatMap Pt.cells))
    (hB : ∀ i, c.pv.ownBlock = some i → v.ownBlock ≠ some i) (hg : Grew w w' base 41 3 v v' (rs.length + 1) (rs.flatMap Cl.cells ++ Cl.cells c)) : OutOk w' base v' (rs ++ [c]) := by
  refine ⟨?_, fun r hr => ?_⟩
  · rw [List.length_append, List.flatMap_append]
    have e : [c].flatMap Cl.cells = Cl.cells c := by simp
    rw [e]
    exact hg.owns
  · have key : w.ownsRow base 38 4 r.pv r.ps.length (r.ps.flatMap Pt.cells) ∧ ∀ i, r.pv.ownBlock = some i → v.ownBlock ≠ some i := by
      rcases List.mem_append.1 hr with h | h
      · exact ho.2 r h
      · rw [List.mem_singleton] at h
        subst h
        exact ⟨hc, hB⟩
    refine ⟨hg.chg.owns key.1 fun i hi hs => key.2 i hi hs, fun i hi h2 => ?_⟩
    have := (key.1.lt i hi).2
    rcases hg.row i h2 with h3 | h3
    · exact key.2 i hi h3
    · omega

theorem OutOk.below {w w' : World} {base : Nat} {v : Value} {rs : List Cl} (h : OutOk w base v rs) (hb : Below w.heap.size w w') : OutOk w' base v rs :=
  ⟨(Chg.ofBelowAny (S := fun _ => False) hb).owns h.1 fun _ _ h => h, fun r hr => ⟨(Chg.ofBelowAny (S := fun _ => False) hb).owns (h.2 r hr).1 fun _ _ h => h, (h.2 r hr).2⟩⟩

theorem cl_one (c : Cl) (ao : Option Addr) (n cap : Nat) (h : c.pv = .slice ao n cap) : ∀ u ∈ Cl.cells c, u.oneCell' = true := by
  intro u hu
  simp [Cl.cells] at hu
  rcases hu with rfl | rfl | rfl
  · rfl
  · rfl
  · rw [h]; rfl
theorem pt_one (p : Pt) : ∀ u ∈ Pt.cells p, u.oneCell' = true := by
  intro u hu
  simp [Pt.cells] at hu
  rcases hu with rfl | rfl | rfl | rfl <;> rfl

set_option maxHeartbeats 2000000 in
theorem apply_any (l : List Tm) (lv : Value) (cs : List Cl) (v : Value) (w : World) (hl : l.length ≤ 140737488355328) (hlr : RdV w 4 lv l.length (l.flatMap Tm.cells))
    (hc : cs.length * 56 ≤ 140737488351232) (hp : ∀ c ∈ cs, c.ps.length * 40 ≤ 140737488351232) (hr : Cols w v cs) :
    Calls Try.prog 11 #[lv, v] w fun e w' => ∃ ao cap rs, e = .returned (.slice ao rs.length cap) ∧ rs.map Cl.tag = applied l (cs.map Cl.tag) ∧ OutOk w' w.heap.size (.slice ao rs.length cap) rs ∧ Below w.heap.size w w' := by
  obtain ⟨ao0, cap0, rfl, hlc, hcm⟩ := RdV.shape hr.1
  unfold maxLen at hcm
  go_enter Try.func11, Try.ntmps11
  go_wp2_with fail
  go_loopg [5, 7, 8, 10, 13] cs.length (fun m s5 s7 s8 s10 s13 wr => ∃ k : Nat, k + m = cs.length ∧ s13 = .int .i64 k ∧ ∃ ao cap rs, s5 = .slice ao rs.length cap ∧ Hid (rs.map Cl.tag = applied l ((cs.take k).map Cl.tag)) ∧ Hid (OutOk wr w.heap.size (.slice ao rs.length cap) rs) ∧ Hid (Below w.heap.size w wr))
  case atStart => exact ⟨0, by omega, rfl, none, 0, [], rfl, Lib.hid rfl, Lib.hid ⟨World.ownsRow_nil _ _ _ _, fun r hr => by cases hr⟩, Lib.hid (Below.refl _ _)⟩
  case round =>
    obtain ⟨k, hk, rfl, ao1, cap1, rs, rfl, htag, hout, hbel⟩ := hrel
    by_cases h0 : gk = 0
    · obtain rfl : k = cs.length := by omega
      clear hk
      go_wp2_with fail
      go_ret
      have := htag.out
      rw [List.take_length] at this
      exact ⟨_, _, rs, rfl, this, hout.out, hbel.out⟩
    · have hlt : k < cs.length := by omega
      obtain ⟨b, off, cap', he, e0, e1, e2, hpr⟩ := col_at hr k hlt
      simp only [Value.slice.injEq, true_and] at he
      obtain ⟨rfl, rfl⟩ := he
      have hbs : b < w.heap.size := World.block_lt_of_cell? w _ e0
      have d0 := (hbel.out.cell (p := ⟨b, off + k * 3, none⟩) hbs).trans e0
      have d1 := (hbel.out.cell (p := ⟨b, off + k * 3 + 1, none⟩) hbs).trans e1
      have d2 := (hbel.out.cell (p := ⟨b, off + k * 3 + 2, none⟩) hbs).trans e2
      clear e0 e1 e2
      have HP := Lib.hid hpr
      have HT := Lib.hid (applied_take l cs k hlt)
      have hpl := hp cs[k] (List.getElem_mem hlt)
      generalize cs[k] = c at *
      obtain ⟨cs_, cf, cpv, cps⟩ := c
      dsimp only at *
      obtain ⟨aop, capp, rfl, hplc, hpcm⟩ := RdV.shape hpr
      unfold maxLen at hpcm
      clear hpr
      go_wp2_with fail
      have hH0 := hbel.out.size
      have hB1 : Below w.heap.size w (wr.alloc (.cells #[.string cs_, .string cf, .slice aop cps.length capp] 41)) := hbel.out.alloc hH0 _
      have hO1 : OutOk (wr.alloc (.cells #[.string cs_, .string cf, .slice aop cps.length capp] 41)) w.heap.size (.slice ao1 rs.length cap1) rs := ⟨hout.out.1.alloc _, fun r hr => ⟨(hout.out.2 r hr).1.alloc _, (hout.out.2 r hr).2⟩⟩
      have q0 : (wr.alloc (.cells #[.string cs_, .string cf, .slice aop cps.length capp] 41)).cell? ⟨wr.heap.size, 0, none⟩ = some (.string cs_) := by rw [World.cell?_alloc_at _ _ _ _ rfl]; rfl
      have q1 : (wr.alloc (.cells #[.string cs_, .string cf, .slice aop cps.length capp] 41)).cell? ⟨wr.heap.size, 1, none⟩ = some (.string cf) := by rw [World.cell?_alloc_at _ _ _ _ rfl]; rfl
      have hHs : wr.heap.size < (wr.alloc (.cells #[.string cs_, .string cf, .slice aop cps.length capp] 41)).heap.size := by simp
      clear d0 d1 d2 hout hbel
      generalize wr.alloc (.cells #[.string cs_, .string cf, .slice aop cps.length capp] 41) = w1 at *
      generalize wr.heap.size = H at *
      have HB1 := Lib.hid hB1
      have HO1 := Lib.hid hO1
      have Q0 := Lib.hid q0
      have Q1 := Lib.hid q1
      have hls : lv.ownBlock = lv.ownBlock := rfl
      clear hB1 hO1 q0 q1 hls
      obtain ⟨m0, hm0⟩ : ∃ m, m + 1 = gk := ⟨gk - 1, by omega⟩
      go_loopg [8, 10, 20] cps.length (fun m s8 s10 s20 wr => ∃ j : Nat, j + m = cps.length ∧ s20 = .int .i64 j ∧ ∃ ao cap, s8 = .slice ao (left l cs_ cf (cps.take j)).length cap ∧
        Hid (wr.ownsRow w1.heap.size 38 4 (.slice ao (left l cs_ cf (cps.take j)).length cap) (left l cs_ cf (cps.take j)).length ((left l cs_ cf (cps.take j)).flatMap Pt.cells)) ∧ Hid (Below w1.heap.size w1 wr))
      case atStart => exact ⟨0, by omega, rfl, none, 0, rfl, Lib.hid (World.ownsRow_nil _ _ _ _), Lib.hid (Below.refl _ _)⟩
      case round =>
        obtain ⟨j, hj, rfl, ao2, cap2, rfl, hown, hbel⟩ := hrel
        clear h0
        by_cases h0 : gk = 0
        · obtain rfl : j = cps.length := by omega
          clear hj
          rw [List.take_length] at hown ⊢
          have hwb : Below w.heap.size w wr := HB1.out.trans (hbel.out.mono HB1.out.size)
          have e0 : wr.cell? ⟨H, 0, none⟩ = some (.string cs_) := (hbel.out.cell (p := ⟨H, 0, none⟩) hHs).trans Q0.out
          have e1 : wr.cell? ⟨H, 1, none⟩ = some (.string cf) := (hbel.out.cell (p := ⟨H, 1, none⟩) hHs).trans Q1.out
          have HO2 := Lib.hid (HO1.out.below hbel.out)
          have hvb : ∀ i, (Value.slice ao1 rs.length cap1).ownBlock = some i → i < w1.heap.size := fun i hi => (HO1.out.1.lt i hi).2
          have hll := left_le l cs_ cf cps
          have HWB := Lib.hid hwb
          have hrl : rs.length ≤ cs.length := by
            have h1 := congrArg List.length htag.out
            have h2 := applied_le l ((cs.take k).map Cl.tag)
            rw [List.length_map] at h1 h2
            rw [List.length_take] at h2
            omega
          clear hwb hbel HO1 Q0 Q1 HB1
          generalize left l cs_ cf cps = L at *
          by_cases hL0 : L = []
          · subst hL0
            clear hown
            go_wp2_with fail
            go_roundg m0
            case measure => go_light; omega
            case rel =>
              go_light
              exact ⟨k + 1, by omega, by go_num, ao1, cap1, rs, rfl, Lib.hid (by rw [HT.out, if_pos (by first | rfl | trivial), List.append_nil]; exact htag.out), HO2, HWB⟩
          · have hL1 : 0 < L.length := List.length_pos_iff.2 hL0
            have hd : decide (0 < (L.length : Int)) = true := by simp; omega
            have h63 : rs.length + 1 ≤ maxLen := by unfold maxLen; omega
            have hby : (rs.length + 1) * 56 ≤ 140737488355328 := by omega
            have hba : ∀ o, w.heap.size ≤ (wr.alloc o).heap.size := fun o => by have := HWB.out.size; simp; omega
            have hpo := cl_one ⟨cs_, cf, .slice ao2 L.length cap2, L⟩ ao2 L.length cap2 rfl
            go_wp2_with (at_builtin; refine wpList_append_rd _ rfl (.tmp 41) (.tmp 48) 23 rfl w.heap.size 41 (.agg #[.string .empty, .string .empty, .slice none 0 0]) 3 56 Try.underlying23 infoCl rfl (by decide) _ _ _ rfl (HO2.out.1.alloc _) (.slice (some ⟨wr.heap.size, 0, none⟩) 1 1) 1 [.string cs_, .string cf, .slice ao2 L.length cap2] rfl (RdV.lit _ _ _ 1 3 (by decide) rfl) hpo h63 hby (hba _) ?_; intro ao6 cap6 w6 hg6; have HG := Lib.hid hg6; clear hg6)
            go_roundg m0
            case measure => go_light; omega
            case rel =>
              go_light
              have hg := HG.out.ofAlloc
              refine ⟨k + 1, by omega, by go_num, ao6, cap6, rs ++ [⟨cs_, cf, .slice ao2 L.length cap2, L⟩], ?_, Lib.hid ?_, Lib.hid ?_, Lib.hid ?_⟩
              · rw [List.length_append]; rfl
              · rw [HT.out, if_neg hL0, List.map_append, htag.out]; rfl
              · rw [List.length_append]
                exact out_step HO2.out (ownsRow_mono hown.out (by omega)) (fun i hi h => by have := (hown.out.lt i hi).1; have := hvb i h; omega) hg
              · exact HWB.out.trans (hg.below HWB.out.size (fun i hi => (HO2.out.1.lt i hi).1))
        · have hjl : j < cps.length := by omega
          have hwb : Below w.heap.size w wr := HB1.out.trans (hbel.out.mono HB1.out.size)
          obtain ⟨pb, po, pcap, he, e0, e1, e2, e3⟩ := pt_at (HP.out) j hjl
          simp only [Value.slice.injEq, true_and] at he
          obtain ⟨rfl, rfl⟩ := he
          have hbs := World.block_lt_of_cell? w _ e0
          have d0 := (hwb.cell (p := ⟨pb, po + j * 4, none⟩) hbs).trans e0
          have d1 := (hwb.cell (p := ⟨pb, po + j * 4 + 1, none⟩) hbs).trans e1
          have d2 := (hwb.cell (p := ⟨pb, po + j * 4 + 2, none⟩) hbs).trans e2
          have d3 := (hwb.cell (p := ⟨pb, po + j * 4 + 3, none⟩) hbs).trans e3
          clear e0 e1 e2 e3
          have HL := Lib.hid (left_take l cs_ cf cps j hjl)
          have hLl := left_le l cs_ cf (cps.take j)
          rw [List.length_take] at hLl
          generalize cps[j] = pt at *
          obtain ⟨pt, pk, pbits, px⟩ := pt
          dsimp only at *
          have hHw : H < wr.heap.size := by have := hbel.out.size; omega
          have c0 : (wr.alloc (.cells #[.int .i64 pt, .int .i64 pk, .int .u64 pbits, .string px] 38)).cell? ⟨H, 0, none⟩ = some (.string cs_) := (World.cell?_alloc_past _ _ _ hHw).trans ((hbel.out.cell (p := ⟨H, 0, none⟩) hHs).trans Q0.out)
          have c1 : (wr.alloc (.cells #[.int .i64 pt, .int .i64 pk, .int .u64 pbits, .string px] 38)).cell? ⟨H, 1, none⟩ = some (.string cf) := (World.cell?_alloc_past _ _ _ hHw).trans ((hbel.out.cell (p := ⟨H, 1, none⟩) hHs).trans Q1.out)
          have hlr2 : RdV (wr.alloc (.cells #[.int .i64 pt, .int .i64 pk, .int .u64 pbits, .string px] 38)) 4 lv l.length (l.flatMap Tm.cells) := (hlr.below hwb).alloc _
          have hcov := tcovers_any l lv cs_ cf pt _ hl hlr2
          have ho4 := Lib.hid (hown.out.alloc (.cells #[.int .i64 pt, .int .i64 pk, .int .u64 pbits, .string px] 38))
          have hb4 := Lib.hid (hbel.out.alloc hbel.out.size (.cells #[.int .i64 pt, .int .i64 pk, .int .u64 pbits, .string px] 38))
          have hz0 : Hid ((wr.alloc (.cells #[.int .i64 pt, .int .i64 pk, .int .u64 pbits, .string px] 38)).cell? ⟨wr.heap.size, 0, none⟩ = some (.int .i64 pt)) := Lib.hid (by rw [World.cell?_alloc_at _ _ _ _ rfl]; rfl)
          have hz1 : Hid ((wr.alloc (.cells #[.int .i64 pt, .int .i64 pk, .int .u64 pbits, .string px] 38)).cell? ⟨wr.heap.size, 1, none⟩ = some (.int .i64 pk)) := Lib.hid (by rw [World.cell?_alloc_at _ _ _ _ rfl]; rfl)
          have hz2 : Hid ((wr.alloc (.cells #[.int .i64 pt, .int .i64 pk, .int .u64 pbits, .string px] 38)).cell? ⟨wr.heap.size, 2, none⟩ = some (.int .u64 pbits)) := Lib.hid (by rw [World.cell?_alloc_at _ _ _ _ rfl]; rfl)
          have hz3 : Hid ((wr.alloc (.cells #[.int .i64 pt, .int .i64 pk, .int .u64 pbits, .string px] 38)).cell? ⟨wr.heap.size, 3, none⟩ = some (.string px)) := Lib.hid (by rw [World.cell?_alloc_at _ _ _ _ rfl]; rfl)
          have hzs : wr.heap.size < (wr.alloc (.cells #[.int .i64 pt, .int .i64 pk, .int .u64 pbits, .string px] 38)).heap.size := by simp
          clear hlr2
          go_wp2_with fail
          refine hcov.mono ?_
          rintro e w5 ⟨rfl, hb5⟩
          have ho5 := Lib.hid ((Chg.ofBelowAny (S := fun _ => False) hb5).owns ho4.out fun _ _ h => h)
          have hb6 := Lib.hid (hb4.out.trans (hb5.mono hb4.out.size))
          have z0 := (hb5.cell (p := ⟨wr.heap.size, 0, none⟩) hzs).trans hz0.out
          have z1 := (hb5.cell (p := ⟨wr.heap.size, 1, none⟩) hzs).trans hz1.out
          have z2 := (hb5.cell (p := ⟨wr.heap.size, 2, none⟩) hzs).trans hz2.out
          have z3 := (hb5.cell (p := ⟨wr.heap.size, 3, none⟩) hzs).trans hz3.out
          have hs5 : w1.heap.size ≤ w5.heap.size := hb6.out.size
          clear hb5 hcov ho4 hb4 hz0 hz1 hz2 hz3 hown hbel d0 d1 d2 d3 c0 c1 hwb hzs
          generalize left l cs_ cf (cps.take j) = L at *
          by_cases h2 : (l.any fun t => t.cov cs_ cf pt) = true
          · have HL2 : Hid (left l cs_ cf (cps.take (j + 1)) = L) := Lib.hid (by rw [HL.out, if_pos h2, List.append_nil])
            rw [h2]
            clear h2 HL z0 z1 z2 z3
            go_wp2_with fail
            go_roundg (gk - 1)
            case measure => go_light; omega
            case rel =>
              go_light
              refine ⟨j + 1, by omega, by go_num, ?_⟩
              rw [HL2.out]
              exact ⟨ao2, cap2, rfl, ho5, hb6⟩
          · have HL2 : Hid (left l cs_ cf (cps.take (j + 1)) = L ++ [⟨pt, pk, pbits, px⟩]) := Lib.hid (by rw [HL.out, if_neg h2])
            rw [Bool.not_eq_true] at h2
            rw [h2]
            have h63 : L.length + 1 ≤ maxLen := by unfold maxLen; omega
            have hby : (L.length + 1) * 40 ≤ 140737488355328 := by omega
            have hba : ∀ o, w1.heap.size ≤ (w5.alloc o).heap.size := fun o => by simp; omega
            have hpo := pt_one ⟨pt, pk, pbits, px⟩
            clear h2 HL
            go_wp2_with (at_builtin; refine wpList_append_rd _ rfl (.tmp 33) (.tmp 35) 39 rfl w1.heap.size 38 (.agg #[.int .i64 0, .int .i64 0, .int .u64 0, .string .empty]) 4 40 Try.underlying39 infoPt rfl (by decide) _ _ _ rfl (ho5.out.alloc _) (.slice (some ⟨w5.heap.size, 0, none⟩) 1 1) 1 [.int .i64 pt, .int .i64 pk, .int .u64 pbits, .string px] rfl (RdV.lit _ _ _ 1 4 (by decide) rfl) hpo h63 hby (hba _) ?_; intro ao6 cap6 w6 hg6; have HG := Lib.hid hg6; clear hg6)
            go_roundg (gk - 1)
            case measure => go_light; omega
            case rel =>
              go_light
              have hg := HG.out.ofAlloc
              refine ⟨j + 1, by omega, by go_num, ?_⟩
              rw [HL2.out, List.length_append, List.flatMap_append]
              exact ⟨ao6, cap6, rfl, Lib.hid hg.owns, Lib.hid (hb6.out.trans (hg.below hb6.out.size (fun i hi => (ho5.out.lt i hi).1)))⟩

end Go.Proofs.Ytmhmmnleijadnaa
