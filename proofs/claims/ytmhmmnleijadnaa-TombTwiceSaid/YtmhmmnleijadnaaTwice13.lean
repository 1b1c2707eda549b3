/- TombTwice's walk: what was applied once leaves nothing to be applied; the columns that are handed in stay. -/
import Derived.Test.YtmhmmnleijadnaaApplies13
import Derived.StillTailTactics
namespace Go.Proofs.Ytmhmmnleijadnaa
open Go.RowKit Go.ChangeShapes Go.WideShapes Go.ChangeAt
set_option linter.unusedVariables false

theorem applied_mem (l : List Tm) (cs : List (ByteArray × ByteArray × List Pt)) (x : ByteArray × ByteArray × List Pt) (h : x ∈ applied l cs) :
    x.2.2 ≠ [] ∧ (∀ p ∈ x.2.2, (l.any fun t => t.cov x.1 x.2.1 p.t) = false) ∧ ∃ c ∈ cs, x.2.2.length ≤ c.2.2.length := by
  unfold applied at h
  rw [List.mem_filter] at h
  obtain ⟨h1, h2⟩ := h
  obtain ⟨c, hc, rfl⟩ := List.mem_map.1 h1
  refine ⟨by simpa using h2, fun p hp => ?_, c, hc, left_le _ _ _ _⟩
  have := (List.mem_filter.1 hp).2
  simpa using this

theorem applied_twice (l : List Tm) (cs : List (ByteArray × ByteArray × List Pt)) : applied l (applied l cs) = applied l cs := by
  have h1 : ∀ x ∈ applied l cs, (x.1, x.2.1, left l x.1 x.2.1 x.2.2) = x := by
    intro x hx
    obtain ⟨_, h2, _⟩ := applied_mem l cs x hx
    have : left l x.1 x.2.1 x.2.2 = x.2.2 := List.filter_eq_self.2 fun p hp => by rw [h2 p hp]; rfl
    rw [this]
  have h2 : (applied l cs).map (fun c => (c.1, c.2.1, left l c.1 c.2.1 c.2.2)) = applied l cs := by
    conv => rhs; rw [← List.map_id (applied l cs)]
    exact List.map_congr_left h1
  have e : applied l (applied l cs) = ((applied l cs).map (fun c => (c.1, c.2.1, left l c.1 c.2.1 c.2.2))).filter fun c => !c.2.2.isEmpty := rfl
  rw [e, h2]
  exact List.filter_eq_self.2 fun x hx => by
    have := (applied_mem l cs x hx).1
    simpa using this

theorem applied_cl (l : List Tm) (cs rs : List Cl) (ht : rs.map Cl.tag = applied l (cs.map Cl.tag)) (hp : ∀ c ∈ cs, c.ps.length * 40 ≤ 140737488351232) :
    ∀ r ∈ rs, r.ps ≠ [] ∧ (∀ p ∈ r.ps, (l.any fun t => t.cov r.s r.f p.t) = false) ∧ r.ps.length * 40 ≤ 140737488351232 := by
  intro r hr
  have h : Cl.tag r ∈ applied l (cs.map Cl.tag) := by rw [← ht]; exact List.mem_map_of_mem hr
  obtain ⟨h1, h2, c, hc, h3⟩ := applied_mem l _ _ h
  obtain ⟨c', hc', rfl⟩ := List.mem_map.1 hc
  have := hp c' hc'
  refine ⟨h1, h2, ?_⟩
  simp only [Cl.tag] at h3
  omega

theorem applied_cl_len (l : List Tm) (cs rs : List Cl) (ht : rs.map Cl.tag = applied l (cs.map Cl.tag)) : rs.length ≤ cs.length := by
  have h1 := congrArg List.length ht
  have h2 := applied_le l (cs.map Cl.tag)
  rw [List.length_map] at h1 h2
  omega

/-- The first point of each column can be written: its time's cell. -/
def Firsts (w : World) (rs : List Cl) : Prop := ∀ r ∈ rs, ∃ g cap, r.pv = .slice (some ⟨g, 0, none⟩) r.ps.length cap ∧ 0 < r.ps.length ∧ (∃ t : Int, w.cell? ⟨g, 0, none⟩ = some (.int .i64 t)) ∧ w.frozen? ⟨g, 0, none⟩ = false

theorem Firsts.mk {w : World} {base : Nat} {v : Value} {rs : List Cl} (h : OutOk w base v rs) (hn : ∀ r ∈ rs, r.ps ≠ []) : Firsts w rs := by
  intro r hr
  have h1 := (h.2 r hr).1
  have hl : 0 < r.ps.length := List.length_pos_iff.2 (hn r hr)
  have hc : 0 < r.ps.length ∧ True := ⟨hl, trivial⟩
  rcases h1.2 with ⟨_, h0⟩ | ⟨g, cap, cur, hv, hb, hg, hnn, hm, hs, htake⟩
  · omega
  · refine ⟨g, cap, hv, hl, ?_, ?_⟩
    · have e := World.ownsRow.cells h1 (g := g) (by rw [hv]; rfl) 0 ((r.ps[0]'hl).cells[0]'(by simp [Pt.cells])) (by
        have := flat_at Pt.cells 4 (fun _ => rfl) r.ps 0 hl 0 (by omega)
        simpa using this)
      exact ⟨_, by simpa [Addr.add_lit, Pt.cells] using e⟩
    · simp [World.frozen?, hg]

theorem Firsts.set {w : World} {rs : List Cl} (h : Firsts w rs) (g : Nat) (t : Int) (hg : ∃ u : Int, w.cell? ⟨g, 0, none⟩ = some (.int .i64 u)) : Firsts (w.setCell ⟨g, 0, none⟩ (.int .i64 t)) rs := by
  intro r hr
  obtain ⟨g', cap, hv, hl, ⟨u, hu⟩, hf⟩ := h r hr
  refine ⟨g', cap, hv, hl, ?_, by simp [go_sem, hf]⟩
  by_cases e : g = g'
  · subst e
    exact ⟨t, by simp [go_sem, hu]⟩
  · exact ⟨u, by rw [World.cell?_setCell_far _ _ _ _ (by simpa using e)]; exact hu⟩

theorem OutOk.chg {S : Nat → Prop} {w w' : World} {base : Nat} {v : Value} {rs : List Cl} (h : OutOk w base v rs) (hc : Chg S w w') (hS : ∀ i, base ≤ i → ¬ S i) : OutOk w' base v rs :=
  ⟨hc.owns h.1 fun k hk => hS k (h.1.lt k hk).1, fun r hr => ⟨hc.owns (h.2 r hr).1 fun k hk => hS k ((h.2 r hr).1.lt k hk).1, (h.2 r hr).2⟩⟩

theorem row_at {w : World} {v : Value} {cs : List Cl} (h : RdV w 3 v cs.length (cs.flatMap Cl.cells)) (i : Nat) (hi : i < cs.length) :
    ∃ b off cap, v = .slice (some ⟨b, off, none⟩) cs.length cap ∧ w.cell? ⟨b, off + i * 3 + 2, none⟩ = some cs[i].pv := by
  obtain ⟨b, off, cap, rfl, _, _, _, hc⟩ := RdV.some h (by omega) (by omega)
  have e2 := flat_at Cl.cells 3 (fun _ => rfl) cs i hi 2 (by omega)
  refine ⟨b, off, cap, rfl, ?_⟩
  have := hc (i * 3 + 2) _ e2
  simpa [Cl.cells, Nat.add_assoc] using this

set_option maxHeartbeats 2000000 in
theorem tombTwice_run (l : List Tm) (v : Value) (cs : List Cl) (cv : Value) (w : World) (hl : l.length * 48 ≤ 140737488351232) (hr : RdV w 4 v l.length (l.flatMap Tm.cells))
    (hc : cs.length * 56 ≤ 140737488351232) (hp : ∀ c ∈ cs, c.ps.length * 40 ≤ 140737488351232) (hcs : Cols w cv cs) :
    Calls Try.prog 5 #[v, cv] w fun e w' => e = .returned (.bool true) ∧ Below w.heap.size w w' := by
  go_enter Try.func5, Try.ntmps5
  go_wp2_with fail
  refine (awake_any w).mono ?_
  rintro e w1 ⟨rfl, hb1⟩
  have hr1 := hr.below hb1
  go_wp2_with fail
  refine (theirs_any l _ _ hl hr1).mono ?_
  rintro e w3 ⟨ao3, cap3, rfl, ho3, hb3⟩
  have hb13 := hb1.trans (hb3.mono hb1.size)
  have hc3 := hcs.below hb13
  have ht3 := RdV.ofOwns ho3
  clear hr1
  go_wp2_with fail
  refine (apply_any l _ cs cv _ (by omega) ht3 hc hp hc3).mono ?_
  rintro e w4 ⟨ao4, cap4, rs, rfl, htag, hout, hb4⟩
  have HB4 := Lib.hid (hb13.trans (hb4.mono hb13.size))
  have HT4 := Lib.hid (ht3.below hb4)
  have HO4 := Lib.hid hout
  have HTG := Lib.hid htag
  have hrl := applied_cl_len l cs rs htag
  have hrs := Lib.hid (applied_cl l cs rs htag hp)
  have HTB : Hid (∀ b, (Value.slice ao3 l.length cap3).ownBlock = some b → b < w3.heap.size) := Lib.hid fun b hb => (ho3.lt b hb).2
  have HW3 := hb13.size
  obtain ⟨ao4', cap4', he4, hn4, hm4⟩ := RdV.shape hout.cols.1
  simp only [Value.slice.injEq, true_and] at he4
  obtain ⟨rfl, rfl⟩ := he4
  unfold maxLen at hm4
  clear ho3 hc3 ht3 hb3 hb1 hb4 htag hout hb13
  go_wp2_with fail
  go_loopg [20] rs.length (fun m s20 wr => ∃ k : Nat, k + m = rs.length ∧ s20 = .int .i64 k ∧ Hid (Below w4.heap.size w4 wr))
  case atStart => exact ⟨0, by omega, rfl, Lib.hid (Below.refl _ _)⟩
  case round =>
    obtain ⟨k, hk, rfl, hbel⟩ := hrel
    by_cases h0 : gk = 0
    · obtain rfl : k = rs.length := by omega
      clear hk
      have HT5 := Lib.hid (HT4.out.below hbel.out)
      have HO5 := Lib.hid (HO4.out.below hbel.out)
      have HB5 := Lib.hid (HB4.out.trans (hbel.out.mono HB4.out.size))
      clear HT4 HO4 HB4 hbel
      go_wp2_with fail
      refine (apply_any l _ rs _ _ (by omega) HT5.out (by omega) (fun c hc => (hrs.out c hc).2.2) HO5.out.cols).mono ?_
      rintro e w6 ⟨ao6, cap6, ss, rfl, htag6, hout6, hb6⟩
      have htt : ss.map Cl.tag = rs.map Cl.tag := by rw [htag6, HTG.out, applied_twice]
      have HT6 := Lib.hid (HT5.out.below hb6)
      have HO6 := Lib.hid (HO5.out.below hb6)
      have HB6 := Lib.hid (HB5.out.trans (hb6.mono HB5.out.size))
      have HS6 := Lib.hid hout6
      have hlt6 : ∀ i, i < wr.heap.size → i < w6.heap.size := fun i hi => by have := hb6.size; omega
      have HX := Lib.hid (sameColumns_any rs ss _ _ _ HO6.out.cols HS6.out.cols htt.symm)
      have HXX := Lib.hid (fun r hr i hi => ((HO5.out.2 r hr).1.lt i hi).2)
      clear HO5 HB5 hout6 hb6 HT5
      go_wp2_with fail
      refine HX.out.mono ?_
      rintro e w7 ⟨rfl, q, rfl⟩
      have HC7 := Lib.hid (Firsts.mk (w := w6.drewN q) HO6.out (fun r hr => (hrs.out r hr).1))
      generalize hwa : wr.heap.size = Na at *
      clear hwa HX
      replace HT6 : Hid (RdV (w6.drewN q) 4 (Value.slice ao3 l.length cap3) l.length (List.flatMap Tm.cells l)) := HT6
      replace HO6 : Hid (OutOk (w6.drewN q) w3.heap.size (Value.slice ao4 rs.length cap4) rs) := HO6
      replace HB6 : Hid (Below w.heap.size w (w6.drewN q)) := Lib.hid (below_drewN HB6.out q)
      replace HS6 : Hid (OutOk (w6.drewN q) Na (Value.slice ao6 ss.length cap6) ss) := HS6
      generalize w6.drewN q = w7 at *
      go_wp2_with fail
      go_loopg [64] rs.length (fun m s64 wr => ∃ k : Nat, k + m = rs.length ∧ s64 = .int .i64 k ∧ Hid (Firsts wr rs) ∧ Hid (Chg (fun i => ∃ r ∈ rs, r.pv.ownBlock = some i) w7 wr))
      case atStart => exact ⟨0, by omega, rfl, HC7, Lib.hid (Chg.refl _ _)⟩
      case round =>
        obtain ⟨k, hk, rfl, hfs, hchg⟩ := hrel
        clear h0
        by_cases h0 : gk = 0
        · obtain rfl : k = rs.length := by omega
          clear hk
          have hS3 : ∀ i, (∃ r ∈ rs, r.pv.ownBlock = some i) → w3.heap.size ≤ i := fun i ⟨r, hr, h⟩ => ((HO6.out.2 r hr).1.lt i h).1
          have HB8 := Lib.hid (HB6.out.trans (hchg.out.below HB6.out.size (fun i hi => by have := hS3 i hi; omega)))
          have HT8 := Lib.hid (HT6.out.chg hchg.out (fun b hb h => by have := hS3 b h; have := HTB.out b hb; omega))
          have HS8 := Lib.hid (HS6.out.chg hchg.out (fun i hi ⟨r, hr, h⟩ => by have := HXX.out r hr i h; omega))
          have hc8 := hcs.below HB8.out
          clear HT6 HB6 HS6 HO6 hfs hchg HC7
          go_wp2_with fail
          refine (apply_any l _ cs cv _ (by omega) HT8.out hc hp hc8).mono ?_
          rintro e w9 ⟨ao9, cap9, rs9, rfl, htag9, hout9, hb9⟩
          have HX := Lib.hid (sameColumns_any rs9 ss _ _ _ hout9.cols (HS8.out.below hb9).cols (by rw [htag9, htt, HTG.out]))
          have HB9 := Lib.hid (HB8.out.trans (hb9.mono HB8.out.size))
          clear hout9 HS8 HB8 hb9
          go_wp2_with fail
          refine HX.out.mono ?_
          rintro e w10 ⟨rfl, q, rfl⟩
          go_wp2_with fail
          go_ret
          exact ⟨rfl, below_drewN HB9.out q⟩
        · have hlt : k < rs.length := by omega
          have hrow := (RdV.ofOwns HO6.out.1).chg hchg.out (fun b hb ⟨r, hr, h⟩ => (HO6.out.2 r hr).2 b h hb)
          obtain ⟨b, off, cap', he, e2⟩ := row_at hrow k hlt
          simp only [Value.slice.injEq, true_and] at he
          obtain ⟨rfl, rfl⟩ := he
          obtain ⟨g, cap7, hv, hpl, ⟨t, ht⟩, hf⟩ := hfs.out rs[k] (List.getElem_mem hlt)
          have hcap : 0 < (rs[k].ps.length : Int) := by omega
          rw [hv] at e2
          have hS : ∃ r ∈ rs, r.pv.ownBlock = some g := ⟨rs[k], List.getElem_mem hlt, by rw [hv]; rfl⟩
          clear hrow hv
          generalize rs[k].ps.length = n at *
          go_wp2_with fail
          go_roundg (gk - 1)
          case measure => go_light; omega
          case rel =>
            go_light
            exact ⟨k + 1, by omega, by go_num, Lib.hid (hfs.out.set g _ ⟨t, ht⟩), Lib.hid (hchg.out.setCell (fun _ => hS) _)⟩
    · have hlt : k < rs.length := by omega
      have HK := Lib.hid (hrs.out rs[k] (List.getElem_mem hlt))
      obtain ⟨b, off, cap', he, e0, e1, e2, hpr⟩ := col_at HO4.out.cols k hlt
      simp only [Value.slice.injEq, true_and] at he
      obtain ⟨rfl, rfl⟩ := he
      have hbs : b < w4.heap.size := World.block_lt_of_cell? w4 _ e0
      have d2 := (hbel.out.cell (p := ⟨b, off + k * 3 + 2, none⟩) hbs).trans e2
      generalize rs[k] = c at *
      obtain ⟨cs_, cf, cpv, cps⟩ := c
      dsimp only at *
      obtain ⟨aop, capp, rfl, hplc, hpcm⟩ := RdV.shape hpr
      unfold maxLen at hpcm
      have HP := Lib.hid hpr
      clear hpr
      obtain ⟨m0, hm0⟩ : ∃ m, m + 1 = gk := ⟨gk - 1, by omega⟩
      go_wp2_with fail
      clear d2
      go_loopg [29] cps.length (fun m s29 wr => ∃ j : Nat, j + m = cps.length ∧ s29 = .int .i64 j ∧ Hid (Below w4.heap.size w4 wr))
      case atStart => exact ⟨0, by omega, rfl, hbel⟩
      case round =>
        clear hbel
        obtain ⟨j, hj, rfl, hbel⟩ := hrel
        clear h0
        by_cases h0 : gk = 0
        · obtain rfl : j = cps.length := by omega
          clear hj
          go_wp2_with fail
          go_roundg m0
          case measure => go_light; omega
          case rel =>
            go_light
            exact ⟨k + 1, by omega, by go_num, hbel⟩
        · have hjl : j < cps.length := by omega
          obtain ⟨pb, po, pcap, he, f0, f1, f2, f3⟩ := pt_at HP.out j hjl
          simp only [Value.slice.injEq, true_and] at he
          obtain ⟨rfl, rfl⟩ := he
          have hcv := HK.out.2.1 cps[j] (List.getElem_mem hjl)
          have hps : pb < w4.heap.size := World.block_lt_of_cell? w4 _ f0
          have d0 := (hbel.out.cell (p := ⟨b, off + k * 3, none⟩) hbs).trans e0
          have d1 := (hbel.out.cell (p := ⟨b, off + k * 3 + 1, none⟩) hbs).trans e1
          have d2 := (hbel.out.cell (p := ⟨b, off + k * 3 + 2, none⟩) hbs).trans e2
          have d3 := (hbel.out.cell (p := ⟨pb, po + j * 4, none⟩) hps).trans f0
          clear f0 f1 f2 f3
          generalize cps[j].t = pt at *
          go_upto_region 11 with fail
          go_still_tail 20, (by kernel_rfl)
          change wpList _ _ _ _ _ wr.drew
          have hbd : Hid (Below w4.heap.size w4 wr.drew) := Lib.hid hbel.out.drew
          generalize wr.drew = wd at hbd ⊢
          clear d0 d1 d2 d3 hbel
          have HC := tcovers_any l _ cs_ cf pt _ (by omega) (HT4.out.below hbd.out)
          rw [hcv] at HC
          go_wp2_with fail
          refine HC.mono ?_
          rintro e w5 ⟨rfl, hb5⟩
          have HB5 := Lib.hid (hbd.out.trans (hb5.mono hbd.out.size))
          clear hbd hb5
          go_wp2_with fail
          go_roundg (gk - 1)
          case measure => go_light; omega
          case rel =>
            go_light
            exact ⟨j + 1, by omega, by go_num, HB5⟩

theorem tombTwice_walk {H : Type} (enc : TypeId × Value → H) (W : World) (base : Nat) (v0 v1 : Value) (d0 d1 : DataW H) (p0 p1 : List MemPlace)
    (o0 : Value.okWide Try.prog W .any base 22 v0) (o1 : Value.okWide Try.prog W .any base 23 v1)
    (t0 : DataW.Trod enc Try.prog W 0 (fun _ => true) true 22 v0 d0 p0) (t1 : DataW.Trod enc Try.prog W 0 (fun _ => true) true 23 v1 d1 p1)
    (hsz : (DataW.weightsEach Try.prog [22, 23] [d0, d1]).all (· ≤ reachBytes) = true) :
    Calls Try.prog 5 #[v0, v1] W fun e W' => e = .returned (.bool true) ∧ Below W.heap.size W W' := by
  simp only [DataW.weightsEach, List.append_nil, List.all_append, Bool.and_eq_true] at hsz
  obtain ⟨l, hr, hd⟩ := open_tombs o0 t0
  obtain ⟨cs, hcs, hc, hp⟩ := open_cols o1 t1 hsz.2
  exact tombTwice_run l v0 cs v1 W (tombs_small hsz.1 hd) hr hc hp hcs

end Go.Proofs.Ytmhmmnleijadnaa
