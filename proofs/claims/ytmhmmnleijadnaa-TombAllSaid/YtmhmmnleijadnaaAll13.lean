/- TombAll's walk: a tomb without a field, from the least time to the greatest, takes a series wholly, and no other one. -/
import Derived.Test.YtmhmmnleijadnaaApplies13
namespace Go.Proofs.Ytmhmmnleijadnaa
open Go.RowKit Go.ChangeShapes Go.WideShapes Go.ChangeAt
set_option linter.unusedVariables false

def wantQ (s : ByteArray) (c : Cl) : Bool := !decide (c.s.toList = s.toList) && !c.ps.isEmpty

def allTm (s : ByteArray) : Tm := ⟨s, ⟨#[]⟩, -9223372036854775808, 9223372036854775807⟩

theorem left_all (s cs cf : ByteArray) (ps : List Pt) (hr : ∀ p ∈ ps, -9223372036854775808 ≤ p.t ∧ p.t ≤ 9223372036854775807) :
    left [allTm s] cs cf ps = if cs.toList = s.toList then [] else ps := by
  have he : (⟨#[]⟩ : ByteArray).toList = [] := ByteArray.toList_mk []
  unfold left
  by_cases h : cs.toList = s.toList
  · rw [if_pos h]
    refine List.filter_eq_nil_iff.2 fun p hp => ?_
    have := hr p hp
    simp [allTm, Tm.cov, h, he, this]
  · rw [if_neg h]
    refine List.filter_eq_self.2 fun p hp => ?_
    have h' : ¬ s.toList = cs.toList := fun e => h e.symm
    simp [allTm, Tm.cov, h']

theorem applied_cons (l : List Tm) (x : ByteArray × ByteArray × List Pt) (r : List (ByteArray × ByteArray × List Pt)) :
    applied l (x :: r) = (if left l x.1 x.2.1 x.2.2 = [] then [] else [(x.1, x.2.1, left l x.1 x.2.1 x.2.2)]) ++ applied l r := by
  unfold applied
  rw [List.map_cons]
  generalize left l x.1 x.2.1 x.2.2 = L
  cases L <;> simp

theorem applied_all (s : ByteArray) : ∀ (cs : List Cl) (hr : ∀ c ∈ cs, ∀ p ∈ c.ps, -9223372036854775808 ≤ p.t ∧ p.t ≤ 9223372036854775807),
    applied [allTm s] (cs.map Cl.tag) = (cs.filter (wantQ s)).map Cl.tag
  | [], _ => rfl
  | c :: r, hr => by
    have ih := applied_all s r (fun c' h => hr c' (by simp [h]))
    have h0 : left [allTm s] c.tag.1 c.tag.2.1 c.tag.2.2 = if c.s.toList = s.toList then [] else c.ps := left_all s c.s c.f c.ps (hr c (by simp))
    rw [List.map_cons, applied_cons, ih, h0]
    simp only [Cl.tag]
    by_cases h : c.s.toList = s.toList
    · simp [h, wantQ]
    · rw [if_neg h]
      cases hp : c.ps with
      | nil => simp [h, wantQ, hp]
      | cons p ps => simp [h, wantQ, hp, Cl.tag]

theorem filter_take (q : Cl → Bool) (cs : List Cl) (k : Nat) (h : k < cs.length) : (cs.take (k + 1)).filter q = (cs.take k).filter q ++ if q cs[k] = true then [cs[k]] else [] := by
  rw [List.take_succ_eq_append_getElem h, List.filter_append]
  congr 1
  by_cases h1 : q cs[k] = true
  · simp [h1]
  · rw [Bool.not_eq_true] at h1; simp [h1]

set_option maxHeartbeats 2000000 in
theorem tombAll_run (cs : List Cl) (cv : Value) (s : ByteArray) (x : Int) (w : World)
    (hc : cs.length * 56 ≤ 140737488351232) (hp : ∀ c ∈ cs, c.ps.length * 40 ≤ 140737488351232) (hcs : Cols w cv cs) (hrg : ∀ c ∈ cs, ∀ p ∈ c.ps, -9223372036854775808 ≤ p.t ∧ p.t ≤ 9223372036854775807) :
    Calls Try.prog 6 #[cv, .string s, .int .i64 x] w fun e w' => e = .returned (.bool true) ∧ Below w.heap.size w w' := by
  obtain ⟨ao0, cap0, rfl, hlc, hcm⟩ := RdV.shape hcs.1
  unfold maxLen at hcm
  go_enter Try.func6, Try.ntmps6
  go_wp2_with fail
  refine (awake_any w).mono ?_
  rintro e w1 ⟨rfl, hb1⟩
  have HR1 := Lib.hid (hcs.below hb1)
  have HB1 := Lib.hid hb1
  clear hb1
  go_upto_region 3 with fail
  go_cut [19] (fun s19 wx => (∃ c : Bool, s19 = .bool c ∧ (c = true → 0 < cs.length)) ∧ w1 = wx)
  case first =>
    by_cases h1 : 0 < cs.length
    · have hd : decide (0 < (cs.length : Int)) = true := decide_eq_true (by omega)
      by_cases h2 : x.tmod 2 = 0
      · go_wp2_with fail
        go_meet
        go_light
        exact ⟨⟨_, rfl, fun _ => h1⟩, rfl⟩
      · go_wp2_with fail
        go_meet
        go_light
        exact ⟨⟨_, rfl, fun _ => h1⟩, rfl⟩
    · have hd : decide (0 < (cs.length : Int)) = false := decide_eq_false (by omega)
      go_wp2_with fail
      go_meet
      go_light
      exact ⟨⟨false, rfl, fun h => by cases h⟩, rfl⟩
  case rest =>
  obtain ⟨⟨c, rfl, hcc⟩, rfl⟩ := hcut
  go_upto_if 19 with (fail)
  go_cut [1] (fun s1 wx => (∃ s' : ByteArray, s1 = .string s') ∧ w1 = wx)
  case first =>
    cases c
    case true =>
      have h1 := hcc rfl
      obtain ⟨i, hi, hix⟩ := index_fit cs.length h1 (by omega) x
      obtain ⟨b, off, cap', he, e0, e1, e2, e3⟩ := col_at HR1.out i hi
      simp only [Value.slice.injEq, true_and] at he
      obtain ⟨rfl, rfl⟩ := he
      go_wp2_with fail
      go_meet
      go_light
      exact ⟨⟨_, rfl⟩, rfl⟩
    case false =>
      go_wp2_with fail
      go_meet
      go_light
      exact ⟨⟨_, rfl⟩, rfl⟩
  case rest =>
  obtain ⟨⟨s', rfl⟩, rfl⟩ := hcut
  clear hcc
  have hR2 := HR1.out.below ((Below.refl w1.heap.size w1).alloc (Nat.le_refl _) (.cells #[.string s', .string ⟨#[]⟩, .int .i64 (-9223372036854775808), .int .i64 9223372036854775807] 45))
  have hB2 := Lib.hid (HB1.out.alloc HB1.out.size (.cells #[.string s', .string ⟨#[]⟩, .int .i64 (-9223372036854775808), .int .i64 9223372036854775807] 45))
  have HT := RdV.lit w1 #[.string s', .string ⟨#[]⟩, .int .i64 (-9223372036854775808), .int .i64 9223372036854775807] 45 1 4 (by decide) rfl
  go_wp2_with fail
  refine (apply_any [allTm s'] _ cs (.slice ao0 cs.length cap0) _ (by simp) HT hc hp hR2).mono ?_
  rintro e w4 ⟨ao4, cap4, rs, rfl, htag, hout, hb4⟩
  rw [applied_all s' cs hrg] at htag
  have HTG := Lib.hid htag
  have HO4 := Lib.hid hout
  have HR4 := Lib.hid (hR2.below hb4)
  have HB4 := Lib.hid (hB2.out.trans (hb4.mono hB2.out.size))
  clear hR2 hB2 HT HR1 HB1 htag hout hb4
  go_wp2_with fail
  go_loopg [8, 38] cs.length (fun m s8 s38 wr => ∃ k : Nat, k + m = cs.length ∧ s38 = .int .i64 k ∧ ∃ ao cap, s8 = .slice ao ((cs.take k).filter (wantQ s')).length cap ∧
    Hid (wr.ownsRow w4.heap.size 41 3 (.slice ao ((cs.take k).filter (wantQ s')).length cap) ((cs.take k).filter (wantQ s')).length (((cs.take k).filter (wantQ s')).flatMap Cl.cells)) ∧ Hid (Below w4.heap.size w4 wr))
  case atStart => exact ⟨0, by omega, rfl, none, 0, rfl, Lib.hid (World.ownsRow_nil _ _ _ _), Lib.hid (Below.refl _ _)⟩
  case round =>
    obtain ⟨k, hk, rfl, ao1, cap1, rfl, hown, hbel⟩ := hrel
    by_cases h0 : gk = 0
    · obtain rfl : k = cs.length := by omega
      clear hk
      rw [List.take_length] at hown ⊢
      have hR5 := HR4.out.below hbel.out
      have HX := Lib.hid (sameColumns_any rs (cs.filter (wantQ s')) _ _ _ (HO4.out.below hbel.out).cols ⟨RdV.ofOwns hown.out, fun c hc => hR5.2 c (List.mem_filter.1 hc).1⟩ HTG.out)
      have HB5 := Lib.hid (HB4.out.trans (hbel.out.mono HB4.out.size))
      clear hR5 HO4 HR4 hbel hown
      go_wp2_with fail
      refine HX.out.mono ?_
      rintro e w10 ⟨rfl, q, rfl⟩
      go_wp2_with fail
      go_ret
      exact ⟨rfl, below_drewN HB5.out q⟩
    · have hlt : k < cs.length := by omega
      have hR5 := HR4.out.below hbel.out
      obtain ⟨b, off, cap', he, e0, e1, e2, hpr⟩ := col_at hR5 k hlt
      simp only [Value.slice.injEq, true_and] at he
      obtain ⟨rfl, rfl⟩ := he
      have HT := Lib.hid (filter_take (wantQ s') cs k hlt)
      have hfl : ((cs.take k).filter (wantQ s')).length ≤ k := Nat.le_trans (List.length_filter_le _ _) (by rw [List.length_take]; omega)
      generalize cs[k] = c at *
      obtain ⟨cs_, cf, cpv, cps⟩ := c
      dsimp only at *
      obtain ⟨aop, capp, rfl, hplc, hpcm⟩ := RdV.shape hpr
      unfold maxLen at hpcm
      clear hpr hR5
      generalize (cs.take k).filter (wantQ s') = L at *
      have key : wantQ s' ⟨cs_, cf, .slice aop cps.length capp, cps⟩ = true ↔ ¬ cs_.toList = s'.toList ∧ 0 < cps.length := by
        simp [wantQ, List.length_pos_iff]
      by_cases hq : ¬ cs_.toList = s'.toList ∧ 0 < cps.length
      · have hd : decide (0 < (cps.length : Int)) = true := decide_eq_true (by omega)
        have hs : (cs_.toList == s'.toList) = false := by simpa using hq.1
        have h63 : L.length + 1 ≤ maxLen := by unfold maxLen; omega
        have hby : (L.length + 1) * 56 ≤ 140737488355328 := by omega
        have hba : ∀ o, w4.heap.size ≤ (wr.alloc o).heap.size := fun o => by have := hbel.out.size; simp; omega
        have hpo := cl_one ⟨cs_, cf, .slice aop cps.length capp, cps⟩ aop cps.length capp rfl
        have HQ := Lib.hid (key.2 hq)
        have hq1 := hq.1
        have hn := hq.2
        clear key hq
        go_wp2_with (at_builtin; refine wpList_append_rd _ rfl (.tmp 57) (.tmp 62) 23 rfl w4.heap.size 41 (.agg #[.string .empty, .string .empty, .slice none 0 0]) 3 56 Try.underlying23 infoCl rfl (by decide) _ _ _ rfl (hown.out.alloc _) (.slice (some ⟨wr.heap.size, 0, none⟩) 1 1) 1 [.string cs_, .string cf, .slice aop cps.length capp] rfl (RdV.lit _ _ _ 1 3 (by decide) rfl) hpo h63 hby (hba _) ?_; intro ao6 cap6 w6 hg6; have HG := Lib.hid hg6; clear hg6)
        go_roundg (gk - 1)
        case measure => go_light; omega
        case rel =>
          go_light
          have hg := HG.out.ofAlloc
          refine ⟨k + 1, by omega, by go_num, ?_⟩
          rw [HT.out, if_pos HQ.out, List.length_append, List.flatMap_append]
          exact ⟨ao6, cap6, rfl, Lib.hid hg.owns, Lib.hid (hbel.out.trans (hg.below hbel.out.size (fun i hi => (hown.out.lt i hi).1)))⟩
      · have HQ : Hid (¬ wantQ s' ⟨cs_, cf, .slice aop cps.length capp, cps⟩ = true) := Lib.hid (fun h => hq (key.1 h))
        clear key
        by_cases hs : cs_.toList = s'.toList
        · clear hq
          go_wp2_with fail
          go_roundg (gk - 1)
          case measure => go_light; omega
          case rel =>
            go_light
            refine ⟨k + 1, by omega, by go_num, ?_⟩
            rw [HT.out, if_neg HQ.out, List.append_nil]
            exact ⟨ao1, cap1, rfl, hown, hbel⟩
        · have hn : ¬ 0 < cps.length := fun h => hq ⟨hs, h⟩
          have hd : decide (0 < (cps.length : Int)) = false := decide_eq_false (by omega)
          have hs' : (cs_.toList == s'.toList) = false := by simpa using hs
          clear hq
          go_wp2_with fail
          go_roundg (gk - 1)
          case measure => go_light; omega
          case rel =>
            go_light
            refine ⟨k + 1, by omega, by go_num, ?_⟩
            rw [HT.out, if_neg HQ.out, List.append_nil]
            exact ⟨ao1, cap1, rfl, hown, hbel⟩

theorem tombAll_walk {H : Type} (enc : TypeId × Value → H) (W : World) (base : Nat) (v0 v1 v2 : Value) (d0 d1 d2 : DataW H) (p0 p1 p2 : List MemPlace)
    (o0 : Value.okWide Try.prog W .any base 23 v0) (o1 : Value.okWide Try.prog W .any base 9 v1) (o2 : Value.okWide Try.prog W .any base 3 v2)
    (t0 : DataW.Trod enc Try.prog W 0 (fun _ => true) true 23 v0 d0 p0) (t1 : DataW.Trod enc Try.prog W 0 (fun _ => true) true 9 v1 d1 p1) (t2 : DataW.Trod enc Try.prog W 0 (fun _ => true) true 3 v2 d2 p2)
    (hsz : (DataW.weightsEach Try.prog [23, 9, 3] [d0, d1, d2]).all (· ≤ reachBytes) = true) :
    Calls Try.prog 6 #[v0, v1, v2] W fun e W' => e = .returned (.bool true) ∧ Below W.heap.size W W' := by
  obtain ⟨s, rfl, rfl, rfl, _⟩ := Go.ChangeMaps.open_string Try.underlying9 o1 t1
  obtain ⟨x, rfl, rfl, rfl, _⟩ := open_int Try.underlying3 o2 t2
  simp only [DataW.weightsEach, List.append_nil, List.all_append, Bool.and_eq_true] at hsz
  obtain ⟨cs, hcs, hc, hp, hrg⟩ := open_colsR o0 t0 hsz.1
  exact tombAll_run cs v0 s x W hc hp hcs hrg

end Go.Proofs.Ytmhmmnleijadnaa
