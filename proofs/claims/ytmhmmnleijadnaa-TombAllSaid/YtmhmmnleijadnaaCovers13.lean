/- TombCovers' walk: a point is covered just if a tomb of its series, of its field or of all, has its time between its ends. -/
import Derived.Test.YtmhmmnleijadnaaApply13
import Derived.OpenShut
namespace Go.Proofs.Ytmhmmnleijadnaa
open Go.RowKit Go.ChangeShapes Go.WideShapes Go.ChangeAt
set_option linter.unusedVariables false

theorem applied_one (l : List Tm) (s f : ByteArray) (t : Int) : (applied l [(s, f, [⟨t, 0, 0, .empty⟩])]).length = (if (l.any fun u => u.cov s f t) = true then 0 else 1) := by
  unfold applied left
  by_cases h : (l.any fun u => u.cov s f t) = true
  · rw [if_pos h]; simp [h]
  · rw [if_neg h]
    rw [Bool.not_eq_true] at h
    simp [h]

theorem index_fit (n : Nat) (hn : 0 < n) (hm : n ≤ 140737488355328) (x : Int) : ∃ i : Nat, i < n ∧ wrap64 ((IntKind.u64.wrap x).tmod (n : Int)) = (i : Int) := by
  have e1 : 0 ≤ IntKind.u64.wrap x := by rw [IntKind.wrap_u64]; omega
  have h1 : (IntKind.u64.wrap x).tmod (n : Int) = (IntKind.u64.wrap x) % n := Int.tmod_eq_emod_of_nonneg e1
  have h2 := Int.emod_nonneg (IntKind.u64.wrap x) (show (n : Int) ≠ 0 by omega)
  have h3 := Int.emod_lt_of_pos (IntKind.u64.wrap x) (show (0 : Int) < n by omega)
  refine ⟨((IntKind.u64.wrap x) % (n : Int)).toNat, by omega, ?_⟩
  rw [← IntWalk.i64_left, h1, IntWalk.i64_in _ (by omega)]
  omega

set_option maxHeartbeats 2000000 in
theorem tombCovers_run (l : List Tm) (v : Value) (s f : ByteArray) (t x : Int) (w : World) (hl : l.length * 48 ≤ 140737488351232) (hr : RdV w 4 v l.length (l.flatMap Tm.cells)) :
    Calls Try.prog 4 #[v, .string s, .string f, .int .i64 t, .int .i64 x] w fun e w' => e = .returned (.bool true) ∧ Below w.heap.size w w' := by
  obtain ⟨ao0, cap0, rfl, hlc, hcm⟩ := RdV.shape hr
  unfold maxLen at hcm
  go_enter Try.func4, Try.ntmps4
  go_wp2_with fail
  refine (awake_any w).mono ?_
  rintro e w1 ⟨rfl, hb1⟩
  have hr1 := Lib.hid (hr.below hb1)
  have HB1 := Lib.hid hb1
  clear hb1 hr
  go_upto_region 3 with fail
  go_cut [23] (fun s23 wx => (∃ c : Bool, s23 = .bool c ∧ (c = true → 0 < l.length)) ∧ w1 = wx)
  case first =>
    by_cases h1 : 0 < l.length
    · have hd : decide (0 < (l.length : Int)) = true := decide_eq_true (by omega)
      by_cases h2 : x.tmod 2 = 0
      · go_wp2_with fail
        go_meet
        go_light
        exact ⟨⟨_, rfl, fun _ => h1⟩, rfl⟩
      · go_wp2_with fail
        go_meet
        go_light
        exact ⟨⟨_, rfl, fun _ => h1⟩, rfl⟩
    · have hd : decide (0 < (l.length : Int)) = false := decide_eq_false (by omega)
      go_wp2_with fail
      go_meet
      go_light
      exact ⟨⟨false, rfl, fun h => by cases h⟩, rfl⟩
  case rest =>
  obtain ⟨⟨c, rfl, hc⟩, rfl⟩ := hcut
  cases c
  case' true =>
    have h1 := hc rfl
    obtain ⟨i, hi, hix⟩ := index_fit l.length h1 (by omega) x
    obtain ⟨b, off, cap', he, e0, e1, e2, e3⟩ := tomb_at hr1.out i hi
    simp only [Value.slice.injEq, true_and] at he
    obtain ⟨rfl, rfl⟩ := he
    generalize l[i] = tm at *
    obtain ⟨s', tf, t', tb⟩ := tm
    dsimp only at *
    clear hc
    go_upto_region 5 with fail
    go_quiet (fail)
    have hq : Below (w1.alloc (.cells #[.string s', .string tf, .int .i64 t', .int .i64 tb] 32)).heap.size (w1.alloc (.cells #[.string s', .string tf, .int .i64 t', .int .i64 tb] 32)) ((w1.alloc (.cells #[.string s', .string tf, .int .i64 t', .int .i64 tb] 32)).drewN nq) := ⟨rfl, rfl, rfl, Nat.le_refl _, fun _ _ => rfl⟩
    have hr2 := Lib.hid ((hr1.out.alloc (.cells #[.string s', .string tf, .int .i64 t', .int .i64 tb] 32)).below hq)
    have HB2 := Lib.hid ((HB1.out.alloc HB1.out.size (.cells #[.string s', .string tf, .int .i64 t', .int .i64 tb] 32)).trans (hq.mono (by have := HB1.out.size; simp; omega)))
    clear hr1 HB1 e0 e1 e2 e3 hix hq
    generalize (w1.alloc (.cells #[.string s', .string tf, .int .i64 t', .int .i64 tb] 32)).drewN nq = w2 at *
  case' false =>
    clear hc
    have hr2 := hr1
    have HB2 := HB1
    clear hr1 HB1
    generalize w1 = w2 at *
    generalize s = s' at *
    generalize t = t' at *
  all_goals go_wp2_with fail
  all_goals (refine (theirs_any l _ _ hl hr2.out).mono ?_)
  all_goals (rintro e w3 ⟨ao3, cap3, rfl, ho3, hb3⟩)
  all_goals (have HR3 := Lib.hid (hr2.out.below hb3))
  all_goals (have HO3 := Lib.hid (RdV.ofOwns ho3))
  all_goals (have HB3 := Lib.hid (HB2.out.trans (hb3.mono HB2.out.size)))
  all_goals clear hr2 HB2 ho3 hb3
  all_goals go_wp2_with fail
  all_goals (refine (apply_any l (.slice ao3 l.length cap3) [⟨s', f, .slice (some ⟨w3.heap.size, 0, none⟩) 1 1, [⟨t', 0, 0, .empty⟩]⟩] (.slice (some ⟨w3.heap.size + 1, 0, none⟩) 1 1) _ (by omega) ((HO3.out.alloc _).alloc _) (by simp) (by intro c hc; simp at hc; subst hc; simp)
    (show Cols ((w3.alloc (.cells #[.int .i64 t', .int .i64 0, .int .u64 0, .string .empty] 38)).alloc (.cells #[.string s', .string f, .slice (some ⟨w3.heap.size, 0, none⟩) 1 1] 41)) _ _ from
      ⟨by have h := RdV.lit (w3.alloc (.cells #[.int .i64 t', .int .i64 0, .int .u64 0, .string .empty] 38)) #[.string s', .string f, .slice (some ⟨w3.heap.size, 0, none⟩) 1 1] 41 1 3 (by decide) rfl
          simp at h
          exact h, fun c hc => by simp only [List.mem_singleton] at hc; subst hc; exact (RdV.lit w3 #[.int .i64 t', .int .i64 0, .int .u64 0, .string .empty] 38 1 4 (by decide) rfl).alloc _⟩)).mono ?_)
  all_goals (rintro e w4 ⟨ao4, cap4, rs, rfl, htag, hout, hb4⟩)
  all_goals (have hlen := congrArg List.length htag)
  all_goals (rw [List.length_map, show ([⟨s', f, .slice (some ⟨w3.heap.size, 0, none⟩) 1 1, [⟨t', 0, 0, .empty⟩]⟩] : List Cl).map Cl.tag = [(s', f, [⟨t', 0, 0, .empty⟩])] from rfl, applied_one] at hlen)
  all_goals (have HR4 := Lib.hid (((HR3.out.alloc (.cells #[.int .i64 t', .int .i64 0, .int .u64 0, .string .empty] 38)).alloc (.cells #[.string s', .string f, .slice (some ⟨w3.heap.size, 0, none⟩) 1 1] 41)).below hb4))
  all_goals (have HB4 := Lib.hid (((HB3.out.alloc HB3.out.size (.cells #[.int .i64 t', .int .i64 0, .int .u64 0, .string .empty] 38)).alloc (by have := HB3.out.size; simp; omega) (.cells #[.string s', .string f, .slice (some ⟨w3.heap.size, 0, none⟩) 1 1] 41)).trans (hb4.mono (by have := HB3.out.size; simp; omega))))
  all_goals clear HR3 HO3 HB3 htag hout hb4
  all_goals (generalize rs.length = n at hlen ⊢)
  all_goals (have HL := Lib.hid hlen)
  all_goals clear hlen
  all_goals go_wp2_with fail
  all_goals (refine (theirs_any l _ _ hl HR4.out).mono ?_)
  all_goals (rintro e w5 ⟨ao5, cap5, rfl, ho5, hb5⟩)
  all_goals (have HR5 := Lib.hid (HR4.out.below hb5))
  all_goals (have HO5 := Lib.hid (RdV.ofOwns ho5))
  all_goals (have HB5 := Lib.hid (HB4.out.trans (hb5.mono HB4.out.size)))
  all_goals clear HR4 HB4 ho5 hb5
  all_goals go_wp2_with fail
  all_goals (refine (tcovers_any l _ s' f t' _ (by omega) HO5.out).mono ?_)
  all_goals (rintro e w6 ⟨rfl, hb6⟩)
  all_goals (have HR6 := Lib.hid (HR5.out.below hb6))
  all_goals (have HB6 := Lib.hid (HB5.out.trans (hb6.mono HB5.out.size)))
  all_goals clear HR5 HO5 HB5 hb6
  all_goals (have hrc := rcovers_any l _ s' f t' _ (by omega) HR6.out)
  all_goals (generalize (l.any fun t => t.cov s' f t') = c at *)
  all_goals go_wp2_with fail
  all_goals (refine hrc.mono ?_)
  all_goals (rintro e w7 ⟨rfl, rfl⟩)
  all_goals clear hrc
  all_goals cases c
  all_goals (have hl2 := HL.out)
  all_goals simp only [Bool.false_eq_true, if_true, if_false] at hl2
  all_goals subst hl2
  all_goals go_wp2_with fail
  all_goals go_ret
  all_goals exact ⟨rfl, HB6.out⟩

theorem trod_struct4 {H : Type} {enc : TypeId × Value → H} {P : Program} {w : World} {base : Nat} {spare : Nat → Bool} {held : Bool} {t : TypeId} {f0 f1 f2 f3 : Field} {fuel : Nat} {cs : List Value} {x : DataW H × List MemPlace} (ht : P.underlying t = some (.struct #[f0, f1, f2, f3])) (h : DataW.trod enc P w base spare held fuel t cs = some x) :
    ∃ y0 y1 y2 y3 n, x = (.agg [y0.1, y1.1, y2.1, y3.1], y0.2 ++ (y1.2 ++ (y2.2 ++ y3.2))) ∧ cs.length = P.cellsOf t ∧ DataW.trod enc P w base spare held n f0.type ((cs.drop f0.offset).take (P.cellsOf f0.type)) = some y0 ∧
      DataW.trod enc P w base spare held n f1.type ((cs.drop f1.offset).take (P.cellsOf f1.type)) = some y1 ∧ DataW.trod enc P w base spare held n f2.type ((cs.drop f2.offset).take (P.cellsOf f2.type)) = some y2 ∧
      DataW.trod enc P w base spare held n f3.type ((cs.drop f3.offset).take (P.cellsOf f3.type)) = some y3 := by
  obtain ⟨xs, n, _, rfl, hl, hlen, hf⟩ := DataW.trod_struct ht h
  match xs, hlen with
  | [y0, y1, y2, y3], _ => exact ⟨y0, y1, y2, y3, n, by simp, hl, by simpa using hf 0 f0 rfl, by simpa using hf 1 f1 rfl, by simpa using hf 2 f2 rfl, by simpa using hf 3 f3 rfl⟩

theorem open_tombs {H : Type} {enc : TypeId × Value → H} {W : World} {v : Value} {b0 : Nat} {d : DataW H} {ps : List MemPlace} (o : Value.okWide Try.prog W .any b0 22 v) (h : DataW.Trod enc Try.prog W 0 (fun _ => true) true 22 v d ps) :
    ∃ l : List Tm, RdV W 4 v l.length (l.flatMap Tm.cells) ∧ ((v = .slice none 0 0 ∧ d = .nil ∧ l = []) ∨ ∃ els sp, d = .slice els sp ∧ els.length = l.length) := by
  obtain ⟨xs, h1, h2, h3, h4⟩ := open_flat Tm.cells (fun _ => True) (fun _ => 0) Try.underlying22 (by kernel_rfl : Try.prog.cellsOf 32 = 4) (fun _ => rfl) (fun n cs y hy => by
    obtain ⟨y0, y1, y2, y3, m, rfl, hl, e0, e1, e2, e3⟩ := trod_struct4 Try.underlying32 hy
    obtain ⟨a, ha, rfl, _⟩ := DataW.trod_string Try.underlying9 e0
    obtain ⟨b, hb, rfl, _⟩ := DataW.trod_string Try.underlying9 e1
    obtain ⟨c, hc, rfl, _⟩ := DataW.trod_int Try.underlying2 e2
    obtain ⟨e, he, rfl, _⟩ := DataW.trod_int Try.underlying2 e3
    have hcl : Try.prog.cellsOf 32 = 4 := by kernel_rfl
    have h1c : Try.prog.cellsOf 9 = 1 := by kernel_rfl
    have h2c : Try.prog.cellsOf 2 = 1 := by kernel_rfl
    rw [hcl] at hl
    simp only [h1c, h2c] at ha hb hc he
    match cs, hl with
    | [c0, c1, c2, c3], _ =>
      simp at ha hb hc he
      subst ha; subst hb; subst hc; subst he
      exact ⟨⟨a, b, c, e⟩, rfl, trivial, Nat.zero_le _⟩) o h
  exact ⟨xs, h1, h4⟩

theorem tombs_small {H : Type} {l : List Tm} {v : Value} {d : DataW H} (hw : (DataW.weights Try.prog 22 d).all (· ≤ reachBytes) = true)
    (hd : (v = .slice none 0 0 ∧ d = .nil ∧ l = []) ∨ ∃ els sp, d = .slice els sp ∧ els.length = l.length) : l.length * 48 ≤ 140737488351232 := by
  rcases hd with ⟨_, _, rfl⟩ | ⟨els, sp, rfl, hl⟩
  · simp
  · have hb : Try.prog.bytesOf 32 = 48 := by kernel_rfl
    have := List.all_eq_true.1 hw ((els.length + sp.length) * Try.prog.bytesOf 32) (by simp [DataW.weights, Try.underlying22])
    rw [hb] at this
    have h2 : (els.length + sp.length) * 48 ≤ reachBytes := by simpa using this
    unfold reachBytes at h2
    omega

theorem tombCovers_walk {H : Type} (enc : TypeId × Value → H) (W : World) (base : Nat) (v0 v1 v2 v3 v4 : Value) (d0 d1 d2 d3 d4 : DataW H) (p0 p1 p2 p3 p4 : List MemPlace)
    (o0 : Value.okWide Try.prog W .any base 22 v0) (o1 : Value.okWide Try.prog W .any base 9 v1) (o2 : Value.okWide Try.prog W .any base 9 v2) (o3 : Value.okWide Try.prog W .any base 2 v3) (o4 : Value.okWide Try.prog W .any base 3 v4)
    (t0 : DataW.Trod enc Try.prog W 0 (fun _ => true) true 22 v0 d0 p0) (t1 : DataW.Trod enc Try.prog W 0 (fun _ => true) true 9 v1 d1 p1) (t2 : DataW.Trod enc Try.prog W 0 (fun _ => true) true 9 v2 d2 p2) (t3 : DataW.Trod enc Try.prog W 0 (fun _ => true) true 2 v3 d3 p3) (t4 : DataW.Trod enc Try.prog W 0 (fun _ => true) true 3 v4 d4 p4)
    (hsz : (DataW.weightsEach Try.prog [22, 9, 9, 2, 3] [d0, d1, d2, d3, d4]).all (· ≤ reachBytes) = true) :
    Calls Try.prog 4 #[v0, v1, v2, v3, v4] W fun e W' => e = .returned (.bool true) ∧ Below W.heap.size W W' := by
  obtain ⟨s, rfl, rfl, rfl, _⟩ := Go.ChangeMaps.open_string Try.underlying9 o1 t1
  obtain ⟨f, rfl, rfl, rfl, _⟩ := Go.ChangeMaps.open_string Try.underlying9 o2 t2
  obtain ⟨t, rfl, rfl, rfl, _⟩ := open_int Try.underlying2 o3 t3
  obtain ⟨x, rfl, rfl, rfl, _⟩ := open_int Try.underlying3 o4 t4
  obtain ⟨l, hr, hd⟩ := open_tombs o0 t0
  refine tombCovers_run l v0 s f t x W (tombs_small ?_ hd) hr
  simp only [DataW.weightsEach, List.append_nil, List.all_append, Bool.and_eq_true] at hsz
  exact hsz.1

end Go.Proofs.Ytmhmmnleijadnaa
