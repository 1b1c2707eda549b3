/- gristlaw13.TombEncodes, TombBack: the walks. -/
import Derived.Test.YtmhmmnleijadnaaOpen
import Derived.Test.YtmhmmnleijadnaaTEnc13
import Derived.Test.YtmhmmnleijadnaaRTEnc13
import Derived.Test.YtmhmmnleijadnaaTDec13
import Derived.Test.YtmhmmnleijadnaaRTDec13
namespace Go.Proofs.Ytmhmmnleijadnaa
open Go.RowKit Go.ChangeShapes Go.WideShapes Go.ChangeAt
set_option linter.unusedVariables false

def teP (l : List Tm) : List UInt8 × Int := match encT l with
  | none => ([], 1)
  | some bs => (bs, 0)
theorem te_one {l : List Tm} {w w' : World} {e : Ending} (h : TeEnd l w e w') : Below w.heap.size w w' ∧ ∃ ao cap, e = .returned (.tuple #[.slice ao (teP l).1.length cap, .int .i64 (teP l).2]) ∧ Rd w' (.slice ao (teP l).1.length cap) (teP l).1 := by
  obtain ⟨hb, h⟩ := h
  refine ⟨hb, ?_⟩
  unfold teP
  rcases h with ⟨h1, rfl⟩ | ⟨bs, ao, cap, h1, rfl, ho⟩
  · rw [h1]
    exact ⟨none, 0, rfl, RdV.nil _ _⟩
  · rw [h1]
    exact ⟨ao, cap, rfl, ho.rd⟩
open Classical in
noncomputable def tdP (b : List UInt8) : List Tm × Int := if h : ∃ l, TdGood b l then (h.choose, 0) else ([], 2)
theorem td_good {b : List UInt8} {l : List Tm} (h : TdGood b l) : tdP b = (l, 0) := by
  have hx : ∃ l, TdGood b l := ⟨l, h⟩
  unfold tdP
  rw [dif_pos hx, TdGood.one h hx.choose_spec]
theorem td_bad {b : List UInt8} (h : ∀ l, ¬ TdGood b l) : tdP b = ([], 2) := by
  unfold tdP
  rw [dif_neg (fun ⟨l, hl⟩ => h l hl)]
theorem td_one {b : List UInt8} {w w' : World} {e : Ending} (h : TdEnd b w e w') : Below w.heap.size w w' ∧ ∃ ao cap, e = .returned (.tuple #[.slice ao (tdP b).1.length cap, .int .i64 (tdP b).2]) ∧ RdV w' 4 (.slice ao (tdP b).1.length cap) (tdP b).1.length ((tdP b).1.flatMap Tm.cells) := by
  obtain ⟨hb, h⟩ := h
  refine ⟨hb, ?_⟩
  rcases h with ⟨h1, rfl⟩ | ⟨l, ao, cap, h1, rfl, hr⟩
  · rw [td_bad h1]
    exact ⟨none, 0, rfl, RdV.nil _ _⟩
  · rw [td_good h1]
    exact ⟨ao, cap, rfl, hr⟩
theorem td_len (b : List UInt8) : (tdP b).1.length ≤ b.length := by
  by_cases h : ∃ l, TdGood b l
  · obtain ⟨l, hl⟩ := h
    rw [td_good hl]
    have := encTs_len_le l
    rw [hl.1] at this
    show l.length ≤ _
    omega
  · rw [td_bad (fun l hl => h ⟨l, hl⟩)]
    simp

theorem str_conv {w : World} {v : Value} {bs : List UInt8} (h : Rd w v bs) : (convert 47 9 v).run Try.prog w = .ok (.string (strOf bs)) w :=
  run_str h _ _ _ Try.underlying47 Try.underlying5 Try.underlying9

set_option maxHeartbeats 2000000 in
set_option maxRecDepth 100000 in
theorem tombEncodes_run (l : List Tm) (bs : List UInt8) (v u : Value) (w : World) (hl : (encTs l).length ≤ 100000000) (hbl : bs.length ≤ 100000000) (hr : RdV w 4 v l.length (l.flatMap Tm.cells)) (hb : Rd w u bs) :
    Calls Try.prog 7 #[v, u] w fun e w' => e = .returned (.bool true) ∧ Below w.heap.size w w' := by
  have hll : l.length * 48 ≤ 140737488351232 := by have := encTs_len_le l; omega
  have HTL := Lib.hid (td_len bs)
  go_enter Try.func7, Try.ntmps7
  go_wp2_with fail
  refine (awake_any w).mono ?_
  rintro e w1 ⟨rfl, hb1⟩
  have HB1 := Lib.hid hb1
  have HR1 := Lib.hid (RdV.below hr hb1)
  have HU1 := Lib.hid (show Rd w1 u bs from RdV.below hb hb1)
  clear hr hb hb1
  go_wp2_with fail
  refine (rtencode_any l v w1 hl HR1.out).mono ?_
  intro e w2 h
  obtain ⟨hb2, ao2, c2, rfl, hr2⟩ := te_one h
  have HB2 := Lib.hid (HB1.out.trans (hb2.mono HB1.out.size))
  have HR2 := Lib.hid (RdV.below HR1.out hb2)
  have HU2 := Lib.hid (show Rd w2 u bs from RdV.below HU1.out hb2)
  have HE2 := Lib.hid hr2
  clear h hb2 hr2 HR1 HU1
  go_wp2_with fail
  refine (theirs_any l v w2 hll HR2.out).mono ?_
  rintro e w3 ⟨ao3, c3, rfl, ho3, hb3⟩
  have HR3 := Lib.hid (RdV.ofOwns ho3)
  have HB3 := Lib.hid (HB2.out.trans (hb3.mono HB2.out.size))
  have HU3 := Lib.hid (show Rd w3 u bs from RdV.below HU2.out hb3)
  have HE3 := Lib.hid (show Rd w3 _ (teP l).1 from RdV.below HE2.out hb3)
  clear ho3 hb3 HR2 HU2 HE2
  go_wp2_with fail
  refine (tencode_any l _ w3 hl HR3.out).mono ?_
  intro e w4 h
  obtain ⟨hb4, ao4, c4, rfl, hr4⟩ := te_one h
  have HB4 := Lib.hid (HB3.out.trans (hb4.mono HB3.out.size))
  have HU4 := Lib.hid (show Rd w4 u bs from RdV.below HU3.out hb4)
  have HE4 := Lib.hid (show Rd w4 _ (teP l).1 from RdV.below HE3.out hb4)
  have HF4 := Lib.hid hr4
  clear h hb4 hr4 HR3 HU3 HE3
  go_wp2_with fail
  refine (tdecode_any bs u w4 hbl HU4.out).mono ?_
  intro e w5 h
  obtain ⟨hb5, ao5, c5, rfl, hr5⟩ := td_one h
  have HB5 := Lib.hid (HB4.out.trans (hb5.mono HB4.out.size))
  have HU5 := Lib.hid (show Rd w5 u bs from RdV.below HU4.out hb5)
  have HE5 := Lib.hid (show Rd w5 _ (teP l).1 from RdV.below HE4.out hb5)
  have HF5 := Lib.hid (show Rd w5 _ (teP l).1 from RdV.below HF4.out hb5)
  have HD5 := Lib.hid hr5
  clear h hb5 hr5 HU4 HE4 HF4
  go_wp2_with fail
  refine (rtdecode_any bs u w5 hbl HU5.out).mono ?_
  intro e w6 h
  obtain ⟨hb6, ao6, c6, rfl, hr6⟩ := td_one h
  have HB6 := Lib.hid (HB5.out.trans (hb6.mono HB5.out.size))
  have hc1 := str_conv (show Rd w6 _ (teP l).1 from RdV.below HE5.out hb6)
  have hc2 := str_conv (show Rd w6 _ (teP l).1 from RdV.below HF5.out hb6)
  have hours := ours_any (tdP bs).1 _ w6 (by have := HTL.out; omega) (RdV.below HD5.out hb6)
  have HD6 := Lib.hid hr6
  clear h hb6 hr6 HU5 HE5 HF5 HD5
  generalize tdP bs = q at *
  generalize teP l = p at *
  obtain ⟨pb, pe⟩ := p
  obtain ⟨ql, qe⟩ := q
  dsimp only at *
  go_wp2_with fail
  refine hours.mono ?_
  rintro e w7 ⟨ao7, c7, rfl, ho7, hb7⟩
  have hsame := sameTombs_any ql _ _ w7 (RdV.ofOwns ho7) (RdV.below HD6.out hb7)
  have HB7 := Lib.hid (HB6.out.trans (hb7.mono HB6.out.size))
  clear ho7 hb7 hours hc1 hc2
  go_wp2_with fail
  refine hsame.mono ?_
  rintro e w8 ⟨rfl, m, rfl⟩
  go_wp2_with fail
  go_ret
  exact ⟨rfl, HB7.out.trans ((below_drewN m).mono HB7.out.size)⟩

theorem encT_good {l : List Tm} {bs : List UInt8} (h : encT l = some bs) (ho : ∀ t ∈ l, okT t) : TdGood bs l := by
  unfold encT at h
  split at h
  · rename_i hf
    exact ⟨by simpa using h, hf, ho⟩
  · cases h

set_option maxHeartbeats 2000000 in
set_option maxRecDepth 100000 in
theorem tombBack_run (l : List Tm) (bs : List UInt8) (v u : Value) (w : World) (hok : ∀ t ∈ l, okT t) (hl : (encTs l).length ≤ 100000000) (hbl : bs.length ≤ 100000000) (hr : RdV w 4 v l.length (l.flatMap Tm.cells)) (hb : Rd w u bs) :
    Calls Try.prog 8 #[v, u] w fun e w' => e = .returned (.bool true) ∧ Below w.heap.size w w' := by
  have hll : l.length * 48 ≤ 140737488351232 := by have := encTs_len_le l; omega
  have HOK := Lib.hid hok
  clear hok
  have key : ∀ (w5 : World) (s7 s8 : Value), True := fun _ _ _ => trivial
  clear key
  go_enter Try.func8, Try.ntmps8
  go_wp2_with fail
  refine (awake_any w).mono ?_
  rintro e w1 ⟨rfl, hb1⟩
  have HB1 := Lib.hid hb1
  have HR1 := Lib.hid (RdV.below hr hb1)
  have HU1 := Lib.hid (show Rd w1 u bs from RdV.below hb hb1)
  clear hr hb hb1
  go_wp2_with fail
  refine (theirs_any l v w1 hll HR1.out).mono ?_
  rintro e w3 ⟨ao3, c3, rfl, ho3, hb3⟩
  have HT3 := Lib.hid (RdV.ofOwns ho3)
  have HB3 := Lib.hid (HB1.out.trans (hb3.mono HB1.out.size))
  have HU3 := Lib.hid (show Rd w3 u bs from RdV.below HU1.out hb3)
  have HR3 := Lib.hid (RdV.below HR1.out hb3)
  clear ho3 hb3 HR1 HU1
  go_wp2_with fail
  refine (tencode_any l _ w3 hl HT3.out).mono ?_
  intro e w4 h
  obtain ⟨hb4, h⟩ := h
  have HB4 := Lib.hid (HB3.out.trans (hb4.mono HB3.out.size))
  have HU4 := Lib.hid (show Rd w4 u bs from RdV.below HU3.out hb4)
  have HR4 := Lib.hid (RdV.below HR3.out hb4)
  clear hb4 HR3 HU3 HT3
  have hfin : ∀ (w5 : World), Below w.heap.size w w5 → Rd w5 u bs → Calls Try.prog 18 #[u] w5 fun e w6 => Below w.heap.size w w6 ∧ ((e = .returned (.tuple #[.slice none 0 0, .int .i64 2])) ∨ ∃ l2 ao cap, e = .returned (.tuple #[.slice ao l2.length cap, .int .i64 0]) ∧ encT l2 = some bs ∧ Rd w6 u bs ∧ RdV w6 4 (.slice ao l2.length cap) l2.length (l2.flatMap Tm.cells)) := by
    intro w5 hb5 hu5
    refine (tdecode_any bs u w5 hbl hu5).mono ?_
    rintro e w6 ⟨hb6, h⟩
    refine ⟨hb5.trans (hb6.mono hb5.size), ?_⟩
    rcases h with ⟨_, rfl⟩ | ⟨l2, ao, cap, hg, rfl, hr2⟩
    · exact .inl rfl
    · exact .inr ⟨l2, ao, cap, rfl, by rw [encT_some hg.2.1, hg.1], RdV.below hu5.v hb6, hr2⟩
  have HFIN := Lib.hid hfin
  clear hfin
  have htail : ∀ (w6 : World) (l2 : List Tm) (ao : Option Addr) (cap : Nat), Below w.heap.size w w6 → encT l2 = some bs → Rd w6 u bs → RdV w6 4 (.slice ao l2.length cap) l2.length (l2.flatMap Tm.cells) →
      Calls Try.prog 17 #[.slice ao l2.length cap] w6 fun e w7 => Below w.heap.size w w7 ∧ ∃ ao7 c7, e = .returned (.tuple #[.slice ao7 bs.length c7, .int .i64 0]) ∧ (convert 47 9 (.slice ao7 bs.length c7)).run Try.prog w7 = .ok (.string (strOf bs)) w7 ∧ (convert 47 9 u).run Try.prog w7 = .ok (.string (strOf bs)) w7 := by
    intro w6 l2 ao cap hb6 he hu6 hr6
    have hle : (encTs l2).length ≤ 100000000 := by
      unfold encT at he
      split at he
      · have : encTs l2 = bs := by simpa using he
        rw [this]; exact hbl
      · cases he
    refine (tencode_any l2 _ w6 hle hr6).mono ?_
    rintro e w7 ⟨hb7, h⟩
    refine ⟨hb6.trans (hb7.mono hb6.size), ?_⟩
    rcases h with ⟨h1, _⟩ | ⟨bs2, ao7, c7, h1, rfl, ho7⟩
    · rw [he] at h1; cases h1
    · rw [he] at h1
      obtain rfl : bs = bs2 := by simpa using h1
      exact ⟨ao7, c7, rfl, str_conv ho7.rd, str_conv (RdV.below hu6.v hb7)⟩
  have HTAIL := Lib.hid htail
  clear htail
  rcases h with ⟨h1, rfl⟩ | ⟨s, ao4, c4, h1, rfl, ho4⟩
  · clear h1
    go_wp2_with fail
    refine (HFIN.out w4 HB4.out HU4.out).mono ?_
    rintro e w6 ⟨hb6, h⟩
    have HB6 := Lib.hid hb6
    clear hb6
    rcases h with rfl | ⟨l2, ao, cap, rfl, he, hu6, hr6⟩
    · go_wp2_with fail
      go_ret
      exact ⟨rfl, HB6.out⟩
    · have hT := HTAIL.out w6 l2 ao cap HB6.out he hu6 hr6
      clear he hu6 hr6
      go_wp2_with fail
      refine hT.mono ?_
      rintro e w7 ⟨hb7, ao7, c7, rfl, k1, k2⟩
      have HB7 := Lib.hid hb7
      clear hb7 hT
      go_wp2_with fail
      go_ret
      exact ⟨rfl, HB7.out⟩
  · have hg := encT_good h1 HOK.out
    have hsl : s.length ≤ 100000000 := by rw [← hg.1]; exact hl
    have HG := Lib.hid hg
    have hr4 := ho4.rd
    clear hg h1 ho4
    go_wp2_with fail
    refine (tdecode_any s _ w4 hsl hr4).mono ?_
    rintro e w5 ⟨hb5, h⟩
    have HB5 := Lib.hid (HB4.out.trans (hb5.mono HB4.out.size))
    have HU5 := Lib.hid (show Rd w5 u bs from RdV.below HU4.out hb5)
    have HR5 := Lib.hid (RdV.below HR4.out hb5)
    clear hb5 hr4
    rcases h with ⟨h1, _⟩ | ⟨l3, ao5, c5, h1, rfl, hr5⟩
    · exact absurd HG.out (h1 l)
    · obtain rfl : l3 = l := TdGood.one HG.out h1
      have hours := ours_any l3 _ w5 hll hr5
      clear h1 hr5
      go_wp2_with fail
      refine hours.mono ?_
      rintro e w6 ⟨ao6, c6, rfl, ho6, hb6⟩
      have hsame := sameTombs_any l3 _ _ w6 (RdV.ofOwns ho6) (RdV.below HR5.out hb6)
      have HB6 := Lib.hid (HB5.out.trans (hb6.mono HB5.out.size))
      have HU6 := Lib.hid (show Rd w6 u bs from RdV.below HU5.out hb6)
      clear ho6 hb6 hours
      go_wp2_with fail
      refine hsame.mono ?_
      rintro e w7 ⟨rfl, m, rfl⟩
      have HB7 := Lib.hid (HB6.out.trans ((below_drewN m).mono HB6.out.size))
      have HU7 := Lib.hid (show Rd (w6.drewN m) u bs from RdV.below HU6.out (below_drewN m))
      clear hsame
      go_wp2_with fail
      refine (HFIN.out _ HB7.out HU7.out).mono ?_
      rintro e w8 ⟨hb8, h⟩
      have HB8 := Lib.hid hb8
      clear hb8
      rcases h with rfl | ⟨l2, ao, cap, rfl, he, hu8, hr8⟩
      · go_wp2_with fail
        go_ret
        exact ⟨rfl, HB8.out⟩
      · have hT := HTAIL.out w8 l2 ao cap HB8.out he hu8 hr8
        clear he hu8 hr8
        go_wp2_with fail
        refine hT.mono ?_
        rintro e w9 ⟨hb9, ao9, c9, rfl, k1, k2⟩
        have HB9 := Lib.hid hb9
        clear hb9 hT
        go_wp2_with fail
        go_ret
        exact ⟨rfl, HB9.out⟩

/-! ### The arguments -/
theorem trod_fields4 {H : Type} {enc : TypeId × Value → H} {P : Program} {w : World} {base : Nat} {spare : Nat → Bool} {held : Bool} {t : TypeId} {f0 f1 f2 f3 : Field} {fuel : Nat} {cs : List Value} {x : DataW H × List MemPlace} (ht : P.underlying t = some (.struct #[f0, f1, f2, f3])) (h : DataW.trod enc P w base spare held fuel t cs = some x) :
    ∃ y0 y1 y2 y3 n, x = (.agg [y0.1, y1.1, y2.1, y3.1], y0.2 ++ (y1.2 ++ (y2.2 ++ y3.2))) ∧ cs.length = P.cellsOf t ∧ DataW.trod enc P w base spare held n f0.type ((cs.drop f0.offset).take (P.cellsOf f0.type)) = some y0 ∧
      DataW.trod enc P w base spare held n f1.type ((cs.drop f1.offset).take (P.cellsOf f1.type)) = some y1 ∧ DataW.trod enc P w base spare held n f2.type ((cs.drop f2.offset).take (P.cellsOf f2.type)) = some y2 ∧
      DataW.trod enc P w base spare held n f3.type ((cs.drop f3.offset).take (P.cellsOf f3.type)) = some y3 := by
  obtain ⟨xs, n, _, rfl, hl, hlen, hf⟩ := DataW.trod_struct ht h
  match xs, hlen with
  | [y0, y1, y2, y3], _ => exact ⟨y0, y1, y2, y3, n, by simp, hl, by simpa using hf 0 f0 rfl, by simpa using hf 1 f1 rfl, by simpa using hf 2 f2 rfl, by simpa using hf 3 f3 rfl⟩

theorem open_tombsU {H : Type} {enc : TypeId × Value → H} {W : World} {v : Value} {b0 : Nat} {d : DataW H} {ps : List MemPlace} (o : Value.okWide Try.prog W .any b0 22 v) (h : DataW.Trod enc Try.prog W 0 (fun _ => true) true 22 v d ps) :
    ∃ l : List Tm, RdV W 4 v l.length (l.flatMap Tm.cells) ∧ (∀ t ∈ l, okT t) ∧ (encTs l).length ≤ 20 * Rows.uptoBulk d := by
  obtain ⟨xs, h1, h2, h3, h4⟩ := open_flat Tm.cells okT (fun t => t.s.size + t.f.size + 5) Try.underlying22 (by kernel_rfl : Try.prog.cellsOf 32 = 4) (fun _ => rfl) (fun n cs y hy => by
    obtain ⟨y0, y1, y2, y3, m, rfl, hl, e0, e1, e2, e3⟩ := trod_fields4 Try.underlying32 hy
    obtain ⟨a, ha, rfl, _⟩ := DataW.trod_string Try.underlying9 e0
    obtain ⟨b, hb, rfl, _⟩ := DataW.trod_string Try.underlying9 e1
    obtain ⟨c, hc, rfl, wc⟩ := DataW.trod_int Try.underlying2 e2
    obtain ⟨e, he, rfl, we⟩ := DataW.trod_int Try.underlying2 e3
    have hcl : Try.prog.cellsOf 32 = 4 := by kernel_rfl
    have h1c : Try.prog.cellsOf 9 = 1 := by kernel_rfl
    have h2c : Try.prog.cellsOf 2 = 1 := by kernel_rfl
    rw [hcl] at hl
    simp only [h1c, h2c] at ha hb hc he
    match cs, hl with
    | [c0, c1, c2, c3], _ =>
      simp at ha hb hc he
      subst ha; subst hb; subst hc; subst he
      have ea : a.data.toList.length = a.size := rfl
      have eb : b.data.toList.length = b.size := rfl
      exact ⟨⟨a, b, c, e⟩, rfl, ⟨wf_i64' wc, wf_i64' we⟩, by simp only [Rows.uptoBulk, Rows.uptoBulkAll]; omega⟩) o h
  refine ⟨xs, h1, h2, ?_⟩
  have h5 := encTs_len_le xs
  have h6 : ∀ l : List Tm, 20 * l.length + (l.map fun t => t.s.size + t.f.size).sum ≤ 20 * (l.map fun t => t.s.size + t.f.size + 5).sum := by
    intro l
    induction l with
    | nil => simp
    | cons t r ih => simp only [List.length_cons, List.map_cons, List.sum_cons]; omega
  have h7 := h6 xs
  omega

theorem tombEncodes_walk {H : Type} (enc : TypeId × Value → H) (W : World) (base : Nat) (v0 v1 : Value) (d0 d1 : DataW H) (p0 p1 : List MemPlace)
    (o0 : Value.okWide Try.prog W .any base 22 v0) (o1 : Value.okWide Try.prog W .any base 47 v1)
    (t0 : DataW.Trod enc Try.prog W 0 (fun _ => true) true 22 v0 d0 p0) (t1 : DataW.Trod enc Try.prog W 0 (fun _ => true) true 47 v1 d1 p1)
    (hsz : (DataW.weightsEach Try.prog [22, 47] [d0, d1]).all (· ≤ reachBytes) = true) (hk : Rows.uptoSmall H [d0, d1] = true) :
    Calls Try.prog 7 #[v0, v1] W fun e W' => e = .returned (.bool true) ∧ Below W.heap.size W W' := by
  obtain ⟨l, hr, hok, hl⟩ := open_tombsU o0 t0
  obtain ⟨bs, hr0, hbl, _⟩ := open_bytes o1 t1
  have h := bulk_small hk
  simp only [Rows.uptoBulkAll] at h
  exact tombEncodes_run l bs v0 v1 W (by omega) (by omega) hr hr0

theorem tombBack_walk {H : Type} (enc : TypeId × Value → H) (W : World) (base : Nat) (v0 v1 : Value) (d0 d1 : DataW H) (p0 p1 : List MemPlace)
    (o0 : Value.okWide Try.prog W .any base 22 v0) (o1 : Value.okWide Try.prog W .any base 47 v1)
    (t0 : DataW.Trod enc Try.prog W 0 (fun _ => true) true 22 v0 d0 p0) (t1 : DataW.Trod enc Try.prog W 0 (fun _ => true) true 47 v1 d1 p1)
    (hsz : (DataW.weightsEach Try.prog [22, 47] [d0, d1]).all (· ≤ reachBytes) = true) (hk : Rows.uptoSmall H [d0, d1] = true) :
    Calls Try.prog 8 #[v0, v1] W fun e W' => e = .returned (.bool true) ∧ Below W.heap.size W W' := by
  obtain ⟨l, hr, hok, hl⟩ := open_tombsU o0 t0
  obtain ⟨bs, hr0, hbl, _⟩ := open_bytes o1 t1
  have h := bulk_small hk
  simp only [Rows.uptoBulkAll] at h
  exact tombBack_run l bs v0 v1 W hok (by omega) (by omega) hr hr0
end Go.Proofs.Ytmhmmnleijadnaa
