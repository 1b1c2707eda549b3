/- gristref05.Encode. -/
import Derived.Test.YtcgjbjiififkhaaStEnc
import Derived.Test.YtcgjbjiififkhaaRPack04
import Derived.Deep.RegionHeld3
namespace Go.Proofs.Ytcgjbjiififkhaa
open Go.RowKit
set_option linter.unusedVariables false

theorem join2_any (x y : List UInt8) (a b : Value) (t : TypeId) (w : World) (ha : Rd w a x) (hb : Rd w b y) (hl : x.length + y.length ≤ 140737488355328) :
    Calls Try.prog 15 #[.slice (some ⟨w.heap.size, 0, none⟩) 2 2] (w.alloc (.cells #[a, b] t)) fun e w' => ∃ ao cap, e = .returned (.slice ao (x ++ y).length cap) ∧ Own w' w.heap.size (.slice ao (x ++ y).length cap) (x ++ y) ∧ Below w.heap.size w w' := by
  have e : [x, y].flatten = x ++ y := by simp
  have h := join_any [x, y] _ _ (Parts.two (t := t) ha hb) (by rw [e, List.length_append]; exact hl)
  rw [e] at h
  refine h.mono ?_
  rintro e w' ⟨ao, cap, rfl, ho, hb⟩
  have hbl : Below w.heap.size w (w.alloc (.cells #[a, b] t)) := (Below.refl _ _).alloc (Nat.le_refl _) _
  exact ⟨ao, cap, rfl, ownsRow_mono ho (by simp), hbl.trans (hb.mono hbl.size)⟩
theorem join3_any (x y z : List UInt8) (a b c : Value) (t : TypeId) (w : World) (ha : Rd w a x) (hb : Rd w b y) (hc : Rd w c z) (hl : x.length + y.length + z.length ≤ 140737488355328) :
    Calls Try.prog 15 #[.slice (some ⟨w.heap.size, 0, none⟩) 3 3] (w.alloc (.cells #[a, b, c] t)) fun e w' => ∃ ao cap, e = .returned (.slice ao (x ++ y ++ z).length cap) ∧ Own w' w.heap.size (.slice ao (x ++ y ++ z).length cap) (x ++ y ++ z) ∧ Below w.heap.size w w' := by
  have e : [x, y, z].flatten = x ++ y ++ z := by simp
  have h := join_any [x, y, z] _ _ (Parts.three (t := t) ha hb hc) (by rw [e, List.length_append, List.length_append]; exact hl)
  rw [e] at h
  refine h.mono ?_
  rintro e w' ⟨ao, cap, rfl, ho, hb⟩
  have hbl : Below w.heap.size w (w.alloc (.cells #[a, b, c] t)) := (Below.refl _ _).alloc (Nat.le_refl _) _
  exact ⟨ao, cap, rfl, ownsRow_mono ho (by simp), hbl.trans (hb.mono hbl.size)⟩

theorem join2d_any (x y : List UInt8) (a b : Value) (t : TypeId) (w : World) (ha : Rd w a x) (hb : Rd w b y) (hl : x.length + y.length ≤ 140737488355328) :
    Calls Try.prog 15 #[.slice (some ⟨w.heap.size, 0, none⟩) 2 2] (w.alloc (.cells #[a, b] t)).drew fun e w' => ∃ ao cap, e = .returned (.slice ao (x ++ y).length cap) ∧ Own w' w.heap.size (.slice ao (x ++ y).length cap) (x ++ y) ∧ Below w.heap.size w w' := by
  have e : [x, y].flatten = x ++ y := by simp
  have h := join_any [x, y] _ (w.alloc (.cells #[a, b] t)).drew (Parts.two (t := t) ha hb) (by rw [e, List.length_append]; exact hl)
  rw [e] at h
  refine h.mono ?_
  rintro e w' ⟨ao, cap, rfl, ho, hb⟩
  have hbl : Below w.heap.size w (w.alloc (.cells #[a, b] t)).drew := ((Below.refl _ _).alloc (Nat.le_refl _) _).drew
  exact ⟨ao, cap, rfl, ownsRow_mono ho hbl.size, hbl.trans (hb.mono hbl.size)⟩
theorem join3d_any (x y z : List UInt8) (a b c : Value) (t : TypeId) (w : World) (ha : Rd w a x) (hb : Rd w b y) (hc : Rd w c z) (hl : x.length + y.length + z.length ≤ 140737488355328) :
    Calls Try.prog 15 #[.slice (some ⟨w.heap.size, 0, none⟩) 3 3] (w.alloc (.cells #[a, b, c] t)).drew fun e w' => ∃ ao cap, e = .returned (.slice ao (x ++ y ++ z).length cap) ∧ Own w' w.heap.size (.slice ao (x ++ y ++ z).length cap) (x ++ y ++ z) ∧ Below w.heap.size w w' := by
  have e : [x, y, z].flatten = x ++ y ++ z := by simp
  have h := join_any [x, y, z] _ (w.alloc (.cells #[a, b, c] t)).drew (Parts.three (t := t) ha hb hc) (by rw [e, List.length_append, List.length_append]; exact hl)
  rw [e] at h
  refine h.mono ?_
  rintro e w' ⟨ao, cap, rfl, ho, hb⟩
  have hbl : Below w.heap.size w (w.alloc (.cells #[a, b, c] t)).drew := ((Below.refl _ _).alloc (Nat.le_refl _) _).drew
  exact ⟨ao, cap, rfl, ownsRow_mono ho hbl.size, hbl.trans (hb.mono hbl.size)⟩

set_option maxHeartbeats 2000000 in
set_option maxRecDepth 100000 in
theorem rencode_any (l : List Int) (v : Value) (w : World) (hok : ∀ t ∈ l, i64ok t) (hr : Tms w v l) :
    Calls Try.prog 9 #[v] w fun e w' => StEnd l w e w' := by
  obtain ⟨ao0, cap0, rfl, hnc, hcm⟩ := RdV.shape hr
  unfold maxLen at hcm
  by_cases hlen : l.length = 0 ∨ 1000 < l.length
  · have HE := Lib.hid (encS_none (l := l) (by rcases hlen with h | h; exact .inl h; exact .inr (.inl h)))
    go_enter Try.func9, Try.ntmps9
    rcases hlen with h | h
    · have hz : (l.length : Int) < 1 := by omega
      go_wp2_with fail
      go_ret2
      exact ⟨Below.refl _ _, .inl ⟨HE.out, by go_light; rfl⟩⟩
    · have hz : ¬ (l.length : Int) < 1 := by omega
      have hz2 : (1000 : Int) < (l.length : Int) := by omega
      go_wp2_with fail
      go_ret2
      exact ⟨Below.refl _ _, .inl ⟨HE.out, by go_light; rfl⟩⟩
  · have hl0 : l.length ≠ 0 := by omega
    have hl1 : l.length ≤ 1000 := by omega
    have hb1 : 1 ≤ l.length := by omega
    have hz : ¬ (l.length : Int) < 1 := by omega
    have HR := Lib.hid hr
    have HOK := Lib.hid hok
    clear hr hlen hok
    obtain ⟨n, hn⟩ : ∃ n, n = l.length - 1 := ⟨_, rfl⟩
    have HN := Lib.hid hn
    have hn1 : n ≤ 999 := by omega
    clear hn
    go_enter Try.func9, Try.ntmps9
    go_wp2_with fail
    go_loopg [4, 5, 6, 7] n (fun m s4 s5 s6 s7 wr => ∃ (k I : Nat) (zo : Option Addr) (zc : Nat), k + m = n ∧ I = k + 1 ∧ s7 = .int .i64 (I : Int) ∧ s4 = .bool (alF l k) ∧ s6 = .int .u64 ((pAt l k : Nat) : Int) ∧ s5 = .slice zo k zc ∧ Hid (risF l k = true) ∧ Hid (OwnN wr w.heap.size (.slice zo k zc) (upto (zAt l) k)) ∧ Hid (Below w.heap.size w wr))
    case atStart => exact ⟨0, 1, none, 0, by omega, rfl, rfl, by rw [alF_zero]; congr 1; exact decide_eq_decide.2 (by omega), rfl, rfl, Lib.hid rfl, Lib.hid (World.ownsRow_nil _ _ _ _), Lib.hid (Below.refl _ _)⟩
    case round =>
      obtain ⟨k, I, zo, zc, hk, hI, rfl, rfl, rfl, rfl, HRI, HZ, HB⟩ := hrel
      by_cases h0 : gk = 0
      · obtain rfl : k = n := by omega
        clear hk
        have hge : ¬ (I : Int) < (l.length : Int) := by have := HN.out; omega
        have HII := Lib.hid hI
        have hp0 : (0 : Int) < (l.length : Int) := by omega
        clear hI
        go_upto_region 15 with fail
        obtain ⟨b0, off0, bcap0, he0, hbb0, hc0⟩ := tm_at (RdV.below HR.out HB.out) 0 (by omega)
        simp only [Value.slice.injEq, true_and] at he0
        obtain ⟨rfl, rfl⟩ := he0
        rw [Nat.add_zero] at hc0
        have hu0 := u64_wrap (l.getD 0 0)
        have hUl := uT_lt (l.getD 0 0)
        have HUL := Lib.hid hUl
        have hlen65 := Lib.hid (show l.length < 65536 by omega)
        have hLI := Lib.hid (show (beN 2 l.length).length + (be8 (uT (l.getD 0 0))).length ≤ 140737488355328 by rw [beN_len, be8_len]; decide)
        have HHD : Hid (∀ m : UInt8, m :: (beN 2 l.length ++ be8 (uT (l.getD 0 0))) = hdS m l) := Lib.hid (fun m => rfl)
        clear hUl
        have hTwo := fun w => two_any l.length hlen65.out w
        have hEi := fun w => eight_any (uT (l.getD 0 0)) HUL.out w
        generalize beN 2 l.length = T2 at *
        generalize wr = wo at *
        obtain ⟨H2, hH2⟩ : ∃ H2, H2 = T2 ++ be8 (uT (l.getD 0 0)) := ⟨_, rfl⟩
        rw [← hH2] at HHD
        have HH2 := Lib.hid hH2
        clear hH2
        go_cut [9] (fun s9 wx => ∃ ao cap, s9 = .slice ao H2.length cap ∧ Rd wx (.slice ao H2.length cap) H2 ∧ Below wo.heap.size wo wx)
        case first =>
          generalize uT (l.getD 0 0) = U0 at *
          generalize l.getD 0 0 = t0 at *
          clear HHD HR HOK HN hnc hcm HRI HZ
          generalize l.length = LN at *
          have hpN : 0 < LN := by omega
          have hpN2 : ¬ LN = 0 := by omega
          go_region_held3 (fun w' => w'.cell? ⟨b0, off0, none⟩ = some (.int .i64 t0))
            (first
              | exact hc0
              | exact (hBa.cell (p := ⟨b0, off0, none⟩) hbb0).trans hc0
              | exact (hBb.cell (p := ⟨b0, off0, none⟩) hbb0).trans hc0
              | exact ((hBb.alloc hBb.size _).cell (p := ⟨b0, off0, none⟩) hbb0).trans hc0
              | exact (hBc.cell (p := ⟨b0, off0, none⟩) hbb0).trans hc0)
            (first
              | (go_at_call 16; refine (hTwo _).mono ?_; rintro _ wa ⟨ao2, ac2, rfl, hoa, hba⟩; have HOA := Lib.hid hoa; have hBa : Below wo.heap.size wo wa := ⟨hba.os, hba.tape, hba.output, hba.size, hba.block⟩; clear hoa hba)
              | (go_at_call 17; refine (hEi _).mono ?_; rintro _ wb ⟨ao3, ac3, rfl, hob, hbb⟩; have hBb : Below wo.heap.size wo wb := hBa.trans (hbb.mono hBa.size); have HOB := Lib.hid hob; have HOA2 := Lib.hid (show Own wb _ (.slice ao2 T2.length ac2) T2 from (Chg.ofBelowAny (S := fun _ => False) hbb).owns HOA.out (fun _ _ h => h)); clear hob hbb)
              | (go_at_call 15; have hJ := join2_any T2 (be8 U0) _ _ 24 wb HOA2.out.rd HOB.out.rd hLI.out; rw [← HH2.out] at hJ; refine hJ.mono ?_; rintro _ wc ⟨ao4, ac4, rfl, hoc, hbc⟩; have hBc : Below wo.heap.size wo wc := hBb.trans (hbc.mono hBb.size); have HOC := Lib.hid hoc; clear hoc hbc))
          all_goals (go_wp2_with fail; go_meet; go_light; exact ⟨ao4, ac4, rfl, HOC.out.rd, hBc⟩)
        case rest =>
        obtain ⟨ho1, hc1, rfl, hH, hBc⟩ := hcut
        have HH := Lib.hid hH
        have HBc := Lib.hid (show Below w.heap.size w wc from HB.out.trans (hBc.mono HB.out.size))
        have HZ2 := Lib.hid (show Nums wc (.slice zo k zc) (upto (zAt l) k) from RdV.below HZ.out.nums hBc)
        have hRP := rpack_any (upto (zAt l) k) _ wc (by rw [upto_len]; omega) (upto_lt _ _ (zAt_lt l) _) HZ2.out
        obtain ⟨pm, hpm⟩ : ∃ pm, pm = pkO (upto (zAt l) k) := ⟨_, rfl⟩
        have HPM := Lib.hid hpm
        have HES := Lib.hid (encS_some hl0 hl1 (by rw [← HN.out]; exact HRI.out))
        clear hpm hH hBc HZ hTwo hEi hc0 hu0 hLI HB hbb0
        go_upto_region 17 with (go_at_call 18; refine hRP.mono ?_; intro e w10 h; obtain ⟨hb10, po, pc, rfl, hr10, hl10⟩ := pkO_one h; rw [← HPM.out] at hr10 hl10 ⊢; have HR10 := Lib.hid hr10.rd; have HL10 := Lib.hid (show pm.1.length ≤ 8000 by rw [upto_len] at hl10; omega); have HH10 := Lib.hid (show Rd w10 (.slice ho1 H2.length hc1) H2 from RdV.below HH.out.v hb10); have HB10 := Lib.hid (HBc.out.trans (hb10.mono HBc.out.size)); clear h hb10 hr10 hl10 hRP)
        obtain ⟨p, m⟩ := pm
        dsimp only at *
        have hH2l : Hid (H2.length = 10) := Lib.hid (by have := congrArg List.length (HHD.out 0); rw [hdS_len, List.length_cons] at this; omega)
        clear HH HZ2 HBc HH2 hlen65 HUL
        cases hal : alF l k with
        | true =>
          have hk1 : 0 < k ∧ 1 < l.length := by
            unfold alF at hal
            rw [Bool.and_eq_true, decide_eq_true_eq] at hal
            have := HN.out
            omega
          have HENC := Lib.hid (encB_al (by rw [← HN.out]; exact hal))
          obtain ⟨b4, off4, bcap4, he4, hbb4, hc4⟩ := tm_at (RdV.below HR.out HB10.out) 1 hk1.2
          obtain ⟨b3, off3, bcap3, he3, _, hc3⟩ := tm_at (RdV.below HR.out HB10.out) 0 (by omega)
          simp only [Value.slice.injEq, true_and, Option.some.injEq, Addr.mk.injEq, and_true] at he3 he4
          obtain ⟨⟨rfl, rfl⟩, rfl⟩ := he4
          obtain ⟨⟨rfl, rfl⟩, f3⟩ := he3
          clear f3
          rw [Nat.add_zero] at hc3
          have hX0 : IntKind.u64.wrap (IntKind.u64.wrap (l.getD 1 0) - IntKind.u64.wrap (l.getD 0 0)) = ((dAt l 0 : Nat) : Int) := by
            rw [u64_wrap (l.getD 1 0), u64_wrap (l.getD 0 0), u64_wrap, uT_sub]; rfl
          have hE8 := fun w => eight_any (dAt l 0) (dAt_lt _ _) w
          have hfl : Hid (([1] ++ H2 ++ be8 (dAt l 0)) = encB l) := Lib.hid (by rw [HENC.out, ← HHD.out 1]; rfl)
          have hfs : Hid (([1] : List UInt8).length + H2.length + (be8 (dAt l 0)).length ≤ 140737488355328) := Lib.hid (by rw [hH2l.out, be8_len]; decide)
          have hfe : Hid ((encB l).length = 19) := Lib.hid (by rw [HENC.out, List.length_append, hdS_len, be8_len])
          clear hal HENC HHD HR HOK HN hnc hcm HRI HPM hge HR10 HL10
          go_upto_region 18 with fail
          generalize dAt l 0 = D0 at *
          generalize l.getD 1 0 = t1 at *
          generalize l.getD 0 0 = t0 at *
          generalize l.length = LN at *
          have hpN : 0 < LN := by omega
          have hpN2 : ¬ LN = 0 := by omega
          have hpN3 : 1 < LN := hk1.2
          have hpN4 : (1 : Int) < (LN : Int) := by omega
          have hBw : Below w10.heap.size w10 w10.drew := (Below.refl _ _).drew
          have hBA : Below w10.heap.size w10 (w10.alloc (.cells #[.int .u8 1] 5)).drew := ((Below.refl _ _).alloc (Nat.le_refl _) _).drew
          go_region_held3 (fun w' => w'.cell? ⟨b0, off0, none⟩ = some (.int .i64 t0) ∧ w'.cell? ⟨b0, off0 + 1, none⟩ = some (.int .i64 t1))
            (first
              | exact ⟨hc3, hc4⟩
              | exact ⟨(hBA.cell (p := ⟨b0, off0, none⟩) hbb4).trans hc3, (hBA.cell (p := ⟨b0, off0 + 1, none⟩) hbb4).trans hc4⟩
              | exact ⟨(hBb.cell (p := ⟨b0, off0, none⟩) hbb4).trans hc3, (hBb.cell (p := ⟨b0, off0 + 1, none⟩) hbb4).trans hc4⟩
              | exact ⟨((hBb.alloc hBb.size _).cell (p := ⟨b0, off0, none⟩) hbb4).trans hc3, ((hBb.alloc hBb.size _).cell (p := ⟨b0, off0 + 1, none⟩) hbb4).trans hc4⟩
              | exact ⟨(((hBb.alloc hBb.size _).alloc (hBb.alloc hBb.size _).size _).cell (p := ⟨b0, off0, none⟩) hbb4).trans hc3, (((hBb.alloc hBb.size _).alloc (hBb.alloc hBb.size _).size _).cell (p := ⟨b0, off0 + 1, none⟩) hbb4).trans hc4⟩
              | exact ⟨(hBc.cell (p := ⟨b0, off0, none⟩) hbb4).trans hc3, (hBc.cell (p := ⟨b0, off0 + 1, none⟩) hbb4).trans hc4⟩)
            (first
              | (go_at_call 17; refine (hE8 _).mono ?_; rintro _ wb ⟨ao3, ac3, rfl, hob, hbb⟩; have HOB := Lib.hid hob; first | (have hbb1 : Below (w10.alloc (.cells #[.int .u8 1] 5)).drew.heap.size (w10.alloc (.cells #[.int .u8 1] 5)).drew wb := (by with_reducible exact hbb); have hBb : Below w10.heap.size w10 wb := hBA.trans (hbb1.mono hBA.size); have HL1 := Lib.hid (show Rd wb (.slice (some ⟨w10.heap.size, 0, none⟩) 1 1) [1] from RdV.below (show RdV (w10.alloc (.cells #[.int .u8 1] 5)).drew 1 _ 1 _ from RdV.lit w10 #[.int .u8 1] 5 1 1 (by decide) rfl) hbb1); clear hob hbb hbb1) | (have hbb1 : Below w10.drew.heap.size w10.drew wb := (by with_reducible exact hbb); have hBb : Below w10.heap.size w10 wb := hBw.trans hbb1; clear hob hbb hbb1))
              | (go_at_call 15; have hJ := join3_any [1] H2 (be8 D0) _ (.slice ho1 H2.length hc1) _ 24 wb HL1.out (RdV.below HH10.out.v hBb) HOB.out.rd hfs.out; rw [hfl.out] at hJ; refine hJ.mono ?_; rintro _ wc2 ⟨ao4, ac4, rfl, hoc, hbc⟩; have hBc : Below w10.heap.size w10 wc2 := hBb.trans (hbc.mono hBb.size); have HOC := Lib.hid (ownsRow_mono hoc hBb.size); clear hoc hbc)
              | (go_at_call 15; have hBbl := hBb.alloc hBb.size (.cells #[.int .u8 1] 5); have hJ := join3_any [1] H2 (be8 D0) _ (.slice ho1 H2.length hc1) _ 24 (wb.alloc (.cells #[.int .u8 1] 5)) (show Rd _ (.slice (some ⟨wb.heap.size, 0, none⟩) 1 1) [1] from RdV.lit wb #[.int .u8 1] 5 1 1 (by decide) rfl) (RdV.below HH10.out.v hBbl) (RdV.below HOB.out.rd.v ((Below.refl _ _).alloc (Nat.le_refl _) _)) hfs.out; have eS : (wb.alloc (.cells #[.int .u8 1] 5)).heap.size = wb.heap.size + 1 := (by simp); rw [hfl.out, eS] at hJ; refine hJ.mono ?_; rintro _ wc2 ⟨ao4, ac4, rfl, hoc, hbc⟩; have hBc : Below w10.heap.size w10 wc2 := hBbl.trans (hbc.mono (by have := hBb.size; omega)); have HOC := Lib.hid (ownsRow_mono hoc (show w10.heap.size ≤ wb.heap.size + 1 by have := hBb.size; omega)); clear hoc hbc))
          all_goals (go_wp2_with fail; go_ret2; exact ⟨HB10.out.trans (hBc.mono HB10.out.size), .inr ⟨encB l, ao4, ac4, HES.out, by rw [hfe.out]; decide, by rw [hfe.out]; decide, by go_light; rfl, ownsRow_mono HOC.out HB10.out.size⟩⟩)
        | false =>
          have HAL : Hid (alF l (l.length - 1) = false) := Lib.hid (by rw [← HN.out]; exact hal)
          have hBA := (Below.refl w10.heap.size w10).alloc (Nat.le_refl _) (.cells #[.int .u8 2] 5)
          have hBA0 := (Below.refl w10.heap.size w10).alloc (Nat.le_refl _) (.cells #[.int .u8 0] 5)
          by_cases hX : m = 0 ∧ 0 < k
          · obtain ⟨rfl, hk0⟩ := hX
            have h2l : (2 : Int) ≤ (l.length : Int) := by have := HN.out; omega
            have HENC : Hid (encB l = hdS 2 l ++ p) := Lib.hid (by
              rcases pkO_ok HPM.out with ⟨_, hp⟩ | ⟨h, _⟩
              · exact encB_pk HAL.out (by have := HN.out; omega) (by rw [← HN.out]; exact hp)
              · cases h)
            have hJ := join3_any [2] H2 p (.slice (some ⟨w10.heap.size, 0, none⟩) 1 1) (.slice ho1 H2.length hc1) (.slice po p.length pc) 24 (w10.alloc (.cells #[.int .u8 2] 5)) (RdV.lit w10 #[.int .u8 2] 5 1 1 (by decide) rfl) (RdV.below HH10.out.v hBA) (RdV.below HR10.out.v hBA) (by rw [hH2l.out]; have := HL10.out; simp; omega)
            have eS : (w10.alloc (.cells #[.int .u8 2] 5)).heap.size = w10.heap.size + 1 := by simp
            have hfl : ([2] ++ H2 ++ p) = encB l := by rw [HENC.out, ← HHD.out 2]; rfl
            rw [hfl, eS] at hJ
            have hfe : Hid ((encB l).length = 11 + p.length) := Lib.hid (by rw [HENC.out, List.length_append, hdS_len])
            have HBA := Lib.hid hBA
            clear hal hfl eS hBA hBA0 HHD HENC HPM HAL
            go_wp2_with (go_at_call 15; refine hJ.mono ?_; rintro _ wc2 ⟨ao4, ac4, rfl, hoc, hbc⟩; have HBc2 := Lib.hid (HBA.out.trans (hbc.mono (show w10.heap.size ≤ w10.heap.size + 1 by omega))); have HOC := Lib.hid (ownsRow_mono hoc (show w10.heap.size ≤ w10.heap.size + 1 by omega)); clear hoc hbc hJ)
            go_ret2
            exact ⟨HB10.out.trans (HBc2.out.mono HB10.out.size), .inr ⟨encB l, ao4, ac4, HES.out, by rw [hfe.out]; have := HL10.out; omega, by rw [hfe.out]; omega, by go_light; rfl, ownsRow_mono HOC.out HB10.out.size⟩⟩
          · have HENC : Hid (encB l = hdS 0 l ++ plS l k) := Lib.hid (by
              have := HN.out
              rw [encB_pl HAL.out (by
                rcases pkO_ok HPM.out with ⟨h, hp⟩ | ⟨h, hp⟩
                · right; intro h1; exact hX ⟨h, by omega⟩
                · left; rw [← HN.out]; exact hp), ← HN.out])
            go_upto_region 19 with fail
            go_cut [107] (fun s107 wx => s107 = .bool false ∧ wx = w10)
            case first =>
              by_cases h2l : (2 : Int) ≤ (l.length : Int)
              · have hm : ((m : Int) == 0) = false := decide_eq_false (by intro h; exact hX ⟨by omega, by have := HN.out; omega⟩)
                go_wp2_with fail
                all_goals go_meet
                all_goals go_light
                all_goals exact ⟨rfl, rfl⟩
              · go_wp2_with fail
                all_goals go_meet
                all_goals go_light
                all_goals exact ⟨rfl, rfl⟩
            case rest =>
            obtain ⟨rfl, rfl⟩ := hcut
            generalize wc = wq at *
            have hJ := join2_any [0] H2 (.slice (some ⟨wq.heap.size, 0, none⟩) 1 1) (.slice ho1 H2.length hc1) 24 (wq.alloc (.cells #[.int .u8 0] 5)) (RdV.lit wq #[.int .u8 0] 5 1 1 (by decide) rfl) (RdV.below HH10.out.v hBA0) (by rw [hH2l.out]; decide)
            have eS : (wq.alloc (.cells #[.int .u8 0] 5)).heap.size = wq.heap.size + 1 := by simp
            have hfl : ([0] ++ H2) = hdS 0 l := HHD.out 0
            rw [hfl, eS] at hJ
            have HBA := Lib.hid hBA0
            clear hal hfl eS hBA hBA0 HHD HPM hX HR10 HL10
            go_wp2_with (go_at_call 15; refine hJ.mono ?_; rintro _ wc2 ⟨ao4, ac4, rfl, hoc, hbc⟩; have HBc2 := Lib.hid (HBA.out.trans (hbc.mono (show wq.heap.size ≤ wq.heap.size + 1 by omega))); have HOC := Lib.hid (show Own wc2 wq.heap.size (.slice ao4 (hdS 0 l).length ac4) (hdS 0 l) from ownsRow_mono hoc (show wq.heap.size ≤ wq.heap.size + 1 by omega)); clear hoc hbc hJ)
            go_loopg [12, 13] k (fun m s12 s13 wr => ∃ (q J : Nat) (cs : List UInt8) (co : Option Addr) (cc : Nat), q + m = k ∧ J = q + 1 ∧ s13 = .int .i64 (J : Int) ∧ s12 = .slice co cs.length cc ∧ Hid (cs = hdS 0 l ++ plS l q) ∧ Hid (Own wr wq.heap.size (.slice co cs.length cc) cs) ∧ Hid (Below wq.heap.size wq wr))
            case atStart => exact ⟨0, 1, hdS 0 l, ao4, ac4, by omega, rfl, rfl, rfl, Lib.hid (by rw [plS_zero, List.append_nil]), HOC, HBc2⟩
            case round =>
              obtain ⟨q, J, cs, co, cc, hq, hJq, rfl, rfl, HC, HO, HB2⟩ := hrel
              by_cases h2 : gk = 0
              · obtain rfl : q = k := by omega
                have hge2 : ¬ (J : Int) < (l.length : Int) := by have := HN.out; omega
                have hce := HC.out
                rw [← HENC.out] at hce
                have HCE := Lib.hid hce
                have hfin : Hid (cs.length = 11 + 8 * q) := Lib.hid (by rw [HC.out, List.length_append, hdS_len, plS_len])
                clear hce hJq
                go_wp2_with fail
                go_ret2
                exact ⟨HB10.out.trans (HB2.out.mono HB10.out.size), .inr ⟨cs, co, cc, by rw [HES.out, HCE.out], by rw [hfin.out]; omega, by rw [hfin.out]; omega, by go_light; rfl, ownsRow_mono HO.out HB10.out.size⟩⟩
              · have hqk : q < k := by omega
                have hJl : J < l.length := by have := HN.out; omega
                have hJI : (J : Int) < (l.length : Int) := by omega
                obtain ⟨b2, off2, bcap2, he2, hb2, hc2⟩ := tm_at (RdV.below HR.out (HB10.out.trans (HB2.out.mono HB10.out.size))) J hJl
                simp only [Value.slice.injEq, true_and, Option.some.injEq, Addr.mk.injEq, and_true] at he2
                obtain ⟨⟨rfl, rfl⟩, f2⟩ := he2
                clear f2
                have hTd := fun w => eight_any (uT (l.getD J 0)) (uT_lt _) w
                have hu := u64_wrap (l.getD J 0)
                have hnx : Hid (plS l (q + 1) = plS l q ++ be8 (uT (l.getD J 0))) := Lib.hid (by rw [plS_next, hJq])
                have hsum : Hid (cs.length + (be8 (uT (l.getD J 0))).length ≤ 140737488355328) := Lib.hid (by rw [be8_len, HC.out, List.length_append, hdS_len, plS_len]; omega)
                have HJQ := Lib.hid hJq
                clear hJq
                generalize uT (l.getD J 0) = U at *
                generalize l.getD J 0 = x at *
                go_wp2_with (first
                  | (go_at_call 17; refine (hTd _).mono ?_; rintro _ w11 ⟨to7, tc7, rfl, ho7, hb7⟩; have HO7 := Lib.hid ho7; have HO8 := Lib.hid ((Chg.ofBelowAny (S := fun _ => False) hb7).owns HO.out (fun _ _ h => h)); have HB7 := Lib.hid (HB2.out.trans (hb7.mono HB2.out.size)); clear ho7 hb7 HO HB2)
                  | (at_builtin; refine wpList_append_bs _ rfl (.tmp 130) (.tmp 136) rfl wq.heap.size (.slice co cs.length cc) cs rfl HO8.out (.slice to7 (be8 U).length tc7) (be8 U) rfl HO7.out.rd hsum.out HB7.out.size ?_; intro ao9 cap9 w12 hg9; have HG := Lib.hid hg9; clear hg9))
                go_roundg (gk - 1)
                case measure => go_light; omega
                case rel =>
                  go_light
                  exact ⟨q + 1, J + 1, cs ++ be8 U, ao9, cap9, by omega, by have := HJQ.out; omega, by go_num, by simp, Lib.hid (by rw [hnx.out, HC.out, List.append_assoc]), Lib.hid HG.out.owns, Lib.hid (HB7.out.trans (HG.out.below HB7.out.size (fun j hj => (World.ownsRow.lt HO8.out j hj).1)))⟩
      · have hkn : k < n := by omega
        have hlt : (I : Int) < (l.length : Int) := by have := HN.out; omega
        have hIl : I < l.length := by omega
        have hkl : k < l.length := by omega
        have hIk : (I : Int) - 1 = (k : Int) := by omega
        obtain ⟨b, off, bcap, he, hb, hc⟩ := tm_at (RdV.below HR.out HB.out) k hkl
        obtain ⟨b2, off2, bcap2, he2, _, hc2⟩ := tm_at (RdV.below HR.out HB.out) I hIl
        obtain ⟨b3, off3, bcap3, he3, _, hc3⟩ := tm_at (RdV.below HR.out HB.out) 0 (by omega)
        obtain ⟨b4, off4, bcap4, he4, _, hc4⟩ := tm_at (RdV.below HR.out HB.out) 1 (by omega)
        simp only [Value.slice.injEq, true_and] at he he2 he3 he4
        obtain ⟨rfl, rfl⟩ := he
        obtain ⟨e2, f2⟩ := he2
        clear f2
        obtain ⟨e3, f3⟩ := he3
        clear f3
        obtain ⟨e4, f4⟩ := he4
        clear f4
        simp only [Option.some.injEq, Addr.mk.injEq, and_true] at e2 e3 e4
        obtain ⟨rfl, rfl⟩ := e2
        obtain ⟨rfl, rfl⟩ := e3
        obtain ⟨rfl, rfl⟩ := e4
        rw [Nat.add_zero] at hc3
        have HII := Lib.hid hI
        have hcI : l.getD I 0 = l.getD (k + 1) 0 := by rw [hI]
        rw [hcI] at hc2
        have hnx := Lib.hid (risF_next l k)
        clear hI hcI
        by_cases hrs : l.getD k 0 < l.getD (k + 1) 0
        · have HRI2 : Hid (risF l (k + 1) = true) := Lib.hid (by rw [hnx.out, HRI.out]; simpa using hrs)
          have HAN := Lib.hid (alF_next l k)
          have HPN : Hid (pAt l (k + 1) = dAt l k) := Lib.hid rfl
          have hux := Lib.hid (upto_next (zAt l) k)
          have hzz : zAt l k = zigN (sI ((dAt l k : Int) - (pAt l k : Int))) := rfl
          have hqok := sI_ok ((dAt l k : Int) - (pAt l k : Int))
          have hq := sub_sI (dAt l k) (pAt l k)
          have hul : (upto (zAt l) k).length = k := upto_len _ _
          have hX : IntKind.u64.wrap (IntKind.u64.wrap (l.getD (k + 1) 0) - IntKind.u64.wrap (l.getD k 0)) = ((dAt l k : Nat) : Int) := by
            rw [u64_wrap (l.getD (k + 1) 0), u64_wrap (l.getD k 0), u64_wrap, uT_sub]; rfl
          have hX0 : IntKind.u64.wrap (IntKind.u64.wrap (l.getD 1 0) - IntKind.u64.wrap (l.getD 0 0)) = ((dAt l 0 : Nat) : Int) := by
            rw [u64_wrap (l.getD 1 0), u64_wrap (l.getD 0 0), u64_wrap, uT_sub]; rfl
          generalize sI ((dAt l k : Int) - (pAt l k : Int)) = q at *
          have hzc := fun (w : World) => rzig_any q hqok w
          rw [← hzz] at hzc
          have hO1 : Hid (wr.ownsRow w.heap.size 37 1 (.slice zo k zc) k ((upto (zAt l) k).map uV)) := Lib.hid (by have := HZ.out; unfold OwnN at this; rwa [hul] at this)
          have h63 : Hid (k + 1 ≤ maxLen) := Lib.hid (by unfold maxLen; omega)
          have hby : Hid ((k + 1) * 8 ≤ 140737488355328) := Lib.hid (by omega)
          have hba : Hid (∀ m o, w.heap.size ≤ ((wr.drewN m).alloc o).heap.size) := Lib.hid (fun m o => by have h6 := HB.out.size; have e1 : (wr.drewN m).heap.size = wr.heap.size := rfl; have e2 : ((wr.drewN m).alloc o).heap.size = (wr.drewN m).heap.size + 1 := (by simp); omega)
          clear HZ hzz hqok hul hnx
          generalize zAt l k = ZA at *
          generalize pAt l k = P at *
          generalize dAt l k = D at *
          generalize dAt l 0 = D0 at *
          generalize alF l k = A at *
          generalize l.getD (k + 1) 0 = x at *
          generalize l.getD k 0 = y at *
          generalize l.getD 1 0 = t1 at *
          generalize l.getD 0 0 = t0 at *
          have hle : ¬ x ≤ y := by omega
          go_upto_region 9 with fail
          go_quiet (fail)
          go_upto_region 11 with fail
          go_quiet (fail)
          go_upto_region 12 with fail
          cases A with
          | true =>
            go_quiet (fail)
            simp only [World.drewN_drewN]
            go_wp2_with (first
              | (go_at_call 14; refine (hzc _).mono ?_; rintro _ _ ⟨rfl, rfl⟩)
              | (at_builtin; refine wpList_append_rd _ rfl (.tmp 67) (.tmp 73) 39 rfl w.heap.size 37 (.int .u64 0) 1 8 Try.underlying39 infoU64 rfl (by decide) (.slice zo k zc) k ((upto (zAt l) k).map uV) rfl (World.ownsRow.alloc (by exact hO1.out) _) (.slice (some ⟨_, 0, none⟩) 1 1) 1 [uV ZA] rfl (RdV.one _ _ 37) (one_one _ rfl) h63.out hby.out (hba.out _ _) ?_; intro ao6 cap6 w6 hg6; have HG := Lib.hid hg6.ofAlloc; clear hg6))
            go_roundg (gk - 1)
            case measure => go_light; omega
            case rel =>
              go_light
              have hBd := HG.out.below (B := w.heap.size) HB.out.size (fun j hj => (World.ownsRow.lt hO1.out j hj).1)
              refine ⟨k + 1, I + 1, ao6, cap6, by omega, by have := HII.out; omega, by go_num, by rw [HAN.out]; simp [beq_nat], by rw [HPN.out], rfl, HRI2, Lib.hid ?_, Lib.hid ((below_dr HB.out _).trans hBd)⟩
              unfold OwnN
              rw [upto_len, hux.out, List.map_append]
              exact HG.out.owns
          | false =>
            go_quiet (fail)
            simp only [World.drewN_drewN]
            go_wp2_with (first
              | (go_at_call 14; refine (hzc _).mono ?_; rintro _ _ ⟨rfl, rfl⟩)
              | (at_builtin; refine wpList_append_rd _ rfl (.tmp 67) (.tmp 73) 39 rfl w.heap.size 37 (.int .u64 0) 1 8 Try.underlying39 infoU64 rfl (by decide) (.slice zo k zc) k ((upto (zAt l) k).map uV) rfl (World.ownsRow.alloc (by exact hO1.out) _) (.slice (some ⟨_, 0, none⟩) 1 1) 1 [uV ZA] rfl (RdV.one _ _ 37) (one_one _ rfl) h63.out hby.out (hba.out _ _) ?_; intro ao6 cap6 w6 hg6; have HG := Lib.hid hg6.ofAlloc; clear hg6))
            go_roundg (gk - 1)
            case measure => go_light; omega
            case rel =>
              go_light
              have hBd := HG.out.below (B := w.heap.size) HB.out.size (fun j hj => (World.ownsRow.lt hO1.out j hj).1)
              refine ⟨k + 1, I + 1, ao6, cap6, by omega, by have := HII.out; omega, by go_num, by rw [HAN.out]; simp, by rw [HPN.out], rfl, HRI2, Lib.hid ?_, Lib.hid ((below_dr HB.out _).trans hBd)⟩
              unfold OwnN
              rw [upto_len, hux.out, List.map_append]
              exact HG.out.owns
        · have HE := Lib.hid (encS_none (l := l) (.inr (.inr (by rw [← HN.out]; exact risF_false hkn hrs))))
          generalize l.getD (k + 1) 0 = x at *
          generalize l.getD k 0 = y at *
          have hle : x ≤ y := by omega
          go_upto_region 9 with fail
          go_quiet (fail)
          go_wp2_with fail
          go_ret2
          exact ⟨below_dr HB.out _, .inl ⟨HE.out, by go_light; rfl⟩⟩
end Go.Proofs.Ytcgjbjiififkhaa
