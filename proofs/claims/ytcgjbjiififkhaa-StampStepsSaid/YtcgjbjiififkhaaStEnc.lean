/- stamp.Encode. -/
import Derived.Test.YtcgjbjiififkhaaFar
import Derived.Test.YtcgjbjiififkhaaPkOut
namespace Go.Proofs.Ytcgjbjiififkhaa
open Go.RowKit
set_option linter.unusedVariables false

theorem sub_sI (a b : Nat) : IntKind.i64.wrap (IntKind.u64.wrap ((a : Int) - (b : Int))) = sI ((a : Int) - (b : Int)) := by
  rw [i64_wrap, u64_wrap]
  have := uT_cast ((a : Int) - (b : Int))
  unfold sI
  omega

theorem beq_nat (a b : Nat) : (((a : Int) == (b : Int)) : Bool) = (a == b) := by
  rw [Bool.eq_iff_iff, beq_iff_eq, beq_iff_eq]
  omega

set_option maxHeartbeats 2000000 in
set_option maxRecDepth 100000 in
theorem encode_any (l : List Int) (v : Value) (w : World) (hok : ∀ t ∈ l, i64ok t) (hr : Tms w v l) :
    Calls Try.prog 10 #[v] w fun e w' => StEnd l w e w' := by
  obtain ⟨ao0, cap0, rfl, hnc, hcm⟩ := RdV.shape hr
  unfold maxLen at hcm
  by_cases hlen : l.length = 0 ∨ 1000 < l.length
  · have HE := Lib.hid (encS_none (l := l) (by rcases hlen with h | h; exact .inl h; exact .inr (.inl h)))
    go_enter Try.func10, Try.ntmps10
    rcases hlen with h | h
    · go_wp2_with fail
      go_ret2
      exact ⟨Below.refl _ _, .inl ⟨HE.out, by go_light; rfl⟩⟩
    · have hz : ((l.length : Int) == 0) = false := decide_eq_false (by omega)
      have hz2 : (1000 : Int) < (l.length : Int) := by omega
      go_wp2_with fail
      go_ret2
      exact ⟨Below.refl _ _, .inl ⟨HE.out, by go_light; rfl⟩⟩
  · have hl0 : l.length ≠ 0 := by omega
    have hl1 : l.length ≤ 1000 := by omega
    have hb1 : 1 ≤ l.length := by omega
    have hz : ((l.length : Int) == 0) = false := decide_eq_false (by omega)
    have hrr : RdV w 1 (.slice ao0 l.length cap0) l.length (l.map tV) := hr
    have HR := Lib.hid hr
    have HOK := Lib.hid hok
    clear hr hlen hok
    go_enter Try.func10, Try.ntmps10
    go_wp2_with (with_reducible refine wpList_slice_at w w rfl (.tmp 25) (some (.const (.int .i64 1))) none 22 rfl 2 1 (.int .i64 0) 8 Try.underlying22 infoI64 _ _ _ _ rfl hrr 1 l.length ?hb hb1 (Nat.le_refl _) ?hk)
    case hb => exact bounds_lo _ _ .i64 1 hb1
    case hk =>
    intro ao1 cap1 hr1 _
    have HT := Lib.hid (Tms.tail hr1)
    obtain ⟨n, hn⟩ : ∃ n, n = l.length - 1 := ⟨_, rfl⟩
    rw [← hn] at HT ⊢
    have HN := Lib.hid hn
    have hn1 : n ≤ 999 := by omega
    have HDL : Hid ((l.drop 1).length = n) := Lib.hid (by rw [List.length_drop, hn])
    clear hr1 hn
    go_wp2_with fail
    go_loopg [28] n (fun m s28 wr => ∃ (k : Nat), k + m = n ∧ s28 = .int .i64 (k : Int) ∧ Hid (risF l k = true) ∧ wr = w)
    case atStart => exact ⟨0, by omega, rfl, Lib.hid rfl, rfl⟩
    case round =>
      obtain ⟨k, hk, rfl, HRI, rfl⟩ := hrel
      by_cases h0 : gk = 0
      · obtain rfl : k = n := by omega
        clear hk
        have hfar := far_any l _ wr hl0 hl1 HR.out
        rw [← HN.out] at hfar
        go_wp2_with (go_at_call 19; refine hfar.mono ?_; rintro _ w2 ⟨fo, fc, rfl, hfo, hfb⟩; have HF := Lib.hid hfo; have HFB := Lib.hid hfb; clear hfo hfb hfar)
        obtain ⟨n, hnk⟩ : ∃ n, n = k := ⟨_, rfl⟩
        subst hnk
        have HFN := Lib.hid (show Nums w2 (.slice fo n fc) (upto (dAt l) n) from by have := HF.out.nums; exact this)
        have HUL : Hid ((upto (dAt l) n).length = n) := Lib.hid (upto_len _ _)
        clear HF
        go_loopg [7, 8, 9, 47] n (fun m s7 s8 s9 s47 wr => ∃ (i : Nat) (zo : Option Addr) (zc : Nat), i + m = n ∧ s47 = .int .i64 (i : Int) ∧ s7 = .bool (alF l i) ∧ s8 = .int .u64 ((pAt l i : Nat) : Int) ∧ s9 = .slice zo i zc ∧ Hid (OwnN wr w2.heap.size (.slice zo i zc) (upto (zAt l) i)) ∧ Hid (Below w2.heap.size w2 wr))
        case atStart => exact ⟨0, none, 0, by omega, rfl, by rw [alF_zero]; congr 1; exact decide_eq_decide.2 (by have := HN.out; omega), rfl, rfl, Lib.hid (World.ownsRow_nil _ _ _ _), Lib.hid (Below.refl _ _)⟩
        case round =>
          obtain ⟨i, zo, zc, hi, rfl, rfl, rfl, rfl, HZ, HB⟩ := hrel
          by_cases h1 : gk = 0
          · obtain rfl : i = n := by omega
            clear hi
            have HBw := Lib.hid (HFB.out.trans (HB.out.mono HFB.out.size))
            have HZN := Lib.hid (show Nums wr (.slice zo i zc) (upto (zAt l) i) from by have := HZ.out.nums; unfold Nums at this; rw [upto_len] at this; unfold Nums; rw [upto_len]; exact this)
            have HFN2 := Lib.hid (show Nums wr (.slice fo i fc) (upto (dAt l) i) from RdV.below HFN.out HB.out)
            have hlI : IntKind.u64.wrap (l.length : Int) = (l.length : Int) := IntWalk.u64_in _ (by omega)
            have hT2 := tailn_any l.length 2 (by decide) (by decide) (by omega) (wr.alloc (.cells #[.int .u8 0] 5))
            have hT8 := fun w => tailn_any (uT (l.getD 0 0)) 8 (by decide) (by decide) (uT_lt _) w
            have hu0 := u64_wrap (l.getD 0 0)
            have hO0 : Hid (Own (wr.alloc (.cells #[.int .u8 0] 5)) wr.heap.size (.slice (some ⟨wr.heap.size, 0, none⟩) 1 1) [0]) := Lib.hid (World.ownsRow_lit wr #[.int .u8 0] 1 (Nat.le_refl _) (by decide) rfl)
            obtain ⟨b0, off0, bcap0, he0, hbb0, hc0⟩ := tm_at (RdV.below HR.out HBw.out) 0 (by omega)
            simp only [Value.slice.injEq, true_and] at he0
            obtain ⟨rfl, rfl⟩ := he0
            rw [Nat.add_zero] at hc0
            have HB0 := Lib.hid ((Below.refl wr.heap.size wr).alloc (Nat.le_refl _) (.cells #[.int .u8 0] 5))
            have HHD : Hid ([0] ++ beN 2 l.length ++ beN 8 (uT (l.getD 0 0)) = hdS 0 l) := Lib.hid (by simp [hdS, beN_8])
            have hL2 := Lib.hid (beN_len 2 l.length)
            have hL8 := Lib.hid (beN_len 8 (uT (l.getD 0 0)))
            clear HB HFN HFB HZ
            generalize beN 2 l.length = T2 at *
            generalize beN 8 (uT (l.getD 0 0)) = T8 at *
            generalize uT (l.getD 0 0) = U0 at *
            generalize l.getD 0 0 = t0 at *
            obtain ⟨H1, hH1⟩ : ∃ H1, H1 = [0] ++ T2 := ⟨_, rfl⟩
            have HH1 : Hid (H1.length = 3) := Lib.hid (by rw [hH1]; simp [hL2.out])
            rw [← hH1] at HHD
            have HHE := Lib.hid hH1
            clear hH1
            go_upto_region 21 with (first
              | (go_at_call 21; refine hT2.mono ?_; rintro _ w4 ⟨to4, tc4, rfl, ho4, hb4⟩; have HO4 := Lib.hid ho4; have HB4 := Lib.hid (HB0.out.trans (hb4.mono HB0.out.size)); have HO5 := Lib.hid ((Chg.ofBelowAny (S := fun _ => False) hb4).owns hO0.out (fun _ _ h => h)); clear ho4 hb4 hT2)
              | (at_builtin; refine wpList_append_bs _ rfl (.tmp 69) (.tmp 73) rfl wr.heap.size (.slice (some ⟨wr.heap.size, 0, none⟩) 1 1) [0] rfl HO5.out (.slice to4 T2.length tc4) T2 rfl HO4.out.rd (by simp [hL2.out]) HB4.out.size ?_; intro ao6 cap6 w6 hg6; rw [← HHE.out] at hg6 ⊢; have HO6 := Lib.hid hg6.owns; have HB6 := Lib.hid (HB4.out.trans (hg6.below HB4.out.size (fun j hj => (World.ownsRow.lt HO5.out j hj).1))); clear hg6 HO4 HO5 HB4))
            have hcw6 : w6.cell? ⟨b0, off0, none⟩ = some (.int .i64 t0) := (HB6.out.cell (p := ⟨b0, off0, none⟩) hbb0).trans hc0
            go_upto_region 22 with (first
              | (go_at_call 21; refine (hT8 _).mono ?_; rintro _ w7 ⟨to7, tc7, rfl, ho7, hb7⟩; have HO7 := Lib.hid ho7; have HO8 := Lib.hid ((Chg.ofBelowAny (S := fun _ => False) hb7).owns HO6.out (fun _ _ h => h)); have HB7 := Lib.hid (HB6.out.trans (hb7.mono HB6.out.size)); clear ho7 hb7 HO6)
              | (at_builtin; refine wpList_append_bs _ rfl (.tmp 75) (.tmp 80) rfl wr.heap.size (.slice ao6 H1.length cap6) H1 rfl HO8.out (.slice to7 T8.length tc7) T8 rfl HO7.out.rd (by rw [HH1.out, hL8.out]; decide) HB7.out.size ?_; intro ao9 cap9 w9 hg9; rw [HHD.out] at hg9 ⊢; have HO9 := Lib.hid hg9.owns; have HB9 := Lib.hid (HB7.out.trans (hg9.below HB7.out.size (fun j hj => (World.ownsRow.lt HO8.out j hj).1))); clear hg9 HO7 HO8 HB7))
            clear HHD hT8 hu0 hc0 hcw6 hlI HHE HH1 hL2 hL8 hO0 HB0 HB6
            have hhd := hdS_len 0 l
            have HHL := Lib.hid hhd
            obtain ⟨hr0, hhe⟩ : ∃ r, hdS 0 l = 0 :: r := ⟨_, rfl⟩
            have hhe1 : hdS 1 l = 1 :: hr0 := by unfold hdS at hhe ⊢; simp only [List.cons.injEq, true_and] at hhe; rw [hhe]
            have hhe2 : hdS 2 l = 2 :: hr0 := by unfold hdS at hhe ⊢; simp only [List.cons.injEq, true_and] at hhe; rw [hhe]
            obtain ⟨g, rfl, hgb, hgc, hgf, hput⟩ := own_put0 (x := 0) (r := hr0) (by rw [← hhe]; exact HO9.out)
            have HBx := Lib.hid (HBw.out.trans (HB9.out.mono HBw.out.size))
            have HH0 := Lib.hid hhe
            have HH2 := Lib.hid hhe1
            have HH3 := Lib.hid hhe2
            have HPUT := Lib.hid hput
            clear hhd hhe hhe1 hhe2 hput
            have hpos : 0 < (hdS 0 l).length := by rw [hdS_len]; decide
            cases hal : alF l i with
            | true =>
              have hi1 : 0 < i := by
                unfold alF at hal
                rw [Bool.and_eq_true, decide_eq_true_eq] at hal
                have := HN.out
                omega
              have HENC := Lib.hid (encB_al (by rw [← HN.out]; exact hal))
              have HES := Lib.hid (encS_some hl0 hl1 (by rw [← HN.out]; exact HRI.out))
              obtain ⟨b2, off2, bcap2, he2, hbb2, hc2⟩ := num_at HFN2.out 0 (by rw [upto_len]; exact hi1)
              rw [upto_getD _ _ _ hi1, Nat.add_zero] at hc2
              rw [upto_len] at he2
              simp only [Value.slice.injEq, true_and] at he2
              obtain ⟨rfl, rfl⟩ := he2
              clear hal
              have HP1 : Hid (Own (w9.setCell ⟨g, 0, none⟩ (.int .u8 1)) wr.heap.size (.slice (some ⟨g, 0, none⟩) (hdS 0 l).length cap9) (hdS 1 l)) := Lib.hid (by rw [HH2.out]; exact HPUT.out 1)
              have HB10 := Lib.hid (HB9.out.setCell (p := ⟨g, 0, none⟩) hgb (.int .u8 1))
              have hcD : (w9.setCell ⟨g, 0, none⟩ (.int .u8 1)).cell? ⟨b2, off2, none⟩ = some (.int .u64 ((dAt l 0 : Nat) : Int)) := (HB10.out.cell (p := ⟨b2, off2, none⟩) hbb2).trans hc2
              have hTd := fun w => tailn_any (dAt l 0) 8 (by decide) (by decide) (dAt_lt _ _) w
              rw [beN_8] at hTd
              have hsum : Hid ((hdS 1 l).length + (be8 (dAt l 0)).length ≤ 140737488355328) := Lib.hid (by rw [hdS_len, be8_len]; decide)
              have hfin : Hid ((encB l).length = 19) := Lib.hid (by rw [HENC.out, List.length_append, hdS_len, be8_len])
              generalize dAt l 0 = D0 at *
              go_upto_region 24 with fail
              generalize w9.setCell ⟨g, 0, none⟩ (.int .u8 1) = w10 at *
              clear HO9 HPUT HB9
              go_wp2_with (first
                | (go_at_call 21; refine (hTd _).mono ?_; rintro _ w11 ⟨to7, tc7, rfl, ho7, hb7⟩; have HO7 := Lib.hid ho7; have HO8 := Lib.hid ((Chg.ofBelowAny (S := fun _ => False) hb7).owns HP1.out (fun _ _ h => h)); have HB7 := Lib.hid (HB10.out.trans (hb7.mono HB10.out.size)); clear ho7 hb7 HP1)
                | (at_builtin; refine wpList_append_bs _ rfl (.tmp 85) (.tmp 89) rfl wr.heap.size (.slice (some ⟨g, 0, none⟩) (hdS 0 l).length cap9) (hdS 1 l) rfl HO8.out (.slice to7 (be8 D0).length tc7) (be8 D0) rfl HO7.out.rd hsum.out HB7.out.size ?_; intro ao9 cap9 w12 hg9; rw [← HENC.out] at hg9 ⊢; have HO12 := Lib.hid hg9.owns; have HB12 := Lib.hid (HB7.out.trans (hg9.below HB7.out.size (fun j hj => (World.ownsRow.lt HO8.out j hj).1))); clear hg9 HO7 HO8 HB7))
              go_ret2
              exact ⟨HBw.out.trans (HB12.out.mono HBw.out.size), .inr ⟨encB l, ao9, cap9, HES.out, by rw [hfin.out]; decide, by rw [hfin.out]; decide, by go_light; rfl, ownsRow_mono HO12.out HBw.out.size⟩⟩
            | false =>
              have HES := Lib.hid (encS_some hl0 hl1 (by rw [← HN.out]; exact HRI.out))
              have HAL : Hid (alF l (l.length - 1) = false) := Lib.hid (by rw [← HN.out]; exact hal)
              have HPK := pack_any (upto (zAt l) i) _ w9 (by rw [upto_len]; omega) (upto_lt _ _ (zAt_lt l) _) (RdV.below HZN.out HB9.out)
              obtain ⟨pm, hpm⟩ : ∃ pm, pm = pkO (upto (zAt l) i) := ⟨_, rfl⟩
              have HPM := Lib.hid hpm
              clear hal hpm
              go_upto_region 26 with (go_at_call 22; refine HPK.mono ?_; intro e w10 h; obtain ⟨hb10, po, pc, rfl, hr10, hl10⟩ := pkO_one h; rw [← HPM.out] at hr10 hl10 ⊢; have HR10 := Lib.hid hr10; have hg9 := (World.ownsRow.lt HO9.out g rfl).2; have HL10 := Lib.hid (show pm.1.length ≤ 8000 by rw [upto_len] at hl10; omega); have HO10 := Lib.hid ((Chg.ofBelowAny (S := fun _ => False) hb10).owns HO9.out (fun _ _ h => h)); have HB10 := Lib.hid (HB9.out.trans (hb10.mono HB9.out.size)); clear h hb10 hr10 hl10 HPK)
              obtain ⟨p, m⟩ := pm
              dsimp only at *
              clear HO9 HPUT hgb hgc hgf HBx HB9
              by_cases hX : m = 0 ∧ 0 < i
              · obtain ⟨rfl, hi0⟩ := hX
                have HENC : Hid (encB l = hdS 2 l ++ p) := Lib.hid (by
                  rcases pkO_ok HPM.out with ⟨_, hp⟩ | ⟨h, _⟩
                  · exact encB_pk HAL.out (by have := HN.out; omega) (by rw [← HN.out]; exact hp)
                  · cases h)
                obtain ⟨g2, hg2, hgb, hgc, hgf, hput⟩ := own_put0 (x := 0) (r := hr0) (by rw [← HH0.out]; exact HO10.out)
                simp only [Option.some.injEq, Addr.mk.injEq, and_true] at hg2
                subst hg2
                have HP1 : Hid (Own (w10.setCell ⟨g, 0, none⟩ (.int .u8 2)) wr.heap.size (.slice (some ⟨g, 0, none⟩) (hdS 0 l).length cap9) (hdS 2 l)) := Lib.hid (by rw [HH3.out]; exact hput 2)
                have HB11 := Lib.hid (HB10.out.setCell (p := ⟨g, 0, none⟩) hgb (.int .u8 2))
                have hsum : Hid ((hdS 2 l).length + p.length ≤ 140737488355328) := Lib.hid (by rw [hdS_len]; have := HL10.out; omega)
                have hfin : Hid ((encB l).length = 11 + p.length) := Lib.hid (by rw [HENC.out, List.length_append, hdS_len])
                clear hput
                go_upto_region 28 with fail
                have HR11 : Hid (Rd (w10.setCell ⟨g, 0, none⟩ (.int .u8 2)) (.slice po p.length pc) p) := Lib.hid (own_past HR10.out hg9).rd
                generalize w10.setCell ⟨g, 0, none⟩ (.int .u8 2) = w11 at *
                go_wp2_with (at_builtin; refine wpList_append_bs _ rfl (.tmp 105) (.tmp 106) rfl wr.heap.size (.slice (some ⟨g, 0, none⟩) (hdS 0 l).length cap9) (hdS 2 l) rfl HP1.out (.slice po p.length pc) p rfl HR11.out hsum.out HB11.out.size ?_; intro ao9 cap9 w12 hg9; rw [← HENC.out] at hg9 ⊢; have HO12 := Lib.hid hg9.owns; have HB12 := Lib.hid (HB11.out.trans (hg9.below HB11.out.size (fun j hj => (World.ownsRow.lt HP1.out j hj).1))); clear hg9)
                go_ret2
                exact ⟨HBw.out.trans (HB12.out.mono HBw.out.size), .inr ⟨encB l, ao9, cap9, HES.out, by rw [hfin.out]; have := HL10.out; omega, by rw [hfin.out]; omega, by go_light; rfl, ownsRow_mono HO12.out HBw.out.size⟩⟩
              · have HENC : Hid (encB l = hdS 0 l ++ plS l i) := Lib.hid (by
                  have := HN.out
                  rw [encB_pl HAL.out (by
                    rcases pkO_ok HPM.out with ⟨h, hp⟩ | ⟨h, hp⟩
                    · right; intro h1; exact hX ⟨h, by omega⟩
                    · left; rw [← HN.out]; exact hp), ← HN.out])
                go_cut [102] (fun s102 wx => s102 = .bool false ∧ wx = w10)
                case first =>
                  by_cases hm : m = 0
                  · subst hm
                    have hi0 : ¬ (0 : Int) < (i : Int) := fun h => hX ⟨rfl, by omega⟩
                    go_wp2_with fail
                    all_goals go_meet
                    all_goals go_light
                    all_goals exact ⟨by congr 1; exact decide_eq_false (by omega), rfl⟩
                  · have hmI : ((m : Int) == 0) = false := decide_eq_false (by omega)
                    go_wp2_with fail
                    all_goals go_meet
                    all_goals go_light
                    all_goals exact ⟨rfl, rfl⟩
                case rest =>
                obtain ⟨rfl, rfl⟩ := hcut
                generalize wr = wo at *
                have hrr2 : RdV wo 1 (.slice (some ⟨b0, off0, none⟩) l.length cap0) l.length (l.map tV) := RdV.below hrr HBw.out
                clear hX HPM HL10 HR10 hg9
                go_wp2_with (with_reducible refine wpList_slice_at wo wc rfl (.tmp 108) (some (.const (.int .i64 1))) none 22 rfl 2 1 (.int .i64 0) 8 Try.underlying22 infoI64 _ _ _ _ rfl hrr2 1 l.length ?hb hb1 (Nat.le_refl _) ?hk)
                case hb => exact bounds_lo _ _ .i64 1 hb1
                case hk =>
                intro ao5 cap5 hr5 _
                have HT5 := Lib.hid (Tms.tail hr5)
                rw [← HN.out] at HT5 ⊢
                clear hr5 hrr2
                go_wp2_with fail
                go_loopg [12, 111] i (fun m s12 s111 wr2 => ∃ (k : Nat) (cs : List UInt8) (co : Option Addr) (cc : Nat), k + m = i ∧ s111 = .int .i64 (k : Int) ∧ s12 = .slice co cs.length cc ∧ Hid (cs = hdS 0 l ++ plS l k) ∧ Hid (Own wr2 wo.heap.size (.slice co cs.length cc) cs) ∧ Hid (Below wo.heap.size wo wr2))
                case atStart => exact ⟨0, hdS 0 l, some ⟨g, 0, none⟩, cap9, by omega, rfl, rfl, Lib.hid (by rw [plS_zero, List.append_nil]), HO10, HB10⟩
                case round =>
                  obtain ⟨k, cs, co, cc, hk, rfl, rfl, HC, HO, HB⟩ := hrel
                  by_cases h2 : gk = 0
                  · obtain rfl : k = i := by omega
                    have hce := HC.out
                    rw [← HENC.out] at hce
                    have HCE := Lib.hid hce
                    have hfin : Hid (cs.length = 11 + 8 * k) := Lib.hid (by rw [HC.out, List.length_append, hdS_len, plS_len])
                    clear hce
                    go_wp2_with fail
                    go_ret2
                    exact ⟨HBw.out.trans (HB.out.mono HBw.out.size), .inr ⟨cs, co, cc, by rw [HES.out, HCE.out], by rw [hfin.out]; omega, by rw [hfin.out]; omega, by go_light; rfl, ownsRow_mono HO.out HBw.out.size⟩⟩
                  · have hki : k < i := by omega
                    obtain ⟨b2, off2, bcap2, he2, hb2, hc2⟩ := tm_at HT5.out k (by rw [HDL.out]; exact hki)
                    simp only [Value.slice.injEq] at he2
                    obtain ⟨rfl, h9, rfl⟩ := he2
                    clear h9
                    rw [dropD] at hc2
                    have hd2 := (HB.out.cell (p := ⟨b2, off2 + k, none⟩) hb2).trans hc2
                    have hTd := fun w => tailn_any (uT (l.getD (k + 1) 0)) 8 (by decide) (by decide) (uT_lt _) w
                    rw [beN_8] at hTd
                    have hu := u64_wrap (l.getD (k + 1) 0)
                    have hnx := Lib.hid (plS_next l k)
                    have hsum : Hid (cs.length + (be8 (uT (l.getD (k + 1) 0))).length ≤ 140737488355328) := Lib.hid (by rw [be8_len, HC.out, List.length_append, hdS_len, plS_len]; omega)
                    clear hc2
                    generalize uT (l.getD (k + 1) 0) = U at *
                    generalize l.getD (k + 1) 0 = x at *
                    go_wp2_with (first
                      | (go_at_call 21; refine (hTd _).mono ?_; rintro _ w11 ⟨to7, tc7, rfl, ho7, hb7⟩; have HO7 := Lib.hid ho7; have HO8 := Lib.hid ((Chg.ofBelowAny (S := fun _ => False) hb7).owns HO.out (fun _ _ h => h)); have HB7 := Lib.hid (HB.out.trans (hb7.mono HB.out.size)); clear ho7 hb7 HO HB)
                      | (at_builtin; refine wpList_append_bs _ rfl (.tmp 115) (.tmp 118) rfl wo.heap.size (.slice co cs.length cc) cs rfl HO8.out (.slice to7 (be8 U).length tc7) (be8 U) rfl HO7.out.rd hsum.out HB7.out.size ?_; intro ao9 cap9 w12 hg9; have HG := Lib.hid hg9; clear hg9))
                    go_roundg (gk - 1)
                    case measure => go_light; omega
                    case rel =>
                      go_light
                      exact ⟨k + 1, cs ++ be8 U, ao9, cap9, by omega, by go_num, by simp, Lib.hid (by rw [hnx.out, HC.out, List.append_assoc]), Lib.hid HG.out.owns, Lib.hid (HB7.out.trans (HG.out.below HB7.out.size (fun j hj => (World.ownsRow.lt HO8.out j hj).1)))⟩
          · have hin : i < n := by omega
            obtain ⟨b, off, bcap, he, hb, hc⟩ := num_at HFN.out i (by rw [HUL.out]; exact hin)
            obtain ⟨b2, off2, bcap2, he2, _, hc2⟩ := num_at HFN.out 0 (by rw [HUL.out]; omega)
            simp only [Value.slice.injEq] at he he2
            obtain ⟨rfl, h9, rfl⟩ := he
            obtain ⟨e1, h8, e2⟩ := he2
            clear h8
            simp only [Option.some.injEq, Addr.mk.injEq, and_true] at e1
            obtain ⟨rfl, rfl⟩ := e1
            subst e2
            rw [upto_getD _ _ _ hin] at hc
            rw [upto_getD _ _ _ (by omega)] at hc2
            have hd1 : wr.cell? ⟨b, off + i, none⟩ = some (.int .u64 ((dAt l i : Nat) : Int)) := (HB.out.cell (p := ⟨b, off + i, none⟩) hb).trans hc
            have hd2 : wr.cell? ⟨b, off + 0, none⟩ = some (.int .u64 ((dAt l 0 : Nat) : Int)) := (HB.out.cell (p := ⟨b, off + 0, none⟩) hb).trans hc2
            rw [Nat.add_zero] at hd2
            have HAN := Lib.hid (alF_next l i)
            have HPN : Hid (pAt l (i + 1) = dAt l i) := Lib.hid rfl
            have hnx := Lib.hid (upto_next (zAt l) i)
            have hzz : zAt l i = zigN (sI ((dAt l i : Int) - (pAt l i : Int))) := rfl
            have hqok := sI_ok ((dAt l i : Int) - (pAt l i : Int))
            have hq := sub_sI (dAt l i) (pAt l i)
            have hul : (upto (zAt l) i).length = i := upto_len _ _
            have hO1 : Hid (wr.ownsRow w2.heap.size 37 1 (.slice zo i zc) i ((upto (zAt l) i).map uV)) := Lib.hid (by have := HZ.out; unfold OwnN at this; rwa [hul] at this)
            have h63 : Hid (i + 1 ≤ maxLen) := Lib.hid (by unfold maxLen; omega)
            have hby : Hid ((i + 1) * 8 ≤ 140737488355328) := Lib.hid (by omega)
            have hba : Hid (∀ o, w2.heap.size ≤ (wr.alloc o).heap.size) := Lib.hid (fun o => by have h6 := HB.out.size; have e2 : (wr.alloc o).heap.size = wr.heap.size + 1 := (by simp); omega)
            generalize sI ((dAt l i : Int) - (pAt l i : Int)) = q at *
            have hzc := fun (w : World) => zig_any q hqok w
            rw [← hzz] at hzc
            clear hc hc2 hb h9 hul HZ hzz hqok
            generalize zAt l i = ZA at *
            generalize pAt l i = P at *
            generalize dAt l i = D at *
            generalize dAt l 0 = D0 at *
            generalize alF l i = A at *
            cases A with
            | true =>
              go_wp2_with (first
                | (go_at_call 20; refine (hzc _).mono ?_; rintro _ _ ⟨rfl, rfl⟩)
                | (at_builtin; refine wpList_append_rd _ rfl (.tmp 59) (.tmp 65) 39 rfl w2.heap.size 37 (.int .u64 0) 1 8 Try.underlying39 infoU64 rfl (by decide) (.slice zo i zc) i ((upto (zAt l) i).map uV) rfl (World.ownsRow.alloc hO1.out _) (.slice (some ⟨wr.heap.size, 0, none⟩) 1 1) 1 [uV ZA] rfl (RdV.one wr _ 37) (one_one _ rfl) h63.out hby.out (hba.out _) ?_; intro ao6 cap6 w6 hg6; have HG := Lib.hid hg6.ofAlloc; clear hg6))
              go_roundg (gk - 1)
              case measure => go_light; omega
              case rel =>
                go_light
                refine ⟨i + 1, ao6, cap6, by omega, by go_num, by rw [HAN.out]; simp [beq_nat], by rw [HPN.out], rfl, Lib.hid ?_, Lib.hid (HB.out.trans (HG.out.below HB.out.size (fun j hj => (World.ownsRow.lt hO1.out j hj).1)))⟩
                unfold OwnN
                rw [upto_len, hnx.out, List.map_append]
                exact HG.out.owns
            | false =>
              go_wp2_with (first
                | (go_at_call 20; refine (hzc _).mono ?_; rintro _ _ ⟨rfl, rfl⟩)
                | (at_builtin; refine wpList_append_rd _ rfl (.tmp 59) (.tmp 65) 39 rfl w2.heap.size 37 (.int .u64 0) 1 8 Try.underlying39 infoU64 rfl (by decide) (.slice zo i zc) i ((upto (zAt l) i).map uV) rfl (World.ownsRow.alloc hO1.out _) (.slice (some ⟨wr.heap.size, 0, none⟩) 1 1) 1 [uV ZA] rfl (RdV.one wr _ 37) (one_one _ rfl) h63.out hby.out (hba.out _) ?_; intro ao6 cap6 w6 hg6; have HG := Lib.hid hg6.ofAlloc; clear hg6))
              go_roundg (gk - 1)
              case measure => go_light; omega
              case rel =>
                go_light
                refine ⟨i + 1, ao6, cap6, by omega, by go_num, by rw [HAN.out]; simp, by rw [HPN.out], rfl, Lib.hid ?_, Lib.hid (HB.out.trans (HG.out.below HB.out.size (fun j hj => (World.ownsRow.lt hO1.out j hj).1)))⟩
                unfold OwnN
                rw [upto_len, hnx.out, List.map_append]
                exact HG.out.owns
      · have hkn : k < n := by omega
        obtain ⟨b, off, bcap, he, hb, hc⟩ := tm_at HR.out k (by have := HN.out; omega)
        obtain ⟨b2, off2, bcap2, he2, hb2, hc2⟩ := tm_at HT.out k (by rw [HDL.out]; exact hkn)
        simp only [Value.slice.injEq, true_and] at he he2
        obtain ⟨rfl, rfl⟩ := he
        obtain ⟨rfl, h9, rfl⟩ := he2
        have HKL : k < l.length := by have := HN.out; omega
        rw [dropD] at hc2
        have hnx := Lib.hid (risF_next l k)
        by_cases hlt : l.getD k 0 < l.getD (k + 1) 0
        · have HRI2 : Hid (risF l (k + 1) = true) := Lib.hid (by rw [hnx.out, HRI.out]; simpa using hlt)
          clear h9
          generalize l.getD (k + 1) 0 = x at *
          generalize l.getD k 0 = y at *
          have hle : ¬ x ≤ y := by omega
          go_wp2_with fail
          go_roundg (gk - 1)
          case measure => go_light; omega
          case rel =>
            go_light
            exact ⟨k + 1, by omega, by go_num, HRI2, rfl⟩
        · have HE := Lib.hid (encS_none (l := l) (.inr (.inr (by rw [← HN.out]; exact risF_false hkn hlt))))
          clear h9
          generalize l.getD (k + 1) 0 = x at *
          generalize l.getD k 0 = y at *
          have hle : x ≤ y := by omega
          go_wp2_with fail
          go_ret2
          exact ⟨Below.refl _ _, .inl ⟨HE.out, by go_light; rfl⟩⟩
end Go.Proofs.Ytcgjbjiififkhaa
