/- The contract of gristref06.Pack. -/
import Derived.Test.YtglpdkcpnigniaaLzPlace
import Derived.Test.YtglpdkcpnigniaaLzPack
namespace Go.Proofs.Ytglpdkcpnigniaa
open Go.RowKit
set_option linter.unusedVariables false

theorem sub_snoc (bs : List UInt8) (beg a : Nat) (h1 : beg ≤ a) (h2 : a < bs.length) : sub bs beg (a + 1) = sub bs beg a ++ [bs[a]] := by
  unfold sub
  rw [show a + 1 - beg = (a - beg) + 1 by omega, List.take_succ_eq_append_getElem (by simp; omega)]
  simp [show beg + (a - beg) = a by omega]

theorem place_skip {bs : List UInt8} {a beg : Nat} (h : placeI bs a < 0) : pk bs a beg = pk bs (a + 1) beg := by
  unfold placeI at h
  by_cases h4 : a + 4 ≤ bs.length
  · rw [if_pos h4] at h
    cases hn : near bs a with
    | none => exact pk_skip h4 hn
    | some p => rw [hn] at h; simp at h; omega
  · rw [pk_end h4, pk_end (by omega)]

theorem place_take {bs : List UInt8} {a : Nat} (h : ¬ placeI bs a < 0) : a + 4 ≤ bs.length ∧ ∃ p, near bs a = some p ∧ placeI bs a = (p : Int) := by
  unfold placeI at h ⊢
  by_cases h4 : a + 4 ≤ bs.length
  · rw [if_pos h4] at h ⊢
    cases hn : near bs a with
    | none => rw [hn] at h; simp at h
    | some p => exact ⟨h4, p, rfl, rfl⟩
  · rw [if_neg h4] at h; simp at h

set_option maxHeartbeats 800000 in
set_option maxRecDepth 100000 in
theorem rpack_any (bs : List UInt8) (v : Value) (w : World) (hn : bs.length ≤ 1000000) (hr : Rd w v bs) :
    Calls Try.prog 8 #[v] w fun e w' => ∃ ao cap, e = .returned (.slice ao (pk bs 0 0).length cap) ∧ Own w' w.heap.size (.slice ao (pk bs 0 0).length cap) (pk bs 0 0) ∧ Below w.heap.size w w' := by
  obtain ⟨ao0, cap0, rfl, hnc, hcm⟩ := RdV.shape hr
  unfold maxLen at hcm
  go_enter Try.func8, Try.ntmps8
  go_wp2_with fail
  refine (chains_any bs _ w hn hr).mono ?_
  rintro e w1 ⟨aoc, capc, rfl, hcr, hb1⟩
  have HCR := Lib.hid hcr
  have HB1 := Lib.hid hb1
  have HR1 := Lib.hid (show Rd w1 (.slice ao0 bs.length cap0) bs from RdV.below hr.v hb1)
  have HRB := Lib.hid (fun (h : 0 < bs.length) k hk => Nat.lt_of_lt_of_le (Rd.blk hr h k hk) hb1.size)
  obtain ⟨B, hB⟩ : ∃ B, B = w1.heap.size := ⟨_, rfl⟩
  have HBs := Lib.hid (⟨hB, hb1.size⟩ : B = w1.heap.size ∧ w.heap.size ≤ w1.heap.size)
  clear hcr hb1 hB hr
  go_wp2_with fail
  go_loopg [3, 4, 6] bs.length (fun m s3 s4 s6 wr => ∃ (a beg : Nat) (cs : List UInt8) (ao : Option Addr) (cap : Nat) (ap : Option Addr) (cp : Nat) (ps : List UInt8), Hid (ps = sub bs beg a) ∧ a + m = bs.length ∧ beg ≤ a ∧ s3 = .slice ao cs.length cap ∧ s4 = .slice ap ps.length cp ∧ s6 = .int .i64 (a : Int) ∧ cs.length ≤ 2 * beg ∧
    Hid (cs ++ pk bs a beg = pk bs 0 0) ∧ Hid (Own wr B (.slice ao cs.length cap) cs) ∧ Hid (Own wr B (.slice ap ps.length cp) ps) ∧ Hid (∀ k, (Value.slice ap ps.length cp).ownBlock = some k → (Value.slice ao cs.length cap).ownBlock ≠ some k) ∧ Hid (Below B w1 wr))
  case atStart => exact ⟨0, 0, [], none, 0, none, 0, [], Lib.hid (sub_self _ _).symm, by omega, Nat.le_refl _, rfl, rfl, rfl, by simp, Lib.hid rfl, Lib.hid (Own.nil _ _), Lib.hid (Own.nil _ _), Lib.hid (fun k h => by cases h), Lib.hid (Below.refl _ _)⟩
  case round =>
    obtain ⟨a, beg, cs, ao, cap, ap, cp, ps, hps, hm, hbeg, rfl, rfl, rfl, hlen, heq, hO, hP, hD, hB⟩ := hrel
    have hbw : Below w1.heap.size w1 wr := by have := HBs.out.1; rw [← this]; exact hB.out
    have hrw : Rd wr (.slice ao0 bs.length cap0) bs := RdV.below HR1.out.v hbw
    have hcw := HCR.out.below hbw
    have hBw : B ≤ wr.heap.size := by have := HBs.out.1; have := hB.out.size; omega
    by_cases h0 : gk = 0
    · obtain rfl : a = bs.length := by omega
      have hsl : ps = bs.drop beg := by rw [hps.out]; unfold sub; rw [List.take_of_length_le (by simp)]
      have hpl : ps.length ≤ bs.length := by rw [hsl]; simp
      have hF := rflush_any _ _ cs ps B wr hBw hO.out hP.out.rd hD.out (by omega)
      have HEQ : Hid (cs ++ flush ps = pk bs 0 0) := Lib.hid (by rw [hsl, ← pk_end (a := bs.length) (by omega)]; exact heq.out)
      have HF := Lib.hid hF
      have HOl := Lib.hid (fun k hk => (hO.out.lt k hk).1)
      clear hF hm hO hP hD heq hrw hcw hsl
      have hBw' := Lib.hid hBw
      go_wp2_with fail
      refine HF.out.mono ?_
      rintro e w5 ⟨ao5, cap5, rfl, hadd⟩
      have HA := Lib.hid hadd
      clear hadd HF
      generalize cs ++ flush ps = R at *
      go_wp2_with fail
      go_ret
      have hR := HEQ.out
      subst hR
      exact ⟨ao5, cap5, rfl, Own.mono HA.out.owns (by have := HBs.out; omega), HB1.out.trans ((hB.out.trans (HA.out.below hBw'.out HOl.out)).mono (by have := HBs.out; omega))⟩
    · have hlt : a < bs.length := by omega
      have hPl := place_any bs _ _ a wr hn hrw hcw hlt
      have HPl := Lib.hid hPl
      have HM := Lib.hid (⟨hm, hbeg, hlen⟩ : a + gk = bs.length ∧ beg ≤ a ∧ cs.length ≤ 2 * beg)
      clear hPl hm hcw
      go_wp2_with fail
      refine HPl.out.mono ?_
      rintro e w5 ⟨rfl, q, rfl⟩
      clear HPl
      have hOd : Hid (Own (wr.drewN q) B (.slice ao cs.length cap) cs) := hO
      have hPd : Hid (Own (wr.drewN q) B (.slice ap ps.length cp) ps) := hP
      have hrd : Rd (wr.drewN q) (.slice ao0 bs.length cap0) bs := hrw
      have hBd : Hid (Below B w1 (wr.drewN q)) := Lib.hid ⟨hB.out.os, hB.out.tape, hB.out.output, hB.out.size, hB.out.block⟩
      have hBwd : B ≤ (wr.drewN q).heap.size := hBw
      clear hO hP hrw hB hBw hbw
      generalize wr.drewN q = wd at *
      obtain ⟨b, off, bcap, hbv, hbn, hbm, hbl, hcell⟩ := RdV.some hrd.v (by omega) (by decide)
      simp only [Value.slice.injEq, true_and] at hbv
      obtain ⟨rfl, rfl⟩ := hbv
      have hbB : b < B := by have := HBs.out; have := HRB.out (by omega) b rfl; omega
      have hby : ∀ k (hk : k < bs.length), wd.cell? ⟨b, off + k, none⟩ = some (.int .u8 (bs[k].toNat : Int)) := fun k hk => hcell k _ (by simp [hk, bV])
      clear hcell
      have hpsl : Hid (ps.length = a - beg) := Lib.hid (by rw [hps.out, sub_len _ _ _ (by omega)])
      have hpsb : ps.length ≤ a := by have := hpsl.out; omega
      by_cases hneg : placeI bs a < 0
      · have HK := Lib.hid (place_skip (beg := beg) hneg)
        have e0 := hby a hlt
        have hsn := Lib.hid (sub_snoc bs beg a HM.out.2.1 hlt)
        generalize placeI bs a = z at *
        generalize bs[a] = x at *
        have h63 : ps.length + 1 ≤ maxLen := by unfold maxLen; omega
        have hby1 : (ps.length + 1) * 1 ≤ 140737488355328 := by omega
        have hba : ∀ o, B ≤ (wd.alloc o).heap.size := fun o => by simp; omega
        clear hby
        go_wp2_with (at_builtin; refine wpList_append_rd _ rfl (.tmp 21) (.tmp 26) 22 rfl B 5 (.int .u8 0) 1 1 Try.underlying22 infoU8 rfl (by decide) (.slice ap ps.length cp) ps.length (ps.map bV) rfl (hPd.out.alloc _) (.slice (some ⟨wd.heap.size, 0, none⟩) 1 1) 1 [.int .u8 (x.toNat : Int)] rfl (RdV.one _ _ _) (one_one _ rfl) h63 hby1 (hba _) ?_; intro ao6 cap6 w6 hg6; have HG6 := Lib.hid hg6.ofAlloc; clear hg6)
        go_roundg (gk - 1)
        case measure => go_light; omega
        case rel =>
          go_light
          have hm := HM.out
          have hg := HG6.out
          rw [show ps.map bV ++ [.int .u8 (x.toNat : Int)] = (ps ++ [x]).map bV by simp [bV], show ps.length + 1 = (ps ++ [x]).length by simp] at hg
          rw [show ps.length + 1 = (ps ++ [x]).length by simp]
          refine ⟨a + 1, beg, cs, ao, cap, ao6, cap6, ps ++ [x], Lib.hid (by rw [hsn.out, hps.out]), by omega, by omega, rfl, rfl, by go_num, hm.2.2, Lib.hid (by rw [← HK.out]; exact heq.out), Lib.hid (hg.chg.owns hOd.out (fun k hk h => hD.out k h hk)), Lib.hid hg.owns, Lib.hid (fun k hk h => ?_), Lib.hid (hBd.out.trans (hg.below hBwd (fun k hk => (hPd.out.lt k hk).1)))⟩
          rcases hg.row k hk with h1 | h1
          · exact hD.out k h1 h
          · have := (hOd.out.lt k h).2; omega
      · obtain ⟨h4, p, hnear, hpI⟩ := place_take hneg
        obtain ⟨g0, hg0⟩ : ∃ g, g = gk := ⟨gk, rfl⟩
        have HM2 := Lib.hid (⟨hg0, HM.out.1⟩ : g0 = gk ∧ a + gk = bs.length)
        clear hg0
        rw [hpI]
        have hnl := near_lt hnear
        have HK := Lib.hid (pk_take (beg := beg) h4 hnear)
        have hF := rflush_any _ _ cs ps B wd hBwd hOd.out hPd.out.rd hD.out (by have := HM.out; have := hpsl.out; omega)
        have HF := Lib.hid hF
        have hp1 := hnl.1
        have HE := Lib.hid (⟨h4, hnl.1, hnl.2, hn, hpsl.out⟩ : a + 4 ≤ bs.length ∧ p < a ∧ a - p ≤ 65535 ∧ bs.length ≤ 1000000 ∧ ps.length = a - beg)
        clear hF hneg hpI hnear hnl
        go_wp2_with fail
        refine HF.out.mono ?_
        rintro e w6 ⟨ao6, cap6, rfl, hadd⟩
        obtain ⟨C, hC⟩ : ∃ C, C = cs ++ flush ps := ⟨_, rfl⟩
        rw [← hC] at hadd ⊢
        have HCC := Lib.hid hC
        clear hC
        have HA := Lib.hid hadd
        have hch := hadd.chg
        have hB6 := Lib.hid (hBd.out.trans (hadd.below hBwd (fun k hk => (hOd.out.lt k hk).1)))
        have hby6 : ∀ k (hk : k < bs.length), w6.cell? ⟨b, off + k, none⟩ = some (.int .u8 (bs[k].toNat : Int)) := fun k hk => (hch.cell (p := ⟨b, off + k, none⟩) (by have := hBwd; simp; omega) (fun h => by have := (hOd.out.lt b h).1; omega)).trans (hby k hk)
        have HO6 := Lib.hid (show Own w6 B (.slice ao6 C.length cap6) C from hadd.owns)
        have hBw6 : B ≤ w6.heap.size := Nat.le_trans hBwd hadd.grown.size
        have HQ := Lib.hid hps.out
        clear hadd HA hch HF hOd hPd hrd hBd hBwd hby hD
        go_wp2_with fail
        go_loopg [8] 127 (fun m s8 wr => ∃ q : Nat, q + m = 131 ∧ 4 ≤ q ∧ s8 = .int .i64 (q : Int) ∧ a + q ≤ bs.length ∧ Hid (q + ext bs p a q m = 4 + ext bs p a 4 127) ∧ ∃ d, wr = w6.drewN d)
        case atStart => exact ⟨4, rfl, Nat.le_refl _, rfl, h4, Lib.hid rfl, 0, rfl⟩
        case round =>
          obtain ⟨q, hq, hq4, rfl, hqn, hext, d, rfl⟩ := hrel
          have hw1 : IntKind.i64.wrap ((a : Int) + (q : Int)) = (a : Int) + (q : Int) := IntWalk.i64_in _ (by omega)
          have hw2 : IntKind.i64.wrap ((p : Int) + (q : Int)) = (p : Int) + (q : Int) := IntWalk.i64_in _ (by omega)
          by_cases hA : gk = 0
          case' pos =>
            have hX : Hid (q = 4 + ext bs p a 4 127) := Lib.hid (by have := hext.out; rw [hA, ext_stop_zero] at this; exact this)
            have hgA : decide ((q : Int) < 131) = false := decide_eq_false (by omega)
            clear hext hq hA hby6
            go_upto_region 11 with fail
            go_quiet (fail)
          case' neg =>
            have hgA : decide ((q : Int) < 131) = true := decide_eq_true (by omega)
            by_cases hBq : a + q < bs.length
            case' neg =>
              have hX : Hid (q = 4 + ext bs p a 4 127) := Lib.hid (by have := hext.out; rw [ext_stop (fun h => hBq h.1)] at this; exact this)
              have hgB : decide ((a : Int) + (q : Int) < (bs.length : Int)) = false := decide_eq_false (by omega)
              clear hext hq hA hby6
              go_upto_region 11 with fail
              go_quiet (fail)
            case' pos =>
              have hgB : decide ((a : Int) + (q : Int) < (bs.length : Int)) = true := decide_eq_true (by omega)
              have e1 := hby6 (a + q) hBq
              have e2 := hby6 (p + q) (by omega)
              have t1 : ((a : Int) + (q : Int)).toNat = a + q := by omega
              have t2 : ((p : Int) + (q : Int)).toNat = p + q := by omega
              have t3 : (0 : Int) ≤ (a : Int) + (q : Int) := by omega
              have t4 : (0 : Int) ≤ (p : Int) + (q : Int) := by omega
              have t5 : (p : Int) + (q : Int) < (bs.length : Int) := by omega
              have t6 : (a : Int) + (q : Int) < (bs.length : Int) := by omega
              by_cases hCq : bs[p + q] = bs[a + q]
              case' neg =>
                have hX : Hid (q = 4 + ext bs p a 4 127) := Lib.hid (by have := hext.out; rw [ext_stop (fun h => hCq (by have h2 := h.2; rw [List.getElem?_eq_getElem (by omega), List.getElem?_eq_getElem hBq] at h2; exact Option.some.inj h2))] at this; exact this)
                have hgC := u8_ne hCq
                have hgC2 := u8_ne2 hCq
                generalize bs[p + q] = x at *
                generalize bs[a + q] = y at *
                clear hext hq hA hby6
                go_upto_region 11 with fail
                go_quiet (fail)
              case' pos =>
                have hX : Hid ((q + 1) + ext bs p a (q + 1) (gk - 1) = 4 + ext bs p a 4 127) := Lib.hid (by
                  have := hext.out
                  obtain ⟨g1, rfl⟩ : ∃ g1, gk = g1 + 1 := ⟨gk - 1, by omega⟩
                  rw [ext_go ⟨hBq, by rw [List.getElem?_eq_getElem (by omega), List.getElem?_eq_getElem hBq, hCq]⟩] at this
                  rw [Nat.add_sub_cancel]
                  omega)
                rw [hCq] at e2
                generalize bs[a + q] = y at *
                clear hext hby6
                go_upto_region 11 with fail
                go_quiet (fail)
                go_wp2_with fail
                go_roundg (gk - 1)
                case measure => go_light; omega
                case rel =>
                  go_light
                  exact ⟨q + 1, by omega, by omega, by go_num, by omega, hX, d + nq, by simp⟩
          all_goals clear hw1 hw2
          all_goals (simp only [World.drewN_drewN])
          all_goals (have hq1 : 4 ≤ q := hq4)
          all_goals (have hq2 : q ≤ 131 := by have := hX.out; have := ext_le bs p a 127 4; omega)
          all_goals (have HOd := Lib.hid (show Own (w6.drewN (d + nq)) B (.slice ao6 C.length cap6) C from HO6.out))
          all_goals (have HBd := Lib.hid (show Below B w1 (w6.drewN (d + nq)) from ⟨hB6.out.os, hB6.out.tape, hB6.out.output, hB6.out.size, hB6.out.block⟩))
          all_goals (have hsz6 : B ≤ (w6.drewN (d + nq)).heap.size := hBw6)
          all_goals (have HEQ := Lib.hid (take_eq heq.out HK.out hX.out))
          all_goals (rw [← HQ.out, ← HCC.out] at HEQ)
          all_goals (have hLn : C.length ≤ 2 * a := by rw [HCC.out, HQ.out]; exact cs_len HM.out.2.2 HM.out.2.1 (by omega))
          all_goals clear HO6 hB6 hBw6
          all_goals (generalize w6.drewN (d + nq) = wd at *)
          all_goals (have h63 : C.length + 3 ≤ maxLen := by unfold maxLen; omega)
          all_goals (have hby3 : (C.length + 3) * 1 ≤ 140737488355328 := by omega)
          all_goals (have hba : ∀ o, B ≤ (wd.alloc o).heap.size := fun o => by simp; omega)
          all_goals (have hap : a ≤ 1000000 := by omega)
          all_goals (have hfr : a - p ≤ 65535 := HE.out.2.2.1)
          all_goals go_wp2_with (at_builtin; refine wpList_append_rd _ rfl (.tmp 60) (.tmp 74) 22 rfl B 5 (.int .u8 0) 1 1 Try.underlying22 infoU8 rfl (by decide) (.slice ao6 C.length cap6) C.length (C.map bV) rfl (HOd.out.alloc _) (.slice (some ⟨wd.heap.size, 0, none⟩) 3 3) 3 [.int .u8 (128 + (q : Int) - 4), .int .u8 (((a : Int) - (p : Int)) / 256), .int .u8 (((a : Int) - (p : Int)) % 256)] rfl (RdV.lit _ _ _ 3 1 (by decide) rfl) (three_one _ _ _) h63 hby3 (hba _) ?_; intro ao7 cap7 w7 hg7; have HG7 := Lib.hid hg7.ofAlloc; clear hg7)
          all_goals go_roundg (g0 - q)
          all_goals (try (case measure => go_light; have := HM2.out; omega))
          all_goals (try (case rel =>
            go_light
            have hm := HM.out
            have hm2 := HM2.out
            have hg := HG7.out
            rw [piece_bV q a p hq1 hq2 HE.out.2.1 HE.out.2.2.1, ← List.map_append] at hg
            have e2 : C.length + 3 = (C ++ piece (q - 4) (a - p)).length := by rw [List.length_append]; rfl
            rw [e2] at hg ⊢
            exact ⟨a + q, a + q, C ++ piece (q - 4) (a - p), ao7, cap7, none, 0, [], Lib.hid (sub_self _ _).symm, by omega, Nat.le_refl _, rfl, rfl, by go_num, by rw [← e2]; omega, Lib.hid (by rw [List.append_assoc]; exact HEQ.out), Lib.hid hg.owns, Lib.hid (Own.nil _ _), Lib.hid (fun k hk => by cases hk), Lib.hid (HBd.out.trans (hg.below hsz6 (fun k hk => (HOd.out.lt k hk).1)))⟩))

end Go.Proofs.Ytglpdkcpnigniaa
