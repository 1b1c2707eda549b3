/- Texts of ours, behind one another: Clm12. No conditions but those that each states. -/
import Derived.Test.YthcgalpabjjkoaaDoorG13
import Derived.Laws.ResultCell
/- XClm12: file.column. -/
namespace Go.Proofs.YthcgalpabjjkoaaDoor
open Go.RowKit
set_option linter.unusedVariables false
set_option maxRecDepth 100000
theorem pdx0 (a b : Value) (w : World) : (Instr.index 85 (.agg #[a, b]) (.int .i64 0)).run Tryd.prog w = .ok a w := by
  simp [Instr.index, run_underlying Tryd.underlying85, asIntOf, go_sem]
theorem pdx1 (a b : Value) (w : World) : (Instr.index 85 (.agg #[a, b]) (.int .i64 1)).run Tryd.prog w = .ok b w := by
  simp [Instr.index, run_underlying Tryd.underlying85, asIntOf, go_sem]

set_option maxHeartbeats 20000000 in
theorem column_any (c : Cn) (o0 x0 o1 x1 O X or_ xr : List UInt8) (hC : stC (some (o0, x0)) c = some (o1, x1)) (hO : O = o1 ++ or_) (hX : X = x1 ++ xr)
    (hok : c.ok) (hs4 : c.s.size ≤ 4000) (hf4 : c.f.size ≤ 4000) (hp1 : 1 ≤ c.p.length) (hp2 : c.p.length ≤ 1000000)
    (pi pn bk bo oc xo C : Nat) (w : World) (hpn : pi ≠ pn) (hbi : bk ≠ pi) (hbn : bk ≠ pn) (hbl : bk < w.heap.size) (hgi : pi ≠ 1) (hgn : pn ≠ 1) (hXC : X.length + 1 ≤ C) (hCm : C ≤ maxLen) (hO2 : O.length ≤ 1073741824) (hX2 : X.length ≤ 1073741824)
    (ht : Tab w) (hRO : Rd w (.slice (some ⟨bk, bo, none⟩) O.length oc) O) (hRX : Rd w (.slice (some ⟨bk, xo, none⟩) X.length C) X)
    (hi : Ix w ⟨pi, 0, none⟩ (ixV bk xo X.length C x0.length)) (hn : Ix w ⟨pn, 0, none⟩ (.int .i64 (o0.length : Int))) :
    Calls Tryd.prog 26 #[.slice (some ⟨bk, bo, none⟩) O.length oc, .pointer (some ⟨pi, 0, none⟩), .pointer (some ⟨pn, 0, none⟩)] w fun e w' =>
      ∃ ao cap, e = .returned (.tuple #[.agg #[.string c.s, .string c.f, .slice ao c.p.length cap], .bool true]) ∧ OwnP w' w.heap.size (.slice ao c.p.length cap) c.p ∧
        Chg (fun q => q = pi ∨ q = pn) w w' ∧ Ix w' ⟨pi, 0, none⟩ (ixV bk xo X.length C x1.length) ∧ Ix w' ⟨pn, 0, none⟩ (.int .i64 (o1.length : Int)) := by
  obtain ⟨_, _, he, hP, hsm⟩ := stC_some hC
  simp only [Option.some.injEq, Prod.mk.injEq] at he
  obtain ⟨rfl, rfl⟩ := he
  have hpre := foldP_pre hP
  obtain ⟨ra, rb, hra, hrb⟩ := hpre
  have hXX : X = x0 ++ (hdC c ++ (rb ++ xr)) := by rw [hX, hrb]; simp only [List.append_assoc]
  have hXL : X.length = x0.length + (hdC c).length + rb.length + xr.length := by rw [hXX]; simp only [List.length_append]; omega
  rw [hdC_len, toList_len, toList_len] at hXL
  have hpl := foldP_len (k := nParts c.p.length) (by rw [List.take_of_length_le (by rw [partsP_len]; exact Nat.le_refl _)]; exact hP) (Nat.le_refl _) (by have := congrArg List.length hra; rw [List.length_append] at this; omega)
  rw [toList_len, toList_len] at hpl
  have HO0 := Lib.hid (show o0.length < 1073741824 by have := congrArg List.length hra; rw [List.length_append] at this; omega)
  have hXp : X.length = x1.length + xr.length := by rw [hX, List.length_append]
  obtain ⟨hd1, hd2, hd3, hd4, hd5⟩ := hdC_place hXX
  have HP := Lib.hid hP
  have HO := Lib.hid hO
  have HX := Lib.hid hX
  have HRO := Lib.hid hRO
  have HRX := Lib.hid hRX
  have HTB := Lib.hid ht
  have HOK := Lib.hid hok
  obtain ⟨L, hL⟩ : ∃ L, L = X.length := ⟨_, rfl⟩
  have HL := Lib.hid hL
  rw [← hL] at hXL hi hX2 hXC hXp ⊢
  rw [← hL] at HRX
  obtain ⟨k0, hk0⟩ : ∃ k, k = x0.length := ⟨_, rfl⟩
  obtain ⟨ns, hns⟩ : ∃ k, k = c.s.size := ⟨_, rfl⟩
  obtain ⟨nf, hnf⟩ : ∃ k, k = c.f.size := ⟨_, rfl⟩
  rw [← hk0] at hi
  rw [← hk0, ← hns, ← hnf] at hXL hpl
  rw [← hns] at hs4
  rw [← hnf] at hf4
  rw [← hk0] at hd1
  rw [← hk0, ← hns] at hd2 hd3
  rw [← hk0, ← hns, ← hnf] at hd4 hd5
  rw [← hns] at hd1
  rw [← hnf] at hd3
  have HNS := Lib.hid hns
  have HNF := Lib.hid hnf
  have HK0 := Lib.hid hk0
  clear hP hO hX hC hRO hRX ht hok hL hra hrb hXX hns hnf hk0
  obtain ⟨k1, hk1⟩ : ∃ k, k = k0 + 2 := ⟨_, rfl⟩
  obtain ⟨k2, hk2⟩ : ∃ k, k = k1 + ns := ⟨_, rfl⟩
  obtain ⟨k3, hk3⟩ : ∃ k, k = k2 + 2 := ⟨_, rfl⟩
  obtain ⟨k4, hk4⟩ : ∃ k, k = k3 + nf := ⟨_, rfl⟩
  obtain ⟨k5, hk5⟩ : ∃ k, k = k4 + 4 := ⟨_, rfl⟩
  rw [← hk1] at hd2 hd3 hd4 hd5
  rw [← hk2] at hd3 hd4 hd5
  rw [← hk3] at hd4 hd5
  rw [← hk4] at hd5
  have hk5L : k5 + rb.length + xr.length = L := by omega
  -- bytes of the index as slices
  have HSL : Hid (∀ (wz : World) (k m : Nat) (bs : List UInt8), Chg (fun q => q = pi ∨ q = pn) w wz → k + m ≤ L → (X.drop k).take m = bs → bs.length = m → Rd wz (.slice (some ⟨bk, xo + k, none⟩) m (C - k)) bs) := Lib.hid (fun wz k m bs hc hkm hb hl => by
    have h1 : Rd w (.slice (some ⟨bk, xo, none⟩) L C) X := HRX.out
    have h := cut_at h1 k (k + m) (by omega) hkm (by omega) (c := bs) (by rw [← hb]; congr 1; omega)
    rw [hl] at h
    exact RdV.chg h hc (fun q hq e => by
      simp [Value.ownBlock] at hq
      subst hq
      rcases e with e | e
      · exact hbi e
      · exact hbn e))
  obtain ⟨np, hnp⟩ : ∃ k, k = nParts c.p.length := ⟨_, rfl⟩
  have hnp1 : 1 ≤ np := by rw [hnp]; unfold nParts; omega
  have hnp2 : np ≤ 1000 := by rw [hnp]; unfold nParts; omega
  rw [← hnp] at hd5 hpl
  have hkx : k5 + 24 * np ≤ L := by omega
  have HNP := Lib.hid hnp
  have HKX2 := Lib.hid hkx
  have HPL := Lib.hid hpl.2
  obtain ⟨PN, hPN⟩ : ∃ k, k = c.p.length := ⟨_, rfl⟩
  rw [← hPN] at hp1 hp2
  have HPN := Lib.hid hPN
  clear hnp hpl hkx hPN hXp
  have HD1 := Lib.hid hd1
  have HD2 := Lib.hid hd2
  have HD3 := Lib.hid hd3
  have HD4 := Lib.hid hd4
  have HD5 := Lib.hid hd5
  clear hd1 hd2 hd3 hd4 hd5
  have hil := hi.l
  have hnl := hn.l
  have HI := Lib.hid hi
  have HNX := Lib.hid hn
  clear hi hn
  have HEQ := Lib.hid (And.intro hk1 (And.intro hk2 (And.intro hk3 (And.intro hk4 hk5))))
  have hkl : k0 + 2 = k1 ∧ k1 + ns = k2 ∧ k2 + 2 = k3 ∧ k3 + nf = k4 ∧ k4 + 4 = k5 := ⟨hk1.symm, hk2.symm, hk3.symm, hk4.symm, hk5.symm⟩
  have HKL := Lib.hid hkl
  have HKX := Lib.hid hk5L
  have hb1 : k1 ≤ L := by omega
  have hb2 : k2 ≤ L := by omega
  have hb3 : k3 ≤ L := by omega
  have hb4 : k4 ≤ L := by omega
  have hb5 : k5 ≤ L := by omega
  have HBS := Lib.hid (And.intro hb1 (And.intro hb2 (And.intro hb3 (And.intro hb4 hb5))))
  clear hk1 hk2 hk3 hk4 hk5 hkl hk5L hXL hb1 hb2 hb3 hb4 hb5
  go_enter Tryd.func26, Tryd.ntmps26
  go_upto_region 1 with fail
  have hb3 : Below w.heap.size w (w.alloc (.cells #[.string ⟨#[]⟩, .string ⟨#[]⟩, .slice none 0 0] 31)) := (Below.refl _ _).alloc (Nat.le_refl _) _
  have HC3 : Hid (Cst w (w.alloc (.cells #[.string ⟨#[]⟩, .string ⟨#[]⟩, .slice none 0 0] 31)) pi pn w.heap.size (ixV bk xo L C k0) (o0.length : Int) ⟨#[]⟩ ⟨#[]⟩ (.slice none 0 0)) := Lib.hid
    ⟨HI.out.below hb3, HNX.out.below hb3, ⟨by simp [go_sem], by rw [World.frozen?_alloc_at _ _ _ _ (by simp)], by simp⟩, ⟨by simp [go_sem], by rw [World.frozen?_alloc_at _ _ _ _ (by simp)], by simp⟩, ⟨by simp [go_sem], by rw [World.frozen?_alloc_at _ _ _ _ (by simp)], by simp⟩, Nat.le_refl _, hil, hnl, hpn, (Chg.refl _ _).alloc _⟩
  generalize w.alloc (.cells #[.string ⟨#[]⟩, .string ⟨#[]⟩, .slice none 0 0] 31) = w3 at *
  have HGW : Hid (w.heap.size = w.heap.size) := Lib.hid rfl
  obtain ⟨g, hg⟩ : ∃ g, g = w.heap.size := ⟨_, rfl⟩
  rw [← hg] at HC3 ⊢
  replace hg := Lib.hid hg
  clear hb3 HGW HI HNX
  go_wp2_with fail
  have hx0 := pdx0 (.pointer (some ⟨g, 0, none⟩)) (.pointer (some ⟨g, 1, none⟩))
  have hx1 := pdx1 (.pointer (some ⟨g, 0, none⟩)) (.pointer (some ⟨g, 1, none⟩))
  go_loopg [23] 2 (fun m s23 wz => (m = 2 ∧ s23 = .int .i64 0 ∧ Hid (Cst w wz pi pn g (ixV bk xo L C k0) (o0.length : Int) ⟨#[]⟩ ⟨#[]⟩ (.slice none 0 0))) ∨ (m = 1 ∧ s23 = .int .i64 1 ∧ Hid (Cst w wz pi pn g (ixV bk xo L C k2) (o0.length : Int) c.s ⟨#[]⟩ (.slice none 0 0))) ∨ (m = 0 ∧ s23 = .int .i64 2 ∧ Hid (Cst w wz pi pn g (ixV bk xo L C k4) (o0.length : Int) c.s c.f (.slice none 0 0))))
  case atStart => exact .inl ⟨rfl, rfl, HC3⟩
  case round =>
    clear HC3
    obtain ⟨rfl, rfl, HC⟩ | ⟨rfl, rfl, HC⟩ | ⟨rfl, rfl, HC⟩ := hrel
    · skip
      have hG1 := getI_any pi bk xo L C k0 2 k1 wr HC.out.ix HEQ.out.1 HBS.out.1 hXC hCm
      simp only [show ((2 : Nat) : Int) = 2 from rfl] at hG1
      go_upto_region 10 with (first
        | (go_at_call 44; (with_reducible refine hG1.mono ?_); rintro _ w4 ⟨rfl, hi4, hc4⟩; have HC4 := Lib.hid (HC.out.got hi4 hc4); clear hi4 hc4 hG1; have HN4 := Lib.hid (readN_any 2 ns _ w4 (by decide) (by decide) (by omega) (HSL.out w4 k0 2 (beN 2 ns) HC4.out.chg (by rw [HKL.out.1]; exact HBS.out.1) HD1.out (beN_len 2 ns))))
        | (go_at_call 25; refine HN4.out.mono ?_; rintro _ w5 ⟨rfl, hb5⟩; have HC5 := Lib.hid (HC4.out.below hb5); clear hb5; have HG2 := Lib.hid (getI_any pi bk xo L C k1 ns k2 w5 HC5.out.ix HEQ.out.2.1 HBS.out.2.1 hXC hCm))
        | (go_at_call 44; refine HG2.out.mono ?_; rintro _ w6 ⟨rfl, hi6, hc6⟩; have HC6 := Lib.hid (HC5.out.got hi6 hc6); clear hi6 hc6))
      have hcv := run_str (P := Tryd.prog) (HSL.out w6 k1 ns c.s.toList HC6.out.chg (by rw [HKL.out.2.1]; exact HBS.out.2.1) HD2.out (by rw [toList_len, HNS.out])) 33 5 9 Tryd.underlying33 Tryd.underlying5 Tryd.underlying9
      rw [strOf_self] at hcv
      have q0 := HC6.out.c0.c
      have q1 := HC6.out.c0.f
      have HC7 := Lib.hid (HC6.out.set0 c.s)
      go_wp2_with fail
      go_roundg 1
      case measure => go_light; omega
      case rel =>
        go_light
        exact .inr (.inl ⟨rfl, rfl, HC7⟩)
    · skip
      have hG1 := getI_any pi bk xo L C k2 2 k3 wr HC.out.ix HEQ.out.2.2.1 HBS.out.2.2.1 hXC hCm
      simp only [show ((2 : Nat) : Int) = 2 from rfl] at hG1
      go_upto_region 10 with (first
        | (go_at_call 44; (with_reducible refine hG1.mono ?_); rintro _ w4 ⟨rfl, hi4, hc4⟩; have HC4 := Lib.hid (HC.out.got hi4 hc4); clear hi4 hc4 hG1; have HN4 := Lib.hid (readN_any 2 nf _ w4 (by decide) (by decide) (by omega) (HSL.out w4 k2 2 (beN 2 nf) HC4.out.chg (by rw [HKL.out.2.2.1]; exact HBS.out.2.2.1) HD3.out (beN_len 2 nf))))
        | (go_at_call 25; refine HN4.out.mono ?_; rintro _ w5 ⟨rfl, hb5⟩; have HC5 := Lib.hid (HC4.out.below hb5); clear hb5; have HG2 := Lib.hid (getI_any pi bk xo L C k3 nf k4 w5 HC5.out.ix HEQ.out.2.2.2.1 HBS.out.2.2.2.1 hXC hCm))
        | (go_at_call 44; refine HG2.out.mono ?_; rintro _ w6 ⟨rfl, hi6, hc6⟩; have HC6 := Lib.hid (HC5.out.got hi6 hc6); clear hi6 hc6))
      have hcv := run_str (P := Tryd.prog) (HSL.out w6 k3 nf c.f.toList HC6.out.chg (by rw [HKL.out.2.2.2.1]; exact HBS.out.2.2.2.1) HD4.out (by rw [toList_len, HNF.out])) 33 5 9 Tryd.underlying33 Tryd.underlying5 Tryd.underlying9
      rw [strOf_self] at hcv
      have q0 := HC6.out.c1.c
      have q1 := HC6.out.c1.f
      have HC7 := Lib.hid (HC6.out.set1 c.f)
      go_wp2_with fail
      go_roundg 0
      case measure => go_light; omega
      case rel =>
        go_light
        exact .inr (.inr ⟨rfl, rfl, HC7⟩)
    · clear hx0 hx1
      have hG3 := getI_any pi bk xo L C k4 4 k5 wr HC.out.ix HEQ.out.2.2.2.2 HBS.out.2.2.2.2 hXC hCm
      simp only [show ((4 : Nat) : Int) = 4 from rfl] at hG3
      go_upto_region 13 with (go_at_call 44; refine hG3.mono ?_; rintro _ w7 ⟨rfl, hi7, hc7⟩; have HC7 := Lib.hid (HC.out.got hi7 hc7); clear hi7 hc7 hG3)
      have HRN : Hid (∀ wz, Chg (fun q => q = pi ∨ q = pn) w wz → Calls Tryd.prog 25 #[.slice (some ⟨bk, xo + k4, none⟩) 4 (C - k4)] wz fun e w' => e = .returned (.int .i64 (np : Int)) ∧ Below wz.heap.size wz w') := Lib.hid (fun wz hc =>
        readN_any 4 np _ wz (by decide) (by decide) (by omega) (HSL.out wz k4 4 (beN 4 np) hc (by rw [HKL.out.2.2.2.2]; exact HBS.out.2.2.2.2) HD5.out (beN_len 4 np)))
      have HC8 := Lib.hid (HC7.out.below (Below.refl _ _).drew)
      have e0 : w7.drew.cell? ⟨pi, 0, none⟩ = some (.slice (some ⟨bk, xo + k5, none⟩) (L - k5) (C - k5)) := HC8.out.ix.c
      have hil8 : pi < w7.drew.heap.size := HC8.out.ix.l
      obtain ⟨rm, hrm⟩ : ∃ k, k = L - k5 := ⟨_, rfl⟩
      rw [← hrm] at e0
      have hrq : 24 * np ≤ rm := by have := HKX2.out; omega
      have hq1 : ¬ (Int.tdiv (rm : Int) 24 < (np : Int)) := by rw [Int.tdiv_eq_ediv_of_nonneg (by omega)]; omega
      have hq2 : ¬ ((rm : Int) / 24 < (np : Int)) := by omega
      have hq3 : ¬ ((rm / 24 : Nat) < np) := by omega
      have hrm2 : rm ≤ 1073741824 := by omega
      clear hrm hrq
      go_cut [65] (fun s65 wx => s65 = .bool false ∧ Hid (Cst w wx pi pn g (ixV bk xo L C k5) (o0.length : Int) c.s c.f (.slice none 0 0)))
      case first =>
        go_region_held3 (fun w' => w'.cell? ⟨pi, 0, none⟩ = some (.slice (some ⟨bk, xo + k5, none⟩) rm (C - k5)))
          (first | exact e0 | exact (hb8.cell (p := ⟨pi, 0, none⟩) hil8).trans e0)
          ((go_at_call 25; refine (HRN.out _ HC8.out.chg).mono ?_; rintro _ w8 ⟨rfl, hb8⟩))
        go_wp2_with fail
        go_meet
        go_light
        exact ⟨by rw [IntWalk.i64_in _ (by omega), decide_eq_false (Int.not_lt.2 hq2)], Lib.hid (HC8.out.below hb8)⟩
      case rest =>
      obtain ⟨rfl, HC9⟩ := hcut
      clear e0 hil8 hq1 hq2 hq3 hrm2 HC8 HC7 HC
      go_wp2_with (go_at_call 25; refine (HRN.out _ HC9.out.chg).mono ?_; rintro _ w10 ⟨rfl, hb10⟩; have HC10 := Lib.hid (HC9.out.below hb10); clear hb10)
      go_loopg [69] np (fun m s69 wz => ∃ (j : Nat) (o' x' : List UInt8) (ao : Option Addr) (cap : Nat), j + m = np ∧ s69 = .int .i64 (j : Int) ∧ Hid (((partsP c.p).take j).foldl stP (some (o0, x0 ++ hdC c)) = some (o', x')) ∧ Hid (Cst w wz pi pn g (ixV bk xo L C x'.length) (o'.length : Int) c.s c.f (.slice ao (c.p.take (1000 * j)).length cap)) ∧ Hid (OwnP wz (g + 1) (.slice ao (c.p.take (1000 * j)).length cap) (c.p.take (1000 * j))))
      case atStart =>
        refine ⟨0, o0, x0 ++ hdC c, none, 0, by omega, rfl, Lib.hid rfl, ?_, Lib.hid (OwnP.nil _ _)⟩
        rw [show (x0 ++ hdC c).length = k5 by have h := HEQ.out; have h1 := HNS.out; have h2 := HNF.out; have h3 := HK0.out; rw [List.length_append, hdC_len, toList_len, toList_len]; omega]
        exact HC10
      case round =>
        clear HC10 HC9
        obtain ⟨j, o', x', ao, cap, hj, rfl, HFP, HC, HO'⟩ := hrel
        have hjn : j ≤ np := by omega
        by_cases h1 : gk = 0
        · obtain rfl : j = np := by omega
          have hall : c.p.take (1000 * j) = c.p := List.take_of_length_le (by have := HNP.out; unfold nParts at this; omega)
          have hfe : ((partsP c.p).take j).foldl stP (some (o0, x0 ++ hdC c)) = some (o1, x1) := by rw [List.take_of_length_le (by rw [partsP_len, HNP.out]; exact Nat.le_refl _)]; exact HP.out
          have hoe : o' = o1 ∧ x' = x1 := by have h := HFP.out; rw [hfe] at h; simp only [Option.some.injEq, Prod.mk.injEq] at h; exact ⟨h.1.symm, h.2.symm⟩
          obtain ⟨rfl, rfl⟩ := hoe
          rw [hall] at HC HO'
          clear hall hfe hj hjn h1
          rw [← HPN.out] at HC HO'
          have p0 := HC.out.c0.c
          have p1 := HC.out.c1.c
          have p2 := HC.out.c2.c
          have q0 := HC.out.c0.f
          have q1 := HC.out.c1.f
          have q2 := HC.out.c2.f
          go_wp2_with fail
          have HC2 := Lib.hid (((HC.out.set0 c.s).set1 c.f).set2 (.slice ao PN cap))
          have HO2 : Hid (OwnP (((wr.setCell ⟨g, 0, none⟩ (.string c.s)).setCell ⟨g, 1, none⟩ (.string c.f)).setCell ⟨g, 2, none⟩ (.slice ao PN cap)) (g + 1) (.slice ao PN cap) c.p) := Lib.hid (OwnP.chg HO'.out (S := fun q => q = g) ((((Chg.refl (fun q => q = g) wr).setCell (p := ⟨g, 0, none⟩) (fun _ => rfl) _).setCell (p := ⟨g, 1, none⟩) (fun _ => rfl) _).setCell (p := ⟨g, 2, none⟩) (fun _ => rfl) _) (fun k hk e => by subst e; omega))
          clear p0 p1 p2 q0 q1 q2
          generalize ((wr.setCell ⟨g, 0, none⟩ (.string c.s)).setCell ⟨g, 1, none⟩ (.string c.f)).setCell ⟨g, 2, none⟩ (.slice ao PN cap) = W2 at *
          have p0 := HC2.out.c0.c
          have p1 := HC2.out.c1.c
          have p2 := HC2.out.c2.c
          refine bodyPost_ret (v := .tuple #[.agg #[.string c.s, .string c.f, .slice ao PN cap], .bool true]) (by simp [results, Tryd.results26, go_sem, p0, p1, p2]) rfl ?_
          refine ⟨ao, cap, by rw [← HPN.out], ?_, HC2.out.chg, HC2.out.ix, HC2.out.nx⟩
          rw [← hg.out, ← HPN.out]
          exact HO2.out.mono (by omega)
        · have hjl : j < np := by omega
          have hjp : j < nParts c.p.length := by rw [← HNP.out]; exact hjl
          obtain ⟨he0, hfn, ⟨ro, hro⟩, ⟨rx, hrx⟩⟩ := part_place HP.out HO.out HX.out hjp HFP.out
          obtain ⟨hq1, hq2⟩ := entP_place hrx
          have hxl := foldP_len HFP.out (by omega) HO0.out
          rw [toList_len, toList_len] at hxl
          have HQO : Hid (∀ p ∈ partP c.p j, p.ok) := Lib.hid (fun p hp => HOK.out p (partP_mem hp))
          have HQL := Lib.hid (partP_len c.p j)
          have HAQ : Hid (c.p.take (1000 * j) ++ partP c.p j = c.p.take (1000 * (j + 1))) := Lib.hid (by unfold partP; rw [Nat.mul_add, Nat.mul_one, List.take_add])
          have HAL : Hid ((c.p.take (1000 * j)).length = 1000 * j) := Lib.hid (by have := nParts_lt hjp; rw [List.length_take]; omega)
          have hAQ : (c.p.take (1000 * j)).length + (partP c.p j).length ≤ 1000000 := by have := nParts_lt hjp; rw [HAL.out, HQL.out, ← HPN.out]; rw [← HPN.out] at this; omega
          have hrho := encP_short HQO.out (show encP (partP c.p j) = ((encP (partP c.p j)).1, 0) by rw [← he0])
          have HPG : Hid (PdG (encP (partP c.p j)).1 (partP c.p j)) := Lib.hid ⟨by rw [← he0], HQO.out⟩
          obtain ⟨k6, hk6⟩ : ∃ k, k = x'.length := ⟨_, rfl⟩
          have hk7 : (x' ++ entP o' (partP c.p j)).length = k6 + 24 := by rw [List.length_append, entP_len, hk6]
          have hXLn : L = k6 + 24 + rx.length := by rw [HL.out, hrx]; simp only [List.length_append, entP_len, hk6]; omega
          have hOL : O.length = o'.length + (encP (partP c.p j)).1.length + ro.length := by rw [hro]; simp only [List.length_append]; omega
          have hog : (O.drop o'.length).take (encP (partP c.p j)).1.length = (encP (partP c.p j)).1 := seg hro _ rfl
          rw [← hk6] at hq1 hq2 hxl HC
          replace hk6 := Lib.hid hk6
          clear hro hrx he0
          generalize partP c.p j = Q at *
          generalize hbb : (encP Q).1 = bb at *
          clear hbb
          generalize c.p.take (1000 * j) = A at *
          have HFN := Lib.hid hfn
          have HK7 := Lib.hid hk7
          have HOG := Lib.hid hog
          clear hfn hk7 hog hjp
          have hb1073 : o'.length + bb.length ≤ 1073741824 := by omega
          have hol : o'.length ≤ 1073741824 := by omega
          have hbl9 : 9 ≤ bb.length := hrho.2
          have hG4 := getI_any pi bk xo L C k6 24 (k6 + 24) wr HC.out.ix rfl (by omega) hXC hCm
          simp only [show ((24 : Nat) : Int) = 24 from rfl] at hG4
          have HR1 : Hid (∀ wz, Chg (fun q => q = pi ∨ q = pn) w wz → Calls Tryd.prog 25 #[.slice (some ⟨bk, xo + k6 + 16, none⟩) 4 (C - k6 - 16)] wz fun e w' => e = .returned (.int .i64 (o'.length : Int)) ∧ Below wz.heap.size wz w') := Lib.hid (fun wz hc =>
            readN_any 4 o'.length _ wz (by decide) (by decide) (by omega) (by have h := HSL.out wz (k6 + 16) 4 (beN 4 o'.length) hc (by omega) hq1 (beN_len _ _); rwa [← Nat.add_assoc, ← Nat.sub_sub] at h))
          have HR2 : Hid (∀ wz, Chg (fun q => q = pi ∨ q = pn) w wz → Calls Tryd.prog 25 #[.slice (some ⟨bk, xo + k6 + 20, none⟩) 4 (C - k6 - 20)] wz fun e w' => e = .returned (.int .i64 (bb.length : Int)) ∧ Below wz.heap.size wz w') := Lib.hid (fun wz hc =>
            readN_any 4 bb.length _ wz (by decide) (by decide) (by omega) (by have h := HSL.out wz (k6 + 20) 4 (beN 4 bb.length) hc (by omega) hq2 (beN_len _ _); rwa [← Nat.add_assoc, ← Nat.sub_sub] at h))
          have hck : 25 ≤ C - k6 := by omega
          have hcm : C - k6 ≤ maxLen := by omega
          have HOE := Lib.hid hOL
          have HXE := Lib.hid hXLn
          clear hq1 hq2 hxl hOL hXLn
          generalize C - k6 = ck at *
          unfold maxLen at hcm
          go_upto_region 18 with (go_at_call 44; refine hG4.mono ?_; rintro _ w11 ⟨rfl, hi11, hc11⟩; have HC11 := Lib.hid (HC.out.got hi11 hc11); have HO11 := Lib.hid (OwnP.chg HO'.out (S := fun q => q = pi) hc11 (fun k hk e => by have := hg.out; omega)); clear hi11 hc11 hG4)
          go_cut [16, 17] (fun s16 s17 wx => s16 = .int .i64 (o'.length : Int) ∧ s17 = .int .i64 (bb.length : Int) ∧ Hid (Cst w wx pi pn g (ixV bk xo L C (k6 + 24)) (o'.length : Int) c.s c.f (.slice ao A.length cap)) ∧ Hid (OwnP wx (g + 1) (.slice ao A.length cap) A))
          case first =>
            have HC12 := Lib.hid (HC11.out.below (Below.refl _ _).drew)
            have HO12 := Lib.hid (OwnP.below HO11.out (Below.refl _ _).drew)
            go_region_with (first
              | (go_at_call 25; (with_reducible refine (HR1.out _ HC13.out.chg).mono ?_); rintro _ w14 ⟨rfl, hb14⟩; have HC14 := Lib.hid (HC13.out.below hb14); have HO14 := Lib.hid (OwnP.below HO13.out hb14); clear hb14)
              | (go_at_call 25; (with_reducible refine (HR2.out _ HC13.out.chg).mono ?_); rintro _ w14 ⟨rfl, hb14⟩; have HC14 := Lib.hid (HC13.out.below hb14); have HO14 := Lib.hid (OwnP.below HO13.out hb14); clear hb14)
              | (go_at_call 25; (with_reducible refine (HR1.out _ HC12.out.chg).mono ?_); rintro _ w13 ⟨rfl, hb13⟩; have HC13 := Lib.hid (HC12.out.below hb13); have HO13 := Lib.hid (OwnP.below HO12.out hb13); clear hb13)
              | (go_at_call 25; (with_reducible refine (HR2.out _ HC12.out.chg).mono ?_); rintro _ w13 ⟨rfl, hb13⟩; have HC13 := Lib.hid (HC12.out.below hb13); have HO13 := Lib.hid (OwnP.below HO12.out hb13); clear hb13))
            all_goals (go_wp2_with fail; go_meet; go_light; exact ⟨rfl, rfl, HC14, HO14⟩)
          case rest =>
          obtain ⟨rfl, rfl, HC15, HO15⟩ := hcut
          have p3 := HC15.out.nx.c
          have p4 := HC15.out.nx.f
          have hge : o'.length + bb.length ≤ O.length := by have := HOE.out; omega
          have hgeI : ¬ ((O.length : Int) < (o'.length : Int) + (bb.length : Int)) := by omega
          obtain ⟨_, _, he, hoc1, hoc2⟩ := HRO.out.v.shape
          simp only [Value.slice.injEq, true_and] at he
          obtain ⟨rfl, rfl⟩ := he
          unfold maxLen at hoc2
          go_upto_region 22 with fail
          have HC16 := Lib.hid (HC15.out.setN ((o'.length : Int) + (bb.length : Int)))
          have HO16 : Hid (OwnP (wc.setCell ⟨pn, 0, none⟩ (.int .i64 ((o'.length : Int) + (bb.length : Int)))) (g + 1) (.slice ao A.length cap) A) := Lib.hid (OwnP.chg HO15.out (S := fun q => q = pn) (chg_set _ _ _) (fun k hk e => by have := hg.out; omega))
          clear p3 p4
          generalize wc.setCell ⟨pn, 0, none⟩ (.int .i64 ((o'.length : Int) + (bb.length : Int))) = w16 at *
          have hDE := decodeB_any bb (.slice (some ⟨bk, bo + o'.length, none⟩) bb.length (oc - o'.length)) w16 (by omega) (HTB.out.chg HC16.out.chg (fun e => e.elim (fun e => hgi e.symm) (fun e => hgn e.symm)))
            (RdV.chg (cut_at HRO.out o'.length (o'.length + bb.length) (by omega) hge (by omega) (c := bb) (by rw [← HOG.out]; congr 1; rw [HOG.out]; omega)) HC16.out.chg (fun q hq e => by simp [Value.ownBlock] at hq; subst hq; exact e.elim hbi hbn))
          unfold PdEnd at hDE
          have hoo : o'.length + bb.length ≤ oc := by omega
          have hoI : (o'.length : Int) ≤ (o'.length : Int) + (bb.length : Int) := by omega
          go_upto_region 23 with (go_at_call 45; refine hDE.mono ?_; rintro _ w17 ⟨hb17, hu17, xo', xc', rfl, hv17⟩; rw [pdP_of HPG.out hu17] at hv17 ⊢; have HC17 := Lib.hid (HC16.out.below hb17); have HO17 := Lib.hid (OwnP.below HO16.out hb17); have HV17 := Lib.hid hv17; clear hb17 hu17 hv17)
          have r2 := HC17.out.c2.c
          have hAI : ¬ (1000000 : Int) < (A.length : Int) + (Q.length : Int) := by omega
          have hSZ : g + 1 ≤ w17.heap.size := by exact HC17.out.c0.l
          go_upto_region 25 with fail
          go_wp2_with (at_builtin; refine wpList_append_rd _ rfl _ _ 24 rfl (g + 1) 29 (.agg #[.int .i64 0, .int .i64 0, .int .u64 0, .string .empty]) 4 40 Tryd.underlying24 infoPn rfl (by decide) (.slice ao A.length cap) A.length (A.flatMap Pn.cells) rfl HO17.out (.slice xo' Q.length xc') Q.length (Q.flatMap Pn.cells) rfl HV17.out (pns_one Q) (by unfold maxLen; omega) (by omega) hSZ ?_; intro ao18 cap18 w18 hg18; have hcg18 := hg18.chg; have HC18 := Lib.hid (HC17.out.up hcg18 (fun k hk => Nat.lt_of_succ_le (World.ownsRow.lt HO17.out k hk).1)); have HO18 := Lib.hid hg18.owns; have s0 := HC18.out.c2.c; have s1 := HC18.out.c2.f; clear hg18 hcg18)
          have HC19 := Lib.hid (HC18.out.set2 (.slice ao18 (A.length + Q.length) cap18))
          have HO19 : Hid (OwnP (w18.setCell ⟨g, 2, none⟩ (.slice ao18 (A.length + Q.length) cap18)) (g + 1) (.slice ao18 (c.p.take (1000 * (j + 1))).length cap18) (c.p.take (1000 * (j + 1)))) := Lib.hid (by
            have h : OwnP w18 (g + 1) (.slice ao18 (A ++ Q).length cap18) (A ++ Q) := by
              unfold OwnP
              rw [List.length_append, List.flatMap_append]
              exact HO18.out
            rw [← HAQ.out]
            exact OwnP.chg h (S := fun q => q = g) (chg_set _ _ _) (fun k hk e => by omega))
          have hAL2 : A.length + Q.length = (c.p.take (1000 * (j + 1))).length := by rw [← HAQ.out, List.length_append]
          replace hAL2 := Lib.hid hAL2
          clear s0 s1 r2
          go_roundg (gk - 1)
          case measure => go_light; omega
          case rel =>
            go_light
            refine ⟨j + 1, o' ++ bb, x' ++ entP o' Q, ao18, cap18, by omega, by go_num, HFN, ?_, HO19⟩
            rw [HK7.out, show ((o' ++ bb).length : Int) = (o'.length : Int) + (bb.length : Int) by rw [List.length_append]; omega, ← hAL2.out]
            exact HC19
end Go.Proofs.YthcgalpabjjkoaaDoor
