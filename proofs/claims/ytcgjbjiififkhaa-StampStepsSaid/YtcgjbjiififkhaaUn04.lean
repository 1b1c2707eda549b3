/- pack.Unpack. -/
import Derived.Test.YtcgjbjiififkhaaRUn04
import Derived.Test.YtcgjbjiififkhaaReaderT
namespace Go.Proofs.Ytcgjbjiififkhaa
open Go.RowKit
set_option linter.unusedVariables false

theorem bytesEqual_any (xs bs : List UInt8) (a b : Value) (w : World) (ha : Rd w a xs) (hb : Rd w b bs) :
    Calls Try.prog 29 #[a, b] w fun e w' => e = .returned (.bool (xs == bs)) ∧ w' = w := by
  have c4 := run_str ha 24 5 9 Try.underlying24 Try.underlying5 Try.underlying9
  have c5 := run_str hb 24 5 9 Try.underlying24 Try.underlying5 Try.underlying9
  go_enter Try.func29, Try.ntmps29
  go_wp2_with fail
  go_ret
  exact ⟨rfl, rfl⟩

theorem val_low (V k W : Nat) (h : (k + 1) * W ≤ 60) : V % 2 ^ 60 / 2 ^ (k * W) % 2 ^ W = val W V k := by
  unfold val
  rw [Nat.add_mul, Nat.one_mul] at h
  have e : (2 : Nat) ^ 60 = 2 ^ (k * W) * 2 ^ (60 - k * W) := by rw [← Nat.pow_add]; congr 1; omega
  rw [e, Nat.mod_mul_right_div_self, Nat.mod_mod_of_dvd]
  exact Nat.pow_dvd_pow 2 (by omega)
theorem low_next (X k W : Nat) : X / 2 ^ (k * W) / 2 ^ W = X / 2 ^ ((k + 1) * W) := by
  rw [Nat.div_div_eq_div_mul, ← Nat.pow_add, Nat.add_mul, Nat.one_mul]
theorem and_step0 (X W M : Nat) (hX : X < 18446744073709551616) (hM : M = 2 ^ W - 1) (hW : W ≤ 60) : bits BinOp.and IntKind.u64 (X : Int) (M : Int) = ((X % 2 ^ W : Nat) : Int) := by
  have := and_step X 0 W M hX hM hW
  simpa using this

set_option maxHeartbeats 2000000 in
set_option maxRecDepth 100000 in
theorem unpack_any (bs : List UInt8) (n : Int) (hn1 : -9223372036854775808 ≤ n) (hn2 : n ≤ 9223372036854775807) (v : Value) (w : World) (hl : bs.length ≤ 140737488355328) (hB : ∃ B : Nat, B ≤ 17592186044416 ∧ (n ≤ B ∨ 60 * (bs.length / 8) ≤ B)) (hr : Rd w v bs) :
    Calls Try.prog 27 #[v, .int .i64 n] w fun e w' => UnEnd bs n w e w' := by
  obtain ⟨ao0, cap0, rfl, hnc, hcm⟩ := RdV.shape hr
  unfold maxLen at hcm
  by_cases hneg : n < 0
  · go_enter Try.func27, Try.ntmps27
    go_wp2_with fail
    go_ret2
    exact ⟨Below.refl _ _, .inl ⟨unA_neg hneg, by go_light; rfl⟩⟩
  · obtain ⟨N, rfl⟩ := Int.eq_ofNat_of_zero_le (show 0 ≤ n by omega)
    have hst : ∀ t : Array Value, (storeCells ⟨w.heap.size + 1, 0, none⟩ wArr.toList).run Try.prog ((w.alloc (.cells wArr 64)).alloc (.cells #[.int .i64 0, .int .i64 0, .int .i64 0, .int .i64 0, .int .i64 0, .int .i64 0, .int .i64 0, .int .i64 0, .int .i64 0, .int .i64 0, .int .i64 0, .int .i64 0, .int .i64 0, .int .i64 0] 64)) = .ok () ((w.alloc (.cells wArr 64)).alloc (.cells wArr 64)) := by
      intro _
      have e : (w.alloc (.cells wArr 64)).heap.size = w.heap.size + 1 := by simp
      have := run_storeCells_new (P := Try.prog) (w.alloc (.cells wArr 64)) 64 #[.int .i64 0, .int .i64 0, .int .i64 0, .int .i64 0, .int .i64 0, .int .i64 0, .int .i64 0, .int .i64 0, .int .i64 0, .int .i64 0, .int .i64 0, .int .i64 0, .int .i64 0, .int .i64 0] wArr rfl rfl (by simp [wArr, Value.oneCell'])
      rw [e] at this
      exact this
    have hs := hst #[]
    clear hst
    have HA0 : ∀ k < 14, ((w.alloc (.cells wArr 64)).alloc (.cells wArr 64)).cell? ⟨w.heap.size + 1, k, none⟩ = some (.int .i64 (wds.getD k 0 : Nat)) := by
      intro k hk
      have e : (w.alloc (.cells wArr 64)).heap.size = w.heap.size + 1 := by simp
      have := cell_of_row ((w.alloc (.cells wArr 64)).alloc (.cells wArr 64)) (w.heap.size + 1) k wArr 64 (0, 0) (by rw [← e]; exact heap_alloc_last _ _)
      rw [this]
      have hcase : k = 0 ∨ k = 1 ∨ k = 2 ∨ k = 3 ∨ k = 4 ∨ k = 5 ∨ k = 6 ∨ k = 7 ∨ k = 8 ∨ k = 9 ∨ k = 10 ∨ k = 11 ∨ k = 12 ∨ k = 13 := by omega
      rcases hcase with rfl | rfl | rfl | rfl | rfl | rfl | rfl | rfl | rfl | rfl | rfl | rfl | rfl | rfl <;> rfl
    have HA := Lib.hid HA0
    clear HA0
    have HB0 := Lib.hid (((Below.refl w.heap.size w).alloc (Nat.le_refl _) (.cells wArr 64)).alloc (by simp) (.cells wArr 64))
    have HZ := Lib.hid (show ((w.alloc (.cells wArr 64)).alloc (.cells wArr 64)).heap.size = w.heap.size + 2 by simp)
    have HR := Lib.hid hr
    have HBB := Lib.hid hB
    have HNI := Lib.hid hn2
    clear hr hB hn1 hn2
    go_enter Try.func27, Try.ntmps27
    go_upto_region 4 with (fail)
    go_upto_region 5 with (refine Calls.mono (widths_any _) ?_; rintro _ _ ⟨rfl, rfl⟩)
    generalize (w.alloc (.cells wArr 64)).alloc (.cells wArr 64) = w1 at *
    clear hs
    have hNR := newReader_any _ bs w1 hl (RdV.below HR.out HB0.out)
    go_wp2_with (go_at_call 24; refine hNR.mono ?_; rintro _ w2 ⟨blk, rfl, hrd, hbl⟩)
    have HRD := Lib.hid hrd
    have hs2 : w1.heap.size ≤ w2.heap.size := hbl.size
    obtain ⟨lo, hlo⟩ : ∃ lo, lo = w1.heap.size := ⟨_, rfl⟩
    obtain ⟨B, hBz⟩ : ∃ B, B = w2.heap.size := ⟨_, rfl⟩
    have HLO := Lib.hid (show lo = w.heap.size + 2 by rw [hlo, HZ.out])
    have HBb := Lib.hid (show blk < B by obtain ⟨_, _, _, _, _, _, _, _, _, h, _⟩ := hrd; rw [hBz]; exact h)
    have HLb := Lib.hid (show lo ≤ blk by obtain ⟨_, _, _, _, _, _, _, _, h, _⟩ := hrd; rw [hlo]; exact h)
    have HST := Lib.hid (show St w w2 (w.heap.size + 1) B (.slice none 0 0) [] from ⟨World.ownsRow_nil _ _ _ _, HB0.out.trans (hbl.mono (by rw [HZ.out]; omega)), fun k hk => (hbl.cell (p := ⟨w.heap.size + 1, k, none⟩) (by rw [HZ.out]; simp)).trans (HA.out k hk), by omega, by have := HLO.out; have := HLb.out; have := HBb.out; omega, by omega⟩)
    rw [← hlo, ← hBz] at hrd
    have HRD := Lib.hid hrd
    clear HA HB0 HZ hrd hbl hs2 hlo hBz hNR
    obtain ⟨Q, hQ⟩ : ∃ Q, Q = bs.length / 8 := ⟨_, rfl⟩
    have HQ := Lib.hid hQ
    clear hQ
    go_loopg [6] Q (fun m s6 wr => ∃ (i : Nat) (acc : List Nat) (ao : Option Addr) (cap : Nat), i + m = Q ∧ s6 = .slice ao acc.length cap ∧ Hid (decP N (wl bs) [] = decP N ((wl bs).drop i) acc) ∧
      Hid (St w wr (w.heap.size + 1) B (.slice ao acc.length cap) acc) ∧ Hid (Rdr wr blk lo B bs (64 * i) false) ∧ Hid (∀ x ∈ acc, x < 18446744073709551616) ∧ Hid ((acc.length ≤ N ∧ acc.length ≤ 60 * i)))
    case atStart => exact ⟨0, [], none, 0, by omega, rfl, Lib.hid rfl, HST, HRD, Lib.hid (by simp), Lib.hid (by simp)⟩
    case round =>
      clear HST HRD
      obtain ⟨i, acc, ao, cap, hi, rfl, HD, HS, HRD, HX, HN⟩ := hrel
      have hacc : acc.length ≤ 17592186044416 := by
        obtain ⟨B, hB1, hB2⟩ := HBB.out
        have h1 := HN.out
        have h2 := HQ.out
        rcases hB2 with h | h <;> omega
      have hLf := left_any blk lo B (64 * i) bs false wr HRD.out
      obtain ⟨L, hL⟩ : ∃ L, L = 8 * bs.length - 64 * i := ⟨_, rfl⟩
      simp only [Bool.false_eq_true, if_false, ← hL] at hLf
      have hL60 : L ≤ 1125899906842624 := by omega
      have HL := Lib.hid hL
      have HI := Lib.hid hi
      clear hL hi
      by_cases hex : i = Q ∨ N ≤ acc.length
      · go_upto_region 6 with fail
        go_cut [27] (fun s27 wx => s27 = .bool false ∧ ∃ q, wx = wr.drewN q)
        case first =>
          by_cases h64 : 64 ≤ L
          · have hlt : ¬ (acc.length : Int) < (N : Int) := by
              have h1 := HL.out; have h2 := HQ.out
              rcases hex with h | h <;> omega
            have hLI : (64 : Int) ≤ (L : Int) := by omega
            go_wp2_with (go_at_call 38; refine hLf.mono ?_; rintro _ _ ⟨rfl, q1, rfl⟩)
            all_goals go_meet
            all_goals go_light
            all_goals exact ⟨by congr 1; exact decide_eq_false (by omega), q1, rfl⟩
          · have hLI : ¬ (64 : Int) ≤ (L : Int) := by omega
            go_wp2_with (go_at_call 38; refine hLf.mono ?_; rintro _ _ ⟨rfl, q1, rfl⟩)
            all_goals go_meet
            all_goals go_light
            all_goals exact ⟨rfl, q1, rfl⟩
        case rest =>
        obtain ⟨rfl, q1, rfl⟩ := hcut
        have hD := HD.out
        have HDP : Hid (decP N (wl bs) [] = some acc) := Lib.hid (by
          rw [hD]
          rcases hex with h | h
          · rw [List.drop_of_length_le (by rw [wl_len, h, HQ.out]; exact Nat.le_refl _)]
            rfl
          · cases hc : (wl bs).drop i with
            | nil => rfl
            | cons v r => show (if N ≤ acc.length then some acc else _) = some acc; rw [if_pos h])
        have HS2 := Lib.hid (HS.out.drewN q1)
        have hRd : Rd (wr.drewN q1) (.slice ao0 bs.length cap0) bs := RdV.below HR.out HS2.out.2.1
        have HRd := Lib.hid hRd
        have hRP := pack_any acc _ _ hacc HX.out HS2.out.1.nums
        clear hD HD hRd hex HS HL HI hLf HRD
        generalize wr.drewN q1 = wo at *
        cases hpk : pkA acc with
        | none =>
          have HU := Lib.hid (unA_none HDP.out (fun h => by rw [hpk] at h; cases h.1))
          rw [hpk] at hRP
          clear hpk
          go_upto_region 17 with (go_at_call 22; refine hRP.mono ?_; rintro e w3 ⟨hbl, h⟩; rcases h with ⟨_, rfl⟩ | ⟨bs', pao, pcap, h1, h2, _, _⟩; have HB3 := Lib.hid (HS2.out.2.1.trans (hbl.mono HS2.out.2.1.size)); clear hbl hRP; rotate_left 1; cases h1)
          go_wp2_with fail
          go_ret2
          exact ⟨HB3.out, .inl ⟨HU.out, by go_light; rfl⟩⟩
        | some cs =>
          have HPK := Lib.hid hpk
          rw [hpk] at hRP
          clear hpk
          go_upto_region 17 with (go_at_call 22; refine hRP.mono ?_; rintro e w3 ⟨hbl, h⟩; rcases h with ⟨h, _⟩ | ⟨bs', pao, pcap, h1, h2, rfl, ho⟩; cases h; obtain rfl : cs = bs' := (by simpa using h1); have HB3 := Lib.hid (HS2.out.2.1.trans (hbl.mono HS2.out.2.1.size)); have hEQ := bytesEqual_any bs cs _ _ w3 (RdV.below HRd.out.v hbl) ho.rd; have HN4 := Lib.hid (show OwnN w3 w.heap.size (.slice ao acc.length cap) acc from ownsRow_mono ((Chg.ofBelowAny (S := fun _ => False) hbl).owns HS2.out.1 (fun _ _ h => h)) (by have h8 := HS2.out.2.2.2.1; have h9 := HS2.out.2.2.2.2.1; omega)); clear hbl ho h1 h2 hRP)
          by_cases hn : (acc.length : Int) = (N : Int)
          · by_cases hcb : bs = cs
            · subst hcb
              have HU := Lib.hid (unA_some HDP.out HPK.out (by omega))
              have HNN := Lib.hid hn
              have hbb : (bs == bs) = true := by simp
              rw [hbb] at hEQ
              go_wp2_with (go_at_call 29; refine hEQ.mono ?_; rintro _ _ ⟨rfl, rfl⟩)
              go_ret2
              exact ⟨HB3.out, .inr ⟨acc, ao, cap, HU.out, hacc, HNN.out, by go_light; rfl, HN4.out⟩⟩
            · have HU := Lib.hid (unA_none HDP.out (fun h => hcb (by have := h.1; rw [HPK.out] at this; simpa using this.symm)))
              have hbb : (bs == cs) = false := by simpa using hcb
              rw [hbb] at hEQ
              go_wp2_with (go_at_call 29; refine hEQ.mono ?_; rintro _ _ ⟨rfl, rfl⟩)
              go_ret2
              exact ⟨HB3.out, .inl ⟨HU.out, by go_light; rfl⟩⟩
          · have HU := Lib.hid (unA_none HDP.out (fun h => hn (by have := h.2; omega)))
            go_wp2_with fail
            go_ret2
            exact ⟨HB3.out, .inl ⟨HU.out, by go_light; rfl⟩⟩
      · have hiq : i < Q := by have := HI.out; omega
        have hlN : acc.length < N := by omega
        have hLI : (64 : Int) ≤ (L : Int) := by have h1 := HL.out; have h2 := HQ.out; omega
        have hltI : (acc.length : Int) < (N : Int) := by omega
        obtain ⟨g0, hg0⟩ : ∃ g, g = gk := ⟨gk, rfl⟩
        have HG0 := Lib.hid hg0
        have hwl := wl_drop i bs (by have := HQ.out; omega)
        have hrg := rd_get (bs := bs) (i := i) (by have := HQ.out; omega)
        have hV := rdN_lt 8 (bs.drop (8 * i))
        have HM := Lib.hid (show 64 * i + 64 ≤ 8 * bs.length by have := HQ.out; omega)
        generalize rdN 8 (bs.drop (8 * i)) = V at *
        have hV64 : V < 18446744073709551616 := hV
        clear hg0 hV
        obtain ⟨S, hS⟩ : ∃ S, S = V / 2 ^ 60 := ⟨_, rfl⟩
        obtain ⟨X0, hX0⟩ : ∃ X0, X0 = V % 2 ^ 60 := ⟨_, rfl⟩
        have hS16 : S < 16 := by omega
        have hX60 : X0 < 1152921504606846976 := by omega
        rw [← hS, ← hX0] at hrg
        have hdr : Hid (decP N (wl bs) [] = if S < 14 then decP N ((wl bs).drop (i + 1)) (acc ++ vals (wds.getD S 0) V (room N acc S)) else none) := Lib.hid (by
          rw [HD.out, hwl, hS]
          show (if N ≤ acc.length then _ else _) = _
          rw [if_neg (by omega)])
        have HX0 := Lib.hid hX0
        have HRG := Lib.hid hrg
        clear hwl hS HD hV64 hX0 hrg hex
        have hG1 := fun (wx : World) (h : Rdr wx blk lo B bs (64 * i) false) => getSome_any blk lo B (64 * i) bs 4 (by decide) (by decide) (by have := HM.out; omega) wx h
        have hG2 := fun (wx : World) (h : Rdr wx blk lo B bs (64 * i + 4) false) => getSome_any blk lo B (64 * i + 4) bs 60 (by decide) (by decide) (by have := HM.out; omega) wx h
        rw [HRG.out.1] at hG1
        rw [HRG.out.2] at hG2
        go_upto_region 9 with (first
          | (go_at_call 38; refine hLf.mono ?_; rintro _ _ ⟨rfl, q1, rfl⟩; have HS1 := Lib.hid (HS.out.drewN q1); have HR1 := Lib.hid (HRD.out.below (below_drewN q1)); clear HS HRD hLf)
          | (go_at_call 25; refine (hG1 _ HR1.out).mono ?_; rintro _ w4 ⟨rfl, hr4, hc4⟩; have HS4 := Lib.hid (HS1.out.chg hc4 (fun k hk => by subst hk; have := HLO.out; have := HLb.out; have := HBb.out; omega)); have HR4 := Lib.hid hr4; clear hG1 hr4 hc4 HR1)
          | (go_at_call 25; refine (hG2 _ HR4.out).mono ?_; rintro _ w5 ⟨rfl, hr5, hc5⟩; have HS5 := Lib.hid (HS4.out.chg hc5 (fun k hk => by subst hk; have := HLO.out; have := HLb.out; have := HBb.out; omega)); have HR5 := Lib.hid hr5; clear hG2 hr5 hc5 HS4))
        clear HS1 HR4
        by_cases h14 : S < 14
        · have hdr2 := hdr.out
          rw [if_pos h14] at hdr2
          have HD := Lib.hid hdr2
          clear hdr hdr2
          have hWb := wds_get S h14
          have hcW : w5.cell? ⟨w.heap.size + 1, S, none⟩ = some (.int .i64 (wds.getD S 0 : Nat)) := HS5.out.2.2.1 S h14
          obtain ⟨W, hWE⟩ : ∃ W, W = wds.getD S 0 := ⟨_, rfl⟩
          have HWE := Lib.hid hWE
          rw [← hWE] at hWb hcW HD
          obtain ⟨R, hRE⟩ : ∃ R, R = room N acc S := ⟨_, rfl⟩
          have hR60 : R ≤ 60 := by rw [hRE]; exact room_le _ _ _
          have hRdef : R = min (60 / W) (N - acc.length) := by rw [hRE, hWE]; rfl
          have HRD := Lib.hid hRdef
          rw [← hRE] at HD
          clear hWE hRE hRdef
          go_wp2_with fail
          go_loopg [6, 10, 11] R (fun m s6 s10 s11 wr => ∃ (k : Nat) (L : List Nat) (ao : Option Addr) (cap Y X : Nat), k + m = R ∧ s11 = .int .i64 (Y : Int) ∧ s10 = .int .u64 (X : Int) ∧ Hid (Y = (k + 1) * W) ∧ Hid (X = X0 / 2 ^ (k * W)) ∧ s6 = .slice ao L.length cap ∧ Hid (L = acc ++ vals W V k) ∧ Hid (St w wr (w.heap.size + 1) B (.slice ao L.length cap) L) ∧ Hid (Rdr wr blk lo B bs (64 * i + 4 + 60) false))
          case atStart => exact ⟨0, acc, ao, cap, W, X0, by omega, rfl, rfl, Lib.hid (by simp), Lib.hid (by simp), rfl, Lib.hid (by rw [vals_zero, List.append_nil]), HS5, HR5⟩
          case round =>
            clear HS5 HR5 hcW
            obtain ⟨k, L2, lo2, lc, Y, X, hk, rfl, rfl, HY, HXX, rfl, HL2, HS, HRd⟩ := hrel
            have hcW : wr.cell? ⟨w.heap.size + 1, S, none⟩ = some (.int .i64 (W : Int)) := by have := HS.out.2.2.1 S h14; rwa [← HWE.out] at this
            have hLl : Hid (L2.length = acc.length + k) := Lib.hid (by rw [HL2.out, List.length_append, vals_len])
            have hkR0 : k ≤ R := by omega
            have hYb : Y ≤ 4000 := by
              rw [HY.out]
              exact Nat.le_trans (Nat.mul_le_mul (show k + 1 ≤ 61 by omega) hWb.2) (by decide)
            have hXb : X < 1152921504606846976 := by
              rw [HXX.out]
              exact Nat.lt_of_le_of_lt (Nat.div_le_self _ _) hX60
            by_cases h1 : gk = 0
            · obtain rfl : k = R := by omega
              clear hk
              have HX2 : Hid (∀ x ∈ L2, x < 18446744073709551616) := Lib.hid (by
                intro x hx
                rw [HL2.out] at hx
                rcases List.mem_append.1 hx with h | h
                · exact HX.out x h
                · obtain ⟨t, _, rfl⟩ := List.mem_map.1 h
                  have : 2 ^ W ≤ 2 ^ 60 := Nat.pow_le_pow_right (by omega) hWb.2
                  have h2 : val W V t < 2 ^ W := Nat.mod_lt _ (Nat.two_pow_pos _)
                  omega)
              have HD2 : Hid (decP N (wl bs) [] = decP N ((wl bs).drop (i + 1)) L2) := Lib.hid (by rw [HL2.out]; exact HD.out)
              have HN2 : Hid (L2.length ≤ N ∧ L2.length ≤ 60 * (i + 1)) := Lib.hid (by have h1 := hLl.out; have h2 := HRD.out; have h3 := HN.out; omega)
              have HR2 : Hid (Rdr wr blk lo B bs (64 * (i + 1)) false) := Lib.hid (by have := HRd.out; rwa [show 64 * i + 4 + 60 = 64 * (i + 1) by omega] at this)
              have HC : (60 : Int) < (Y : Int) ∨ ((Y : Int) ≤ 60 ∧ ¬ (L2.length : Int) < (N : Int)) := by
                have h1 := hLl.out; have h2 := HRD.out; have h3 := HN.out
                by_cases hc : (60 : Int) < (Y : Int)
                · exact .inl hc
                · refine .inr ⟨by omega, ?_⟩
                  have hkl : k < 60 / W := by
                    rcases Nat.lt_or_ge k (60 / W) with h | h
                    · exact h
                    · exfalso
                      have h4 := Nat.mul_le_mul_right W (show 60 / W + 1 ≤ k + 1 by omega)
                      have h5 := Nat.lt_mul_div_succ 60 (show 0 < W by omega)
                      rw [Nat.mul_comm] at h5
                      have := HY.out
                      omega
                  omega
              clear HN HX HD HL2 HRD HRd hYb hXb
              rcases HC with hc | ⟨hc, hc2⟩
              · go_wp2_with fail
                go_roundg (g0 - 1)
                case measure => go_light; have h1 := HG0.out; have h2 := HI.out; omega
                case rel =>
                  go_light
                  exact ⟨i + 1, L2, lo2, lc, by have h1 := HG0.out; have h2 := HI.out; omega, rfl, HD2, HS, HR2, HX2, HN2⟩
              · go_wp2_with fail
                go_roundg (g0 - 1)
                case measure => go_light; have h1 := HG0.out; have h2 := HI.out; omega
                case rel =>
                  go_light
                  exact ⟨i + 1, L2, lo2, lc, by have h1 := HG0.out; have h2 := HI.out; omega, rfl, HD2, HS, HR2, HX2, HN2⟩
            · have hkR : k < R := by omega
              have hkW : (k + 1) * W ≤ 60 := Nat.le_trans (Nat.mul_le_mul_right W (show k + 1 ≤ 60 / W by have h2 := HRD.out; omega)) (Nat.div_mul_le_self 60 W)
              have hc : (Y : Int) ≤ 60 := by have := HY.out; omega
              have hc2 : (L2.length : Int) < (N : Int) := by have h1 := hLl.out; have h2 := HRD.out; omega
              have h44 : L2.length + 1 ≤ 17592186044416 := by
                obtain ⟨B, hB1, hB2⟩ := HBB.out
                have h1 := HN.out
                have h2 := HQ.out
                have h5 := hLl.out
                rcases hB2 with h | h <;> omega
              have h63 : Hid (L2.length + 1 ≤ maxLen) := Lib.hid (by unfold maxLen; omega)
              have hby : Hid ((L2.length + 1) * 8 ≤ 140737488355328) := Lib.hid (by omega)
              have hba : Hid (∀ o, B ≤ (wr.alloc o).heap.size) := Lib.hid (fun o => by have h6 := HS.out.2.2.2.2.2; have e2 : (wr.alloc o).heap.size = wr.heap.size + 1 := (by simp); omega)
              have hod : Hid (wr.ownsRow B 37 1 (.slice lo2 L2.length lc) L2.length (L2.map uV)) := Lib.hid HS.out.1
              have hnext : Hid ((L2 ++ [X % 2 ^ W]) = acc ++ vals W V (k + 1)) := Lib.hid (by rw [HL2.out, vals_next, List.append_assoc, ← val_low V k W hkW, HXX.out, HX0.out])
              have hXn : Hid (X / 2 ^ W = X0 / 2 ^ ((k + 1) * W)) := Lib.hid (by rw [HXX.out, low_next])
              have hYn : Hid (Y + W = (k + 1 + 1) * W) := Lib.hid (by rw [HY.out, Nat.add_mul (k + 1) 1, Nat.one_mul])
              have hYW : (Y : Int) + (W : Int) ≤ 1000 := by omega
              obtain ⟨M, hM, hM2⟩ := mask_eq W hWb.2
              have HAN := Lib.hid (and_step0 X W M (by omega) hM hWb.2)
              have hwb := hWb.2
              have hdv : Hid ((X : Int) / 2 ^ W = ((X / 2 ^ W : Nat) : Int)) := Lib.hid (by simp)
              have HKR := Lib.hid (show k + 1 ≤ R ∧ k < 60 by omega)
              have HGK := Lib.hid hk
              have HWB := Lib.hid hWb
              clear hM h44 hacc hnc hcm hk hkR hkR0 hR60 hiq hl hkW hWb hYb
              go_upto_region 15 with (at_builtin; refine wpList_append_rd _ rfl (.tmp 51) (.tmp 59) 39 rfl B 37 (.int .u64 0) 1 8 Try.underlying39 infoU64 rfl (by decide) (.slice lo2 L2.length lc) L2.length (L2.map uV) rfl (World.ownsRow.alloc hod.out _) (.slice (some ⟨wr.heap.size, 0, none⟩) 1 1) 1 _ rfl (RdV.one wr _ 37) (one_one _ rfl) h63.out hby.out (hba.out _) ?_; intro ao6 cap6 w6 hg6; have HG := Lib.hid hg6.ofAlloc; clear hg6)
              have hlen : L2.length + 1 = (L2 ++ [X % 2 ^ W]).length := by simp
              have HR6 : Hid (Rdr w6 blk lo B bs (64 * i + 4 + 60) false) := Lib.hid (HRd.out.keep HG.out.chg (fun j _ hj2 e => by have := (World.ownsRow.lt hod.out j e).1; omega))
              have HS6 : Hid (St w w6 (w.heap.size + 1) B (.slice ao6 (L2 ++ [X % 2 ^ W]).length cap6) (L2 ++ [X % 2 ^ W])) := Lib.hid (HS.out.grew (by
                have hg := HG.out
                rw [HAN.out] at hg
                have e : L2.map uV ++ [.int .u64 ((X % 2 ^ W : Nat) : Int)] = (L2 ++ [X % 2 ^ W]).map uV := by simp [uV]
                rw [e, hlen] at hg
                exact hg))
              have hcW6 : w6.cell? ⟨w.heap.size + 1, S, none⟩ = some (.int .i64 (W : Int)) := by have := HS6.out.2.2.1 S h14; rwa [← HWE.out] at this
              have HLEN := Lib.hid hlen
              clear hM2 HAN HRd HS hod hba hcW hlen
              go_wp2_with fail
              go_roundg (gk - 1)
              case measure => go_light; have h1 := HKR.out; have h2 := HGK.out; omega
              case rel =>
                go_light
                exact ⟨k + 1, L2 ++ [X % 2 ^ W], ao6, cap6, Y + W, X / 2 ^ W, by have h1 := HKR.out; have h2 := HGK.out; omega, by simp, by rw [hdv.out], hYn, hXn, by rw [← HLEN.out], hnext, HS6, HR6⟩
        · have hdr2 := hdr.out
          rw [if_neg h14] at hdr2
          have HU := Lib.hid (unA_stop hdr2)
          clear hdr hdr2
          have h13 : (14 : Int) ≤ (S : Int) := by omega
          go_wp2_with fail
          go_ret2
          exact ⟨HS5.out.2.1, .inl ⟨HU.out, by go_light; rfl⟩⟩
end Go.Proofs.Ytcgjbjiififkhaa
