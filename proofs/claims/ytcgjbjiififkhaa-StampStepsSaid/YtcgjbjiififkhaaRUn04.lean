/- gristref04.Unpack. -/
import Derived.Test.YtcgjbjiififkhaaUnMem
import Derived.Test.YtcgjbjiififkhaaRPack04
import Derived.BigRegion
import Derived.Deep.RegionHeld3
namespace Go.Proofs.Ytcgjbjiififkhaa
open Go.RowKit
set_option linter.unusedVariables false

theorem u64_small (Z : Nat) (h : Z ≤ 60) : IntKind.u64.wrap (Z : Int) = (Z : Int) := IntWalk.u64_in _ (by omega)
theorem min64 (Z : Nat) (h : Z < 60) : min Z 64 = Z := Nat.min_eq_left (by omega)
theorem nsh (V Z : Nat) : ((V / 2 ^ Z : Nat) : Int) = (V : Int) / 2 ^ Z := by simp

set_option maxHeartbeats 2000000 in
set_option maxRecDepth 100000 in
theorem runpack_any (bs : List UInt8) (n : Int) (hn1 : -9223372036854775808 ≤ n) (hn2 : n ≤ 9223372036854775807) (v : Value) (w : World) (hl : bs.length ≤ 140737488355328) (hB : ∃ B : Nat, B ≤ 17592186044416 ∧ (n ≤ B ∨ 60 * (bs.length / 8) ≤ B)) (hr : Rd w v bs) :
    Calls Try.prog 36 #[v, .int .i64 n] w fun e w' => UnEnd bs n w e w' := by
  obtain ⟨ao0, cap0, rfl, hnc, hcm⟩ := RdV.shape hr
  unfold maxLen at hcm
  have HB0 := Lib.hid ((Below.refl w.heap.size w).alloc (Nat.le_refl _) (.cells wArr 3))
  have HC := Lib.hid (wcells w)
  have HR := Lib.hid hr
  have HBB := Lib.hid hB
  have hsz : Hid ((w.alloc (.cells wArr 3)).heap.size = w.heap.size + 1) := Lib.hid (by simp)
  clear hr hB
  go_enter Try.func36, Try.ntmps36
  go_upto_region 2 with (go_at_call 30; refine (rwidths_any _).mono ?_; rintro _ _ ⟨rfl, rfl⟩)
  generalize w.alloc (.cells wArr 3) = w1 at *
  have HST := Lib.hid (show St w w1 w.heap.size (w.heap.size + 1) (.slice none 0 0) [] from ⟨World.ownsRow_nil _ _ _ _, HB0.out, HC.out, Nat.le_refl _, by omega, by rw [hsz.out]; omega⟩)
  clear HB0 HC hsz
  by_cases hform : bs.length % 8 ≠ 0 ∨ n < 0 ∨ 60 * (bs.length : Int) < n
  · have HU := Lib.hid (unA_form hform)
    have hw : wrap64 (60 * (bs.length : Int)) = 60 * (bs.length : Int) := by rw [← IntWalk.i64_left]; exact IntWalk.i64_in _ (by omega)
    by_cases h8 : (bs.length : Int) % 8 = 0
    · by_cases hneg : n < 0
      · go_wp2_with fail
        go_ret2
        exact ⟨HST.out.2.1, .inl ⟨HU.out, by go_light; rfl⟩⟩
      · have hgt : 60 * (bs.length : Int) < n := by omega
        go_wp2_with fail
        go_ret2
        exact ⟨HST.out.2.1, .inl ⟨HU.out, by go_light; rfl⟩⟩
    · go_wp2_with fail
      go_ret2
      exact ⟨HST.out.2.1, .inl ⟨HU.out, by go_light; rfl⟩⟩
  · have h8 : (bs.length : Int) % 8 = 0 := by omega
    have h0n : ¬ n < 0 := by omega
    have hgt : ¬ 60 * (bs.length : Int) < n := by omega
    have hw : wrap64 (60 * (bs.length : Int)) = 60 * (bs.length : Int) := by rw [← IntWalk.i64_left]; exact IntWalk.i64_in _ (by omega)
    obtain ⟨N, rfl⟩ := Int.eq_ofNat_of_zero_le (show 0 ≤ n by omega)
    have hd1 : decide (60 * (bs.length : Int) < (N : Int)) = false := decide_eq_false hgt
    go_wp2_with fail
    have HFF := Lib.hid h8
    obtain ⟨q8, hq8⟩ : ∃ q, bs.length = 8 * q := ⟨bs.length / 8, by omega⟩
    have HQ := Lib.hid (show q8 = bs.length / 8 by omega)
    have HQ8 := Lib.hid hq8
    clear hn1 hn2 h0n hgt hform hw hq8 hd1 h8
    go_loopg [7, 8] q8 (fun m s7 s8 wr => ∃ (i : Nat) (acc : List Nat) (ao : Option Addr) (cap : Nat), i + m = q8 ∧ s8 = .int .i64 ((8 * i : Nat) : Int) ∧ s7 = .slice ao acc.length cap ∧ Hid (decR N (wl bs) [] = decR N ((wl bs).drop i) acc) ∧
      Hid (St w wr w.heap.size (w.heap.size + 1) (.slice ao acc.length cap) acc) ∧ Hid (∀ x ∈ acc, x < 18446744073709551616) ∧ Hid (acc.length ≤ N ∧ acc.length ≤ 60 * i))
    case atStart => exact ⟨0, [], none, 0, by omega, rfl, rfl, Lib.hid rfl, HST, Lib.hid (by simp), Lib.hid (by simp)⟩
    case round =>
      clear HST
      obtain ⟨i, acc, ao, cap, hi, rfl, rfl, HD, HS, HX, HN⟩ := hrel
      have hacc : acc.length ≤ 17592186044416 := by
        obtain ⟨B, hB1, hB2⟩ := HBB.out
        have h1 := HN.out
        have h2 := HQ.out
        have h3 := HQ8.out
        rcases hB2 with h | h <;> omega
      by_cases h0 : gk = 0
      · obtain rfl : i = q8 := by omega
        clear hi
        have hD := HD.out
        rw [List.drop_of_length_le (by rw [wl_len, HQ.out]; exact Nat.le_refl _)] at hD
        have HDP := Lib.hid (decP_of hD)
        have hRP := rpack_any acc _ _ hacc HX.out HS.out.1.nums
        have hlq : (8 : Int) * (i : Int) = (bs.length : Int) := by have := HQ8.out; omega
        have hnlt : ¬ ((8 * i : Nat) : Int) < (bs.length : Int) := by omega
        generalize ((8 * i : Nat) : Int) = A at *
        clear hD HD hlq
        have hRd : Rd wr (.slice ao0 bs.length cap0) bs := RdV.below HR.out HS.out.2.1
        have HRd := Lib.hid hRd
        clear hRd
        cases hpk : pkA acc with
        | none =>
          have HU := Lib.hid (unA_none HDP.out (fun h => by rw [hpk] at h; cases h.1))
          rw [hpk] at hRP
          clear hpk
          go_upto_region 17 with (go_at_call 18; refine hRP.mono ?_; rintro e w3 ⟨hbl, h⟩; rcases h with ⟨_, rfl⟩ | ⟨bs', pao, pcap, h1, h2, _, _⟩; have HB3 := Lib.hid (HS.out.2.1.trans (hbl.mono HS.out.2.1.size)); clear hbl hRP; rotate_left 1; cases h1)
          have HN : ¬ (acc.length : Int) = (N : Int) ∨ (acc.length : Int) = (N : Int) := by omega
          rcases HN with hn | hn
          · go_wp2_with fail
            go_ret2
            exact ⟨HB3.out, .inl ⟨HU.out, by go_light; rfl⟩⟩
          · go_wp2_with fail
            go_ret2
            exact ⟨HB3.out, .inl ⟨HU.out, by go_light; rfl⟩⟩
        | some cs =>
          have HPK := Lib.hid hpk
          rw [hpk] at hRP
          clear hpk
          go_upto_region 17 with (go_at_call 18; refine hRP.mono ?_; rintro e w3 ⟨hbl, h⟩; rcases h with ⟨h, _⟩ | ⟨bs', pao, pcap, h1, h2, rfl, ho⟩; cases h; obtain rfl : cs = bs' := (by simpa using h1); have HB3 := Lib.hid (HS.out.2.1.trans (hbl.mono HS.out.2.1.size)); have c4 := run_str ho.rd 24 5 9 Try.underlying24 Try.underlying5 Try.underlying9; have c5 := run_str (RdV.below HRd.out.v hbl) 24 5 9 Try.underlying24 Try.underlying5 Try.underlying9; have HN4 := Lib.hid (show OwnN w3 w.heap.size (.slice ao acc.length cap) acc from ownsRow_mono ((Chg.ofBelowAny (S := fun _ => False) hbl).owns HS.out.1 (fun _ _ h => h)) (Nat.le_succ _)); clear hbl ho h1 h2 hRP)
          by_cases hn : (acc.length : Int) = (N : Int)
          · by_cases hcb : cs = bs
            · subst hcb
              have HU := Lib.hid (unA_some HDP.out HPK.out (by omega))
              have HNN := Lib.hid hn
              go_wp2_with fail
              go_ret2
              exact ⟨HB3.out, .inr ⟨acc, ao, cap, HU.out, hacc, HNN.out, by go_light; rfl, HN4.out⟩⟩
            · have HU := Lib.hid (unA_none HDP.out (fun h => hcb (by have := h.1; rw [HPK.out] at this; simpa using this)))
              have hst : (cs == bs) = false := by simpa using hcb
              go_wp2_with fail
              go_ret2
              exact ⟨HB3.out, .inl ⟨HU.out, by go_light; rfl⟩⟩
          · have HU := Lib.hid (unA_none HDP.out (fun h => hn (by have := h.2; omega)))
            go_wp2_with fail
            go_ret2
            exact ⟨HB3.out, .inl ⟨HU.out, by go_light; rfl⟩⟩
      · have hiq : i < q8 := by omega
        obtain ⟨g0, hg0⟩ : ∃ g, g = gk := ⟨gk, rfl⟩
        have HG0 := Lib.hid hg0
        have HGI := Lib.hid hi
        clear hg0 hi h0
        have hq8 := HQ8.out
        have hwl := wl_drop i bs (by omega)
        have hRr : Rd wr (.slice ao0 bs.length cap0) bs := RdV.below HR.out HS.out.2.1
        have hRA := readAt_any bs (8 * i) 8 (by decide) (by omega) hl _ _ hRr
        have hV := rdN_lt 8 (bs.drop (8 * i))
        obtain ⟨A, hA⟩ : ∃ A, A = 8 * i := ⟨_, rfl⟩
        rw [← hA] at hwl hRA hV
        generalize hVV : rdN 8 (bs.drop A) = V at *
        have hV64 : V < 18446744073709551616 := hV
        have hAl : A < bs.length := by omega
        have HA := Lib.hid hA
        have hA8 : ((8 * i : Nat) : Int) = (A : Int) := by omega
        rw [hA8]
        clear hA hV hVV hRr hq8
        obtain ⟨S, hS⟩ : ∃ S, S = V / 2 ^ 60 := ⟨_, rfl⟩
        have hSi : (V : Int) / 1152921504606846976 = (S : Int) := by omega
        have hS16 : S < 16 := by omega
        have HV := Lib.hid hV64
        have hdr : Hid (decR N (wl bs) [] = if S < 14 then decR N ((wl bs).drop (i + 1)) (acc ++ vals (wds.getD S 0) V (room N acc S)) else none) := Lib.hid (by rw [HD.out, hwl, hS]; rfl)
        have HSV := Lib.hid hS
        clear hwl hS HD hV64
        go_upto_region 9 with (go_at_call 35; refine hRA.mono ?_; rintro _ _ ⟨rfl, md, rfl⟩)
        have HS1 := Lib.hid (HS.out.drewN md)
        clear hRA HS
        generalize wr.drewN md = wd at *
        by_cases h14 : S < 14
        · have hdr2 := hdr.out
          rw [if_pos h14] at hdr2
          have HD := Lib.hid hdr2
          clear hdr hdr2
          have hWb := wds_get S h14
          have hCW : ∀ k, k < 14 → wd.cell? ⟨w.heap.size, k, none⟩ = some (.int .i64 (wds.getD k 0 : Nat)) := HS1.out.2.2.1
          have hcW := hCW S h14
          obtain ⟨W, hWE⟩ : ∃ W, W = wds.getD S 0 := ⟨_, rfl⟩
          have HWE := Lib.hid hWE
          rw [← hWE] at hWb hcW HD
          obtain ⟨R, hRE⟩ : ∃ R, R = room N acc S := ⟨_, rfl⟩
          have hR60 : R ≤ 60 := by rw [hRE]; exact room_le _ _ _
          have hRdef : R = min (60 / W) (N - acc.length) := by rw [hRE, hWE]; rfl
          have HRD := Lib.hid hRdef
          rw [← hRE] at HD
          clear hWE hRE hRdef hCW
          go_wp2_with fail
          go_loopg [7, 11] R (fun m s7 s11 wr => ∃ (k : Nat) (L : List Nat) (ao : Option Addr) (cap : Nat), k + m = R ∧ s11 = .int .i64 (k : Int) ∧ s7 = .slice ao L.length cap ∧ Hid (L = acc ++ vals W V k) ∧ Hid (St w wr w.heap.size (w.heap.size + 1) (.slice ao L.length cap) L))
          case atStart => exact ⟨0, acc, ao, cap, by omega, rfl, rfl, Lib.hid (by rw [vals_zero, List.append_nil]), HS1⟩
          case round =>
            clear HS1 hcW
            obtain ⟨k, L, lo, lc, hk, rfl, rfl, HL, HS⟩ := hrel
            have hcW : wr.cell? ⟨w.heap.size, S, none⟩ = some (.int .i64 (W : Int)) := by have := HS.out.2.2.1 S h14; rwa [← HWE.out] at this
            have hW0 : ¬ (W : Int) = 0 := by omega
            have hLl : Hid (L.length = acc.length + k) := Lib.hid (by rw [HL.out, List.length_append, vals_len])
            have hdiv : Hid (((60 / W : Nat) : Int) = 60 / (W : Int)) := Lib.hid (by simp)
            by_cases h1 : gk = 0
            · obtain rfl : k = R := by omega
              clear hk
              have HX2 : Hid (∀ x ∈ L, x < 18446744073709551616) := Lib.hid (by
                intro x hx
                rw [HL.out] at hx
                rcases List.mem_append.1 hx with h | h
                · exact HX.out x h
                · obtain ⟨t, _, rfl⟩ := List.mem_map.1 h
                  have : 2 ^ W ≤ 2 ^ 60 := Nat.pow_le_pow_right (by omega) hWb.2
                  have h2 : val W V t < 2 ^ W := Nat.mod_lt _ (Nat.two_pow_pos _)
                  omega)
              have HD2 : Hid (decR N (wl bs) [] = decR N ((wl bs).drop (i + 1)) L) := Lib.hid (by rw [HL.out]; exact HD.out)
              have HN2 : Hid (L.length ≤ N ∧ L.length ≤ 60 * (i + 1)) := Lib.hid (by have h1 := hLl.out; have h2 := HRD.out; have h3 := HN.out; omega)
              have hA2 : Hid ((A : Int) + 8 = ((8 * (i + 1) : Nat) : Int)) := Lib.hid (by have := HA.out; omega)
              have HC : (¬ (k : Int) < 60 / (W : Int)) ∨ ((k : Int) < 60 / (W : Int) ∧ ¬ (L.length : Int) < (N : Int)) := by
                have h1 := hLl.out; have h2 := HRD.out; have h3 := HN.out; have h4 := hdiv.out; omega
              clear HN HX HD HL HRD
              rcases HC with hc | ⟨hc, hc2⟩
              · go_wp2_with fail
                go_roundg (g0 - 1)
                case measure => go_light; have h1 := HG0.out; have h2 := HGI.out; omega
                case rel =>
                  go_light
                  exact ⟨i + 1, L, lo, lc, by have h1 := HG0.out; have h2 := HGI.out; omega, by rw [hA2.out], rfl, HD2, HS, HX2, HN2⟩
              · go_wp2_with fail
                go_roundg (g0 - 1)
                case measure => go_light; have h1 := HG0.out; have h2 := HGI.out; omega
                case rel =>
                  go_light
                  exact ⟨i + 1, L, lo, lc, by have h1 := HG0.out; have h2 := HGI.out; omega, by rw [hA2.out], rfl, HD2, HS, HX2, HN2⟩
            · have hkR : k < R := by omega
              have hc : (k : Int) < 60 / (W : Int) := by have h2 := HRD.out; have h4 := hdiv.out; omega
              have hc2 : (L.length : Int) < (N : Int) := by have h1 := hLl.out; have h2 := HRD.out; omega
              have h44 : L.length + 1 ≤ 17592186044416 := by
                obtain ⟨B, hB1, hB2⟩ := HBB.out
                have h1 := HN.out
                have h2 := HQ.out
                have h3 := HQ8.out
                have h5 := hLl.out
                rcases hB2 with h | h <;> omega
              have h63 : Hid (L.length + 1 ≤ maxLen) := Lib.hid (by unfold maxLen; omega)
              have hby : Hid ((L.length + 1) * 8 ≤ 140737488355328) := Lib.hid (by omega)
              have hba : Hid (∀ o, w.heap.size + 1 ≤ (wr.drew.alloc o).heap.size) := Lib.hid (fun o => by have h6 := HS.out.2.2.2.2.2; have e : wr.drew.heap.size = wr.heap.size := rfl; have e2 : (wr.drew.alloc o).heap.size = wr.drew.heap.size + 1 := (by simp); omega)
              have hod : Hid (wr.drew.ownsRow (w.heap.size + 1) 37 1 (.slice lo L.length lc) L.length (L.map uV)) := Lib.hid HS.out.1
              have hno : Hid (¬ (Value.slice lo L.length lc).ownBlock = some w.heap.size) := Lib.hid (fun h => by have := (World.ownsRow.lt HS.out.1 _ h).1; omega)
              obtain ⟨Z, hZ⟩ : ∃ Z, Z = k * W := ⟨_, rfl⟩
              have hZ60 : Z < 60 := z_lt60 hkR HRD.out hZ hWb.1
              have hm1 : IntKind.i64.wrap ((k : Int) * (W : Int)) = (Z : Int) := by
                rw [show (k : Int) * (W : Int) = (Z : Int) by rw [hZ]; simp]
                exact IntWalk.i64_in _ (by omega)
              obtain ⟨M, hM, hM2⟩ := mask_eq W hWb.2
              have hnext : Hid ((L ++ [V / 2 ^ Z % 2 ^ W]) = acc ++ vals W V (k + 1)) := Lib.hid (by rw [HL.out, vals_next, List.append_assoc]; unfold val; rw [hZ])
              have HAN := Lib.hid (and_step V Z W M HV.out hM hWb.2)
              have hwb := hWb.2
              have HWB := Lib.hid hWb
              have HKR := Lib.hid (show k + 1 ≤ R ∧ k < 60 by omega)
              have HGK := Lib.hid hk
              have HLN := Lib.hid h44
              have HHL := Lib.hid hl
              have hnx : Hid (wrap64 ((k : Int) + 1) = ((k + 1 : Nat) : Int)) := Lib.hid (by rw [← IntWalk.i64_left, IntWalk.i64_in _ (by omega)]; omega)
              clear hM hZ hWb h44 hacc hnc hcm hk hkR hR60 hiq hAl hl
              have hSI : (S : Int) < 14 := by omega
              have hzu : IntKind.u64.wrap (Z : Int) = (Z : Int) := u64_small Z (Nat.le_of_lt hZ60)
              have hwu : IntKind.u64.wrap (W : Int) = (W : Int) := u64_small W hwb
              go_upto_region 15 with fail
              have hbw : w.heap.size < wr.drew.heap.size := World.block_lt_of_cell? wr _ hcW
              go_region_held3 (fun w' => w'.cell? ⟨w.heap.size, S, none⟩ = some (.int .i64 (W : Int)))
                (first
                  | exact hcW
                  | exact (World.cell?_alloc_past _ _ _ hbw).trans hcW
                  | exact (hCg.cell (by exact hbw) (by exact fun h => hnb h)).trans hcW)
                ((refine step_append_rd (wr.drew.alloc _) rfl (.tmp 59) (.tmp 77) 39 rfl (w.heap.size + 1) 37 (.int .u64 0) 1 8 Try.underlying39 infoU64 rfl (by decide) (.slice lo L.length lc) L.length (L.map uV) rfl (hod.out.alloc _) (.slice (some ⟨wr.drew.heap.size, 0, none⟩) 1 1) 1 _ rfl (RdV.one _ _ _) (one_one _ rfl) h63.out hby.out (hba.out _) ?_; intro ao6 cap6 w6 hg6; have HG := Lib.hid hg6.ofAlloc; have hCg := HG.out.chg; have hnb := hno.out; clear hg6))
              all_goals go_wp2
              clear hm1
              go_roundg (gk - 1)
              case measure => go_light; have h1 := HKR.out; have h2 := HGK.out; omega
              case rel =>
                go_light
                have hlen : L.length + 1 = (L ++ [V / 2 ^ Z % 2 ^ W]).length := by simp
                have hg := HG.out
                rw [HAN.out] at hg
                have e : L.map uV ++ [.int .u64 ((V / 2 ^ Z % 2 ^ W : Nat) : Int)] = (L ++ [V / 2 ^ Z % 2 ^ W]).map uV := by simp [uV]
                rw [e, hlen] at hg
                exact ⟨k + 1, L ++ [V / 2 ^ Z % 2 ^ W], ao6, cap6, by have h1 := HKR.out; have h2 := HGK.out; omega, by rw [hnx.out], by rw [← hlen], hnext, Lib.hid ((HS.out.drewN 1).grew hg)⟩
        · have hdr2 := hdr.out
          rw [if_neg h14] at hdr2
          have HU := Lib.hid (unA_bad hdr2)
          clear hdr hdr2
          have h13 : (13 : Int) < (S : Int) := by omega
          go_wp2_with fail
          go_ret2
          exact ⟨HS1.out.2.1, .inl ⟨HU.out, by go_light; rfl⟩⟩
end Go.Proofs.Ytcgjbjiififkhaa
