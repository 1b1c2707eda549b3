/- The contract of gristref06.place. -/
import Derived.Test.YtglpdkcpnigniaaLzChains
namespace Go.Proofs.Ytglpdkcpnigniaa
open Go.RowKit
set_option linter.unusedVariables false

theorem dec_u8 {x y : UInt8} (h : ¬ x = y) : decide ((x.toNat : Int) = (y.toNat : Int)) = false := by
  refine decide_eq_false fun e => h ?_
  have : x.toNat = y.toNat := by omega
  exact UInt8.toNat_inj.1 this
theorem beq_u8 {x y : UInt8} (h : ¬ x = y) : ((x.toNat : Int) == (y.toNat : Int)) = false := by
  have := dec_u8 h
  simpa using this

set_option maxHeartbeats 2000000 in
set_option maxRecDepth 100000 in
theorem place_any (bs : List UInt8) (v cv : Value) (a : Nat) (w : World) (hn : bs.length ≤ 1000000) (hr : Rd w v bs) (hc : RdV w 1 cv bs.length (chn bs bs.length (bs.length - 1))) (ha : a < bs.length) :
    Calls Try.prog 12 #[v, cv, .int .i64 (a : Int)] w fun e w' => e = .returned (.int .i64 (placeI bs a)) ∧ ∃ q, w' = w.drewN q := by
  obtain ⟨b, off, cap0, rfl, hbn, hbm, hbl, hcell⟩ := RdV.some hr.v (by omega) (by decide)
  obtain ⟨c, coff, ccap, rfl, hcn, hcm, hcl, hccell⟩ := RdV.some hc (by omega) (by decide)
  unfold maxLen at hbm hcm
  have hby : ∀ k, k < bs.length → w.cell? ⟨b, off + k, none⟩ = some (.int .u8 ((bs.getD k 0).toNat : Int)) := fun k hk => hcell k _ (by simp [hk, bV])
  have hch : ∀ k, k < bs.length - 1 → w.cell? ⟨c, coff + k, none⟩ = some (.int .i64 ((lst bs (pv bs k) k : Int) - 1)) := fun k hk => hccell k _ (by rw [chn_at _ _ _ _ (by omega), if_pos hk]; rfl)
  clear hcell hccell
  go_enter Try.func12, Try.ntmps12
  by_cases h4 : a + 4 ≤ bs.length
  · have e0 := hch a (by omega)
    go_wp2_with fail
    go_loopg [7] a (fun m s7 wr => Chained bs a m ∧ s7 = .int .i64 ((lst bs (pv bs a) m : Int) - 1) ∧ ∃ q, wr = w.drewN q)
    case atStart => exact ⟨chained_start bs a, rfl, 0, rfl⟩
    case round =>
      obtain ⟨hch1, rfl, q, rfl⟩ := hrel
      have hle := lst_le bs (pv bs a) gk
      have hga := hch1.1
      by_cases h0 : lst bs (pv bs a) gk = 0
      · have HR := Lib.hid (chained_none h4 hch1 h0)
        rw [h0]
        have hd : decide ((0 : Int) ≤ ((0 : Nat) : Int) - 1) = false := by decide
        clear hch1 hle h0
        go_wp2_with fail
        go_ret
        exact ⟨by rw [HR.out]; rfl, q, rfl⟩
      · obtain ⟨p, hp⟩ : ∃ p, lst bs (pv bs a) gk = p + 1 := ⟨lst bs (pv bs a) gk - 1, by omega⟩
        by_cases hf : a - p ≤ 65535
        · have H2 := fun h2 h3 => chained_here h4 hch1 hp hf h2 h3
          have H3 := fun h => chained_next h4 hch1 hp h
          have hpg : p < gk := by omega
          rw [hp, show (((p + 1 : Nat) : Int) - 1) = (p : Int) by omega]
          have e1 := hby (p + 2) (by omega)
          have e2 := hby (a + 2) (by omega)
          have e3 := hby (p + 3) (by omega)
          have e4 := hby (a + 3) (by omega)
          have hw1 : IntKind.i64.wrap ((p : Int) + 2) = (p : Int) + 2 := IntWalk.i64_in _ (by omega)
          have hw2 : IntKind.i64.wrap ((a : Int) + 2) = (a : Int) + 2 := IntWalk.i64_in _ (by omega)
          have hw3 : IntKind.i64.wrap ((p : Int) + 3) = (p : Int) + 3 := IntWalk.i64_in _ (by omega)
          have hw4 : IntKind.i64.wrap ((a : Int) + 3) = (a : Int) + 3 := IntWalk.i64_in _ (by omega)
          have t1 : ((p : Int) + 2).toNat = p + 2 := by omega
          have t2 : ((a : Int) + 2).toNat = a + 2 := by omega
          have t3 : ((p : Int) + 3).toNat = p + 3 := by omega
          have t4 : ((a : Int) + 3).toNat = a + 3 := by omega
          have s1 : (0 : Int) ≤ (p : Int) + 2 := by omega
          have s2 : (0 : Int) ≤ (a : Int) + 2 := by omega
          have s3 : (0 : Int) ≤ (p : Int) + 3 := by omega
          have s4 : (0 : Int) ≤ (a : Int) + 3 := by omega
          have r1 : (p : Int) + 2 < (bs.length : Int) := by omega
          have r2 : (a : Int) + 2 < (bs.length : Int) := by omega
          have r3 : (p : Int) + 3 < (bs.length : Int) := by omega
          have r4 : (a : Int) + 3 < (bs.length : Int) := by omega
          have hfI : decide ((a : Int) - (p : Int) ≤ 65535) = true := decide_eq_true (by omega)
          have f0 := hch p (by omega)
          have hpn : (p : Int) < (bs.length : Int) := by omega
          have HPA := Lib.hid (⟨hpg, hga, hn, ha⟩ : p < gk ∧ gk ≤ a ∧ bs.length ≤ 1000000 ∧ a < bs.length)
          generalize bs.getD (p + 2) 0 = x1 at *
          generalize bs.getD (a + 2) 0 = x2 at *
          generalize bs.getD (p + 3) 0 = x3 at *
          generalize bs.getD (a + 3) 0 = x4 at *
          clear hch1 hle h0 hp hf hch hby
          by_cases k1 : x1 = x2
          case' neg =>
            have d1 := dec_u8 k1
            have d2 := beq_u8 k1
            have HN := Lib.hid (H3 (fun h => k1 h.1))
            clear H2 H3
            go_upto_region 6 with fail
            go_quiet (fail)
          case' pos =>
            subst k1
            by_cases k2 : x3 = x4
            case' neg =>
              have d1 := dec_u8 k2
              have d2 := beq_u8 k2
              have HN := Lib.hid (H3 (fun h => k2 h.2))
              clear H2 H3
              go_upto_region 6 with fail
              go_quiet (fail)
            case' pos =>
              subst k2
              have HN := Lib.hid (H2 rfl rfl)
              clear H2 H3
              go_upto_region 6 with fail
              go_quiet (fail)
              go_wp2_with fail
              go_ret
              exact ⟨by rw [HN.out]; rfl, q + nq, by simp⟩
          all_goals go_wp2_with fail
          all_goals go_roundg p
          all_goals (try (case measure => go_light; exact HPA.out.1))
          all_goals (try (case rel =>
            go_light
            exact ⟨HN.out.1, by rw [HN.out.2.1], _, rfl⟩))
        · have HR := Lib.hid (chained_far h4 hch1 (by omega) (by rw [hp]; omega))
          rw [hp, show (((p + 1 : Nat) : Int) - 1) = (p : Int) by omega]
          have hfI : decide ((a : Int) - (p : Int) ≤ 65535) = false := decide_eq_false (by omega)
          have HPA := Lib.hid (⟨hga, hn, ha⟩ : gk ≤ a ∧ bs.length ≤ 1000000 ∧ a < bs.length)
          clear hch1 h0 hch hby
          go_wp2_with fail
          go_ret
          exact ⟨by rw [HR.out]; rfl, q, rfl⟩
  · have HR : Hid (placeI bs a = -1) := Lib.hid (by unfold placeI; rw [if_neg h4])
    go_wp2_with fail
    go_ret
    exact ⟨by rw [HR.out]; rfl, 0, rfl⟩

end Go.Proofs.Ytglpdkcpnigniaa
