/- gristref01.ReadAt: the number of the next bytes. -/
import Derived.Test.YtmhmmnleijadnaaBytes
namespace Go.Proofs.Ytmhmmnleijadnaa
open Go.RowKit
set_option linter.unusedVariables false

theorem readAt_step (x c : Nat) (hx : x < 72057594037927936) (hc : c < 256) : bits BinOp.or IntKind.u64 ((x : Int) * 256) (c : Int) = ((x * 256 + c : Nat) : Int) := by
  have h1 : ((x : Int) * 256) = ((x * 256 : Nat) : Int) := by simp
  rw [h1, u64_or_nat _ _ (by omega) (by omega)]
  congr 1
  have := Nat.two_pow_add_eq_or_of_lt (i := 8) (b := c) (by omega) x
  rw [Nat.mul_comm x 256]
  exact this.symm

set_option maxHeartbeats 400000 in
theorem readAt_any (bs : List UInt8) (at0 n : Nat) (hn : n ≤ 8) (hat : at0 + n ≤ bs.length) (hl : bs.length ≤ 140737488355328) (v : Value) (w : World) (hr : Rd w v bs) :
    Calls Try.prog 34 #[v, .int .i64 (at0 : Int), .int .i64 (n : Int)] w fun e w' => e = .returned (.int .u64 ((rdN n (bs.drop at0) : Nat) : Int)) ∧ ∃ m, w' = w.drewN m := by
  obtain ⟨ao, cap, rfl, hnc, hcm⟩ := RdV.shape hr
  unfold maxLen at hcm
  go_enter Try.func34, Try.ntmps34
  go_wp2_with fail
  go_loopg [7, 10] n (fun m s7 s10 wr => ∃ k : Nat, k + m = n ∧ s10 = .int .i64 (k : Int) ∧ s7 = .int .u64 ((rdN k (bs.drop at0) : Nat) : Int) ∧ ∃ q, wr = w.drewN q)
  case atStart => exact ⟨0, by omega, rfl, rfl, 0, rfl⟩
  case round =>
    obtain ⟨k, hk, rfl, rfl, q, rfl⟩ := hrel
    by_cases h0 : gk = 0
    · obtain rfl : k = n := by omega
      go_wp2_with fail
      go_ret
      exact ⟨rfl, q, rfl⟩
    · have hkn : k < n := by omega
      have hkl : k < (bs.drop at0).length := by simp; omega
      obtain ⟨b, off, cap', he, hc⟩ := rdOne hr (at0 + k) (by omega)
      simp only [Value.slice.injEq, true_and] at he
      obtain ⟨rfl, rfl⟩ := he
      have hnx := Lib.hid (rdN_next k (bs.drop at0) hkl)
      have hlt := rdN_lt k (bs.drop at0)
      have hxs : rdN k (bs.drop at0) < 72057594037927936 := Nat.lt_of_lt_of_le hlt (Nat.le_trans (Nat.pow_le_pow_right (by omega) (show 8 * k ≤ 56 by omega)) (by decide))
      have hg : (bs.drop at0)[k].toNat = (bs[at0 + k]'(by omega)).toNat := by rw [List.getElem_drop]
      rw [hg] at hnx
      generalize rdN k (bs.drop at0) = X at *
      generalize hC : bs[at0 + k]'(by omega) = C at *
      have hC2 := C.toNat_lt
      have HS := Lib.hid (readAt_step X C.toNat hxs hC2)
      obtain ⟨j, hj⟩ : ∃ j, j = at0 + k := ⟨_, rfl⟩
      rw [← hj] at hc
      have hc' : (w.drewN q).cell? ⟨b, off + j, none⟩ = some (bV C) := hc
      unfold bV at hc'
      have t1 : (at0 : Int) + (k : Int) = (j : Int) := by omega
      have t5 : IntKind.i64.wrap (j : Int) = (j : Int) := IntWalk.i64_in _ (by omega)
      have hjl : j < bs.length := by omega
      clear hj hc hlt hg hC
      go_wp2_with fail
      go_roundg (gk - 1)
      case measure => go_light; omega
      case rel =>
        go_light
        exact ⟨k + 1, by omega, by go_num, by rw [hnx.out]; exact congrArg (Value.int .u64) HS.out, q, rfl⟩
end Go.Proofs.Ytmhmmnleijadnaa
