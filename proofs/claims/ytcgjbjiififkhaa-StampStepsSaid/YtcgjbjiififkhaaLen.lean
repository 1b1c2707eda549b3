/- math/bits.Len64: how many bits a number has. -/
import Derived.Test.YtcgjbjiififkhaaEight
import Derived.Lib.Tables
import Derived.Lib.BitFns
namespace Go.Proofs.Ytcgjbjiififkhaa
open Go.RowKit
set_option linter.unusedVariables false

/-- How many bits a number has. -/
def bl (v : Nat) : Nat := if v = 0 then 0 else Nat.log2 v + 1

theorem bl_le (v w : Nat) : bl v ≤ w ↔ v < 2 ^ w := by
  unfold bl
  by_cases h : v = 0
  · subst h; simp [Nat.two_pow_pos]
  · rw [if_neg h, ← Nat.log2_lt h]; omega

theorem bl_shift (v k : Nat) (h : 2 ^ k ≤ v) : bl v = k + bl (v / 2 ^ k) := by
  have hp := Nat.two_pow_pos k
  have key : ∀ w, bl v ≤ w ↔ k + bl (v / 2 ^ k) ≤ w := by
    intro w
    rw [bl_le]
    by_cases hw : k ≤ w
    · rw [show k + bl (v / 2 ^ k) ≤ w ↔ bl (v / 2 ^ k) ≤ w - k by omega, bl_le, Nat.div_lt_iff_lt_mul hp, ← Nat.pow_add, show w - k + k = w by omega]
    · constructor
      · intro h2
        have : 2 ^ w ≤ 2 ^ k := Nat.pow_le_pow_right (by omega) (by omega)
        omega
      · intro h2; omega
  have h1 := (key (k + bl (v / 2 ^ k))).2 (Nat.le_refl _)
  have h2 := (key (bl v)).1 (Nat.le_refl _)
  omega

theorem bl_tab : ∀ n : Fin 256, Lib.len8 (n.val : Int) = (bl n.val : Int) := by decide +kernel

set_option maxHeartbeats 2000000 in
set_option maxRecDepth 100000 in
theorem len64_any (v : Nat) (hv : v < 18446744073709551616) (w : World) :
    Calls Try.prog 39 #[.int .u64 (v : Int)] w fun e w' => e = .returned (.int .i64 (bl v : Nat)) ∧ w = w' := by
  go_enter Try.func39, Try.ntmps39
  go_upto_if 4 with (fail)
  go_cut [0, 2] (fun s0 s2 wx => (∃ v1 k1 : Nat, s0 = .int .u64 (v1 : Int) ∧ s2 = .int .i64 (k1 : Int) ∧ Hid (bl v = k1 + bl v1) ∧ v1 < 4294967296 ∧ k1 ≤ 32) ∧ w = wx)
  case first =>
    by_cases h : 4294967296 ≤ v
    · have E := Lib.hid (show bl v = 32 + bl (v / 4294967296) from bl_shift v 32 h)
      have hI : decide ((4294967296 : Int) ≤ (v : Int)) = true := decide_eq_true (by omega)
      have hd := Lib.hid (show v / 4294967296 < 4294967296 by omega)
      clear h
      generalize hX : decide ((4294967296 : Int) ≤ (v : Int)) = X at *
      subst hI
      go_wp2_with fail
      go_meet
      go_light
      exact ⟨⟨v / 4294967296, 0 + 32, by simp, by simp, Lib.hid (by have h1 := trivial; have h2 := E.out; omega), hd.out, by omega⟩, rfl⟩
    · have hI : decide ((4294967296 : Int) ≤ (v : Int)) = false := decide_eq_false (by omega)
      have hh := Lib.hid h
      clear h
      generalize hX : decide ((4294967296 : Int) ≤ (v : Int)) = X at *
      subst hI
      go_wp2_with fail
      go_meet
      go_light
      exact ⟨⟨v, 0, rfl, rfl, Lib.hid (by have h1 := trivial; omega), by have := hh.out; omega, by omega⟩, rfl⟩
  case rest =>
  obtain ⟨⟨v1, k1, rfl, rfl, Hv1, hv1, hk1⟩, rfl⟩ := hcut
  go_upto_if 8 with (fail)
  go_cut [0, 2] (fun s0 s2 wx => (∃ v2 k2 : Nat, s0 = .int .u64 (v2 : Int) ∧ s2 = .int .i64 (k2 : Int) ∧ Hid (bl v = k2 + bl v2) ∧ v2 < 65536 ∧ k2 ≤ 48) ∧ w = wx)
  case first =>
    by_cases h : 65536 ≤ v1
    · have E := Lib.hid (show bl v1 = 16 + bl (v1 / 65536) from bl_shift v1 16 h)
      have hI : decide ((65536 : Int) ≤ (v1 : Int)) = true := decide_eq_true (by omega)
      have hd := Lib.hid (show v1 / 65536 < 65536 by omega)
      clear h
      generalize hX : decide ((65536 : Int) ≤ (v1 : Int)) = X at *
      subst hI
      go_wp2_with fail
      go_meet
      go_light
      exact ⟨⟨v1 / 65536, k1 + 16, by simp, by simp, Lib.hid (by have h1 := Hv1.out; have h2 := E.out; omega), hd.out, by omega⟩, rfl⟩
    · have hI : decide ((65536 : Int) ≤ (v1 : Int)) = false := decide_eq_false (by omega)
      have hh := Lib.hid h
      clear h
      generalize hX : decide ((65536 : Int) ≤ (v1 : Int)) = X at *
      subst hI
      go_wp2_with fail
      go_meet
      go_light
      exact ⟨⟨v1, k1, rfl, rfl, Lib.hid (by have h1 := Hv1.out; omega), by have := hh.out; omega, by omega⟩, rfl⟩
  case rest =>
  obtain ⟨⟨v2, k2, rfl, rfl, Hv2, hv2, hk2⟩, rfl⟩ := hcut
  go_upto_if 14 with (fail)
  go_cut [0, 2] (fun s0 s2 wx => (∃ v3 k3 : Nat, s0 = .int .u64 (v3 : Int) ∧ s2 = .int .i64 (k3 : Int) ∧ Hid (bl v = k3 + bl v3) ∧ v3 < 256 ∧ k3 ≤ 56) ∧ w = wx)
  case first =>
    by_cases h : 256 ≤ v2
    · have E := Lib.hid (show bl v2 = 8 + bl (v2 / 256) from bl_shift v2 8 h)
      have hI : decide ((256 : Int) ≤ (v2 : Int)) = true := decide_eq_true (by omega)
      have hd := Lib.hid (show v2 / 256 < 256 by omega)
      clear h
      generalize hX : decide ((256 : Int) ≤ (v2 : Int)) = X at *
      subst hI
      go_wp2_with fail
      go_meet
      go_light
      exact ⟨⟨v2 / 256, k2 + 8, by simp, by simp, Lib.hid (by have h1 := Hv2.out; have h2 := E.out; omega), hd.out, by omega⟩, rfl⟩
    · have hI : decide ((256 : Int) ≤ (v2 : Int)) = false := decide_eq_false (by omega)
      have hh := Lib.hid h
      clear h
      generalize hX : decide ((256 : Int) ≤ (v2 : Int)) = X at *
      subst hI
      go_wp2_with fail
      go_meet
      go_light
      exact ⟨⟨v2, k2, rfl, rfl, Lib.hid (by have h1 := Hv2.out; omega), by have := hh.out; omega, by omega⟩, rfl⟩
  case rest =>
  obtain ⟨⟨v3, k3, rfl, rfl, Hv3, hv3, hk3⟩, rfl⟩ := hcut
  obtain ⟨L, hL⟩ : ∃ L, L = bl v3 := ⟨_, rfl⟩
  have hl8 : Lib.len8 (v3 : Int) = (L : Int) := by rw [hL]; exact bl_tab ⟨v3, hv3⟩
  have hL8 : L ≤ 8 := by rw [hL, bl_le]; exact hv3
  have HV := Lib.hid (show bl v = k3 + L by rw [hL]; exact Hv3.out)
  have hw1 : Hid (wrap64 (L : Int) = (L : Int)) := Lib.hid (by rw [← IntWalk.i64_left]; exact IntWalk.i64_in _ (by omega))
  have hw2 : Hid (wrap64 ((k3 : Int) + (L : Int)) = ((k3 + L : Nat) : Int)) := Lib.hid (by rw [← IntWalk.i64_left]; exact IntWalk.i64_in _ (by omega))
  have hT : ∀ h : v3 < Lib.len8tab.size, (Lib.len8tab[v3]'h).toNat = L := fun h => by
    have h2 := hl8
    unfold Lib.len8 at h2
    rw [Int.toNat_natCast, getElem?_pos Lib.len8tab v3 h] at h2
    simp only [Option.getD_some] at h2
    omega
  clear hL
  have hTT := Lib.hid hT
  clear hT
  go_wp2_with fail
  go_ret
  refine ⟨?_, rfl⟩
  rw [HV.out]
  go_light
  have hT := hTT.out
  simp only [hT, hw1.out, hw2.out]
  rfl
end Go.Proofs.Ytcgjbjiififkhaa
