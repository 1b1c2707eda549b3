/- bits.Tail of any length, gristref01.Two and Join. -/
import Derived.Test.YtcgjbjiififkhaaLit
namespace Go.Proofs.Ytcgjbjiififkhaa
open Go.RowKit
set_option linter.unusedVariables false

def beN (n v : Nat) : List UInt8 := pack8 (bitsOf v (8 * n))
theorem beN_len (n v : Nat) : (beN n v).length = n := by simp [beN, length_pack8]; omega
theorem beN_8 (v : Nat) : beN 8 v = be8 v := rfl

set_option maxHeartbeats 400000 in
theorem tailn_any (v n : Nat) (h1 : 1 ≤ n) (h8 : n ≤ 8) (hv : v < 18446744073709551616) (w : World) :
    Calls Try.prog 21 #[.int .u64 (v : Int), .int .i64 (n : Int)] w fun e w' => ∃ ao cap, e = .returned (.slice ao (beN n v).length cap) ∧ Own w' w.heap.size (.slice ao (beN n v).length cap) (beN n v) ∧ Below w.heap.size w w' := by
  obtain ⟨m, hm⟩ : ∃ m, m = 8 * n := ⟨_, rfl⟩
  have hmI : (8 : Int) * (n : Int) = (m : Int) := by omega
  have hp := put_any w.heap.size v m (by omega) (by omega) (.slice none 0 0) [] _ hv (by simp) (newWr_wr w)
  rw [List.nil_append] at hp
  have HM := Lib.hid hm
  clear hm
  go_enter Try.func21, Try.ntmps21
  go_wp2_with fail
  refine (newWriter_any w).mono ?_
  rintro e w2 ⟨rfl, rfl⟩
  go_wp2_with fail
  refine hp.mono ?_
  rintro e w3 ⟨rfl, sv, hw, hs⟩
  have HS := Lib.hid (((Below.refl w.heap.size w).alloc (Nat.le_refl _) newWr).trans (WrStep.below hs (newWr_wr w)))
  have ho : Own w3 w.heap.size sv (beN n v) := by
    have := hw.2.2.2.2
    rw [HM.out] at this
    exact ownsRow_mono this (by omega)
  obtain ⟨ao, cap, rfl⟩ := ho.shape
  have HO := Lib.hid ho
  have c0 := hw.1
  clear hw hs ho hp
  go_wp2_with fail
  go_ret
  exact ⟨ao, cap, rfl, HO.out, HS.out⟩

theorem beN_two (v : Nat) : beN 2 v = [UInt8.ofNat (v / 256), UInt8.ofNat v] := by
  unfold beN
  rw [show 8 * 2 = 8 + 8 by rfl, bitsOf_split, pack8_append _ _ (by simp), pack8_one _ (by intro h; have := congrArg List.length h; simp at this) (by simp), pack8_one _ (by intro h; have := congrArg List.length h; simp at this) (by simp), num_bitsOf, num_bitsOf]
  simp only [length_bitsOf, Nat.sub_self, Nat.pow_zero, Nat.mul_one]
  have e : ∀ x : Nat, UInt8.ofNat (x % 2 ^ 8) = UInt8.ofNat x := fun x => by
    apply UInt8.toNat_inj.1
    simp
  rw [e, e]
  rfl

set_option maxHeartbeats 400000 in
theorem two_any (n : Nat) (hn : n < 65536) (w : World) :
    Calls Try.prog 16 #[.int .i64 (n : Int)] w fun e w' => ∃ ao cap, e = .returned (.slice ao (beN 2 n).length cap) ∧ Own w' w.heap.size (.slice ao (beN 2 n).length cap) (beN 2 n) ∧ Below w.heap.size w w' := by
  have e1 : ((UInt8.ofNat (n / 256)).toNat : Int) = (n : Int) / 256 := by rw [UInt8.toNat_ofNat']; omega
  have e2 : ((UInt8.ofNat n).toNat : Int) = (n : Int) % 256 := by rw [UInt8.toNat_ofNat']; omega
  have HE1 := Lib.hid e1
  have HE2 := Lib.hid e2
  clear e1 e2
  go_enter Try.func16, Try.ntmps16
  go_wp2_with fail
  go_ret
  refine ⟨some ⟨w.heap.size, 0, none⟩, 2, by rw [beN_len]; rfl, ?_, (Below.refl w.heap.size w).alloc (Nat.le_refl _) _⟩
  rw [beN_two]
  unfold Own
  simp only [List.map_cons, List.map_nil, bV, HE1.out, HE2.out]
  exact World.ownsRow_lit w _ 2 (Nat.le_refl _) (by decide) rfl
end Go.Proofs.Ytcgjbjiififkhaa
