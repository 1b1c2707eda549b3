/- The eight bytes of a number: gristref01.Eight, bits.Tail. -/
import Derived.Test.YtmhmmnleijadnaaWriter
namespace Go.Proofs.Ytmhmmnleijadnaa
open Go.RowKit
set_option linter.unusedVariables false

/-- The eight bytes of a number, the highest first. -/
def be8 (v : Nat) : List UInt8 := pack8 (bitsOf v 64)
theorem be8_len (v : Nat) : (be8 v).length = 8 := by simp [be8, length_pack8]

def part8 (v i : Nat) : List UInt8 := pack8 (bitsOf (v / 2 ^ (64 - 8 * i)) (8 * i))
theorem part8_len (v i : Nat) : (part8 v i).length = i := by simp [part8, length_pack8]; omega
theorem part8_next (v i : Nat) (hi : i < 8) : part8 v (i + 1) = part8 v i ++ [UInt8.ofNat (v / 2 ^ (56 - 8 * i))] := by
  unfold part8
  have e1 : v / 2 ^ (64 - 8 * i) = v / 2 ^ (64 - 8 * (i + 1)) / 2 ^ 8 := by
    rw [Nat.div_div_eq_div_mul, ← Nat.pow_add]
    congr 2
    omega
  rw [show 8 * (i + 1) = 8 * i + 8 by omega, bitsOf_split, e1, show 64 - 8 * (i + 1) = 64 - (8 * i + 8) by omega, pack8_append _ _ (by rw [length_bitsOf]; omega)]
  congr 1
  rw [pack8_one _ (by intro h; have := congrArg List.length h; simp at this) (by simp), num_bitsOf, length_bitsOf, show 64 - (8 * i + 8) = 56 - 8 * i by omega]
  have e2 : UInt8.ofNat (v / 2 ^ (56 - 8 * i) % 256) = UInt8.ofNat (v / 2 ^ (56 - 8 * i)) := by
    apply UInt8.toNat_inj.1
    rw [UInt8.toNat_ofNat', UInt8.toNat_ofNat']
    omega
  simpa using e2

theorem byte_of (v s : Nat) : ((UInt8.ofNat (v / 2 ^ s)).toNat : Int) = (v : Int) / 2 ^ s % 256 := by
  rw [UInt8.toNat_ofNat']
  have e : ((v : Int) / 2 ^ s) = ((v / 2 ^ s : Nat) : Int) := by simp
  rw [e]
  omega

set_option maxHeartbeats 1000000 in
theorem eight_any (v : Nat) (hv : v < 18446744073709551616) (w : World) :
    Calls Try.prog 28 #[.int .u64 (v : Int)] w fun e w' => ∃ ao cap, e = .returned (.slice ao (be8 v).length cap) ∧ Own w' w.heap.size (.slice ao (be8 v).length cap) (be8 v) ∧ Below w.heap.size w w' := by
  go_enter Try.func28, Try.ntmps28
  go_wp2_with fail
  go_loopg [3, 5] 8 (fun m s3 s5 wr => ∃ (i : Nat) (ps : List UInt8) (ao : Option Addr) (cap : Nat), i + m = 8 ∧ s5 = .int .i64 (i : Int) ∧ s3 = .slice ao ps.length cap ∧ ps.length ≤ i ∧ Hid (ps = part8 v i) ∧ Hid (Own wr w.heap.size (.slice ao ps.length cap) ps) ∧ Hid (Below w.heap.size w wr))
  case atStart => exact ⟨0, [], none, 0, rfl, rfl, rfl, by simp, Lib.hid (List.eq_nil_of_length_eq_zero (part8_len v 0)).symm, Lib.hid (Own.nil _ _), Lib.hid (Below.refl _ _)⟩
  case round =>
    obtain ⟨i, ps, ao, cap, hm, rfl, rfl, hl8, hps, hO, hB⟩ := hrel
    by_cases h0 : gk = 0
    · obtain rfl : i = 8 := by omega
      clear hm
      have e8 : part8 v 8 = be8 v := by unfold part8 be8; simp
      rw [e8] at hps
      go_wp2_with fail
      go_ret
      have := hps.out
      subst this
      exact ⟨ao, cap, rfl, hO.out, hB.out⟩
    · have hi : i < 8 := by omega
      have hM := Lib.hid hm
      have HN := Lib.hid (part8_next v i hi)
      have hbs := hB.out.size
      clear hm
      have hcase : i = 0 ∨ i = 1 ∨ i = 2 ∨ i = 3 ∨ i = 4 ∨ i = 5 ∨ i = 6 ∨ i = 7 := by omega
      have h63 : ps.length + 1 ≤ maxLen := by unfold maxLen; omega
      have hby : (ps.length + 1) * 1 ≤ 140737488355328 := by omega
      have hba : ∀ o, w.heap.size ≤ (wr.alloc o).heap.size := fun o => by simp; omega
      have hB8 := Lib.hid (byte_of v (56 - 8 * i))
      rcases hcase with rfl | rfl | rfl | rfl | rfl | rfl | rfl | rfl
      all_goals go_wp2_with (at_builtin; refine wpList_append_rd _ rfl (.tmp 8) (.tmp 16) 47 rfl w.heap.size 5 (.int .u8 0) 1 1 Try.underlying47 infoU8 rfl (by decide) (.slice ao ps.length cap) _ _ rfl (World.ownsRow.alloc hO.out _) (.slice (some ⟨wr.heap.size, 0, none⟩) 1 1) 1 _ rfl (RdV.one _ _ _) (one_one _ rfl) h63 hby (hba _) ?_; intro ao6 cap6 w6 hg6; have HG := Lib.hid hg6.ofAlloc; clear hg6)
      all_goals go_roundg (gk - 1)
      all_goals (try (case measure => go_light; omega))
      all_goals go_light
      all_goals (have hM' := hM.out)
      all_goals (have hg := HG.out)
      all_goals (have hp := hps.out)
      all_goals (have hn := HN.out)
      all_goals (rw [← hp] at hn)
      all_goals (have hlt := fun k hk => (hO.out.lt k hk).1)
      all_goals (have hB6 := Lib.hid (hB.out.trans (hg.below hbs hlt)))
      all_goals (refine ⟨_, _, ao6, cap6, ?_, rfl, ?_, ?_, Lib.hid hn.symm, Lib.hid ?_, hB6⟩)
      all_goals first
        | omega
        | (simp; done)
        | (simp; omega)
        | (simp; exact List.eq_nil_of_length_eq_zero (by omega))
        | (have ho := hg.owns
           have key : ∀ E : Int, E = _ → Value.int .u8 E = bV _ := fun E h => congrArg (Value.int .u8) (h.trans hB8.out.symm)
           unfold Own
           rw [List.length_append, List.map_append]
           rw [key] at ho
           · exact ho
           · first | (simp; done) | (simp; omega) | omega)

end Go.Proofs.Ytmhmmnleijadnaa
