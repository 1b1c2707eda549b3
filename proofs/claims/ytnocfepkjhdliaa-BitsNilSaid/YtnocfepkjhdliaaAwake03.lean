/- gristlaw03's awake returns true. -/
import Derived.Test.YtnocfepkjhdliaaWriter
import Derived.Test.YtnocfepkjhdliaaZig
namespace Go.Proofs.Ytnocfepkjhdliaa
open Go.RowKit

theorem awake_pack : pack8 (bitsOf 5 3 ++ bitsOf 1 1) = [176] := by
  rw [pack8_one _ (by decide) (by decide)]; decide

theorem awake_bytes (blk : Nat) (sv : Value) (w : World) (hw : Wr w blk sv ([] ++ bitsOf 5 3 ++ bitsOf 1 1)) :
    Calls Try.prog 18 #[.pointer (some ⟨blk, 0, none⟩)] w fun e w' => ∃ b off cap, e = .returned (.slice (some ⟨b, off, none⟩) 1 cap) ∧ w'.cell? ⟨b, off + 0, none⟩ = some (.int .u8 176) ∧ Below w.heap.size w w' := by
  refine (bytes_any blk sv _ w (by simp) hw).mono ?_
  rintro e w' ⟨ao, cap, rfl, ho, hb⟩
  rw [List.nil_append, awake_pack] at ho ⊢
  obtain ⟨b, off, cap', he, hc⟩ := rdOne ho.rd 0 (by simp)
  simp only [Value.slice.injEq] at he
  obtain ⟨rfl, _, rfl⟩ := he
  exact ⟨b, off, cap, rfl, by simpa using hc, hb⟩

set_option maxHeartbeats 400000 in
theorem awake_any (w : World) :
    Calls Try.prog 9 #[] w fun e w' => e = .returned (.bool true) ∧ Below w.heap.size w w' := by
  go_enter Try.func9, Try.ntmps9
  go_wp2_with fail
  refine (newWriter_any w).mono ?_
  rintro e w1 ⟨rfl, rfl⟩
  have hb1 : Hid (Below w.heap.size w (w.alloc newWr)) := (Below.refl _ _).alloc (Nat.le_refl _) _
  go_wp2_with fail
  refine (put_any w.heap.size 5 3 (by omega) (by omega) _ [] _ (by omega) (by simp) (newWr_wr w)).mono ?_
  rintro e w2 ⟨rfl, sv2, hw2, hs2⟩
  have hb2 : Hid (Below w.heap.size w w2) := hb1.out.trans (hs2.below (newWr_wr w))
  clear hb1 hs2
  go_wp2_with fail
  refine (put_any w.heap.size 1 1 (by omega) (by omega) _ _ _ (by omega) (by simp) hw2).mono ?_
  rintro e w3 ⟨rfl, sv3, hw3, hs3⟩
  have hb3 : Hid (Below w.heap.size w w3) := hb2.out.trans (hs3.below hw2)
  clear hb2 hs3 hw2
  go_wp2_with fail
  refine (awake_bytes w.heap.size sv3 _ hw3).mono ?_
  rintro e w4 ⟨b, off, cap, rfl, hc4, hb4⟩
  have hw4 := hw3.below hb4
  have hb5 : Hid (Below w.heap.size w w4) := hb3.out.trans (hb4.mono (by have := hw3.lt; omega))
  clear hb3 hb4 hw3 hc4
  go_wp2_with fail
  refine (awake_bytes w.heap.size sv3 _ hw4).mono ?_
  rintro e w5 ⟨b', off', cap', rfl, hc5, hb6⟩
  have hb7 : Hid (Below w.heap.size w w5) := hb5.out.trans (hb6.mono (by have := hw4.lt; omega))
  clear hb5 hb6 hw4
  simp only [Nat.add_zero] at hc5
  go_wp2_with fail
  refine (zig_any (-1) (by omega) _).mono ?_
  rintro e w6 ⟨rfl, rfl⟩
  go_wp2
  go_ret
  exact ⟨rfl, hb7.out⟩
end Go.Proofs.Ytnocfepkjhdliaa
