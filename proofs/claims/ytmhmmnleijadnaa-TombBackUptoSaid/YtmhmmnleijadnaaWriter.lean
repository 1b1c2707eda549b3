/- The contracts of bits.NewWriter, (*Writer).Len, (*Writer).Bytes, and of Put where nothing is written. -/
import Derived.Test.YtmhmmnleijadnaaPut
namespace Go.Proofs.Ytmhmmnleijadnaa
open Go.RowKit

/-- These bytes are the call's own, from block base on. -/
def Own (w : World) (base : Nat) (v : Value) (bs : List UInt8) : Prop := w.ownsRow base 5 1 v bs.length (bs.map bV)

theorem Own.rd {w : World} {base : Nat} {v : Value} {bs : List UInt8} (h : Own w base v bs) : Rd w v bs := RdV.ofOwns h
theorem Own.mono {w : World} {base base' : Nat} {v : Value} {bs : List UInt8} (h : Own w base v bs) (hb : base' ≤ base) : Own w base' v bs := ownsRow_mono h hb
theorem Own.shape {w : World} {base : Nat} {v : Value} {bs : List UInt8} (h : Own w base v bs) : ∃ ao cap, v = .slice ao bs.length cap := ownsRow_shape h
theorem Own.nil (w : World) (base : Nat) : Own w base (.slice none 0 0) [] := World.ownsRow_nil _ _ _ _

theorem Wr.lt {w : World} {blk : Nat} {sv : Value} {bits : List Bool} (h : Wr w blk sv bits) : blk < w.heap.size := World.block_lt_of_cell? w _ h.1

theorem WrStep.below {w w' : World} {blk : Nat} {sv sv' : Value} {bits : List Bool} (h : WrStep w blk sv w' sv') (hw : Wr w blk sv bits) : Below blk w w' := by
  have := hw.lt
  refine h.1.below (by omega) fun k hk => ?_
  rcases hk with rfl | hk
  · exact Nat.le_refl _
  · have := (hw.2.2.2.2.lt k hk).1; omega

theorem Wr.keep {w w' : World} {blk : Nat} {sv : Value} {bits : List Bool} {S : Nat → Prop} (h : Wr w blk sv bits) (hc : Chg S w w') (h0 : ¬ S blk) (h1 : ∀ k, sv.ownBlock = some k → ¬ S k) : Wr w' blk sv bits := by
  have hl := h.lt
  obtain ⟨c0, c1, f0, f1, ho⟩ := h
  exact ⟨(hc.cell (p := ⟨blk, 0, none⟩) hl h0).trans c0, (hc.cell (p := ⟨blk, 1, none⟩) hl h0).trans c1, (hc.frozen (p := ⟨blk, 0, none⟩) hl h0).trans f0, (hc.frozen (p := ⟨blk, 1, none⟩) hl h0).trans f1, hc.owns ho h1⟩
theorem Wr.below {w w' : World} {blk : Nat} {sv : Value} {bits : List Bool} (h : Wr w blk sv bits) (hc : Below w.heap.size w w') : Wr w' blk sv bits :=
  h.keep (S := fun _ => False) (Chg.ofBelowAny hc) (fun h => h) (fun _ _ h => h)

/-- A new writer's block. -/
def newWr : Obj := .cells #[.slice none 0 0, .int .i64 0] 80

theorem newWr_wr (w : World) : Wr (w.alloc newWr) w.heap.size (.slice none 0 0) [] := by
  refine ⟨by simp [newWr, World.cell?_alloc_new], by simp [newWr, World.cell?_alloc_new], by simp [newWr, go_sem], by simp [newWr, go_sem], ?_⟩
  simpa [pack8_nil] using World.ownsRow_nil _ _ _ _

set_option maxHeartbeats 400000 in
theorem newWriter_any (w : World) :
    Calls Try.prog 29 #[] w fun e w' => e = .returned (.pointer (some ⟨w.heap.size, 0, none⟩)) ∧ w.alloc newWr = w' := by
  go_enter Try.func29, Try.ntmps29
  go_wp2
  go_ret
  exact ⟨rfl, rfl⟩

set_option maxHeartbeats 400000 in
theorem putNone_any (blk : Nat) (v : Int) (n : Int) (hn : n ≤ 0) (w : World) :
    Calls Try.prog 30 #[.pointer (some ⟨blk, 0, none⟩), .int .u64 v, .int .i64 n] w fun e w' => e = .returned (.tuple #[]) ∧ w = w' := by
  go_enter Try.func30, Try.ntmps30
  go_wp2
  go_loopw [2] (fun i wr => i = .int .i64 n ∧ wr = w) (fun _ _ => 0)
  case atStart => exact ⟨rfl, rfl⟩
  case round =>
    obtain ⟨rfl, rfl⟩ := hrel
    go_wp2
    go_end0
    exact ⟨rfl, rfl⟩

set_option maxHeartbeats 400000 in
theorem putNil_any (v : Int) (n : Int) (w : World) :
    Calls Try.prog 30 #[.pointer none, .int .u64 v, .int .i64 n] w fun e w' => e = .returned (.tuple #[]) ∧ w = w' := by
  go_enter Try.func30, Try.ntmps30
  go_wp2
  exact bodyPost_ret (results_none rfl _ _ _) rfl ⟨rfl, rfl⟩

set_option maxHeartbeats 400000 in
theorem bytes_any (blk : Nat) (sv : Value) (bits : List Bool) (w : World) (hb : bits.length ≤ 1125899906842064) (hw : Wr w blk sv bits) :
    Calls Try.prog 31 #[.pointer (some ⟨blk, 0, none⟩)] w fun e w' => ∃ ao cap, e = .returned (.slice ao (pack8 bits).length cap) ∧ Own w' w.heap.size (.slice ao (pack8 bits).length cap) (pack8 bits) ∧ Below w.heap.size w w' := by
  have hl := hw.lt
  obtain ⟨c0, c1, f0, f1, ho⟩ := hw
  have h63 : 0 + (pack8 bits).length ≤ maxLen := by rw [length_pack8]; unfold maxLen; omega
  have hby : (0 + (pack8 bits).length) * 1 ≤ 140737488355328 := by rw [length_pack8]; omega
  go_enter Try.func31, Try.ntmps31
  go_wp2_with (at_builtin; refine wpList_append_rd _ rfl (.const (.slice none 0 0)) (.tmp 8) 47 rfl w.heap.size 5 (.int .u8 0) 1 1 Try.underlying47 infoU8 rfl (by decide) (.slice none 0 0) 0 [] rfl (World.ownsRow_nil _ _ _ _) sv _ _ rfl (RdV.ofOwns ho) (bV_one _) h63 hby (Nat.le_refl _) ?_; intro ao cap w1 hg)
  have HG := Lib.hid hg
  clear hg
  go_wp2
  go_ret
  obtain ⟨h1, h2, h3⟩ := HG.out
  simp only [Nat.zero_add, List.nil_append] at h1 h2 ⊢
  exact ⟨ao, cap, rfl, h1, (Chg.refl (fun _ => False) w).grown h2 (fun k _ h => by simp [Value.ownBlock] at h) |>.below (Nat.le_refl _) (fun _ h => h.elim)⟩

set_option maxHeartbeats 400000 in
theorem bytesNil_any (w : World) :
    Calls Try.prog 31 #[.pointer none] w fun e w' => e = .returned (.slice none 0 0) ∧ w = w' := by
  go_enter Try.func31, Try.ntmps31
  go_wp2
  go_ret
  exact ⟨rfl, rfl⟩



end Go.Proofs.Ytmhmmnleijadnaa
