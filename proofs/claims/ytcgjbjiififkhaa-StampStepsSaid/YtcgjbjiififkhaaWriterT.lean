/- The contracts of bits.NewWriter, and of Put where nothing is written (where Bytes is not reached). -/
import Derived.Test.YtcgjbjiififkhaaPut
namespace Go.Proofs.Ytcgjbjiififkhaa
open Go.RowKit

/-- These bytes are the call's own, from block base on. -/
def Own (w : World) (base : Nat) (v : Value) (bs : List UInt8) : Prop := w.ownsRow base 5 1 v bs.length (bs.map bV)

theorem Own.rd {w : World} {base : Nat} {v : Value} {bs : List UInt8} (h : Own w base v bs) : Rd w v bs := RdV.ofOwns h
theorem Own.mono {w : World} {base base' : Nat} {v : Value} {bs : List UInt8} (h : Own w base v bs) (hb : base' ≤ base) : Own w base' v bs := ownsRow_mono h hb
theorem Own.shape {w : World} {base : Nat} {v : Value} {bs : List UInt8} (h : Own w base v bs) : ∃ ao cap, v = .slice ao bs.length cap := ownsRow_shape h
theorem Own.nil (w : World) (base : Nat) : Own w base (.slice none 0 0) [] := World.ownsRow_nil _ _ _ _

theorem Wr.lt {w : World} {blk : Nat} {sv : Value} {bits : List Bool} (h : Wr w blk sv bits) : blk < w.heap.size := World.block_lt_of_cell? w _ h.1

theorem WrStep.below {w w' : World} {blk : Nat} {sv sv' : Value} {bits : List Bool} (h : WrStep w blk sv w' sv') (hw : Wr w blk sv bits) : Below blk w w' := by
  have := hw.lt
  refine h.1.below (by omega) fun k hk => ?_
  rcases hk with rfl | hk
  · exact Nat.le_refl _
  · have := (hw.2.2.2.2.lt k hk).1; omega

theorem Wr.keep {w w' : World} {blk : Nat} {sv : Value} {bits : List Bool} {S : Nat → Prop} (h : Wr w blk sv bits) (hc : Chg S w w') (h0 : ¬ S blk) (h1 : ∀ k, sv.ownBlock = some k → ¬ S k) : Wr w' blk sv bits := by
  have hl := h.lt
  obtain ⟨c0, c1, f0, f1, ho⟩ := h
  exact ⟨(hc.cell (p := ⟨blk, 0, none⟩) hl h0).trans c0, (hc.cell (p := ⟨blk, 1, none⟩) hl h0).trans c1, (hc.frozen (p := ⟨blk, 0, none⟩) hl h0).trans f0, (hc.frozen (p := ⟨blk, 1, none⟩) hl h0).trans f1, hc.owns ho h1⟩
theorem Wr.below {w w' : World} {blk : Nat} {sv : Value} {bits : List Bool} (h : Wr w blk sv bits) (hc : Below w.heap.size w w') : Wr w' blk sv bits :=
  h.keep (S := fun _ => False) (Chg.ofBelowAny hc) (fun h => h) (fun _ _ h => h)

/-- A new writer's block. -/
def newWr : Obj := .cells #[.slice none 0 0, .int .i64 0] 63

theorem newWr_wr (w : World) : Wr (w.alloc newWr) w.heap.size (.slice none 0 0) [] := by
  refine ⟨by simp [newWr, World.cell?_alloc_new], by simp [newWr, World.cell?_alloc_new], by simp [newWr, go_sem], by simp [newWr, go_sem], ?_⟩
  simpa [pack8_nil] using World.ownsRow_nil _ _ _ _

set_option maxHeartbeats 400000 in
theorem newWriter_any (w : World) :
    Calls Try.prog 31 #[] w fun e w' => e = .returned (.pointer (some ⟨w.heap.size, 0, none⟩)) ∧ w.alloc newWr = w' := by
  go_enter Try.func31, Try.ntmps31
  go_wp2
  go_ret
  exact ⟨rfl, rfl⟩

set_option maxHeartbeats 400000 in
theorem putNone_any (blk : Nat) (v : Int) (n : Int) (hn : n ≤ 0) (w : World) :
    Calls Try.prog 32 #[.pointer (some ⟨blk, 0, none⟩), .int .u64 v, .int .i64 n] w fun e w' => e = .returned (.tuple #[]) ∧ w = w' := by
  go_enter Try.func32, Try.ntmps32
  go_wp2
  go_loopw [2] (fun i wr => i = .int .i64 n ∧ wr = w) (fun _ _ => 0)
  case atStart => exact ⟨rfl, rfl⟩
  case round =>
    obtain ⟨rfl, rfl⟩ := hrel
    go_wp2
    go_end0
    exact ⟨rfl, rfl⟩

set_option maxHeartbeats 400000 in
theorem putNil_any (v : Int) (n : Int) (w : World) :
    Calls Try.prog 32 #[.pointer none, .int .u64 v, .int .i64 n] w fun e w' => e = .returned (.tuple #[]) ∧ w = w' := by
  go_enter Try.func32, Try.ntmps32
  go_wp2
  exact bodyPost_ret (results_none rfl _ _ _) rfl ⟨rfl, rfl⟩

end Go.Proofs.Ytcgjbjiififkhaa
