/- gristlaw03's pieces: what a list of them reads as; the weight of what they write. -/
import Derived.Test.YtnocfepkjhdliaaOpen
import Derived.Test.YtnocfepkjhdliaaAwake03
import Derived.StillTailTactics
namespace Go.Proofs.Ytnocfepkjhdliaa
open Go.RowKit Go.ChangeShapes Go.WideShapes Go.ChangeAt

/-- A piece: a number, and how many of its bits. -/
structure Piece where
  v : Nat
  n : Int

def Piece.cells (p : Piece) : List Value := [.int .u64 (p.v : Int), .int .i64 p.n]
def Piece.ok (p : Piece) : Prop := p.v < 18446744073709551616 ∧ -9223372036854775808 ≤ p.n ∧ p.n ≤ 9223372036854775807

theorem open_pieces {H : Type} {enc : TypeId × Value → H} {W : World} {v : Value} {b0 : Nat} {d : DataW H} {ps : List MemPlace} (o : Value.okWide Try.prog W .any b0 27 v) (h : DataW.Trod enc Try.prog W 0 (fun _ => true) true 27 v d ps) :
    ∃ l : List Piece, RdV W 2 v l.length (l.flatMap Piece.cells) ∧ (∀ p ∈ l, p.ok) ∧ l.length + 1 ≤ Rows.uptoBulk d ∧ ((v = .slice none 0 0 ∧ d = .nil ∧ l = []) ∨ ∃ els sp, d = .slice els sp ∧ els.length = l.length) := by
  obtain ⟨xs, h1, h2, h3, h4⟩ := open_flat Piece.cells Piece.ok (fun _ => 1) Try.underlying27 (by kernel_rfl : Try.prog.cellsOf 34 = 2) (fun _ => rfl) (fun n cs y hy => by
    obtain ⟨y0, y1, m, rfl, hl, e0, e1⟩ := trod_struct2 Try.underlying34 hy
    obtain ⟨a, ha, rfl, wa⟩ := DataW.trod_int Try.underlying22 e0
    obtain ⟨b, hb, rfl, wb⟩ := DataW.trod_int Try.underlying3 e1
    have hc : Try.prog.cellsOf 34 = 2 := by kernel_rfl
    have h1c : Try.prog.cellsOf 22 = 1 := by kernel_rfl
    have h2c : Try.prog.cellsOf 3 = 1 := by kernel_rfl
    rw [hc] at hl
    simp only [h1c, h2c] at ha hb
    match cs, hl with
    | [c0, c1], _ =>
      simp at ha hb
      subst ha; subst hb
      have ba := wf_u64' wa
      have bb := wf_i64' wb
      refine ⟨⟨a.toNat, b⟩, ?_, ?_, ?_⟩
      · simp [Piece.cells]; omega
      · exact ⟨by simp; omega, bb.1, bb.2⟩
      · simp [Rows.uptoBulk]) o h
  have : ∀ l : List Piece, (l.map fun _ => 1).sum = l.length := fun l => by induction l <;> simp_all <;> omega
  have := this xs
  exact ⟨xs, h1, h2, by omega, h4⟩

/-- A piece's two cells. -/
theorem piece_at {w : World} {v : Value} {l : List Piece} (h : RdV w 2 v l.length (l.flatMap Piece.cells)) (i : Nat) (hi : i < l.length) :
    ∃ b off cap, v = .slice (some ⟨b, off, none⟩) l.length cap ∧ w.cell? ⟨b, off + i * 2, none⟩ = some (.int .u64 (l[i].v : Int)) ∧ w.cell? ⟨b, off + i * 2 + 1, none⟩ = some (.int .i64 l[i].n) := by
  obtain ⟨b, off, cap, rfl, _, _, _, hc⟩ := RdV.some h (by omega) (by omega)
  have e0 := flat_at Piece.cells 2 (fun _ => rfl) l i hi 0 (by omega)
  have e1 := flat_at Piece.cells 2 (fun _ => rfl) l i hi 1 (by omega)
  refine ⟨b, off, cap, rfl, ?_, ?_⟩
  · have := hc (i * 2 + 0) _ e0
    simpa [Piece.cells] using this
  · have := hc (i * 2 + 1) _ e1
    simpa [Piece.cells, Nat.add_assoc] using this
end Go.Proofs.Ytnocfepkjhdliaa
