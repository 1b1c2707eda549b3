/- Columns, as an argument: what they read as, and how many they may be. -/
import Derived.Test.YtmhmmnleijadnaaNest
import Derived.Test.YtmhmmnleijadnaaApply13
namespace Go.Proofs.Ytmhmmnleijadnaa
open Go.RowKit Go.ChangeShapes Go.WideShapes Go.ChangeAt
set_option linter.unusedVariables false

section
variable {H : Type} {enc : TypeId × Value → H} {W : World}

theorem pt_elem (n : Nat) (cs : List Value) (y : DataW H × List MemPlace) (hy : DataW.trod enc Try.prog W 0 (fun _ => true) true n 38 cs = some y) : ∃ p : Pt, cs = p.cells ∧ (-9223372036854775808 ≤ p.t ∧ p.t ≤ 9223372036854775807) := by
  obtain ⟨y0, y1, m, rfl, hl, e0, e1⟩ := trod_struct2 Try.underlying38 hy
  obtain ⟨z0, z1, z2, m1, he, hl1, g0, g1, g2⟩ := trod_struct3 Try.underlying36 e1
  obtain ⟨a, ha, h0, hw⟩ := DataW.trod_int Try.underlying2 e0
  obtain ⟨b, hb, h1, _⟩ := DataW.trod_int Try.underlying3 g0
  obtain ⟨c, hc, h2, _⟩ := DataW.trod_int Try.underlying34 g1
  obtain ⟨x, hx, h3, _⟩ := DataW.trod_string Try.underlying9 g2
  have hcl : Try.prog.cellsOf 38 = 4 := by kernel_rfl
  have hcv : Try.prog.cellsOf 36 = 3 := by kernel_rfl
  have h1c : Try.prog.cellsOf 9 = 1 := by kernel_rfl
  have h2c : Try.prog.cellsOf 2 = 1 := by kernel_rfl
  have h3c : Try.prog.cellsOf 3 = 1 := by kernel_rfl
  have h4c : Try.prog.cellsOf 34 = 1 := by kernel_rfl
  rw [hcl] at hl
  simp only [h1c, h2c, h3c, h4c, hcv] at ha hb hc hx
  match cs, hl with
  | [c0, c1, c2, c3], _ =>
    simp at ha hb hc hx
    subst ha; subst hb; subst hc; subst hx
    exact ⟨⟨a, b, c, x⟩, rfl, wf_i64' hw⟩

theorem cl_elem (n : Nat) (cs : List Value) (y : DataW H × List MemPlace) (hy : DataW.trod enc Try.prog W 0 (fun _ => true) true n 41 cs = some y) :
    ∃ c : Cl, cs = c.cells ∧ ((RdV W 4 c.pv c.ps.length (c.ps.flatMap Pt.cells) ∧ ∀ p ∈ c.ps, -9223372036854775808 ≤ p.t ∧ p.t ≤ 9223372036854775807) ∧ ((∀ n ∈ DataW.weights Try.prog 41 y.1, n ≤ reachBytes) → c.ps.length * 40 ≤ 140737488351232)) := by
  obtain ⟨y0, y1, y2, m, rfl, hl, e0, e1, e2⟩ := trod_struct3 Try.underlying41 hy
  obtain ⟨a, ha, _, _⟩ := DataW.trod_string Try.underlying9 e0
  obtain ⟨b, hb, _, _⟩ := DataW.trod_string Try.underlying9 e1
  have hcl : Try.prog.cellsOf 41 = 3 := by kernel_rfl
  have h1c : Try.prog.cellsOf 9 = 1 := by kernel_rfl
  have h2c : Try.prog.cellsOf 39 = 1 := by kernel_rfl
  rw [hcl] at hl
  simp only [h1c, h2c] at ha hb e2
  match cs, hl with
  | [c0, c1, c2], _ =>
    simp at ha hb
    subst ha; subst hb
    simp only [List.drop_succ_cons, List.drop_zero, List.take_succ_cons, List.take_zero] at e2
    obtain ⟨xs, hr, hd⟩ := open_nest Pt.cells (fun p _ => -9223372036854775808 ≤ p.t ∧ p.t ≤ 9223372036854775807) Try.underlying39 (by kernel_rfl : Try.prog.cellsOf 38 = 4) (fun _ => rfl) pt_elem (v := c2) (d := y2.1) (ps := y2.2) e2
    refine ⟨⟨a, b, c2, xs⟩, rfl, ⟨hr, fun p hp => ?_⟩, fun hw => ?_⟩
    · rcases hd with ⟨_, _, rfl⟩ | ⟨els, sp, hd, hlen, hel⟩
      · cases hp
      · obtain ⟨i, hi⟩ := List.getElem?_of_mem hp
        obtain ⟨_, _, h⟩ := hel i p hi
        exact h
    rcases hd with ⟨_, _, rfl⟩ | ⟨els, sp, hd, hlen, _⟩
    · simp
    · have hb : Try.prog.bytesOf 38 = 40 := by kernel_rfl
      have := hw ((els.length + sp.length) * Try.prog.bytesOf 38) (by
        simp [DataW.weights, Try.underlying41, DataW.weightsEach, hd, Try.underlying39])
      rw [hb] at this
      unfold reachBytes at this
      dsimp only
      omega

theorem open_colsR {v : Value} {b0 : Nat} {d : DataW H} {ps : List MemPlace} (o : Value.okWide Try.prog W .any b0 23 v) (h : DataW.Trod enc Try.prog W 0 (fun _ => true) true 23 v d ps)
    (hsz : (DataW.weights Try.prog 23 d).all (· ≤ reachBytes) = true) :
    ∃ cs : List Cl, Cols W v cs ∧ cs.length * 56 ≤ 140737488351232 ∧ (∀ c ∈ cs, c.ps.length * 40 ≤ 140737488351232) ∧ ∀ c ∈ cs, ∀ p ∈ c.ps, -9223372036854775808 ≤ p.t ∧ p.t ≤ 9223372036854775807 := by
  obtain ⟨a0, len, cap, rfl⟩ := okWide_slice Try.underlying23 o
  obtain ⟨fuel, hf⟩ := h
  obtain ⟨cs, hr, hd⟩ := open_nest Cl.cells (fun c y => (RdV W 4 c.pv c.ps.length (c.ps.flatMap Pt.cells) ∧ ∀ p ∈ c.ps, -9223372036854775808 ≤ p.t ∧ p.t ≤ 9223372036854775807) ∧ ((∀ n ∈ DataW.weights Try.prog 41 y, n ≤ reachBytes) → c.ps.length * 40 ≤ 140737488351232)) Try.underlying23 (by kernel_rfl : Try.prog.cellsOf 41 = 3) (fun _ => rfl) cl_elem (v := .slice a0 len cap) (d := d) (ps := ps) hf
  refine ⟨cs, ⟨hr, fun c hc => ?_⟩, ?_, fun c hc => ?_, fun c hc => ?_⟩
  · obtain ⟨i, hi⟩ := List.getElem?_of_mem hc
    rcases hd with ⟨_, _, rfl⟩ | ⟨els, sp, rfl, hlen, hel⟩
    · cases hc
    · obtain ⟨y, _, h1, _⟩ := hel i c hi
      exact h1.1
  · rcases hd with ⟨_, _, rfl⟩ | ⟨els, sp, rfl, hlen, hel⟩
    · simp
    · have hb : Try.prog.bytesOf 41 = 56 := by kernel_rfl
      have := weights_all hsz (n := (els.length + sp.length) * Try.prog.bytesOf 41) (by simp [DataW.weights, Try.underlying23])
      rw [hb] at this
      unfold reachBytes at this
      omega
  · obtain ⟨i, hi⟩ := List.getElem?_of_mem hc
    rcases hd with ⟨_, _, rfl⟩ | ⟨els, sp, rfl, hlen, hel⟩
    · cases hc
    · obtain ⟨y, hy, _, h2⟩ := hel i c hi
      exact h2 fun n hn => weights_all hsz (weights_el Try.underlying23 hy hn)
  · obtain ⟨i, hi⟩ := List.getElem?_of_mem hc
    rcases hd with ⟨_, _, rfl⟩ | ⟨els, sp, rfl, hlen, hel⟩
    · cases hc
    · obtain ⟨y, _, h1, _⟩ := hel i c hi
      exact h1.2

theorem open_cols {v : Value} {b0 : Nat} {d : DataW H} {ps : List MemPlace} (o : Value.okWide Try.prog W .any b0 23 v) (h : DataW.Trod enc Try.prog W 0 (fun _ => true) true 23 v d ps)
    (hsz : (DataW.weights Try.prog 23 d).all (· ≤ reachBytes) = true) :
    ∃ cs : List Cl, Cols W v cs ∧ cs.length * 56 ≤ 140737488351232 ∧ ∀ c ∈ cs, c.ps.length * 40 ≤ 140737488351232 :=
  let ⟨cs, h1, h2, h3, _⟩ := open_colsR o h hsz
  ⟨cs, h1, h2, h3⟩
end
end Go.Proofs.Ytmhmmnleijadnaa
