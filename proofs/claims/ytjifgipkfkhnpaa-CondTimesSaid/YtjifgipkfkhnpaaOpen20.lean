/- Conditions, rows and names, as arguments. -/
import Derived.Test.YtjifgipkfkhnpaaHold20
namespace Go.Proofs.Ytjifgipkfkhnpaa
open Go.RowKit Go.ChangeShapes Go.WideShapes Go.ChangeAt
set_option linter.unusedVariables false

section
variable {H : Type} {enc : TypeId × Value → H} {P : Program} {W : World}
theorem trod_struct5 {base : Nat} {spare : Nat → Bool} {held : Bool} {t : TypeId} {f0 f1 f2 f3 f4 : Field} {fuel : Nat} {cs : List Value} {x : DataW H × List MemPlace} (ht : P.underlying t = some (.struct #[f0, f1, f2, f3, f4])) (h : DataW.trod enc P W base spare held fuel t cs = some x) :
    ∃ y0 y1 y2 y3 y4 n, x = (.agg [y0.1, y1.1, y2.1, y3.1, y4.1], y0.2 ++ (y1.2 ++ (y2.2 ++ (y3.2 ++ y4.2)))) ∧ cs.length = P.cellsOf t ∧ DataW.trod enc P W base spare held n f0.type ((cs.drop f0.offset).take (P.cellsOf f0.type)) = some y0 ∧
      DataW.trod enc P W base spare held n f1.type ((cs.drop f1.offset).take (P.cellsOf f1.type)) = some y1 ∧ DataW.trod enc P W base spare held n f2.type ((cs.drop f2.offset).take (P.cellsOf f2.type)) = some y2 ∧
      DataW.trod enc P W base spare held n f3.type ((cs.drop f3.offset).take (P.cellsOf f3.type)) = some y3 ∧ DataW.trod enc P W base spare held n f4.type ((cs.drop f4.offset).take (P.cellsOf f4.type)) = some y4 := by
  obtain ⟨xs, n, _, rfl, hl, hlen, hf⟩ := DataW.trod_struct ht h
  match xs, hlen with
  | [y0, y1, y2, y3, y4], _ => exact ⟨y0, y1, y2, y3, y4, n, by simp, hl, by simpa using hf 0 f0 rfl, by simpa using hf 1 f1 rfl, by simpa using hf 2 f2 rfl, by simpa using hf 3 f3 rfl, by simpa using hf 4 f4 rfl⟩
end

theorem h1c : Try.prog.cellsOf 9 = 1 := by kernel_rfl
theorem h2c : Try.prog.cellsOf 3 = 1 := by kernel_rfl
theorem h3c : Try.prog.cellsOf 39 = 1 := by kernel_rfl
theorem h4c : Try.prog.cellsOf 2 = 1 := by kernel_rfl
theorem h5c : Try.prog.cellsOf 41 = 3 := by kernel_rfl
theorem h6c : Try.prog.cellsOf 22 = 1 := by kernel_rfl
theorem h7c : Try.prog.cellsOf 43 = 7 := by kernel_rfl
theorem h8c : Try.prog.cellsOf 25 = 2 := by kernel_rfl
theorem h9c : Try.prog.cellsOf 23 = 1 := by kernel_rfl
theorem h10c : Try.prog.cellsOf 26 = 1 := by kernel_rfl
theorem h11c : Try.prog.cellsOf 28 = 4 := by kernel_rfl
theorem h12c : Try.prog.cellsOf 94 = 2 := by kernel_rfl
theorem h13c : Try.prog.cellsOf 72 = 4 := by kernel_rfl

section
variable {H : Type} {enc : TypeId × Value → H} {W : World}
/-- A condition's seven cells. -/
theorem cond_elem (n : Nat) (cs : List Value) (y : DataW H × List MemPlace) (hy : DataW.trod enc Try.prog W 0 (fun _ => true) true n 43 cs = some y) :
    ∃ (x : Lf × Value) (m : Nat) (z : DataW H × List MemPlace), cs = lcells x ∧ x.1.ok ∧ SizeOf.sizeOf z.1 < SizeOf.sizeOf y.1 ∧ DataW.trod enc Try.prog W 0 (fun _ => true) true m 22 [x.2] = some z := by
  obtain ⟨y0, y1, y2, y3, y4, m, rfl, hl, e0, e1, e2, e3, e4⟩ := trod_struct5 Try.underlying43 hy
  obtain ⟨z0, z1, z2, m1, he, hl1, g0, g1, g2⟩ := trod_struct3 Try.underlying41 e3
  obtain ⟨a, ha, _, hw⟩ := DataW.trod_int Try.underlying3 e0
  obtain ⟨b, hb, _, _⟩ := DataW.trod_string Try.underlying9 e1
  obtain ⟨c, hc, _, _⟩ := DataW.trod_string Try.underlying9 e2
  obtain ⟨k, hk, _, hwk⟩ := DataW.trod_int Try.underlying3 g0
  obtain ⟨u, hu, _, hwu⟩ := DataW.trod_int Try.underlying39 g1
  obtain ⟨x, hx, _, _⟩ := DataW.trod_string Try.underlying9 g2
  rw [h7c] at hl
  simp only [h1c, h2c, h3c, h5c, h6c] at ha hb hc hk hu hx e4
  match cs, hl with
  | [c0, c1, c2, c3, c4, c5, c6], _ =>
    simp at ha hb hc hk hu hx
    subst ha; subst hb; subst hc; subst hk; subst hu; subst hx
    simp only [List.drop_succ_cons, List.drop_zero, List.take_succ_cons, List.take_zero] at e4
    have h1 := wf_i64' hw
    have h2 := wf_i64' hwk
    have h3 := wf_u64' hwu
    obtain ⟨un, rfl⟩ := Int.eq_ofNat_of_zero_le h3.1
    refine ⟨(⟨a, b, c, k, un, x⟩, c6), m, y4, rfl, ⟨h1, h2, by show un < _; omega⟩, ?_, e4⟩
    have := List.sizeOf_lt_of_mem (show y4.1 ∈ [y0.1, y1.1, y2.1, y3.1, y4.1] by simp)
    simp only [DataW.agg.sizeOf_spec]
    omega
theorem build_fo : ∀ (xs : List (Lf × Value)), (∀ x ∈ xs, x.1.ok ∧ ∃ p, RdF W x.2 p ∧ p.ok) → ∃ F, Mt W F xs ∧ F.ok
  | [], _ => ⟨.nil, rfl, trivial⟩
  | (c, pv) :: r, h => by
    obtain ⟨F, h1, h2⟩ := build_fo r (fun x hx => h x (by simp [hx]))
    obtain ⟨h3, p, ⟨ps, h4, h5⟩, h6⟩ := h (c, pv) (by simp)
    exact ⟨.cons c p F, ⟨pv, ps, r, rfl, h4, h5, h1⟩, h3, h6, h2⟩
theorem open_foS : ∀ (k : Nat) (v : Value) (d : DataW H) (ps : List MemPlace) (fuel : Nat), SizeOf.sizeOf d < k → DataW.trod enc Try.prog W 0 (fun _ => true) true fuel 22 [v] = some (d, ps) → ∃ F, RdF W v F ∧ F.ok := by
  intro k
  induction k with
  | zero => intro v d ps fuel h; omega
  | succ k ih =>
    intro v d ps fuel hk hf
    obtain ⟨xs, hr, hd⟩ := open_nestS lcells (fun x _ => x.1.ok ∧ ∃ p, RdF W x.2 p ∧ p.ok) Try.underlying22 h7c (fun _ => rfl) (v := v) (d := d) (ps := ps) (fuel := fuel) (fun n cs y hsz hy => by
      obtain ⟨x, m, z, h1, h2, h3, h4⟩ := cond_elem n cs y hy
      exact ⟨x, h1, h2, ih x.2 z.1 z.2 m (by omega) h4⟩) hf
    have hall : ∀ x ∈ xs, x.1.ok ∧ ∃ p, RdF W x.2 p ∧ p.ok := by
      intro x hx
      obtain ⟨i, hi⟩ := List.getElem?_of_mem hx
      rcases hd with ⟨_, _, rfl⟩ | ⟨els, sp, _, _, hel⟩
      · cases hx
      · obtain ⟨y, _, h⟩ := hel i x hi
        exact h
    obtain ⟨F, h1, h2⟩ := build_fo xs hall
    exact ⟨F, ⟨xs, hr, h1⟩, h2⟩
theorem open_fo {v : Value} {b0 : Nat} {d : DataW H} {ps : List MemPlace} (o : Value.okWide Try.prog W .any b0 22 v) (h : DataW.Trod enc Try.prog W 0 (fun _ => true) true 22 v d ps) : ∃ F, RdF W v F ∧ F.ok := by
  obtain ⟨a0, len, cap, rfl⟩ := okWide_slice Try.underlying22 o
  obtain ⟨fuel, hf⟩ := h
  exact open_foS _ _ d ps fuel (Nat.lt_succ_self _) hf
/-- One condition. -/
theorem open_cond {v : Value} {b0 : Nat} {d : DataW H} {ps : List MemPlace} (o : Value.okWide Try.prog W .any b0 43 v) (h : DataW.Trod enc Try.prog W 0 (fun _ => true) true 43 v d ps) :
    ∃ (c : Lf) (p : Fo) (pv : Value), v = cV c pv ∧ RdF W pv p := by
  obtain ⟨cs, rfl, hsz⟩ := okWide_struct Try.underlying43 o
  obtain ⟨fuel, hf⟩ := h
  obtain ⟨x, m, z, h1, h2, h3, h4⟩ := cond_elem fuel _ _ hf
  obtain ⟨p, h5, _⟩ := open_foS _ _ z.1 z.2 m (Nat.lt_succ_self _) h4
  refine ⟨x.1, p, x.2, ?_, h5⟩
  unfold cV
  congr 1
  have h1' : cs.toList = lcells x := h1
  rw [← Array.toArray_toList (xs := cs), h1']
  rfl
theorem open_strs {v : Value} {d : DataW H} {ps : List MemPlace} {fuel : Nat} (h : DataW.trod enc Try.prog W 0 (fun _ => true) true fuel 29 [v] = some (d, ps)) : ∃ l : List ByteArray, RdV W 1 v l.length (l.map Value.string) := by
  obtain ⟨xs, hr, _⟩ := open_nest (fun s : ByteArray => [Value.string s]) (fun _ _ => True) Try.underlying29 h1c (fun _ => rfl) (fun n cs y hy => by
    obtain ⟨a, ha, _, _⟩ := DataW.trod_string Try.underlying9 hy
    exact ⟨a, ha, trivial⟩) h
  refine ⟨xs, ?_⟩
  have : ∀ l : List ByteArray, l.flatMap (fun s => [Value.string s]) = l.map Value.string := fun l => by induction l <;> simp_all
  rw [← this]
  exact hr
theorem open_tags {v : Value} {d : DataW H} {ps : List MemPlace} {fuel : Nat} (h : DataW.trod enc Try.prog W 0 (fun _ => true) true fuel 23 [v] = some (d, ps)) : ∃ l : List Tg, RdV W 2 v l.length (l.flatMap Tg.cells) := by
  obtain ⟨xs, hr, _⟩ := open_nest Tg.cells (fun _ _ => True) Try.underlying23 h12c (fun _ => rfl) (fun n cs y hy => by
    obtain ⟨y0, y1, m, rfl, hl, e0, e1⟩ := trod_struct2 Try.underlying94 hy
    obtain ⟨a, ha, _, _⟩ := DataW.trod_string Try.underlying9 e0
    obtain ⟨b, hb, _, _⟩ := DataW.trod_string Try.underlying9 e1
    rw [h12c] at hl
    simp only [h1c] at ha hb
    match cs, hl with
    | [c0, c1], _ =>
      simp at ha hb
      subst ha; subst hb
      exact ⟨⟨a, b⟩, rfl, trivial⟩) h
  exact ⟨xs, hr⟩
theorem open_fds {v : Value} {d : DataW H} {ps : List MemPlace} {fuel : Nat} (h : DataW.trod enc Try.prog W 0 (fun _ => true) true fuel 26 [v] = some (d, ps)) : ∃ l : List Fd, RdV W 4 v l.length (l.flatMap Fd.cells) := by
  obtain ⟨xs, hr, _⟩ := open_nest Fd.cells (fun _ _ => True) Try.underlying26 h13c (fun _ => rfl) (fun n cs y hy => by
    obtain ⟨y0, y1, m, rfl, hl, e0, e1⟩ := trod_struct2 Try.underlying72 hy
    obtain ⟨z0, z1, z2, m1, he, hl1, g0, g1, g2⟩ := trod_struct3 Try.underlying41 e1
    obtain ⟨a, ha, _, _⟩ := DataW.trod_string Try.underlying9 e0
    obtain ⟨k, hk, _, hwk⟩ := DataW.trod_int Try.underlying3 g0
    obtain ⟨u, hu, _, hwu⟩ := DataW.trod_int Try.underlying39 g1
    obtain ⟨x, hx, _, _⟩ := DataW.trod_string Try.underlying9 g2
    rw [h13c] at hl
    simp only [h1c, h2c, h3c, h5c] at ha hk hu hx
    match cs, hl with
    | [c0, c1, c2, c3], _ =>
      simp at ha hk hu hx
      subst ha; subst hk; subst hu; subst hx
      obtain ⟨un, rfl⟩ := Int.eq_ofNat_of_zero_le (wf_u64' hwu).1
      exact ⟨⟨a, k, un, x⟩, rfl, trivial⟩) h
  exact ⟨xs, hr⟩
/-- A series. -/
theorem series_elem {n : Nat} {cs : List Value} {y : DataW H × List MemPlace} (hy : DataW.trod enc Try.prog W 0 (fun _ => true) true n 25 cs = some y) : ∃ (nm : ByteArray) (tv : Value) (l : List Tg), cs = [.string nm, tv] ∧ RdV W 2 tv l.length (l.flatMap Tg.cells) := by
  obtain ⟨y0, y1, m, rfl, hl, e0, e1⟩ := trod_struct2 Try.underlying25 hy
  obtain ⟨a, ha, _, _⟩ := DataW.trod_string Try.underlying9 e0
  rw [h8c] at hl
  simp only [h1c, h9c] at ha e1
  match cs, hl with
  | [c0, c1], _ =>
    simp at ha
    subst ha
    simp only [List.drop_succ_cons, List.drop_zero, List.take_succ_cons, List.take_zero] at e1
    obtain ⟨l, hr⟩ := open_tags (d := y1.1) (ps := y1.2) e1
    exact ⟨a, c1, l, rfl, hr⟩
theorem open_series {v : Value} {b0 : Nat} {d : DataW H} {ps : List MemPlace} (o : Value.okWide Try.prog W .any b0 25 v) (h : DataW.Trod enc Try.prog W 0 (fun _ => true) true 25 v d ps) :
    ∃ (nm : ByteArray) (tv : Value) (l : List Tg), v = .agg #[.string nm, tv] ∧ RdV W 2 tv l.length (l.flatMap Tg.cells) := by
  obtain ⟨cs, rfl, hsz⟩ := okWide_struct Try.underlying25 o
  obtain ⟨fuel, hf⟩ := h
  obtain ⟨nm, tv, l, h1, h2⟩ := series_elem hf
  refine ⟨nm, tv, l, ?_, h2⟩
  congr 1
  have h1' : cs.toList = [.string nm, tv] := h1
  rw [← Array.toArray_toList (xs := cs), h1']
theorem open_row {v : Value} {b0 : Nat} {d : DataW H} {ps : List MemPlace} (o : Value.okWide Try.prog W .any b0 28 v) (h : DataW.Trod enc Try.prog W 0 (fun _ => true) true 28 v d ps) :
    ∃ (nm : ByteArray) (tv fv : Value) (l : List Tg) (f : List Fd) (t : Int), v = .agg #[.string nm, tv, fv, .int .i64 t] ∧ RdV W 2 tv l.length (l.flatMap Tg.cells) ∧ RdV W 4 fv f.length (f.flatMap Fd.cells) ∧ -9223372036854775808 ≤ t ∧ t ≤ 9223372036854775807 := by
  obtain ⟨cs, rfl, hsz⟩ := okWide_struct Try.underlying28 o
  obtain ⟨fuel, hf⟩ := h
  obtain ⟨y0, y1, y2, m, _, hl, e0, e1, e2⟩ := trod_struct3 Try.underlying28 hf
  obtain ⟨nm, tv, l, g1, g2⟩ := series_elem e0
  obtain ⟨t, ht, _, hw⟩ := DataW.trod_int Try.underlying2 e2
  have hl' : cs.toList.length = 4 := by rw [← h11c]; exact hl
  simp only [h4c, h8c, h10c] at g1 e1 ht
  have hcs : (Value.agg cs).cells = cs := rfl
  rw [hcs] at g1 e1 ht
  obtain ⟨cl⟩ := cs
  match cl, hl' with
  | [c0, c1, c2, c3], _ =>
    simp at g1 ht
    obtain ⟨rfl, rfl⟩ := g1
    subst ht
    simp only [List.drop_succ_cons, List.drop_zero, List.take_succ_cons, List.take_zero] at e1
    obtain ⟨f, hr⟩ := open_fds (d := y1.1) (ps := y1.2) e1
    have hw' := wf_i64' hw
    exact ⟨nm, c1, c2, l, f, t, rfl, g2, hr, hw'.1, hw'.2⟩
end
end Go.Proofs.Ytjifgipkfkhnpaa
