/- Conditions: a tree that came in; what a list of them reads as. -/
import Derived.Test.YtjifgipkfkhnpaaNest
import Derived.Test.YtjifgipkfkhnpaaMem
namespace Go.Proofs.Ytjifgipkfkhnpaa
open Go.RowKit Go.ChangeShapes Go.WideShapes Go.ChangeAt
set_option linter.unusedVariables false

/-- What stands at a condition, but for its parts. -/
structure Lf where
  op : Int
  nm : ByteArray
  sg : ByteArray
  k : Int
  b : Nat
  t : ByteArray
/-- A list of conditions: the first one's leaf, its parts, the others. -/
inductive Fo where
  | nil
  | cons (c : Lf) (p r : Fo)
def Fo.len : Fo → Nat
  | .nil => 0
  | .cons _ _ r => r.len + 1
/-- All conditions, those of the parts too. -/
def Fo.sz : Fo → Nat
  | .nil => 0
  | .cons _ p r => p.sz + r.sz + 1
def Lf.ok (c : Lf) : Prop := (-9223372036854775808 ≤ c.op ∧ c.op ≤ 9223372036854775807) ∧ (-9223372036854775808 ≤ c.k ∧ c.k ≤ 9223372036854775807) ∧ c.b < 18446744073709551616
def Fo.ok : Fo → Prop
  | .nil => True
  | .cons c p r => c.ok ∧ p.ok ∧ r.ok
def Fo.app : Fo → Fo → Fo
  | .nil, g => g
  | .cons c p r, g => .cons c p (r.app g)
theorem Fo.app_assoc : ∀ (a b c : Fo), (a.app b).app c = a.app (b.app c)
  | .nil, _, _ => rfl
  | .cons x p r, b, c => by simp only [Fo.app]; rw [Fo.app_assoc r b c]
theorem Fo.app_nil : ∀ (a : Fo), a.app .nil = a
  | .nil => rfl
  | .cons x p r => by simp only [Fo.app]; rw [Fo.app_nil r]
theorem Fo.app_len : ∀ (a b : Fo), (a.app b).len = a.len + b.len
  | .nil, b => by simp [Fo.app, Fo.len]
  | .cons x p r, b => by simp only [Fo.app, Fo.len]; rw [Fo.app_len r b]; omega
theorem Fo.len_sz : ∀ F : Fo, F.len ≤ F.sz
  | .nil => Nat.le_refl _
  | .cons _ p r => by have := Fo.len_sz r; simp only [Fo.len, Fo.sz]; omega

def lcells (x : Lf × Value) : List Value := [.int .i64 x.1.op, .string x.1.nm, .string x.1.sg, .int .i64 x.1.k, .int .u64 (x.1.b : Int), .string x.1.t, x.2]
def Mt (w : World) : Fo → List (Lf × Value) → Prop
  | .nil, xs => xs = []
  | .cons c p r, xs => ∃ pv ps xs', xs = (c, pv) :: xs' ∧ RdV w 7 pv ps.length (ps.flatMap lcells) ∧ Mt w p ps ∧ Mt w r xs'
/-- A slice value reads as these conditions. -/
def RdF (w : World) (v : Value) (F : Fo) : Prop := ∃ xs, RdV w 7 v xs.length (xs.flatMap lcells) ∧ Mt w F xs

theorem Mt.len {w : World} : ∀ {F : Fo} {xs : List (Lf × Value)}, Mt w F xs → xs.length = F.len
  | .nil, xs, h => by have h' : xs = [] := h; subst h'; rfl
  | .cons c p r, xs, ⟨pv, ps, xs', h1, _, _, h4⟩ => by subst h1; simp only [List.length_cons, Fo.len]; rw [Mt.len h4]
theorem Mt.below {w w' : World} (hb : Below w.heap.size w w') : ∀ {F : Fo} {xs : List (Lf × Value)}, Mt w F xs → Mt w' F xs
  | .nil, xs, h => h
  | .cons c p r, xs, ⟨pv, ps, xs', h1, h2, h3, h4⟩ => ⟨pv, ps, xs', h1, h2.below hb, Mt.below hb h3, Mt.below hb h4⟩
theorem RdF.below {w w' : World} {v : Value} {F : Fo} (h : RdF w v F) (hb : Below w.heap.size w w') : RdF w' v F := by
  obtain ⟨xs, h1, h2⟩ := h
  exact ⟨xs, h1.below hb, h2.below hb⟩
theorem Mt.app {w : World} : ∀ {F G : Fo} {xs ys : List (Lf × Value)}, Mt w F xs → Mt w G ys → Mt w (F.app G) (xs ++ ys)
  | .nil, G, xs, ys, h, k => by have h' : xs = [] := h; subst h'; exact k
  | .cons c p r, G, xs, ys, ⟨pv, ps, xs', h1, h2, h3, h4⟩, k => ⟨pv, ps, xs' ++ ys, by rw [h1]; rfl, h2, h3, Mt.app h4 k⟩

/-- The cells at a place. -/
theorem cond_at {w : World} {v : Value} {xs : List (Lf × Value)} (h : RdV w 7 v xs.length (xs.flatMap lcells)) (i : Nat) (hi : i < xs.length) :
    ∃ b off cap, v = .slice (some ⟨b, off, none⟩) xs.length cap ∧ w.cell? ⟨b, off + i * 7, none⟩ = some (.int .i64 xs[i].1.op) ∧ w.cell? ⟨b, off + i * 7 + 1, none⟩ = some (.string xs[i].1.nm) ∧
      w.cell? ⟨b, off + i * 7 + 2, none⟩ = some (.string xs[i].1.sg) ∧ w.cell? ⟨b, off + i * 7 + 3, none⟩ = some (.int .i64 xs[i].1.k) ∧ w.cell? ⟨b, off + i * 7 + 4, none⟩ = some (.int .u64 (xs[i].1.b : Int)) ∧
      w.cell? ⟨b, off + i * 7 + 5, none⟩ = some (.string xs[i].1.t) ∧ w.cell? ⟨b, off + i * 7 + 6, none⟩ = some xs[i].2 := by
  obtain ⟨b, off, cap, rfl, _, _, _, hc⟩ := RdV.some h (by omega) (by omega)
  have e0 := flat_at lcells 7 (fun _ => rfl) xs i hi 0 (by omega)
  have e1 := flat_at lcells 7 (fun _ => rfl) xs i hi 1 (by omega)
  have e2 := flat_at lcells 7 (fun _ => rfl) xs i hi 2 (by omega)
  have e3 := flat_at lcells 7 (fun _ => rfl) xs i hi 3 (by omega)
  have e4 := flat_at lcells 7 (fun _ => rfl) xs i hi 4 (by omega)
  have e5 := flat_at lcells 7 (fun _ => rfl) xs i hi 5 (by omega)
  have e6 := flat_at lcells 7 (fun _ => rfl) xs i hi 6 (by omega)
  refine ⟨b, off, cap, rfl, ?_, ?_, ?_, ?_, ?_, ?_, ?_⟩
  · have := hc (i * 7 + 0) _ e0
    simpa [lcells] using this
  · have := hc (i * 7 + 1) _ e1
    simpa [lcells, Nat.add_assoc] using this
  · have := hc (i * 7 + 2) _ e2
    simpa [lcells, Nat.add_assoc] using this
  · have := hc (i * 7 + 3) _ e3
    simpa [lcells, Nat.add_assoc] using this
  · have := hc (i * 7 + 4) _ e4
    simpa [lcells, Nat.add_assoc] using this
  · have := hc (i * 7 + 5) _ e5
    simpa [lcells, Nat.add_assoc] using this
  · have := hc (i * 7 + 6) _ e6
    simpa [lcells, Nat.add_assoc] using this

/-- In the middle of a list: the condition at hand, what its parts read as, the others. -/
theorem Mt.at {w : World} {xs : List (Lf × Value)} {k : Nat} {c : Lf} {p r : Fo} (h : Mt w (.cons c p r) (xs.drop k)) : ∃ (hk : k < xs.length) (pv : Value), xs[k] = (c, pv) ∧ RdF w pv p ∧ Mt w r (xs.drop (k + 1)) := by
  obtain ⟨pv, ps, xs', h1, h2, h3, h4⟩ := h
  have hk : k < xs.length := by
    apply Nat.lt_of_not_le
    intro hc
    rw [List.drop_eq_nil_of_le hc] at h1
    cases h1
  rw [List.drop_eq_getElem_cons hk] at h1
  simp only [List.cons.injEq] at h1
  obtain ⟨h5, h6⟩ := h1
  exact ⟨hk, pv, h5, ⟨ps, h2, h3⟩, by rw [h6]; exact h4⟩
theorem Mt.end {w : World} {xs : List (Lf × Value)} {k : Nat} (h : Mt w .nil (xs.drop k)) (hk : k ≤ xs.length) : k = xs.length := by
  have h' : xs.drop k = [] := h
  have := congrArg List.length h'
  simp at this
  omega

section
variable {H : Type} {enc : TypeId × Value → H} {P : Program} {W : World}
theorem open_nestS {X : Type} (encX : X → List Value) (ok : X → DataW H → Prop) {t e : TypeId} {size : Nat} (ht : P.underlying t = some (.slice e)) (hsz : P.cellsOf e = size) (hX : ∀ x, (encX x).length = size)
    {v : Value} {d : DataW H} {ps : List MemPlace} {fuel : Nat}
    (helem : ∀ n cs (y : DataW H × List MemPlace), SizeOf.sizeOf y.1 < SizeOf.sizeOf d → DataW.trod enc P W 0 (fun _ => true) true n e cs = some y → ∃ x, cs = encX x ∧ ok x y.1)
    (hf : DataW.trod enc P W 0 (fun _ => true) true fuel t [v] = some (d, ps)) :
    ∃ xs : List X, RdV W size v xs.length (xs.flatMap encX) ∧ ((v = .slice none 0 0 ∧ d = .nil ∧ xs = []) ∨ ∃ els sp, d = .slice els sp ∧ els.length = xs.length ∧ ∀ (i : Nat) (x : X), xs[i]? = some x → ∃ y : DataW H, els[i]? = some y ∧ ok x y) := by
  rcases Go.Deep.open_slice ht hf with ⟨hcs, hx⟩ | ⟨a, len', cap', m, n, D, Pl, hcs, _, hl, hm, hmm, hx, hel⟩
  · simp at hcs
    subst hcs
    simp only [Prod.mk.injEq] at hx
    obtain ⟨rfl, rfl⟩ := hx
    exact ⟨[], by simpa using RdV.nil W size, .inl ⟨rfl, rfl, rfl⟩⟩
  · simp at hcs
    subst hcs
    simp only [if_true] at hmm
    simp only [Prod.mk.injEq] at hx
    obtain ⟨rfl, rfl⟩ := hx
    obtain ⟨xs, hxl, hxq⟩ := list_choose (q := fun i x => W.cells? 0 (a.add (i * P.cellsOf e)) (P.cellsOf e) = some (encX x) ∧ ok x (D i)) len' (fun i hi => by
      obtain ⟨cs', h1, h2⟩ := hel i (by omega)
      have hmem : D i ∈ (List.range len').map D := List.mem_map.2 ⟨i, List.mem_range.2 hi, rfl⟩
      have hs1 := List.sizeOf_lt_of_mem hmem
      obtain ⟨x, rfl, h3⟩ := helem _ _ _ (by simp only [DataW.slice.sizeOf_spec]; omega) h2
      exact ⟨x, h1, h3⟩)
    refine ⟨xs, ⟨flat_len encX size hX xs, some a, cap', by rw [hxl], by omega, hm, (fun h => by cases h), fun a' ha j u hu => ?_⟩, .inr ⟨_, _, rfl, by simp [hxl], ?_⟩⟩
    · cases ha
      obtain ⟨x, hxj, hxu⟩ := flat_get encX size hX xs j u hu
      obtain ⟨hc, _⟩ := hxq _ _ hxj
      rw [hsz] at hc
      obtain ⟨_, hlen, hcell⟩ := World.cells?_some hc
      have hlt : j % size < size := by have := (List.getElem?_eq_some_iff.1 hxu).1; rw [hX] at this; exact this
      have hc2 := hcell (j % size) hlt
      rw [hxu, Go.Deep.add_add] at hc2
      have e : j / size * size + j % size = j := by rw [Nat.mul_comm]; exact Nat.div_add_mod j size
      rw [e] at hc2
      have hb := World.block_lt_of_cell? W _ hc2
      obtain ⟨b, off, spot⟩ := a
      have hsp : spot = none := by
        have hx0 : 0 < xs.length := Nat.lt_of_le_of_lt (Nat.zero_le _) (List.getElem?_eq_some_iff.1 hxj).1
        obtain ⟨_, _, hcell0⟩ := World.cells?_some (hxq 0 (xs[0]'hx0) (List.getElem?_eq_getElem hx0)).1
        have h00 := hcell0 0 (by rw [hsz]; omega)
        simp only [Nat.zero_mul, Addr.add, if_true] at h00
        cases spot with
        | none => rfl
        | some sp =>
          exfalso
          have hne : (encX (xs[0]'hx0))[0]? ≠ none := by
            simp [hX]; omega
          rw [← h00] at hne
          apply hne
          simp only [World.cell?]
          split <;> simp
      subst hsp
      refine ⟨rfl, ?_, ?_⟩
      · simp only [Addr.add] at hb; split at hb <;> simpa using hb
      · rw [Addr.add_lit] at hc2; exact hc2
    · intro i x hi
      have hlt := (List.getElem?_eq_some_iff.1 hi).1
      exact ⟨D i, by rw [List.getElem?_map, List.getElem?_range (by omega)]; rfl, (hxq i x hi).2⟩


end
end Go.Proofs.Ytjifgipkfkhnpaa
