/- cond: which conditions hold for a row. -/
import Derived.Test.YtjifgipkfkhnpaaComp20
namespace Go.Proofs.Ytjifgipkfkhnpaa
open Go.RowKit
set_option linter.unusedVariables false

/-- A row, and the fields' names. -/
structure Env where
  nm : ByteArray
  tags : List Tg
  fds : List Fd
  time : Int
  names : List ByteArray
/-- They are read so. -/
structure EnvAt (w : World) (E : Env) (tv fv nv : Value) : Prop where
  t : RdV w 2 tv E.tags.length (E.tags.flatMap Tg.cells)
  f : RdV w 4 fv E.fds.length (E.fds.flatMap Fd.cells)
  n : RdV w 1 nv E.names.length (E.names.map Value.string)
theorem EnvAt.below {w w' : World} {E : Env} {tv fv nv : Value} (h : EnvAt w E tv fv nv) (hb : Below w.heap.size w w') : EnvAt w' E tv fv nv := ⟨h.t.below hb, h.f.below hb, h.n.below hb⟩

/-- Does a test of a field's value hold? -/
def fdHold (c : Lf) (f : Fd) : Bool := (cmpD f.k f.b f.t c.k c.b c.t c.sg).2 && sgn c.sg (cmpD f.k f.b f.t c.k c.b c.t c.sg).1
/-- Does a test hold? -/
def leafH (E : Env) (c : Lf) : Bool :=
  if c.op == 4 then sgn c.sg (cmpI E.time (wrap64 (c.b : Int)))
  else if c.op == 3 then (if inS E.names c.nm then (match E.fds.find? (nameP c.nm) with
    | some f => fdHold c f
    | none => false) else tgd c E.tags)
  else false
/-- Do all hold (m), or one? -/
def hl (E : Env) : Bool → Fo → Bool
  | m, .nil => m
  | m, .cons c p r => bif m then (bif c.op == 1 then hl E true p else bif c.op == 2 then hl E false p else leafH E c) && hl E true r else (bif c.op == 1 then hl E true p else bif c.op == 2 then hl E false p else leafH E c) || hl E false r
/-- Does a condition hold? -/
def oneH (E : Env) (c : Lf) (p : Fo) : Bool := bif c.op == 1 then hl E true p else bif c.op == 2 then hl E false p else leafH E c
theorem hl_all (E : Env) (c : Lf) (p r : Fo) : hl E true (.cons c p r) = (oneH E c p && hl E true r) := rfl
theorem hl_any (E : Env) (c : Lf) (p r : Fo) : hl E false (.cons c p r) = (oneH E c p || hl E false r) := rfl

/-- The condition at a place of a list. -/
def Fo.at (F : Fo) (k : Nat) : Option (Lf × Fo) := match F, k with
  | .nil, _ => none
  | .cons c p _, 0 => some (c, p)
  | .cons _ _ r, k + 1 => r.at k
def holdAt (E : Env) (F : Fo) (k : Nat) : Bool := match F.at k with
  | some x => oneH E x.1 x.2
  | none => false
theorem holdAt_zero (E : Env) (c : Lf) (p r : Fo) : holdAt E (.cons c p r) 0 = oneH E c p := rfl
theorem holdAt_succ (E : Env) (c : Lf) (p r : Fo) (k : Nat) : holdAt E (.cons c p r) (k + 1) = holdAt E r k := rfl
theorem hl_anyAt (E : Env) : ∀ F : Fo, (List.range F.len).any (holdAt E F) = hl E false F
  | .nil => rfl
  | .cons c p r => by
    rw [hl_any, ← hl_anyAt E r]
    simp only [Fo.len]
    rw [List.range_succ_eq_map, List.any_cons, List.any_map]
    rfl
theorem hl_allAt (E : Env) : ∀ F : Fo, (List.range F.len).any (fun k => !holdAt E F k) = !hl E true F
  | .nil => rfl
  | .cons c p r => by
    rw [hl_all, Bool.not_and, ← hl_allAt E r]
    simp only [Fo.len]
    rw [List.range_succ_eq_map, List.any_cons, List.any_map]
    rfl
theorem Mt.get {w : World} : ∀ {F : Fo} {xs : List (Lf × Value)} {k : Nat} (h : Mt w F xs) (hk : k < xs.length), ∃ p, F.at k = some (xs[k].1, p) ∧ RdF w xs[k].2 p ∧ p.sz < F.sz
  | .nil, xs, k, h, hk => by have h' : xs = [] := h; subst h'; simp at hk
  | .cons c p r, xs, 0, ⟨pv, ps, xs', h1, h2, h3, h4⟩, hk => by
    subst h1
    exact ⟨p, rfl, ⟨ps, h2, h3⟩, by simp only [Fo.sz]; omega⟩
  | .cons c p r, xs, k + 1, ⟨pv, ps, xs', h1, h2, h3, h4⟩, hk => by
    subst h1
    obtain ⟨q, e1, e2, e3⟩ := Mt.get (k := k) h4 (by simpa using hk)
    exact ⟨q, by simpa [Fo.at] using e1, by simpa using e2, by simp only [Fo.sz]; omega⟩

/-- A condition, as it is handed on. -/
def cV (c : Lf) (pv : Value) : Value := .agg #[.int .i64 c.op, .string c.nm, .string c.sg, .int .i64 c.k, .int .u64 (c.b : Int), .string c.t, pv]

/-- 'part': the closure that asks for one condition. -/
theorem part_any (c : Lf) (pn : Nat) (pa : Option Addr) (pc : Nat) (nm : ByteArray) (ta fa na : Option Addr) (tn tc fn fc nn nc : Nat) (t : Int) (b : Bool) (r f : Nat) (w : World)
    (c0 : w.cell? ⟨r, 0, none⟩ = some (.string nm)) (c1 : w.cell? ⟨r, 1, none⟩ = some (.slice ta tn tc)) (c2 : w.cell? ⟨r, 2, none⟩ = some (.slice fa fn fc)) (c3 : w.cell? ⟨r, 3, none⟩ = some (.int .i64 t)) (c4 : w.cell? ⟨f, 0, none⟩ = some (.slice na nn nc))
    (hH : ∀ w1, Below w.heap.size w w1 → Calls Try.prog 21 #[cV c (.slice pa pn pc), .agg #[.string nm, .slice ta tn tc, .slice fa fn fc, .int .i64 t], .slice na nn nc] w1 fun e w2 => e = .returned (.bool b) ∧ Below w1.heap.size w1 w2) :
    Calls Try.prog 26 #[cV c (.slice pa pn pc), .pointer (some ⟨r, 0, none⟩), .pointer (some ⟨f, 0, none⟩)] w fun e w' => e = .returned (.bool b) ∧ Below w.heap.size w w' := by
  unfold cV at *
  have hl0 := World.block_lt_of_cell? w _ c0
  have hl4 := World.block_lt_of_cell? w _ c4
  obtain ⟨wA, hwA⟩ : ∃ wA, wA = w.alloc (.cells #[.int .i64 c.op, .string c.nm, .string c.sg, .int .i64 c.k, .int .u64 (c.b : Int), .string c.t, .slice pa pn pc] 45) := ⟨_, rfl⟩
  have hb2 : Below w.heap.size w wA := by rw [hwA]; exact (Below.refl _ _).alloc (Nat.le_refl _) _
  have d0 := (hb2.cell hl0).trans c0
  have d1 := (hb2.cell (p := ⟨r, 1, none⟩) hl0).trans c1
  have d2 := (hb2.cell (p := ⟨r, 2, none⟩) hl0).trans c2
  have d3 := (hb2.cell (p := ⟨r, 3, none⟩) hl0).trans c3
  have d4 := (hb2.cell hl4).trans c4
  have hI := (hH wA hb2).mono (R' := fun e w' => e = .returned (.bool b) ∧ Hid (Below w.heap.size w w')) (by rintro _ w2 ⟨rfl, hb⟩; exact ⟨rfl, Lib.hid (hb2.trans (hb.mono hb2.size))⟩)
  rw [hwA] at hI d0 d1 d2 d3 d4
  clear hH c0 c1 c2 c3 c4 hb2 hwA hl0 hl4
  go_enter Try.func26, Try.ntmps26
  go_wp2_with (go_at_call 21; refine hI.mono ?_; rintro _ w2 ⟨rfl, HB⟩)
  go_ret
  exact ⟨rfl, HB.out⟩
/-- .. and that asks whether it doesn't hold. -/
theorem npart_any (c : Lf) (pn : Nat) (pa : Option Addr) (pc : Nat) (b : Bool) (r f q : Nat) (w : World)
    (c0 : w.cell? ⟨q, 0, none⟩ = some (.func (.func 26) #[] #[.pointer (some ⟨r, 0, none⟩), .pointer (some ⟨f, 0, none⟩)]))
    (hH : ∀ w1, Below w.heap.size w w1 → Calls Try.prog 26 #[cV c (.slice pa pn pc), .pointer (some ⟨r, 0, none⟩), .pointer (some ⟨f, 0, none⟩)] w1 fun e w2 => e = .returned (.bool b) ∧ Below w1.heap.size w1 w2) :
    Calls Try.prog 28 #[cV c (.slice pa pn pc), .pointer (some ⟨q, 0, none⟩)] w fun e w' => e = .returned (.bool (!b)) ∧ Below w.heap.size w w' := by
  unfold cV at *
  have hl0 := World.block_lt_of_cell? w _ c0
  obtain ⟨wA, hwA⟩ : ∃ wA, wA = w.alloc (.cells #[.int .i64 c.op, .string c.nm, .string c.sg, .int .i64 c.k, .int .u64 (c.b : Int), .string c.t, .slice pa pn pc] 45) := ⟨_, rfl⟩
  have hb2 : Below w.heap.size w wA := by rw [hwA]; exact (Below.refl _ _).alloc (Nat.le_refl _) _
  have d0 := (hb2.cell hl0).trans c0
  have hI := (hH wA hb2).mono (R' := fun e w' => e = .returned (.bool b) ∧ Hid (Below w.heap.size w w')) (by rintro _ w2 ⟨rfl, hb⟩; exact ⟨rfl, Lib.hid (hb2.trans (hb.mono hb2.size))⟩)
  rw [hwA] at hI d0
  clear hH c0 hb2 hwA hl0
  go_enter Try.func28, Try.ntmps28
  go_wp2_with (go_at_call 26; refine hI.mono ?_; rintro _ w2 ⟨rfl, HB⟩)
  go_ret
  exact ⟨rfl, HB.out⟩
end Go.Proofs.Ytjifgipkfkhnpaa
