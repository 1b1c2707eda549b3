/- Words on memory: what a slice reads as, which blocks a call may have changed; nothing of the program's functions is in sight here. -/
import Derived.WalkKit
import Derived.WalkSpells
import Derived.WalkLawsBesides
import Derived.Laws.AppendOwnNone
namespace Go.Proofs.Ytjifgipkfkhnpaa
open Go.RowKit

/-- A byte's cell. -/
def bV (x : UInt8) : Value := .int .u8 (x.toNat : Int)

/-- Only blocks of S, of those that were there, may have changed. -/
structure Chg (S : Nat → Prop) (w w' : World) : Prop where
  os : w'.os = w.os
  tape : w'.tape = w.tape
  output : w'.output = w.output
  size : w.heap.size ≤ w'.heap.size
  block : ∀ k, k < w.heap.size → ¬ S k → w'.heap[k]? = w.heap[k]?

theorem Chg.refl (S : Nat → Prop) (w : World) : Chg S w w := ⟨rfl, rfl, rfl, Nat.le_refl _, fun _ _ _ => rfl⟩
theorem Chg.trans {S : Nat → Prop} {a b c : World} (h : Chg S a b) (k : Chg S b c) : Chg S a c :=
  ⟨k.os.trans h.os, k.tape.trans h.tape, k.output.trans h.output, Nat.le_trans h.size k.size, fun i hi hs => (k.block i (Nat.lt_of_lt_of_le hi h.size) hs).trans (h.block i hi hs)⟩
/-- The second step may change new blocks, too. -/
theorem Chg.trans' {S T : Nat → Prop} {a b c : World} (h : Chg S a b) (k : Chg T b c) (hT : ∀ i, i < a.heap.size → T i → S i) : Chg S a c :=
  ⟨k.os.trans h.os, k.tape.trans h.tape, k.output.trans h.output, Nat.le_trans h.size k.size, fun i hi hs => (k.block i (Nat.lt_of_lt_of_le hi h.size) (fun ht => hs (hT i hi ht))).trans (h.block i hi hs)⟩
theorem Chg.mono {S T : Nat → Prop} {w w' : World} (h : Chg S w w') (hT : ∀ i, i < w.heap.size → S i → T i) : Chg T w w' :=
  ⟨h.os, h.tape, h.output, h.size, fun i hi hs => h.block i hi (fun k => hs (hT i hi k))⟩
theorem Chg.alloc {S : Nat → Prop} {a w : World} (h : Chg S a w) (o : Obj) : Chg S a (w.alloc o) :=
  h.trans ⟨rfl, rfl, rfl, by simp, fun k hk _ => Below.heap_alloc _ _ _ (by omega)⟩
theorem Chg.setCell {S : Nat → Prop} {a w : World} (h : Chg S a w) {p : Addr} (hp : p.block < a.heap.size → S p.block) (u : Value) : Chg S a (w.setCell p u) :=
  ⟨h.os, h.tape, h.output, by simpa [World.setCell] using h.size, fun k hk hs => by
    rw [Below.heap_setCell _ _ _ _ (fun e => by subst e; exact hs (hp hk))]; exact h.block k hk hs⟩
theorem Chg.drew {S : Nat → Prop} {a w : World} (h : Chg S a w) : Chg S a w.drew := ⟨h.os, h.tape, h.output, h.size, h.block⟩
theorem Chg.grown {S : Nat → Prop} {a w w' : World} {row : Option Nat} (h : Chg S a w) (hg : w.grownBy w' row) (hr : ∀ k, k < a.heap.size → row = some k → S k) : Chg S a w' :=
  ⟨hg.os.trans h.os, hg.tape.trans h.tape, hg.output.trans h.output, Nat.le_trans h.size hg.size,
    fun k hk hs => (hg.block k (Nat.lt_of_lt_of_le hk h.size) (fun e => hs (hr k hk e.symm))).trans (h.block k hk hs)⟩
theorem Chg.ofBelow {w w' : World} {B : Nat} (h : Below B w w') : Chg (fun k => B ≤ k) w w' :=
  ⟨h.os, h.tape, h.output, h.size, fun k _ hs => h.block k (by omega)⟩
theorem Chg.below {S : Nat → Prop} {w w' : World} (h : Chg S w w') {B : Nat} (hB : B ≤ w.heap.size) (hS : ∀ k, S k → B ≤ k) : Below B w w' :=
  ⟨h.os, h.tape, h.output, h.size, fun k hk => h.block k (by omega) (fun hs => by have := hS k hs; omega)⟩
theorem Chg.ofBelowAny {S : Nat → Prop} {w w' : World} (h : Below w.heap.size w w') : Chg S w w' :=
  ⟨h.os, h.tape, h.output, h.size, fun k hk _ => h.block k hk⟩
theorem Chg.cell {S : Nat → Prop} {w w' : World} (h : Chg S w w') {p : Addr} (hl : p.block < w.heap.size) (hs : ¬ S p.block) : w'.cell? p = w.cell? p :=
  World.cell?_of_block (w := w) (h.block p.block hl hs)
theorem Chg.frozen {S : Nat → Prop} {w w' : World} (h : Chg S w w') {p : Addr} (hl : p.block < w.heap.size) (hs : ¬ S p.block) : w'.frozen? p = w.frozen? p :=
  World.frozen?_of_block (w := w) (h.block p.block hl hs)
theorem Chg.owns {S : Nat → Prop} {w w' : World} (h : Chg S w w') {base e size n : Nat} {v : Value} {xs : List Value} (ho : w.ownsRow base e size v n xs) (hs : ∀ k, v.ownBlock = some k → ¬ S k) : w'.ownsRow base e size v n xs := by
  refine ⟨ho.1, ?_⟩
  rcases ho.2 with hn | ⟨g, cap, cur, rfl, hb, hgg, rest⟩
  · exact .inl hn
  · refine .inr ⟨g, cap, cur, rfl, hb, ?_, rest⟩
    rw [h.block g (Array.getElem?_eq_some_iff.1 hgg).1 (hs g rfl)]
    exact hgg

/-- A slice value of n elements reads as these cells (size cells an element). -/
def RdV (w : World) (size : Nat) (v : Value) (n : Nat) (xs : List Value) : Prop :=
  xs.length = n * size ∧ ∃ ao cap, v = .slice ao n cap ∧ n ≤ cap ∧ cap ≤ maxLen ∧ (ao = none → cap = 0) ∧
    ∀ a, ao = some a → ∀ j u, xs[j]? = some u → a.spot = none ∧ a.block < w.heap.size ∧ w.cell? ⟨a.block, a.off + j, none⟩ = some u

/-- A byte slice reads as these bytes. -/
def Rd (w : World) (v : Value) (bs : List UInt8) : Prop := RdV w 1 v bs.length (bs.map bV)

theorem Rd.v {w : World} {v : Value} {bs : List UInt8} (h : Rd w v bs) : RdV w 1 v bs.length (bs.map bV) := h

theorem RdV.nil (w : World) (size : Nat) : RdV w size (.slice none 0 0) 0 [] :=
  ⟨by simp, none, 0, rfl, Nat.le_refl _, by simp [maxLen], fun _ => rfl, fun a h => by cases h⟩

theorem RdV.keep {w w' : World} {size n : Nat} {v : Value} {xs : List Value} (h : RdV w size v n xs) (hsz : w.heap.size ≤ w'.heap.size) (hk : ∀ b, v.ownBlock = some b → b < w.heap.size → w'.heap[b]? = w.heap[b]?) : RdV w' size v n xs := by
  obtain ⟨hl, ao, cap, rfl, hn, hc, h0, hcell⟩ := h
  refine ⟨hl, ao, cap, rfl, hn, hc, h0, fun a ha j u hu => ?_⟩
  obtain ⟨h1, h2, h3⟩ := hcell a ha j u hu
  subst ha
  refine ⟨h1, by omega, ?_⟩
  rw [World.cell?_of_block (w := w) (a := ⟨a.block, a.off + j, none⟩) (hk a.block rfl h2)]
  exact h3

theorem RdV.chg {S : Nat → Prop} {w w' : World} {size n : Nat} {v : Value} {xs : List Value} (h : RdV w size v n xs) (hc : Chg S w w') (hs : ∀ b, v.ownBlock = some b → ¬ S b) : RdV w' size v n xs :=
  h.keep hc.size fun b hb hl => hc.block b hl (hs b hb)
theorem RdV.below {w w' : World} {size n : Nat} {v : Value} {xs : List Value} (h : RdV w size v n xs) (hc : Below w.heap.size w w') : RdV w' size v n xs :=
  h.keep hc.size fun b _ hl => hc.block b hl
theorem RdV.alloc {w : World} {size n : Nat} {v : Value} {xs : List Value} (h : RdV w size v n xs) (o : Obj) : RdV (w.alloc o) size v n xs :=
  h.below ((Below.refl _ _).alloc (Nat.le_refl _) o)
theorem RdV.drew {w : World} {size n : Nat} {v : Value} {xs : List Value} (h : RdV w size v n xs) : RdV w.drew size v n xs := h

/-- What is owned reads. -/
theorem RdV.ofOwns {w : World} {base e size n : Nat} {v : Value} {xs : List Value} (h : w.ownsRow base e size v n xs) : RdV w size v n xs := by
  refine ⟨h.1, ?_⟩
  rcases h.2 with ⟨rfl, rfl⟩ | ⟨g, cap, cur, rfl, hb, hg, hn, hm, hs, htake⟩
  · exact ⟨none, 0, rfl, Nat.le_refl _, by simp [maxLen], fun _ => rfl, fun a h => by cases h⟩
  · refine ⟨some ⟨g, 0, none⟩, cap, rfl, hn, hm, (fun h => by cases h), fun a ha j u hu => ?_⟩
    cases ha
    refine ⟨rfl, (Array.getElem?_eq_some_iff.1 hg).1, ?_⟩
    have := World.ownsRow.cells h (g := g) rfl j u hu
    simpa [Addr.add_lit] using this

/-- In case it has an element: its address and its cells. -/
theorem RdV.some {w : World} {size n : Nat} {v : Value} {xs : List Value} (h : RdV w size v n xs) (h0 : 0 < n) (hs : 0 < size) :
    ∃ b off cap, v = .slice (some ⟨b, off, none⟩) n cap ∧ n ≤ cap ∧ cap ≤ maxLen ∧ b < w.heap.size ∧ ∀ j u, xs[j]? = some u → w.cell? ⟨b, off + j, none⟩ = some u := by
  obtain ⟨hl, ao, cap, rfl, hn, hc, hz, hcell⟩ := h
  cases ao with
  | none => have := hz rfl; omega
  | some a =>
    have hx : 0 < xs.length := by rw [hl]; exact Nat.mul_pos h0 hs
    obtain ⟨h1, h2, _⟩ := hcell a rfl 0 xs[0] (List.getElem?_eq_getElem hx)
    obtain ⟨b, off, spot⟩ := a
    simp only at h1 h2
    subst h1
    exact ⟨b, off, cap, rfl, hn, hc, h2, fun j u hu => (hcell _ rfl j u hu).2.2⟩

theorem RdV.shape {w : World} {size n : Nat} {v : Value} {xs : List Value} (h : RdV w size v n xs) : ∃ ao cap, v = .slice ao n cap ∧ n ≤ cap ∧ cap ≤ maxLen := by
  obtain ⟨hl, ao, cap, rfl, hn, hc, hz, hcell⟩ := h
  exact ⟨ao, cap, rfl, hn, hc⟩

theorem Rd.len {w : World} {v : Value} {bs : List UInt8} (h : Rd w v bs) : bs.length ≤ maxLen := by
  obtain ⟨hl, ao, cap, rfl, hn, hc, hz, hcell⟩ := h
  omega

theorem rdOne {w : World} {v : Value} {bs : List UInt8} (h : Rd w v bs) (i : Nat) (hi : i < bs.length) :
    ∃ b off cap, v = .slice (some ⟨b, off, none⟩) bs.length cap ∧ w.cell? ⟨b, off + i, none⟩ = some (.int .u8 (bs[i].toNat : Int)) := by
  obtain ⟨b, off, cap, rfl, _, _, _, hc⟩ := RdV.some h (by omega) (by omega)
  exact ⟨b, off, cap, rfl, hc i _ (by simp [hi, bV])⟩

section
variable {P : Program}

theorem ownsRow_mono {w : World} {base base' e size n : Nat} {v : Value} {xs : List Value} (h : w.ownsRow base e size v n xs) (hb : base' ≤ base) : w.ownsRow base' e size v n xs := by
  refine ⟨h.1, ?_⟩
  rcases h.2 with hn | ⟨g, cap, cur, rfl, hbg, rest⟩
  · exact .inl hn
  · exact .inr ⟨g, cap, cur, rfl, by omega, rest⟩

theorem ownsRow_shape {w : World} {base e size n : Nat} {v : Value} {xs : List Value} (h : w.ownsRow base e size v n xs) : ∃ ao cap, v = .slice ao n cap := by
  rcases h.2 with ⟨rfl, rfl⟩ | ⟨g, cap, cur, rfl, _⟩
  · exact ⟨_, _, rfl⟩
  · exact ⟨_, _, rfl⟩

/-- What an append leaves: what is owned; the row that may have been written; the row of the new value is the old one or new. -/
structure Grew (w w' : World) (base e size : Nat) (v v' : Value) (n : Nat) (xs : List Value) : Prop where
  owns : w'.ownsRow base e size v' n xs
  grown : w.grownBy w' v.ownBlock
  row : ∀ k, v'.ownBlock = some k → v.ownBlock = some k ∨ w.heap.size ≤ k

theorem Grew.trans {w w1 w2 : World} {base e size n1 n2 : Nat} {v v1 v2 : Value} {xs1 xs2 : List Value} (h : Grew w w1 base e size v v1 n1 xs1) (k : Grew w1 w2 base e size v1 v2 n2 xs2) : Grew w w2 base e size v v2 n2 xs2 := by
  refine ⟨k.owns, ⟨k.grown.os.trans h.grown.os, k.grown.tape.trans h.grown.tape, k.grown.output.trans h.grown.output, Nat.le_trans h.grown.size k.grown.size, fun i hi hne => ?_⟩, fun r hr => ?_⟩
  · have h1 := h.grown.block i hi hne
    rw [← h1]
    refine k.grown.block i (Nat.lt_of_lt_of_le hi h.grown.size) fun e => ?_
    rcases h.row i e.symm with h2 | h2
    · exact hne h2.symm
    · omega
  · rcases k.row r hr with h2 | h2
    · exact h.row r h2
    · exact .inr (Nat.le_trans h.grown.size h2)

theorem Grew.ofAlloc {w w1 : World} {o : Obj} {base e size n : Nat} {v v1 : Value} {xs : List Value} (h : Grew (w.alloc o) w1 base e size v v1 n xs) : Grew w w1 base e size v v1 n xs := by
  refine ⟨h.owns, ⟨h.grown.os, h.grown.tape, h.grown.output, by have := h.grown.size; simp at this; omega, fun i hi hne => (h.grown.block i (by simp; omega) hne).trans (Below.heap_alloc _ _ _ hi)⟩, fun r hr => ?_⟩
  rcases h.row r hr with h2 | h2
  · exact .inl h2
  · exact .inr (by simp at h2; omega)

theorem Grew.ofDrew {w w1 : World} {base e size n : Nat} {v v1 : Value} {xs : List Value} (h : Grew w.drew w1 base e size v v1 n xs) : Grew w w1 base e size v v1 n xs :=
  ⟨h.owns, ⟨h.grown.os, h.grown.tape, h.grown.output, h.grown.size, h.grown.block⟩, h.row⟩

theorem Grew.refl {w : World} {base e size n : Nat} {v : Value} {xs : List Value} (h : w.ownsRow base e size v n xs) : Grew w w base e size v v n xs :=
  ⟨h, ⟨rfl, rfl, rfl, Nat.le_refl _, fun _ _ _ => rfl⟩, fun _ h => .inl h⟩

/-- Nothing but new blocks, and the row. -/
theorem Grew.chg {w w1 : World} {base e size n : Nat} {v v1 : Value} {xs : List Value} (h : Grew w w1 base e size v v1 n xs) : Chg (fun k => v.ownBlock = some k) w w1 :=
  (Chg.refl _ w).grown h.grown fun _ _ h => h

/-- What was nil or begins at a new block: nothing that was there has changed. -/
theorem Grew.below {w w1 : World} {base e size n : Nat} {v v1 : Value} {xs : List Value} {B : Nat} (h : Grew w w1 base e size v v1 n xs) (hB : B ≤ w.heap.size) (hv : ∀ k, v.ownBlock = some k → B ≤ k) : Below B w w1 :=
  h.chg.below hB hv

/-- append of whatever reads onto a slice that the call made. -/
theorem run_append_rd (w : World) (base : Nat) (t ty e : TypeId) (i : TypeInfo) (z : Value) (size bytes : Nat) (ht : P.underlying t = some (.slice e)) (hi : P.info? e = some i) (hz : i.zero = some z)
    (hsize : i.size = size) (hby : i.bytes = bytes) (hzs : z.cells.size = size) (hsz : 0 < size)
    (v : Value) (n : Nat) (xs : List Value) (hown : w.ownsRow base e size v n xs)
    (x : Value) (m : Nat) (news : List Value) (hx : RdV w size x m news) (h1 : ∀ u ∈ news, u.oneCell' = true)
    (h63 : n + m ≤ maxLen) (hbytes : (n + m) * bytes ≤ 140737488355328) (hbase : base ≤ w.heap.size) :
    ∃ ao cap w', (Builtin.append_ #[t, t] ty #[v, x]).run P w = .ok (.slice ao (n + m) cap) w' ∧ Grew w w' base e size v (.slice ao (n + m) cap) (n + m) (xs ++ news) := by
  obtain ⟨hl, xo, xc, rfl, hn, hc, h0, hcell⟩ := hx
  cases xo with
  | none =>
    have hc0 := h0 rfl
    have hm0 : m = 0 := by omega
    subst hm0; subst hc0
    have hnn : news = [] := List.eq_nil_of_length_eq_zero (by simpa using hl)
    subst hnn
    have hr := run_append_owned_none (P := P) w base t ty e i size ht hi v n xs hown
    obtain ⟨ao, cap, rfl⟩ := ownsRow_shape hown
    exact ⟨ao, cap, w, hr, by simpa using hown, ⟨rfl, rfl, rfl, Nat.le_refl _, fun _ _ _ => rfl⟩, fun k hk => .inl hk⟩
  | some a =>
    have hcs' : ∀ j u, news[j]? = some u → w.cell? (a.add j) = some u := fun j u hu => by
      obtain ⟨hs, _, hcs⟩ := hcell a rfl j u hu
      obtain ⟨b, off, spot⟩ := a
      simp only at hs
      subst hs
      rw [Addr.add_lit]
      exact hcs
    have hnew : ∀ (v' : Value) (w' : World), w'.ownsRow w.heap.size e size v' (n + m) (xs ++ news) → ∀ k, v'.ownBlock = some k → v.ownBlock = some k ∨ w.heap.size ≤ k := fun v' w' ho k hk => .inr (ho.lt k hk).1
    have hown' := hown
    rcases hown.2 with ⟨rfl, rfl⟩ | ⟨g, cap, cur, rfl, hbg, hg, hnc, hcm, hcsz, htake⟩
    · obtain rfl : xs = [] := List.eq_nil_of_length_eq_zero (by simpa using hown.1)
      obtain ⟨v', w', hr, ho, hg, _⟩ := run_append_own (P := P) w w.heap.size t ty e i z size bytes ht hi hz hsize hby hzs hsz (.slice none 0 0) 0 [] (World.ownsRow_nil w _ e size) a m xc news hl hcs' h1 h63 hbytes (Nat.le_refl _)
      obtain ⟨ao, cap, rfl⟩ := ownsRow_shape ho
      exact ⟨ao, cap, w', hr, ownsRow_mono ho hbase, hg, hnew _ _ ho⟩
    · by_cases hroom : n + m ≤ cap
      · obtain ⟨w', hr, ho, hg'⟩ := run_append_fits (P := P) w base t ty e i size ht hi hsize g n cap xs hown a m xc news hl hcs' h1 hroom
        exact ⟨_, _, w', hr, ho, hg', fun k hk => .inl hk⟩
      · have holds : ∀ j u, xs[j]? = some u → w.cell? ((⟨g, 0, none⟩ : Addr).add j) = some u := hown.cells (g := g) rfl
        obtain ⟨v', w', hr, ho, hg'⟩ := run_append_arg_grows (P := P) w t ty e i z size bytes ht hi hz hsize hby hzs hsz ⟨g, 0, none⟩ n cap xs hown.1 holds a m xc news hl hcs' (by omega) h63 hbytes
        obtain ⟨ao, cap', rfl⟩ := ownsRow_shape ho
        exact ⟨ao, cap', w', hr, ownsRow_mono ho hbase, ⟨hg'.os, hg'.tape, hg'.output, hg'.size, fun k hk _ => hg'.block k hk (by simp)⟩, hnew _ _ ho⟩

theorem wpList_append_rd (w : World) {ops : Array Oper} {rest : List Oper} {o : Oper} {a : Act} {Q : Exit → Act → World → Prop} (hgd : o.guard = none) (s x : Operand) (t : TypeId)
    (ho : o.op = .call { callee := .builtin .append, args := #[s, x], argTypes := #[t, t] })
    (base : Nat) (e : TypeId) (z : Value) (size bytes : Nat) (ht : P.underlying t = some (.slice e)) (hinfo : (P.info? e).map (fun i => (i.zero, i.size, i.bytes)) = some (some z, size, bytes))
    (hzs : z.cells.size = size) (hsz : 0 < size)
    (v : Value) (n : Nat) (xs : List Value) (hs : a.eval s = v) (hown : w.ownsRow base e size v n xs)
    (xv : Value) (m : Nat) (news : List Value) (hx : a.eval x = xv) (hrd : RdV w size xv m news) (h1 : ∀ u ∈ news, u.oneCell' = true)
    (h63 : n + m ≤ maxLen) (hbytes : (n + m) * bytes ≤ 140737488355328) (hbase : base ≤ w.heap.size)
    (h : ∀ ao cap w', Grew w w' base e size v (.slice ao (n + m) cap) (n + m) (xs ++ news) → wpList P ops Q rest (a.put o.dst (.slice ao (n + m) cap)) w') : wpList P ops Q (o :: rest) a w := by
  obtain ⟨i, hi, hz, hsize, hby⟩ := info_parts hinfo
  obtain ⟨ao, cap, w', hr, h2⟩ := run_append_rd (P := P) w base t o.type e i z size bytes ht hi hz hsize hby hzs hsz v n xs hown xv m news hrd h1 h63 hbytes hbase
  refine wpList_plain hgd fun K hK => ?_
  unfold Oper.wp execOp
  simp only [ho, resolve, invoke, builtin, Sem.run_bind, Sem.run_pure, Result.andThen_ok, List.map_toArray, List.map_cons, List.map_nil, hs, hx, hr]
  exact hK _ _ (h ao cap w' h2)

/-- The same as one step of a region that draws its order (go_region_held3's third argument). -/
theorem step_append_rd (w : World) {ops : Array Oper} {o : Oper} {a : Act} {K : Act → World → Prop} {Q : Exit → Act → World → Prop} {E : Prop} (hgd : o.guard = none) (s x : Operand) (t : TypeId)
    (ho : o.op = .call { callee := .builtin .append, args := #[s, x], argTypes := #[t, t] })
    (base : Nat) (e : TypeId) (z : Value) (size bytes : Nat) (ht : P.underlying t = some (.slice e)) (hinfo : (P.info? e).map (fun i => (i.zero, i.size, i.bytes)) = some (some z, size, bytes))
    (hzs : z.cells.size = size) (hsz : 0 < size)
    (v : Value) (n : Nat) (xs : List Value) (hs : a.eval s = v) (hown : w.ownsRow base e size v n xs)
    (xv : Value) (m : Nat) (news : List Value) (hx : a.eval x = xv) (hrd : RdV w size xv m news) (h1 : ∀ u ∈ news, u.oneCell' = true)
    (h63 : n + m ≤ maxLen) (hbytes : (n + m) * bytes ≤ 140737488355328) (hbase : base ≤ w.heap.size)
    (h : ∀ ao cap w', Grew w w' base e size v (.slice ao (n + m) cap) (n + m) (xs ++ news) → K (a.put o.dst (.slice ao (n + m) cap)) w') :
    if Region.wanted o (yielded ops a.tmps) = true then Oper.wp P o a w K Q else E := by
  have hw : Region.wanted o (yielded ops a.tmps) = true := by simp [Region.wanted, hgd]
  rw [if_pos hw]
  obtain ⟨i, hi, hz, hsize, hby⟩ := info_parts hinfo
  obtain ⟨ao, cap, w', hr, h2⟩ := run_append_rd (P := P) w base t o.type e i z size bytes ht hi hz hsize hby hzs hsz v n xs hown xv m news hrd h1 h63 hbytes hbase
  unfold Oper.wp execOp
  simp only [ho, resolve, invoke, builtin, Sem.run_bind, Sem.run_pure, Result.andThen_ok, List.map_toArray, List.map_cons, List.map_nil, hs, hx, hr]
  exact h ao cap w' h2

/-- A slice of one new cell, as 'append(out, x)' lays it. -/
theorem RdV.one (w : World) (u : Value) (t : TypeId) : RdV (w.alloc (.cells #[u] t)) 1 (.slice (Option.some ⟨w.heap.size, 0, none⟩) 1 1) 1 [u] :=
  ⟨rfl, Option.some ⟨w.heap.size, 0, none⟩, 1, rfl, Nat.le_refl _, by simp [maxLen], (fun h => by cases h), fun a ha j u' hu => by
    cases ha
    refine ⟨rfl, by simp, ?_⟩
    match j, hu with
    | 0, hu => simp at hu; subst hu; simp [World.cell?_alloc_new]⟩

theorem one_one (u : Value) (h : u.oneCell' = true) : ∀ x ∈ [u], x.oneCell' = true := by
  intro x hx
  simp at hx
  subst hx
  exact h

/-- A slice of what reads. -/
theorem RdV.cut {w : World} {size n cap : Nat} {ao : Option Addr} {xs : List Value} (h : RdV w size (.slice ao n cap) n xs) (l m : Nat) (hl : l ≤ m) (hm : m ≤ n) :
    RdV w size (.slice (if cap = l then ao else ao.map (·.add (l * size))) (m - l) (cap - l)) (m - l) ((xs.drop (l * size)).take ((m - l) * size)) := by
  obtain ⟨hlen, ao', cap', he, hn, hc, hz, hcell⟩ := h
  simp only [Value.slice.injEq, true_and] at he
  obtain ⟨rfl, rfl⟩ := he
  have e0 : m * size ≤ n * size := Nat.mul_le_mul_right _ hm
  have e1 : (m - l) * size + l * size = m * size := by rw [← Nat.add_mul]; congr 1; omega
  refine ⟨by rw [List.length_take, List.length_drop, hlen]; omega, _, _, rfl, by omega, by omega, fun h0 => ?_, fun a ha j u hu => ?_⟩
  · cases ao with
    | none => have := hz rfl; omega
    | some a => split at h0 <;> simp at h0
  · have hj : j < (m - l) * size := by
      have := (List.getElem?_eq_some_iff.1 hu).1
      rw [List.length_take] at this
      omega
    rw [List.getElem?_take, if_pos hj, List.getElem?_drop] at hu
    cases ao with
    | none => split at ha <;> simp at ha
    | some b =>
      obtain ⟨h1, h2, h3⟩ := hcell b rfl _ u hu
      split at ha
      · rename_i hcl
        have hml : m = l := by omega
        subst hml
        simp at hj
      · simp only [Option.map_some, Option.some.injEq] at ha
        subst ha
        have hab : (b.add (l * size)).block = b.block := by unfold Addr.add; split <;> rfl
        have hao : (b.add (l * size)).off = b.off + l * size := by unfold Addr.add; split <;> simp_all
        have has : (b.add (l * size)).spot = none := by unfold Addr.add; split <;> simp_all
        rw [hab, hao, Nat.add_assoc]
        exact ⟨has, h2, h3⟩

theorem cut_block {ao : Option Addr} {cap l size a b : Nat} : ∀ k, (Value.slice (if cap = l then ao else ao.map (·.add (l * size))) a b).ownBlock = some k → ∀ n c, (Value.slice ao n c).ownBlock = some k := by
  intro k hk n c
  cases ao with
  | none => split at hk <;> simp [Value.ownBlock] at hk
  | some x =>
    split at hk
    · exact hk
    · simp only [Option.map_some, Value.ownBlock] at hk ⊢
      rw [← hk]
      unfold Addr.add
      split <;> rfl

/-- 'x[lo:]', 'x[:hi]', 'x[lo:hi]' of what reads: 'hb': the bounds, as the model takes them. -/
theorem wpList_slice_rd (w : World) {ops : Array Oper} {rest : List Oper} {o : Oper} {a : Act} {Q : Exit → Act → World → Prop} (hgd : o.guard = none) (x : Operand) (lo hi : Option Operand) (t : TypeId)
    (ho : o.op = .slice t x lo hi none) (e : TypeId) (size : Nat) (z : Value) (bytes : Nat) (ht : P.underlying t = some (.slice e)) (hinfo : (P.info? e).map (fun i => (i.zero, i.size, i.bytes)) = some (some z, size, bytes))
    (ao : Option Addr) (n cap : Nat) (xs : List Value) (hx : a.eval x = .slice ao n cap) (hr : RdV w size (.slice ao n cap) n xs) (l m : Nat)
    (hb : (Instr.sliceBounds true n cap (lo.map a.eval) (hi.map a.eval) none).run P w = .ok (l, m, cap) w) (hl : l ≤ m) (hm : m ≤ n)
    (h : ∀ ao' cap', RdV w size (.slice ao' (m - l) cap') (m - l) ((xs.drop (l * size)).take ((m - l) * size)) → (∀ k, (Value.slice ao' (m - l) cap').ownBlock = some k → (Value.slice ao n cap).ownBlock = some k) →
      wpList P ops Q rest (a.put o.dst (.slice ao' (m - l) cap')) w) : wpList P ops Q (o :: rest) a w := by
  obtain ⟨i, hi', hz, hsize, hby⟩ := info_parts hinfo
  have hrun : (Instr.sliceAt t (.slice ao n cap) (lo.map a.eval) (hi.map a.eval) none).run P w = .ok (.slice (if cap = l then ao else ao.map (·.add (l * size))) (m - l) (cap - l)) w := by
    simp only [Instr.sliceAt, Sem.run_bind, run_underlying ht, Result.andThen_ok, Instr.slice, hb, sizeOf, typeInfo]
    simp [hi', hsize]
  refine wpList_plain hgd fun K hK => ?_
  unfold Oper.wp execOp
  simp only [ho, hx, Option.map_none, Sem.run_bind, hrun, Result.andThen_ok]
  exact hK _ _ (h _ _ (hr.cut l m hl hm) (fun k hk => cut_block k hk n cap))

theorem bounds_lo {w : World} (n cap : Nat) (k : IntKind) (l : Nat) (hl : l ≤ n) : (Instr.sliceBounds true n cap (some (.int k (l : Int))) none none).run P w = .ok (l, n, cap) w := by
  have h := run_sliceBound (P := P) (w := w) k (l : Int) n .sliceB (by omega) (by omega)
  simp [Instr.sliceBounds, h]

theorem bounds_hi {w : World} (n cap : Nat) (k : IntKind) (m : Nat) (hm : m ≤ cap) : (Instr.sliceBounds true n cap none (some (.int k (m : Int))) none).run P w = .ok (0, m, cap) w := by
  have h := run_sliceBound (P := P) (w := w) k (m : Int) cap .sliceAcap (by omega) (by omega)
  simp [Instr.sliceBounds, h]

theorem bounds_both {w : World} (n cap : Nat) (k k' : IntKind) (l m : Nat) (hl : l ≤ m) (hm : m ≤ cap) : (Instr.sliceBounds true n cap (some (.int k (l : Int))) (some (.int k' (m : Int))) none).run P w = .ok (l, m, cap) w := by
  have h := run_sliceBound (P := P) (w := w) k' (m : Int) cap .sliceAcap (by omega) (by omega)
  have h2 := run_sliceBound (P := P) (w := w) k (l : Int) m .sliceB (by omega) (by omega)
  simp [Instr.sliceBounds, h, h2]

/-- The string of bytes. -/
def strOf (bs : List UInt8) : ByteArray := ⟨bs.toArray⟩

@[simp, go_sem] theorem strOf_toList (bs : List UInt8) : (strOf bs).toList = bs := ByteArray.toList_mk bs
theorem strOf_data (bs : List UInt8) : (strOf bs).data.toList = bs := rfl
theorem strOf_size (bs : List UInt8) : (strOf bs).size = bs.length := by simp [strOf, ByteArray.size]

theorem run_str {w : World} {v : Value} {bs : List UInt8} (hr : Rd w v bs) (src e dst : TypeId) (hs : P.underlying src = some (.slice e)) (he : P.underlying e = some (.int .u8)) (hd : P.underlying dst = some .string) :
    (convert src dst v).run P w = .ok (.string (strOf bs)) w := by
  by_cases h0 : bs.length = 0
  · obtain rfl : bs = [] := List.eq_nil_of_length_eq_zero h0
    obtain ⟨ao, cap, rfl, _, _⟩ := RdV.shape hr
    have e1 : (strOf [] : ByteArray) = ByteArray.empty := rfl
    rw [e1]
    cases ao with
    | none => exact run_convert_bytes_nil w src e hs he _ _ dst hd
    | some a =>
      rw [run_convert_bytes_string w src dst e _ _ cap hs he hd]
      have := run_bytesToString (P := P) w a 0 cap [] (by
        have := run_loadCells_list (P := P) w a [] (fun j v hj => by simp at hj)
        simpa using this)
      simpa using this
  · obtain ⟨b, off, cap, rfl, _, _, _, hc⟩ := RdV.some hr (by omega) (by omega)
    have h := run_convert_bytes_arg (P := P) w src e hs he b off bs.length cap (bs.map fun x => (x.toNat : Int)) (by simp) (fun i hi => by
      have := hc i (bV bs[i]) (by simp [hi])
      rw [this]
      simp [bV, List.getD, hi]) dst hd
    have e1 : strOfNums (bs.map fun x => (x.toNat : Int)) = strOf bs := by
      unfold strOfNums strOf
      congr 1
      congr 1
      rw [List.map_map]
      conv => rhs; rw [← List.map_id bs]
      apply List.map_congr_left
      intro x _
      simp
    rw [e1] at h
    exact h

theorem bV_one (bs : List UInt8) : ∀ u ∈ bs.map bV, u.oneCell' = true := by
  intro u hu
  obtain ⟨x, _, rfl⟩ := List.mem_map.1 hu
  rfl

end
theorem RdV.lit (w : World) (cs : Array Value) (e : TypeId) (n size : Nat) (hm : n ≤ maxLen) (hs : cs.size = n * size) : RdV (w.alloc (.cells cs e)) size (.slice (Option.some ⟨w.heap.size, 0, none⟩) n n) n cs.toList :=
  RdV.ofOwns (World.ownsRow_lit (base := 0) w cs n (Nat.zero_le _) hm hs)
end Go.Proofs.Ytjifgipkfkhnpaa
