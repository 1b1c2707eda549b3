/- Words on memory: what a slice reads as, which blocks a call may have changed; nothing of the program's functions is in sight here. -/
import Derived.WalkKit
import Derived.WalkSpells
import Derived.WalkLawsBesides
import Derived.Laws.AppendOwnNone
namespace Go.Proofs.Ytnocfepkjhdliaa
open Go.RowKit

/-- A byte's cell. -/
def bV (x : UInt8) : Value := .int .u8 (x.toNat : Int)

/-- Only blocks of S, of those that were there, may have changed. -/
structure Chg (S : Nat → Prop) (w w' : World) : Prop where
  os : w'.os = w.os
  tape : w'.tape = w.tape
  output : w'.output = w.output
  size : w.heap.size ≤ w'.heap.size
  block : ∀ k, k < w.heap.size → ¬ S k → w'.heap[k]? = w.heap[k]?

theorem Chg.refl (S : Nat → Prop) (w : World) : Chg S w w := ⟨rfl, rfl, rfl, Nat.le_refl _, fun _ _ _ => rfl⟩
theorem Chg.trans {S : Nat → Prop} {a b c : World} (h : Chg S a b) (k : Chg S b c) : Chg S a c :=
  ⟨k.os.trans h.os, k.tape.trans h.tape, k.output.trans h.output, Nat.le_trans h.size k.size, fun i hi hs => (k.block i (Nat.lt_of_lt_of_le hi h.size) hs).trans (h.block i hi hs)⟩
/-- The second step may change new blocks, too. -/
theorem Chg.trans' {S T : Nat → Prop} {a b c : World} (h : Chg S a b) (k : Chg T b c) (hT : ∀ i, i < a.heap.size → T i → S i) : Chg S a c :=
  ⟨k.os.trans h.os, k.tape.trans h.tape, k.output.trans h.output, Nat.le_trans h.size k.size, fun i hi hs => (k.block i (Nat.lt_of_lt_of_le hi h.size) (fun ht => hs (hT i hi ht))).trans (h.block i hi hs)⟩
theorem Chg.mono {S T : Nat → Prop} {w w' : World} (h : Chg S w w') (hT : ∀ i, i < w.heap.size → S i → T i) : Chg T w w' :=
  ⟨h.os, h.tape, h.output, h.size, fun i hi hs => h.block i hi (fun k => hs (hT i hi k))⟩
theorem Chg.alloc {S : Nat → Prop} {a w : World} (h : Chg S a w) (o : Obj) : Chg S a (w.alloc o) :=
  h.trans ⟨rfl, rfl, rfl, by simp, fun k hk _ => Below.heap_alloc _ _ _ (by omega)⟩
theorem Chg.setCell {S : Nat → Prop} {a w : World} (h : Chg S a w) {p : Addr} (hp : p.block < a.heap.size → S p.block) (u : Value) : Chg S a (w.setCell p u) :=
  ⟨h.os, h.tape, h.output, by simpa [World.setCell] using h.size, fun k hk hs => by
    rw [Below.heap_setCell _ _ _ _ (fun e => by subst e; exact hs (hp hk))]; exact h.block k hk hs⟩
theorem Chg.drew {S : Nat → Prop} {a w : World} (h : Chg S a w) : Chg S a w.drew := ⟨h.os, h.tape, h.output, h.size, h.block⟩
theorem Chg.grown {S : Nat → Prop} {a w w' : World} {row : Option Nat} (h : Chg S a w) (hg : w.grownBy w' row) (hr : ∀ k, k < a.heap.size → row = some k → S k) : Chg S a w' :=
  ⟨hg.os.trans h.os, hg.tape.trans h.tape, hg.output.trans h.output, Nat.le_trans h.size hg.size,
    fun k hk hs => (hg.block k (Nat.lt_of_lt_of_le hk h.size) (fun e => hs (hr k hk e.symm))).trans (h.block k hk hs)⟩
theorem Chg.ofBelow {w w' : World} {B : Nat} (h : Below B w w') : Chg (fun k => B ≤ k) w w' :=
  ⟨h.os, h.tape, h.output, h.size, fun k _ hs => h.block k (by omega)⟩
theorem Chg.below {S : Nat → Prop} {w w' : World} (h : Chg S w w') {B : Nat} (hB : B ≤ w.heap.size) (hS : ∀ k, S k → B ≤ k) : Below B w w' :=
  ⟨h.os, h.tape, h.output, h.size, fun k hk => h.block k (by omega) (fun hs => by have := hS k hs; omega)⟩
theorem Chg.ofBelowAny {S : Nat → Prop} {w w' : World} (h : Below w.heap.size w w') : Chg S w w' :=
  ⟨h.os, h.tape, h.output, h.size, fun k hk _ => h.block k hk⟩
theorem Chg.cell {S : Nat → Prop} {w w' : World} (h : Chg S w w') {p : Addr} (hl : p.block < w.heap.size) (hs : ¬ S p.block) : w'.cell? p = w.cell? p :=
  World.cell?_of_block (w := w) (h.block p.block hl hs)
theorem Chg.frozen {S : Nat → Prop} {w w' : World} (h : Chg S w w') {p : Addr} (hl : p.block < w.heap.size) (hs : ¬ S p.block) : w'.frozen? p = w.frozen? p :=
  World.frozen?_of_block (w := w) (h.block p.block hl hs)
theorem Chg.owns {S : Nat → Prop} {w w' : World} (h : Chg S w w') {base e size n : Nat} {v : Value} {xs : List Value} (ho : w.ownsRow base e size v n xs) (hs : ∀ k, v.ownBlock = some k → ¬ S k) : w'.ownsRow base e size v n xs := by
  refine ⟨ho.1, ?_⟩
  rcases ho.2 with hn | ⟨g, cap, cur, rfl, hb, hgg, rest⟩
  · exact .inl hn
  · refine .inr ⟨g, cap, cur, rfl, hb, ?_, rest⟩
    rw [h.block g (Array.getElem?_eq_some_iff.1 hgg).1 (hs g rfl)]
    exact hgg

/-- A slice value of n elements reads as these cells (size cells an element). -/
def RdV (w : World) (size : Nat) (v : Value) (n : Nat) (xs : List Value) : Prop :=
  xs.length = n * size ∧ ∃ ao cap, v = .slice ao n cap ∧ n ≤ cap ∧ cap ≤ maxLen ∧ (ao = none → cap = 0) ∧
    ∀ a, ao = some a → a.spot = none ∧ a.block < w.heap.size ∧ ∀ j u, xs[j]? = some u → w.cell? ⟨a.block, a.off + j, none⟩ = some u

/-- A byte slice reads as these bytes. -/
def Rd (w : World) (v : Value) (bs : List UInt8) : Prop := RdV w 1 v bs.length (bs.map bV)

theorem RdV.nil (w : World) (size : Nat) : RdV w size (.slice none 0 0) 0 [] :=
  ⟨by simp, none, 0, rfl, Nat.le_refl _, by simp [maxLen], fun _ => rfl, fun a h => by cases h⟩

theorem RdV.keep {w w' : World} {size n : Nat} {v : Value} {xs : List Value} (h : RdV w size v n xs) (hsz : w.heap.size ≤ w'.heap.size) (hk : ∀ b, v.ownBlock = some b → w'.heap[b]? = w.heap[b]?) : RdV w' size v n xs := by
  obtain ⟨hl, ao, cap, rfl, hn, hc, h0, hcell⟩ := h
  refine ⟨hl, ao, cap, rfl, hn, hc, h0, fun a ha => ?_⟩
  obtain ⟨h1, h2, h3⟩ := hcell a ha
  subst ha
  refine ⟨h1, by omega, fun j u hu => ?_⟩
  rw [World.cell?_of_block (w := w) (a := ⟨a.block, a.off + j, none⟩) (hk a.block rfl)]
  exact h3 j u hu

theorem RdV.lt {w : World} {size n : Nat} {v : Value} {xs : List Value} (h : RdV w size v n xs) : ∀ b, v.ownBlock = some b → b < w.heap.size := by
  obtain ⟨hl, ao, cap, rfl, hn, hc, h0, hcell⟩ := h
  intro b hb
  cases ao with
  | none => simp [Value.ownBlock] at hb
  | some a => simp [Value.ownBlock] at hb; subst hb; exact (hcell a rfl).2.1

theorem RdV.chg {S : Nat → Prop} {w w' : World} {size n : Nat} {v : Value} {xs : List Value} (h : RdV w size v n xs) (hc : Chg S w w') (hs : ∀ b, v.ownBlock = some b → ¬ S b) : RdV w' size v n xs :=
  h.keep hc.size fun b hb => hc.block b (h.lt b hb) (hs b hb)
theorem RdV.below {w w' : World} {size n : Nat} {v : Value} {xs : List Value} (h : RdV w size v n xs) (hc : Below w.heap.size w w') : RdV w' size v n xs :=
  h.keep hc.size fun b hb => hc.block b (h.lt b hb)
theorem RdV.alloc {w : World} {size n : Nat} {v : Value} {xs : List Value} (h : RdV w size v n xs) (o : Obj) : RdV (w.alloc o) size v n xs :=
  h.below ((Below.refl _ _).alloc (Nat.le_refl _) o)
theorem RdV.drew {w : World} {size n : Nat} {v : Value} {xs : List Value} (h : RdV w size v n xs) : RdV w.drew size v n xs := h

/-- What is owned reads. -/
theorem RdV.ofOwns {w : World} {base e size n : Nat} {v : Value} {xs : List Value} (h : w.ownsRow base e size v n xs) : RdV w size v n xs := by
  refine ⟨h.1, ?_⟩
  rcases h.2 with ⟨rfl, rfl⟩ | ⟨g, cap, cur, rfl, hb, hg, hn, hm, hs, htake⟩
  · exact ⟨none, 0, rfl, Nat.le_refl _, by simp [maxLen], fun _ => rfl, fun a h => by cases h⟩
  · refine ⟨some ⟨g, 0, none⟩, cap, rfl, hn, hm, (fun h => by cases h), fun a ha => ?_⟩
    cases ha
    refine ⟨rfl, (Array.getElem?_eq_some_iff.1 hg).1, fun j u hu => ?_⟩
    have := World.ownsRow.cells h (g := g) rfl j u hu
    simpa [Addr.add_lit] using this

/-- In case it has an element: its address and its cells. -/
theorem RdV.some {w : World} {size n : Nat} {v : Value} {xs : List Value} (h : RdV w size v n xs) (h0 : 0 < n) :
    ∃ b off cap, v = .slice (some ⟨b, off, none⟩) n cap ∧ n ≤ cap ∧ cap ≤ maxLen ∧ b < w.heap.size ∧ ∀ j u, xs[j]? = some u → w.cell? ⟨b, off + j, none⟩ = some u := by
  obtain ⟨hl, ao, cap, rfl, hn, hc, hz, hcell⟩ := h
  cases ao with
  | none => have := hz rfl; omega
  | some a =>
    obtain ⟨h1, h2, h3⟩ := hcell a rfl
    obtain ⟨b, off, spot⟩ := a
    simp only at h1 h2 h3
    subst h1
    exact ⟨b, off, cap, rfl, hn, hc, h2, h3⟩

theorem RdV.shape {w : World} {size n : Nat} {v : Value} {xs : List Value} (h : RdV w size v n xs) : ∃ ao cap, v = .slice ao n cap ∧ n ≤ cap ∧ cap ≤ maxLen := by
  obtain ⟨hl, ao, cap, rfl, hn, hc, hz, hcell⟩ := h
  exact ⟨ao, cap, rfl, hn, hc⟩

theorem Rd.len {w : World} {v : Value} {bs : List UInt8} (h : Rd w v bs) : bs.length ≤ maxLen := by
  obtain ⟨hl, ao, cap, rfl, hn, hc, hz, hcell⟩ := h
  omega

section
variable {P : Program}

theorem ownsRow_mono {w : World} {base base' e size n : Nat} {v : Value} {xs : List Value} (h : w.ownsRow base e size v n xs) (hb : base' ≤ base) : w.ownsRow base' e size v n xs := by
  refine ⟨h.1, ?_⟩
  rcases h.2 with hn | ⟨g, cap, cur, rfl, hbg, rest⟩
  · exact .inl hn
  · exact .inr ⟨g, cap, cur, rfl, by omega, rest⟩

theorem ownsRow_shape {w : World} {base e size n : Nat} {v : Value} {xs : List Value} (h : w.ownsRow base e size v n xs) : ∃ ao cap, v = .slice ao n cap := by
  rcases h.2 with ⟨rfl, rfl⟩ | ⟨g, cap, cur, rfl, _⟩
  · exact ⟨_, _, rfl⟩
  · exact ⟨_, _, rfl⟩

/-- What an append leaves: what is owned; the row that may have been written; the row of the new value is the old one or new. -/
structure Grew (w w' : World) (base e size : Nat) (v v' : Value) (n : Nat) (xs : List Value) : Prop where
  owns : w'.ownsRow base e size v' n xs
  grown : w.grownBy w' v.ownBlock
  row : ∀ k, v'.ownBlock = some k → v.ownBlock = some k ∨ w.heap.size ≤ k

/-- append of whatever reads onto a slice that the call made. -/
theorem run_append_rd (w : World) (base : Nat) (t ty e : TypeId) (i : TypeInfo) (z : Value) (size bytes : Nat) (ht : P.underlying t = some (.slice e)) (hi : P.info? e = some i) (hz : i.zero = some z)
    (hsize : i.size = size) (hby : i.bytes = bytes) (hzs : z.cells.size = size) (hsz : 0 < size)
    (v : Value) (n : Nat) (xs : List Value) (hown : w.ownsRow base e size v n xs)
    (x : Value) (m : Nat) (news : List Value) (hx : RdV w size x m news) (h1 : ∀ u ∈ news, u.oneCell' = true)
    (h63 : n + m ≤ maxLen) (hbytes : (n + m) * bytes ≤ 140737488355328) (hbase : base ≤ w.heap.size) :
    ∃ ao cap w', (Builtin.append_ #[t, t] ty #[v, x]).run P w = .ok (.slice ao (n + m) cap) w' ∧ Grew w w' base e size v (.slice ao (n + m) cap) (n + m) (xs ++ news) := by
  obtain ⟨hl, xo, xc, rfl, hn, hc, h0, hcell⟩ := hx
  cases xo with
  | none =>
    have hc0 := h0 rfl
    have hm0 : m = 0 := by omega
    subst hm0; subst hc0
    have hnn : news = [] := List.eq_nil_of_length_eq_zero (by simpa using hl)
    subst hnn
    have hr := run_append_owned_none (P := P) w base t ty e i size ht hi v n xs hown
    obtain ⟨ao, cap, rfl⟩ := ownsRow_shape hown
    exact ⟨ao, cap, w, hr, by simpa using hown, ⟨rfl, rfl, rfl, Nat.le_refl _, fun _ _ _ => rfl⟩, fun k hk => .inl hk⟩
  | some a =>
    obtain ⟨hs, hb, hcs⟩ := hcell a rfl
    obtain ⟨b, off, spot⟩ := a
    simp only at hs hb hcs
    subst hs
    have hcs' : ∀ j u, news[j]? = some u → w.cell? ((⟨b, off, none⟩ : Addr).add j) = some u := fun j u hu => by rw [Addr.add_lit]; exact hcs j u hu
    have hnew : ∀ (v' : Value) (w' : World), w'.ownsRow w.heap.size e size v' (n + m) (xs ++ news) → ∀ k, v'.ownBlock = some k → v.ownBlock = some k ∨ w.heap.size ≤ k := fun v' w' ho k hk => .inr (ho.lt k hk).1
    have hown' := hown
    rcases hown.2 with ⟨rfl, rfl⟩ | ⟨g, cap, cur, rfl, hbg, hg, hnc, hcm, hcsz, htake⟩
    · obtain rfl : xs = [] := List.eq_nil_of_length_eq_zero (by simpa using hown.1)
      obtain ⟨v', w', hr, ho, hg, _⟩ := run_append_own (P := P) w w.heap.size t ty e i z size bytes ht hi hz hsize hby hzs hsz (.slice none 0 0) 0 [] (World.ownsRow_nil w _ e size) ⟨b, off, none⟩ m xc news hl hcs' h1 h63 hbytes (Nat.le_refl _)
      obtain ⟨ao, cap, rfl⟩ := ownsRow_shape ho
      exact ⟨ao, cap, w', hr, ownsRow_mono ho hbase, hg, hnew _ _ ho⟩
    · by_cases hroom : n + m ≤ cap
      · obtain ⟨w', hr, ho, hg'⟩ := run_append_fits (P := P) w base t ty e i size ht hi hsize g n cap xs hown ⟨b, off, none⟩ m xc news hl hcs' h1 hroom
        exact ⟨_, _, w', hr, ho, hg', fun k hk => .inl hk⟩
      · have holds : ∀ j u, xs[j]? = some u → w.cell? ((⟨g, 0, none⟩ : Addr).add j) = some u := hown.cells (g := g) rfl
        obtain ⟨v', w', hr, ho, hg'⟩ := run_append_arg_grows (P := P) w t ty e i z size bytes ht hi hz hsize hby hzs hsz ⟨g, 0, none⟩ n cap xs hown.1 holds ⟨b, off, none⟩ m xc news hl hcs' (by omega) h63 hbytes
        obtain ⟨ao, cap', rfl⟩ := ownsRow_shape ho
        exact ⟨ao, cap', w', hr, ownsRow_mono ho hbase, ⟨hg'.os, hg'.tape, hg'.output, hg'.size, fun k hk _ => hg'.block k hk (by simp)⟩, hnew _ _ ho⟩

theorem wpList_append_rd (w : World) {ops : Array Oper} {rest : List Oper} {o : Oper} {a : Act} {Q : Exit → Act → World → Prop} (hgd : o.guard = none) (s x : Operand) (t : TypeId)
    (ho : o.op = .call { callee := .builtin .append, args := #[s, x], argTypes := #[t, t] })
    (base : Nat) (e : TypeId) (z : Value) (size bytes : Nat) (ht : P.underlying t = some (.slice e)) (hinfo : (P.info? e).map (fun i => (i.zero, i.size, i.bytes)) = some (some z, size, bytes))
    (hzs : z.cells.size = size) (hsz : 0 < size)
    (v : Value) (n : Nat) (xs : List Value) (hs : a.eval s = v) (hown : w.ownsRow base e size v n xs)
    (xv : Value) (m : Nat) (news : List Value) (hx : a.eval x = xv) (hrd : RdV w size xv m news) (h1 : ∀ u ∈ news, u.oneCell' = true)
    (h63 : n + m ≤ maxLen) (hbytes : (n + m) * bytes ≤ 140737488355328) (hbase : base ≤ w.heap.size)
    (h : ∀ ao cap w', Grew w w' base e size v (.slice ao (n + m) cap) (n + m) (xs ++ news) → wpList P ops Q rest (a.put o.dst (.slice ao (n + m) cap)) w') : wpList P ops Q (o :: rest) a w := by
  obtain ⟨i, hi, hz, hsize, hby⟩ := info_parts hinfo
  obtain ⟨ao, cap, w', hr, h2⟩ := run_append_rd (P := P) w base t o.type e i z size bytes ht hi hz hsize hby hzs hsz v n xs hown xv m news hrd h1 h63 hbytes hbase
  refine wpList_plain hgd fun K hK => ?_
  unfold Oper.wp execOp
  simp only [ho, resolve, invoke, builtin, Sem.run_bind, Sem.run_pure, Result.andThen_ok, List.map_toArray, List.map_cons, List.map_nil, hs, hx, hr]
  exact hK _ _ (h ao cap w' h2)

/-- A slice of one new cell, as 'append(out, x)' lays it. -/
theorem RdV.one (w : World) (u : Value) (t : TypeId) : RdV (w.alloc (.cells #[u] t)) 1 (.slice (Option.some ⟨w.heap.size, 0, none⟩) 1 1) 1 [u] :=
  ⟨rfl, Option.some ⟨w.heap.size, 0, none⟩, 1, rfl, Nat.le_refl _, by simp [maxLen], (fun h => by cases h), fun a ha => by
    cases ha
    refine ⟨rfl, by simp, fun j u' hu => ?_⟩
    match j, hu with
    | 0, hu => simp at hu; subst hu; simp [World.cell?_alloc_new]⟩

theorem one_one (u : Value) (h : u.oneCell' = true) : ∀ x ∈ [u], x.oneCell' = true := by
  intro x hx
  simp at hx
  subst hx
  exact h

theorem bV_one (bs : List UInt8) : ∀ u ∈ bs.map bV, u.oneCell' = true := by
  intro u hu
  obtain ⟨x, _, rfl⟩ := List.mem_map.1 hu
  rfl

end
end Go.Proofs.Ytnocfepkjhdliaa
