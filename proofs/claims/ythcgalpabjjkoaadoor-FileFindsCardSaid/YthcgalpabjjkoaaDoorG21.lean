/- Texts of ours, behind one another: Del12, DelF12. No conditions but those that each states. -/
import Derived.Test.YthcgalpabjjkoaaDoorG12
import Derived.Laws.IdiomCopy
import Derived.Laws.EntriesVeiled
/- XDel12: A range of points: file.Find's closure, slices.IndexFunc, slices.DeleteFunc. -/
namespace Go.Proofs.YthcgalpabjjkoaaDoor
open Go.RowKit
set_option linter.unusedVariables false
set_option maxRecDepth 100000

def inR (a b : Int) (p : Pn) : Bool := decide (a ≤ p.t) && decide (p.t ≤ b)

set_option maxHeartbeats 1000000 in
theorem out_any (p : Pn) (bf bt : Nat) (a b : Int) (w : World) (hf : w.cell? ⟨bf, 0, none⟩ = some (.int .i64 a)) (ht : w.cell? ⟨bt, 0, none⟩ = some (.int .i64 b)) (lf : bf < w.heap.size) (lt : bt < w.heap.size) :
    Calls Tryd.prog 31 #[.agg #[.int .i64 p.t, .int .i64 p.v.k, .int .u64 (p.v.b : Int), .string p.v.t], .pointer (some ⟨bf, 0, none⟩), .pointer (some ⟨bt, 0, none⟩)] w fun e w' => e = .returned (.bool (!inR a b p)) ∧ Below w.heap.size w w' := by
  have HV : Hid ((!inR a b p) = if p.t < a then true else decide (b < p.t)) := Lib.hid (by
    unfold inR
    by_cases h1 : p.t < a
    · rw [if_pos h1, decide_eq_false (show ¬ a ≤ p.t by omega)]; rfl
    · rw [if_neg h1, decide_eq_true (show a ≤ p.t by omega)]
      by_cases h2 : b < p.t
      · rw [decide_eq_true h2, decide_eq_false (show ¬ p.t ≤ b by omega)]; rfl
      · rw [decide_eq_false h2, decide_eq_true (show p.t ≤ b by omega)]; rfl)
  obtain ⟨pt, ⟨pk, pb, px⟩⟩ := p
  dsimp only at *
  have hbl : Below w.heap.size w (w.alloc (.cells #[.int .i64 pt, .int .i64 pk, .int .u64 (pb : Int), .string px] 29)) := (Below.refl _ _).alloc (Nat.le_refl _) _
  have g0 : (w.alloc (.cells #[.int .i64 pt, .int .i64 pk, .int .u64 (pb : Int), .string px] 29)).cell? ⟨w.heap.size, 0, none⟩ = some (.int .i64 pt) := by simp [go_sem]
  have g1 := (hbl.cell (p := ⟨bf, 0, none⟩) lf).trans hf
  have g2 := (hbl.cell (p := ⟨bt, 0, none⟩) lt).trans ht
  have HBL := Lib.hid hbl
  clear hbl hf ht
  by_cases h1 : pt < a
  · go_enter Tryd.func31, Tryd.ntmps31
    go_wp2_with fail
    go_ret
    exact ⟨by rw [HV.out, if_pos h1]; rfl, HBL.out⟩
  · have h1b : decide (pt < a) = false := decide_eq_false h1
    go_enter Tryd.func31, Tryd.ntmps31
    go_wp2_with fail
    go_ret
    exact ⟨by rw [HV.out, if_neg (Int.not_lt.2 h1)]; rfl, HBL.out⟩

/-- Where the range's ends stand. -/
structure Rg (w : World) (bf bt : Nat) (a b : Int) : Prop where
  f : w.cell? ⟨bf, 0, none⟩ = some (.int .i64 a)
  t : w.cell? ⟨bt, 0, none⟩ = some (.int .i64 b)
  lf : bf < w.heap.size
  lt : bt < w.heap.size
theorem Rg.below {w w' : World} {bf bt : Nat} {a b : Int} (h : Rg w bf bt a b) (hb : Below w.heap.size w w') : Rg w' bf bt a b :=
  ⟨(hb.cell (p := ⟨bf, 0, none⟩) h.lf).trans h.f, (hb.cell (p := ⟨bt, 0, none⟩) h.lt).trans h.t, Nat.lt_of_lt_of_le h.lf hb.size, Nat.lt_of_lt_of_le h.lt hb.size⟩
theorem Rg.chg {w w' : World} {bf bt g : Nat} {a b : Int} (h : Rg w bf bt a b) (hc : Chg (fun q => q = g) w w') (h1 : bf ≠ g) (h2 : bt ≠ g) : Rg w' bf bt a b :=
  ⟨(hc.cell (p := ⟨bf, 0, none⟩) h.lf h1).trans h.f, (hc.cell (p := ⟨bt, 0, none⟩) h.lt h2).trans h.t, Nat.lt_of_lt_of_le h.lf hc.size, Nat.lt_of_lt_of_le h.lt hc.size⟩
theorem pn_cells {w : World} {v : Value} {p : List Pn} (h : Pns w v p) (k : Nat) (hk : k < p.length) : ∃ b off cap, v = .slice (some ⟨b, off, none⟩) p.length cap ∧ b < w.heap.size ∧
    w.cell? ⟨b, off + k * 4, none⟩ = some (.int .i64 (p.getD k p0).t) ∧ w.cell? ⟨b, off + k * 4 + 1, none⟩ = some (.int .i64 (p.getD k p0).v.k) ∧ w.cell? ⟨b, off + k * 4 + 2, none⟩ = some (.int .u64 ((p.getD k p0).v.b : Int)) ∧ w.cell? ⟨b, off + k * 4 + 3, none⟩ = some (.string (p.getD k p0).v.t) := by
  obtain ⟨b, off, cap, rfl, _, _, hb, hc⟩ := RdV.some h (by omega) (by decide)
  have e0 := flat_at Pn.cells 4 (fun _ => rfl) p k hk 0 (by omega)
  have e1 := flat_at Pn.cells 4 (fun _ => rfl) p k hk 1 (by omega)
  have e2 := flat_at Pn.cells 4 (fun _ => rfl) p k hk 2 (by omega)
  have e3 := flat_at Pn.cells 4 (fun _ => rfl) p k hk 3 (by omega)
  rw [getD_get p k p0 hk]
  exact ⟨b, off, cap, rfl, hb, hc _ _ e0, hc _ _ e1, hc _ _ e2, hc _ _ e3⟩

set_option maxHeartbeats 1000000 in
theorem indexF_any (p : List Pn) (v : Value) (bf bt : Nat) (a b : Int) (w : World) (hl : p.length ≤ 1000000) (hr : Pns w v p) (hg : Rg w bf bt a b) :
    Calls Tryd.prog 48 #[v, .func (.func 31) #[] #[.pointer (some ⟨bf, 0, none⟩), .pointer (some ⟨bt, 0, none⟩)]] w fun e w' => ∃ r : Int, e = .returned (.int .i64 r) ∧ Below w.heap.size w w' ∧
      ((r = -1 ∧ ∀ k, k < p.length → inR a b (p.getD k p0) = true) ∨ ∃ k : Nat, r = (k : Int) ∧ k < p.length ∧ inR a b (p.getD k p0) = false ∧ ∀ j, j < k → inR a b (p.getD j p0) = true) := by
  obtain ⟨ao, cap, rfl, hn, hcm⟩ := RdV.shape hr
  have HR := Lib.hid hr
  have HG := Lib.hid hg
  obtain ⟨n, hnl⟩ : ∃ n, n = p.length := ⟨_, rfl⟩
  rw [← hnl] at hn hl ⊢
  have HN := Lib.hid hnl
  clear hr hg hnl
  unfold maxLen at hcm
  go_enter Tryd.func48, Tryd.ntmps48
  go_wp2_with fail
  go_loopg [8] n (fun m s8 wz => ∃ k : Nat, k + m = n ∧ s8 = .int .i64 (k : Int) ∧ Hid (∀ j, j < k → inR a b (p.getD j p0) = true) ∧ Hid (Below w.heap.size w wz))
  case atStart => exact ⟨0, by omega, rfl, Lib.hid (fun j hj => by omega), Lib.hid (Below.refl _ _)⟩
  case round =>
    obtain ⟨k, hk, rfl, HI, HB⟩ := hrel
    by_cases h0 : gk = 0
    · obtain rfl : k = n := by omega
      clear hk h0
      go_wp2_with fail
      go_ret
      exact ⟨-1, rfl, HB.out, .inl ⟨rfl, HI.out⟩⟩
    · have hkn : k < n := by omega
      obtain ⟨qb, qo, qc, he, hqb, g0, g1, g2, g3⟩ := pn_cells HR.out k (by rw [← HN.out]; exact hkn)
      rw [← HN.out] at he
      simp only [Value.slice.injEq, true_and] at he
      obtain ⟨rfl, rfl⟩ := he
      replace g0 := (HB.out.cell (p := ⟨qb, qo + k * 4, none⟩) hqb).trans g0
      replace g1 := (HB.out.cell (p := ⟨qb, qo + k * 4 + 1, none⟩) hqb).trans g1
      replace g2 := (HB.out.cell (p := ⟨qb, qo + k * 4 + 2, none⟩) hqb).trans g2
      replace g3 := (HB.out.cell (p := ⟨qb, qo + k * 4 + 3, none⟩) hqb).trans g3
      have hG := HG.out.below (HB.out.mono (Nat.le_refl _))
      obtain ⟨x, hx⟩ : ∃ x, x = p.getD k p0 := ⟨_, rfl⟩
      rw [← hx] at g0 g1 g2 g3
      have hO := out_any x bf bt a b wr hG.f hG.t hG.lf hG.lt
      replace hx := Lib.hid hx
      obtain ⟨o, ho⟩ : ∃ o, o = inR a b x := ⟨_, rfl⟩
      rw [← ho] at hO
      replace ho := Lib.hid ho
      obtain ⟨pt, ⟨pk, pb, px⟩⟩ := x
      dsimp only at *
      clear hG
      cases o with
      | false =>
        go_wp2_with (go_at_call 31; refine hO.mono ?_; rintro _ w5 ⟨rfl, hb5⟩; have HB5 := Lib.hid (HB.out.trans (hb5.mono HB.out.size)); clear hb5 hO)
        go_ret
        exact ⟨(k : Int), rfl, HB5.out, .inr ⟨k, rfl, hkn, by rw [← hx.out, ← ho.out], HI.out⟩⟩
      | true =>
        go_wp2_with (go_at_call 31; refine hO.mono ?_; rintro _ w5 ⟨rfl, hb5⟩; have HB5 := Lib.hid (HB.out.trans (hb5.mono HB.out.size)); clear hb5 hO)
        go_roundg (gk - 1)
        case measure => go_light; omega
        case rel =>
          go_light
          exact ⟨k + 1, by omega, by go_num, Lib.hid (fun j hj => by
            by_cases h : j = k
            · subst h; rw [← hx.out, ← ho.out]
            · exact HI.out j (by omega)), HB5⟩
end Go.Proofs.YthcgalpabjjkoaaDoor

/- XDelF12: slices.DeleteFunc of points: what lies in the range stays. -/
namespace Go.Proofs.YthcgalpabjjkoaaDoor
open Go.RowKit
set_option linter.unusedVariables false
set_option maxRecDepth 100000

theorem own_setP {w : World} {base g n cap : Nat} {V : List Pn} (h : w.ownsRow base 29 4 (.slice (some ⟨g, 0, none⟩) n cap) n (V.flatMap Pn.cells)) (k : Nat) (u : Pn) (hk : k < V.length) :
    ((((w.setCell ⟨g, k * 4, none⟩ (.int .i64 u.t)).setCell ⟨g, k * 4 + 1, none⟩ (.int .i64 u.v.k)).setCell ⟨g, k * 4 + 2, none⟩ (.int .u64 (u.v.b : Int))).setCell ⟨g, k * 4 + 3, none⟩ (.string u.v.t)).ownsRow base 29 4 (.slice (some ⟨g, 0, none⟩) n cap) n ((V.set k u).flatMap Pn.cells) := by
  have h1 := (h.stored (k * 4) (.int .i64 u.t)).1
  have h2 := (h1.stored (k * 4 + 1) (.int .i64 u.v.k)).1
  have h3 := (h2.stored (k * 4 + 2) (.int .u64 (u.v.b : Int))).1
  have h4 := (h3.stored (k * 4 + 3) (.string u.v.t)).1
  rw [set4_flat u V k hk] at h4
  exact h4
theorem chg_set4 {w : World} (g o : Nat) (v0 v1 v2 v3 : Value) : Chg (fun q => q = g) w ((((w.setCell ⟨g, o, none⟩ v0).setCell ⟨g, o + 1, none⟩ v1).setCell ⟨g, o + 2, none⟩ v2).setCell ⟨g, o + 3, none⟩ v3) :=
  (((((Chg.refl (fun q => q = g) w).setCell (p := ⟨g, o, none⟩) (fun _ => rfl) v0).setCell (p := ⟨g, o + 1, none⟩) (fun _ => rfl) v1).setCell (p := ⟨g, o + 2, none⟩) (fun _ => rfl) v2).setCell (p := ⟨g, o + 3, none⟩) (fun _ => rfl) v3)
theorem chg_setCells (g : Nat) : ∀ (vs : List Value) (o : Nat) (w : World), Chg (fun q => q = g) w (w.setCells g o vs)
  | [], _, w => Chg.refl _ w
  | v :: r, o, w => ((Chg.refl (fun q => q = g) w).setCell (p := ⟨g, o, none⟩) (fun _ => rfl) v).trans (chg_setCells g r (o + 1) _)
theorem own_getP {w : World} {base g n cap : Nat} {V : List Pn} (h : w.ownsRow base 29 4 (.slice (some ⟨g, 0, none⟩) n cap) n (V.flatMap Pn.cells)) (k : Nat) (hk : k < V.length) (hn : V.length = n) :
    w.cell? ⟨g, k * 4, none⟩ = some (.int .i64 (V.getD k p0).t) ∧ w.cell? ⟨g, k * 4 + 1, none⟩ = some (.int .i64 (V.getD k p0).v.k) ∧ w.cell? ⟨g, k * 4 + 2, none⟩ = some (.int .u64 ((V.getD k p0).v.b : Int)) ∧ w.cell? ⟨g, k * 4 + 3, none⟩ = some (.string (V.getD k p0).v.t) := by
  have e0 := flat_at Pn.cells 4 (fun _ => rfl) V k hk 0 (by omega)
  have e1 := flat_at Pn.cells 4 (fun _ => rfl) V k hk 1 (by omega)
  have e2 := flat_at Pn.cells 4 (fun _ => rfl) V k hk 2 (by omega)
  have e3 := flat_at Pn.cells 4 (fun _ => rfl) V k hk 3 (by omega)
  rw [getD_get V k p0 hk]
  refine ⟨?_, ?_, ?_, ?_⟩
  · rw [h.cellAt (k * 4) (by omega)]; exact e0
  · rw [h.cellAt (k * 4 + 1) (by omega)]; exact e1
  · rw [h.cellAt (k * 4 + 2) (by omega)]; exact e2
  · rw [h.cellAt (k * 4 + 3) (by omega)]; exact e3
/-- What the cut slice reads as, behind the clear of the rest. -/
theorem own_front {w w' : World} {base g n cap i : Nat} {V : List Pn} (h : w.ownsRow base 29 4 (.slice (some ⟨g, 0, none⟩) n cap) n (V.flatMap Pn.cells)) (hV : V.length = n) (hi : i ≤ n) (hs : w.heap.size ≤ w'.heap.size)
    (hc : ∀ x, x < i * 4 → w'.cell? ⟨g, x, none⟩ = w.cell? ⟨g, x, none⟩) {q : List Pn} (hq : q = V.take i) : Pns w' (.slice (some ⟨g, 0, none⟩) q.length cap) q := by
  have hl : q.length = i := by rw [hq, List.length_take]; omega
  obtain ⟨_, _, he, hnc, hcm⟩ := RdV.shape (RdV.ofOwns h)
  simp only [Value.slice.injEq, true_and] at he
  obtain ⟨rfl, rfl⟩ := he
  have hfl : ∀ l : List Pn, (l.flatMap Pn.cells).length = l.length * 4 := fun l => by
    induction l with
    | nil => rfl
    | cons x l ih => rw [List.flatMap_cons, List.length_append, ih, List.length_cons]; show 4 + _ = _; omega
  refine ⟨by rw [hfl], some ⟨g, 0, none⟩, cap, rfl, by omega, hcm, (fun h => by cases h), fun a ha j u hu => ?_⟩
  cases ha
  have hj : j < i * 4 := by have := (List.getElem?_eq_some_iff.1 hu).1; rw [hfl, hl] at this; exact this
  have hgl := (World.ownsRow.lt h g rfl).2
  refine ⟨rfl, Nat.lt_of_lt_of_le hgl hs, ?_⟩
  rw [Nat.zero_add, hc j hj, h.cellAt j (by omega)]
  have e : V.flatMap Pn.cells = (V.take i).flatMap Pn.cells ++ (V.drop i).flatMap Pn.cells := by rw [← List.flatMap_append, List.take_append_drop]
  rw [e, List.getElem?_append_left (by rw [hfl, ← hq, hl]; exact hj), ← hq]
  exact hu
/-- The points that a Delete leaves, step by step. -/
theorem keep_step {p V : List Pn} {f : Pn → Bool} {i j : Nat} (hV : V.length = p.length) (hj : j < p.length) (hij : i < j) (h1 : V.take i = (p.take j).filter f) (h2 : V.drop j = p.drop j) :
    V.getD j p0 = p.getD j p0 ∧ (f (p.getD j p0) = false → V.take i = (p.take (j + 1)).filter f ∧ V.drop (j + 1) = p.drop (j + 1)) ∧
      (f (p.getD j p0) = true → (V.set i (p.getD j p0)).take (i + 1) = (p.take (j + 1)).filter f ∧ (V.set i (p.getD j p0)).drop (j + 1) = p.drop (j + 1)) := by
  have hd : V[j]? = p[j]? := by
    have := congrArg (fun l => l[0]?) h2
    simpa using this
  have ht : (p.take (j + 1)).filter f = (p.take j).filter f ++ (if f (p.getD j p0) = true then [p.getD j p0] else []) := by
    rw [List.take_add_one, List.getElem?_eq_getElem hj, getD_get p j p0 hj, List.filter_append]
    congr 1
    simp only [Option.toList_some, List.filter_cons, List.filter_nil]
  have hd2 : V.drop (j + 1) = p.drop (j + 1) := by
    have := congrArg (List.drop 1) h2
    rw [List.drop_drop, List.drop_drop] at this
    exact this
  refine ⟨by rw [List.getD_eq_getElem?_getD, List.getD_eq_getElem?_getD, hd], fun hf => ⟨by rw [ht, hf, h1]; simp, hd2⟩, fun hf => ⟨?_, ?_⟩⟩
  · rw [ht, hf, if_pos rfl, List.take_add_one, List.getElem?_set_self (by omega), List.take_set_of_le (by omega), h1]
    rfl
  · rw [List.drop_set_of_lt (by omega), hd2]
theorem run_clear_pn (w : World) (g o n c : Nat) (hn : 0 < n) (hc : ∀ j, j < n * 4 → (w.cell? ⟨g, o + j, none⟩).isSome = true) (hf : ∀ j, j < n * 4 → w.frozen? ⟨g, o + j, none⟩ = false) :
    ∃ Z : List Value, ∀ ty : TypeId, (Builtin.clear_ #[24] ty #[.slice (some ⟨g, o, none⟩) n c]).run Tryd.prog w = .ok (.tuple #[]) (w.setCells g o Z) := by
  obtain ⟨i, hi, hz, hsize, hby⟩ := info_parts infoPn
  have hzv : ∀ w : World, (zeroValue 29).run Tryd.prog w = .ok (.agg #[.int .i64 0, .int .i64 0, .int .u64 0, .string .empty]) w := fun w => by
    simp [zeroValue, typeInfo, hi, hz]
  have hzs : ((Value.agg #[.int .i64 0, .int .i64 0, .int .u64 0, .string .empty]).cells).size = 4 := rfl
  have hlen : (Builtin.zeroCells (Value.agg #[.int .i64 0, .int .i64 0, .int .u64 0, .string .empty]).cells n).toList.length = n * 4 := by
    simp [Builtin.zeroCells, hzs]
  have hone : ∀ v ∈ (Builtin.zeroCells (Value.agg #[.int .i64 0, .int .i64 0, .int .u64 0, .string .empty]).cells n).toList, v.oneCell' = true := by
    intro v hv
    simp only [Builtin.zeroCells, Array.toList_map, List.mem_map] at hv
    obtain ⟨k, _, rfl⟩ := hv
    rw [hzs]
    have h4 : k % 4 < 4 := Nat.mod_lt _ (by decide)
    have : k % 4 = 0 ∨ k % 4 = 1 ∨ k % 4 = 2 ∨ k % 4 = 3 := by omega
    rcases this with e | e | e | e <;> rw [e] <;> rfl
  have hst := run_storeCells_cells (P := Tryd.prog) g o (Builtin.zeroCells (Value.agg #[.int .i64 0, .int .i64 0, .int .u64 0, .string .empty]).cells n).toList 0 w (by rw [hlen]; simpa using hc) (by rw [hlen]; simpa using hf) hone
  simp only [Nat.add_zero] at hst
  obtain ⟨m, rfl⟩ : ∃ m, n = m + 1 := ⟨n - 1, by omega⟩
  refine ⟨(Builtin.zeroCells (Value.agg #[.int .i64 0, .int .i64 0, .int .u64 0, .string .empty]).cells (m + 1)).toList, fun ty => ?_⟩
  simp [Builtin.clear_, run_underlying Tryd.underlying24, hzv, hst]

set_option maxHeartbeats 4000000 in
theorem deleteF_any (p : List Pn) (g cap : Nat) (bf bt : Nat) (a b : Int) (B : Nat) (w : World) (h1 : 1 ≤ p.length) (hl : p.length ≤ 1000000) (ho : OwnP w B (.slice (some ⟨g, 0, none⟩) p.length cap) p) (hg : Rg w bf bt a b) (hne1 : bf ≠ g) (hne2 : bt ≠ g) :
    Calls Tryd.prog 30 #[.slice (some ⟨g, 0, none⟩) p.length cap, .func (.func 31) #[] #[.pointer (some ⟨bf, 0, none⟩), .pointer (some ⟨bt, 0, none⟩)]] w fun e w' => e = .returned (.slice (some ⟨g, 0, none⟩) (p.filter (inR a b)).length cap) ∧
      Chg (fun q => q = g) w w' ∧ Pns w' (.slice (some ⟨g, 0, none⟩) (p.filter (inR a b)).length cap) (p.filter (inR a b)) := by
  have hI := indexF_any p (.slice (some ⟨g, 0, none⟩) p.length cap) bf bt a b w hl ho.pns hg
  obtain ⟨_, _, he, hnc, hcm⟩ := RdV.shape ho.pns
  simp only [Value.slice.injEq, true_and] at he
  obtain ⟨rfl, rfl⟩ := he
  have HO := Lib.hid ho
  have HG := Lib.hid hg
  have hgl : g < w.heap.size := (World.ownsRow.lt ho g rfl).2
  obtain ⟨n, hnl⟩ : ∃ n, n = p.length := ⟨_, rfl⟩
  rw [← hnl] at hnc hl h1 hI ⊢
  have HN := Lib.hid hnl
  clear ho hg hnl
  unfold maxLen at hcm
  go_enter Tryd.func30, Tryd.ntmps30
  go_upto_region 2 with (go_at_call 48; refine hI.mono ?_; rintro _ w1 ⟨r, rfl, hb1, hr1⟩; have HB1 := Lib.hid hb1; have HR1 := Lib.hid hr1; clear hb1 hr1 hI)
  rcases HR1.out with ⟨rfl, hall⟩ | ⟨i0, rfl, hi0, hno, hall⟩
  · have hfl : p.filter (inR a b) = p := List.filter_eq_self.2 (fun x hx => by
      obtain ⟨k, hk, rfl⟩ := List.getElem_of_mem hx
      have := hall k (by rw [HN.out]; exact hk)
      rwa [getD_get p k p0 hk] at this)
    have HFL := Lib.hid hfl
    clear hall hfl HR1
    go_wp2_with fail
    go_ret
    rw [HFL.out, ← HN.out]
    refine ⟨rfl, Chg.ofBelowAny HB1.out, ?_⟩
    rw [HN.out]
    exact RdV.below HO.out.pns HB1.out
  · have HI0 := Lib.hid hi0
    have HNO := Lib.hid hno
    have HALL := Lib.hid hall
    clear HR1 hno hall
    have hi0I : ¬ ((i0 : Int) = -1) := by omega
    have hi0B : ((i0 : Int) == -1) = false := beq_eq_false_iff_ne.2 hi0I
    go_upto_region 5 with fail
    have HST : Hid (p.take i0 = (p.take (i0 + 1)).filter (inR a b)) := Lib.hid (by
      have hil : i0 < p.length := by rw [← HN.out]; exact hi0
      rw [List.take_add_one, List.getElem?_eq_getElem hil, List.filter_append]
      have e1 : (p.take i0).filter (inR a b) = p.take i0 := List.filter_eq_self.2 (fun x hx => by
        obtain ⟨k, hk, rfl⟩ := List.getElem_of_mem hx
        rw [List.length_take] at hk
        have h := HALL.out k (by omega)
        rw [getD_get p k p0 (by omega)] at h
        rw [List.getElem_take]
        exact h)
      have e2 := HNO.out
      rw [getD_get p i0 p0 hil] at e2
      rw [e1]
      simp [e2])
    have HO1 : Hid (w1.ownsRow B 29 4 (.slice (some ⟨g, 0, none⟩) n cap) n (p.flatMap Pn.cells)) := Lib.hid (by have h := OwnP.below HO.out HB1.out; unfold OwnP at h; rw [← HN.out] at h; exact h)
    have HC1 : Hid (Chg (fun q => q = g) w w1) := Lib.hid (Chg.ofBelowAny HB1.out)
    go_loopg [5, 6] (n - (i0 + 1)) (fun m s5 s6 wz => ∃ (i j : Nat) (V : List Pn), j + m = n ∧ i < j ∧ s5 = .int .i64 (i : Int) ∧ s6 = .int .i64 (j : Int) ∧ Hid (V.length = n) ∧ Hid (V.take i = (p.take j).filter (inR a b)) ∧ Hid (V.drop j = p.drop j) ∧ Hid (wz.ownsRow B 29 4 (.slice (some ⟨g, 0, none⟩) n cap) n (V.flatMap Pn.cells)) ∧ Hid (Chg (fun q => q = g) w wz))
    case atStart => exact ⟨i0, i0 + 1, p, by omega, by omega, rfl, by go_num, Lib.hid HN.out.symm, HST, Lib.hid rfl, HO1, HC1⟩
    case round =>
      clear HO1 HC1 hi0I hi0B
      obtain ⟨i, j, V, hj, hij, rfl, rfl, HVL, HVT, HVD, HOV, HC⟩ := hrel
      by_cases h0 : gk = 0
      · obtain rfl : j = n := by omega
        clear hj h0
        obtain ⟨Z, hcl⟩ := run_clear_pn wr g (i * 4) (j - i) (cap - i) (by omega) (fun x hx => by
          rw [HOV.out.cellAt (i * 4 + x) (by omega), List.getElem?_eq_getElem (by have h := HOV.out.1; rw [h]; omega)]; rfl) (fun x hx => HOV.out.frozenAt (i * 4 + x))
        have hcap : i ≤ cap := by omega
        have hne : cap ≠ i := by omega
        go_wp2_with fail
        go_ret
        have HFL : p.filter (inR a b) = V.take i := by rw [HVT.out, List.take_of_length_le (by rw [HN.out]; exact Nat.le_refl _)]
        have hcs := chg_setCells g Z (i * 4) wr
        refine ⟨?_, HC.out.trans hcs, own_front HOV.out HVL.out (by omega) hcs.size (fun x hx => World.cell?_setCells_out g Z (i * 4) wr ⟨g, x, none⟩ (fun _ _ => .inl hx)) HFL⟩
        rw [HFL, List.length_take, HVL.out, Nat.min_eq_left (by omega)]
        rfl
      · have hjn : j < n := by omega
        have hjp : j < p.length := by rw [← HN.out]; exact hjn
        obtain ⟨hst0, hst1, hst2⟩ := keep_step (p := p) (V := V) (f := inR a b) (by rw [HVL.out, HN.out]) hjp hij HVT.out HVD.out
        obtain ⟨g0, g1, g2, g3⟩ := own_getP HOV.out j (by rw [HVL.out]; exact hjn) HVL.out
        rw [hst0] at g0 g1 g2 g3
        have HS1 := Lib.hid hst1
        have HS2 := Lib.hid hst2
        clear hst0 hst1 hst2
        generalize p.getD j p0 = u at *
        obtain ⟨pt, ⟨pk, pb, px⟩⟩ := u
        dsimp only at g0 g1 g2 g3
        go_upto_region 8 with fail
        have hb2 : Below wr.heap.size wr (wr.alloc (.cells #[.int .i64 pt, .int .i64 pk, .int .u64 (pb : Int), .string px] 29)) := (Below.refl _ _).alloc (Nat.le_refl _) _
        have m0 : (wr.alloc (.cells #[.int .i64 pt, .int .i64 pk, .int .u64 (pb : Int), .string px] 29)).cell? ⟨wr.heap.size, 0, none⟩ = some (.int .i64 pt) := by simp [go_sem]
        have m1 : (wr.alloc (.cells #[.int .i64 pt, .int .i64 pk, .int .u64 (pb : Int), .string px] 29)).cell? ⟨wr.heap.size, 1, none⟩ = some (.int .i64 pk) := by simp [go_sem]
        have m2 : (wr.alloc (.cells #[.int .i64 pt, .int .i64 pk, .int .u64 (pb : Int), .string px] 29)).cell? ⟨wr.heap.size, 2, none⟩ = some (.int .u64 (pb : Int)) := by simp [go_sem]
        have m3 : (wr.alloc (.cells #[.int .i64 pt, .int .i64 pk, .int .u64 (pb : Int), .string px] 29)).cell? ⟨wr.heap.size, 3, none⟩ = some (.string px) := by simp [go_sem]
        have ml : wr.heap.size < (wr.alloc (.cells #[.int .i64 pt, .int .i64 pk, .int .u64 (pb : Int), .string px] 29)).heap.size := by simp
        have HG2 := Lib.hid ((HG.out.chg HC.out hne1 hne2).below hb2)
        have HO2 := Lib.hid (World.ownsRow.alloc HOV.out (.cells #[.int .i64 pt, .int .i64 pk, .int .u64 (pb : Int), .string px] 29))
        have HC2 := Lib.hid (HC.out.trans (Chg.ofBelowAny (S := fun q => q = g) hb2))
        clear hb2 g0 g1 g2 g3 HOV HC
        generalize wr.alloc (.cells #[.int .i64 pt, .int .i64 pk, .int .u64 (pb : Int), .string px] 29) = w2 at *
        generalize wr.heap.size = ga at *
        have hO := out_any ⟨pt, ⟨pk, pb, px⟩⟩ bf bt a b w2 HG2.out.f HG2.out.t HG2.out.lf HG2.out.lt
        dsimp only at hO
        obtain ⟨o, ho⟩ : ∃ o, o = inR a b ⟨pt, ⟨pk, pb, px⟩⟩ := ⟨_, rfl⟩
        rw [← ho] at hO
        rw [← ho] at HS1 HS2
        clear ho
        cases o with
        | false =>
          have HT1 := Lib.hid (HS1.out rfl)
          clear HS1 HS2
          go_wp2_with (go_at_call 31; refine hO.mono ?_; rintro _ w5 ⟨rfl, hb5⟩; have HC5 := Lib.hid (HC2.out.trans (Chg.ofBelowAny (S := fun q => q = g) hb5)); have HO5 := Lib.hid ((Chg.ofBelowAny (S := fun _ => False) hb5).owns HO2.out (fun _ _ h => h)); clear hb5 hO)
          go_roundg (gk - 1)
          case measure => go_light; omega
          case rel =>
            go_light
            exact ⟨i, j + 1, V, by omega, by omega, rfl, by go_num, HVL, Lib.hid HT1.out.1, Lib.hid HT1.out.2, HO5, HC5⟩
        | true =>
          have HT1 := Lib.hid (HS2.out rfl)
          clear HS1 HS2
          go_upto_region 9 with (go_at_call 31; refine hO.mono ?_; rintro _ w5 ⟨rfl, hb5⟩; have HC5 := Lib.hid (HC2.out.trans (Chg.ofBelowAny (S := fun q => q = g) hb5)); have HO5 := Lib.hid ((Chg.ofBelowAny (S := fun _ => False) hb5).owns HO2.out (fun _ _ h => h)); have n0 := (hb5.cell (p := ⟨ga, 0, none⟩) ml).trans m0; have n1 := (hb5.cell (p := ⟨ga, 1, none⟩) ml).trans m1; have n2 := (hb5.cell (p := ⟨ga, 2, none⟩) ml).trans m2; have n3 := (hb5.cell (p := ⟨ga, 3, none⟩) ml).trans m3; clear hb5 hO)
          obtain ⟨e0, e1, e2, e3⟩ := own_getP HO5.out i (by rw [HVL.out]; omega) HVL.out
          have f0 := HO5.out.frozenAt (i * 4)
          have f1 := HO5.out.frozenAt (i * 4 + 1)
          have f2 := HO5.out.frozenAt (i * 4 + 2)
          have f3 := HO5.out.frozenAt (i * 4 + 3)
          have HO6 := Lib.hid (own_setP HO5.out i ⟨pt, ⟨pk, pb, px⟩⟩ (by rw [HVL.out]; omega))
          have HC6 := Lib.hid (HC5.out.trans (chg_set4 g (i * 4) (.int .i64 pt) (.int .i64 pk) (.int .u64 (pb : Int)) (.string px)))
          go_wp2_with fail
          go_roundg (gk - 1)
          case measure => go_light; omega
          case rel =>
            go_light
            exact ⟨i + 1, j + 1, V.set i ⟨pt, ⟨pk, pb, px⟩⟩, by omega, by omega, by go_num, by go_num, Lib.hid (by rw [List.length_set, HVL.out]), Lib.hid HT1.out.1, Lib.hid HT1.out.2, HO6, HC6⟩
end Go.Proofs.YthcgalpabjjkoaaDoor
