/- Texts of ours, behind one another: PackPlain, Widths, Take, PackPack, PkOut, RPack04, UnPlain, UnMem, Un04, RUn04. No conditions but those that each states. -/
import Derived.Test.YthcgalpabjjkoaaDoorG1
import Derived.Laws.Rows
import Derived.Deep.WholeRow
import Derived.BigRegion
import Derived.Deep.RegionHeld3
/- XPackPlain: What pack.Pack gives, in plain words. -/
namespace Go.Proofs.YthcgalpabjjkoaaDoor
set_option linter.unusedVariables false

def wds : List Nat := [1, 2, 3, 4, 5, 6, 7, 8, 10, 12, 15, 20, 30, 60]
def fitsB (l : List Nat) (w : Nat) : Bool := l.all fun x => decide (x < 2 ^ w)
/-- The first width in which the next numbers find room. -/
def takeF (l : List Nat) : Nat → List Nat → Option (Nat × Nat)
  | _, [] => none
  | s, w :: r => if fitsB (l.take (60 / w)) w = true then some (s, w) else takeF l (s + 1) r
def takeS (l : List Nat) : Option (Nat × Nat) := takeF l 0 wds
/-- The word behind the first i numbers. -/
def wordT (w s : Nat) (l : List Nat) : Nat → Nat
  | 0 => s * 2 ^ 60 % 18446744073709551616
  | i + 1 => wordT w s l i ||| (l.getD i 0 * 2 ^ (i * w) % 18446744073709551616)
def wordN (w s : Nat) (l : List Nat) : Nat := wordT w s l (min (60 / w) l.length)

theorem wordT_lt (w s : Nat) (l : List Nat) : ∀ i, wordT w s l i < 18446744073709551616
  | 0 => Nat.mod_lt _ (by decide)
  | i + 1 => by
    have h1 := wordT_lt w s l i
    have h2 : l.getD i 0 * 2 ^ (i * w) % 18446744073709551616 < 18446744073709551616 := Nat.mod_lt _ (by decide)
    exact Nat.or_lt_two_pow (n := 64) h1 h2

theorem wds_get (s : Nat) (h : s < 14) : 1 ≤ wds.getD s 0 ∧ wds.getD s 0 ≤ 60 := by
  have : ∀ s : Fin 14, 1 ≤ wds.getD s.val 0 ∧ wds.getD s.val 0 ≤ 60 := by decide
  exact this ⟨s, h⟩
theorem wds_drop (s : Nat) (h : s < 14) : wds.drop s = wds.getD s 0 :: wds.drop (s + 1) := by
  have : ∀ s : Fin 14, wds.drop s.val = wds.getD s.val 0 :: wds.drop (s.val + 1) := by decide
  exact this ⟨s, h⟩

theorem takeF_step (l : List Nat) (s : Nat) (h : s < 14) : takeF l s (wds.drop s) = if fitsB (l.take (60 / wds.getD s 0)) (wds.getD s 0) = true then some (s, wds.getD s 0) else takeF l (s + 1) (wds.drop (s + 1)) := by
  rw [wds_drop s h]; rfl

theorem takeF_some {l : List Nat} : ∀ (r : List Nat) (s0 s w : Nat), r = wds.drop s0 → takeF l s0 r = some (s, w) → s < 14 ∧ w = wds.getD s 0 ∧ fitsB (l.take (60 / w)) w = true
  | [], s0, s, w, _, h => by simp [takeF] at h
  | x :: r, s0, s, w, he, h => by
    have h14 : s0 < 14 := by
      have := congrArg List.length he
      simp [wds] at this
      omega
    rw [wds_drop s0 h14] at he
    injection he with h1 h2
    unfold takeF at h
    split at h
    · simp at h
      obtain ⟨rfl, rfl⟩ := h
      exact ⟨h14, h1, by assumption⟩
    · exact takeF_some r (s0 + 1) s w h2 h
theorem takeS_some {l : List Nat} {s w : Nat} (h : takeS l = some (s, w)) : s < 14 ∧ w = wds.getD s 0 ∧ fitsB (l.take (60 / w)) w = true := takeF_some wds 0 s w rfl h

/-- None: just if the first number is too great. -/
theorem takeS_none {x : Nat} {r : List Nat} : takeS (x :: r) = none ↔ ¬ x < 2 ^ 60 := by
  constructor
  · intro h hx
    have key : ∀ (n s : Nat), s + n = 14 → takeF (x :: r) s (wds.drop s) = none → n = 0 := by
      intro n
      induction n with
      | zero => intro s _ _; rfl
      | succ n ih =>
        intro s hs hn
        have h14 : s < 14 := by omega
        rw [takeF_step _ s h14] at hn
        split at hn
        · cases hn
        · have := ih (s + 1) (by omega) hn
          have hs13 : s = 13 := by omega
          subst hs13
          rename_i hf
          exfalso
          apply hf
          simp [fitsB, wds, hx]
    have := key 14 0 rfl h
    omega
  · intro hx
    have key : ∀ (n s : Nat), s + n = 14 → takeF (x :: r) s (wds.drop s) = none := by
      intro n
      induction n with
      | zero => intro s hs; obtain rfl : s = 14 := by omega
                rfl
      | succ n ih =>
        intro s hs
        have h14 : s < 14 := by omega
        rw [takeF_step _ s h14, if_neg, ih (s + 1) (by omega)]
        intro hf
        have hw := wds_get s h14
        have hc : 1 ≤ 60 / wds.getD s 0 := by
          have : wds.getD s 0 ≤ 60 := hw.2
          exact (Nat.one_le_div_iff (by omega)).2 this
        obtain ⟨c, hc2⟩ : ∃ c, 60 / wds.getD s 0 = c + 1 := ⟨60 / wds.getD s 0 - 1, by omega⟩
        rw [hc2] at hf
        simp only [fitsB, List.take_succ_cons, List.all_cons, Bool.and_eq_true, decide_eq_true_eq] at hf
        have : 2 ^ wds.getD s 0 ≤ 2 ^ 60 := Nat.pow_le_pow_right (by omega) hw.2
        omega
    exact key 14 0 rfl

/-- What is packed; none: refused. -/
def packL : Nat → List Nat → Option (List UInt8)
  | 0, _ => some []
  | f + 1, l => if l = [] then some [] else match takeS l with
    | none => none
    | some (s, w) => (packL f (l.drop (min (60 / w) l.length))).map fun b => be8 (wordN w s l) ++ b

end Go.Proofs.YthcgalpabjjkoaaDoor

/- XWidths: The widths of pack: an array that is given back by value. -/
namespace Go.Proofs.YthcgalpabjjkoaaDoor
open Go.RowKit
set_option linter.unusedVariables false

def wArr : Array Value := #[.int .i64 1, .int .i64 2, .int .i64 3, .int .i64 4, .int .i64 5, .int .i64 6, .int .i64 7, .int .i64 8, .int .i64 10, .int .i64 12, .int .i64 15, .int .i64 20, .int .i64 30, .int .i64 60]

set_option maxHeartbeats 2000000 in
set_option maxRecDepth 100000 in
theorem widths_any (w : World) :
    Calls Tryd.prog 75 #[] w fun e w' => e = .returned (.agg wArr) ∧ w' = w.alloc (.cells wArr 120) := by
  go_enter Tryd.func75, Tryd.ntmps75
  go_wp2
  refine bodyPost_ret (v := .agg wArr) ?_ rfl ⟨rfl, rfl⟩
  simp [results, wArr, Tryd.results75, go_sem]
end Go.Proofs.YthcgalpabjjkoaaDoor

/- XTake: The contract of pack.take. -/
namespace Go.Proofs.YthcgalpabjjkoaaDoor
open Go.RowKit
set_option linter.unusedVariables false

def uV (x : Nat) : Value := .int .u64 (x : Int)
/-- A slice of numbers. -/
def Nums (w : World) (v : Value) (l : List Nat) : Prop := RdV w 1 v l.length (l.map uV)

theorem num_at {w : World} {v : Value} {l : List Nat} (h : Nums w v l) (i : Nat) (hi : i < l.length) :
    ∃ b off cap, v = .slice (some ⟨b, off, none⟩) l.length cap ∧ b < w.heap.size ∧ w.cell? ⟨b, off + i, none⟩ = some (.int .u64 (l.getD i 0 : Nat)) := by
  obtain ⟨b, off, cap, rfl, _, _, hb, hc⟩ := RdV.some h (by omega) (by decide)
  exact ⟨b, off, cap, rfl, hb, by have := hc i (uV l[i]) (by simp [hi]); simpa [uV, hi] using this⟩

def takeR (l : List Nat) : Int × Int := match takeS l with | some (s, w) => (s, ((min (60 / w) l.length : Nat) : Int)) | none => (-1, 0)

theorem most_next (l : List Nat) (j M : Nat) (hj : j < l.length) (h : ∀ w, M ≤ w ↔ fitsB (l.take j) w = true) : ∀ w, max M (bl (l.getD j 0)) ≤ w ↔ fitsB (l.take (j + 1)) w = true := by
  intro w
  have e : l.getD j 0 = l[j] := by simp [hj]
  rw [e]
  have h1 := h w
  unfold fitsB at h1 ⊢
  rw [List.take_succ_eq_append_getElem hj, List.all_append, Bool.and_eq_true, ← h1]
  simp only [List.all_cons, List.all_nil, Bool.and_true, decide_eq_true_eq]
  rw [← bl_le]
  omega

theorem bl_le64 (v : Nat) (h : v < 18446744073709551616) : bl v ≤ 64 := by rw [bl_le]; exact h

theorem tdiv60 (W : Nat) : (60 : Int).tdiv (W : Int) = ((60 / W : Nat) : Int) := by
  rw [Int.tdiv_eq_ediv_of_nonneg (by omega)]; simp

set_option maxHeartbeats 2000000 in
set_option maxRecDepth 100000 in
theorem take_any (l : List Nat) (v : Value) (w : World) (hl : l.length ≤ 140737488355328) (hx : ∀ x ∈ l, x < 18446744073709551616) (hr : Nums w v l) :
    Calls Tryd.prog 76 #[v] w fun e w' => e = .returned (.tuple #[.int .i64 (takeR l).1, .int .i64 (takeR l).2]) ∧ Below w.heap.size w w' := by
  obtain ⟨ao0, cap0, rfl, hnc, hcm⟩ := RdV.shape hr
  unfold maxLen at hcm
  have hidx : ∀ (s : Nat) (w : World), s < 14 → (Instr.index 120 (.agg wArr) (.int .i64 (s : Int))).run Tryd.prog w = .ok (.int .i64 (wds.getD s 0 : Nat)) w := by
    intro s w hs
    have hcase : s = 0 ∨ s = 1 ∨ s = 2 ∨ s = 3 ∨ s = 4 ∨ s = 5 ∨ s = 6 ∨ s = 7 ∨ s = 8 ∨ s = 9 ∨ s = 10 ∨ s = 11 ∨ s = 12 ∨ s = 13 := by omega
    rcases hcase with rfl | rfl | rfl | rfl | rfl | rfl | rfl | rfl | rfl | rfl | rfl | rfl | rfl | rfl <;> rfl
  go_enter Tryd.func76, Tryd.ntmps76
  go_upto_region 1 with (fail)
  go_wp2_with (refine Calls.mono (widths_any _) ?_; rintro _ _ ⟨rfl, rfl⟩)
  generalize wArr = A at *
  go_loopg [11] 14 (fun m s11 wr => ∃ s : Nat, s + m = 14 ∧ s11 = .int .i64 (s : Int) ∧ Hid (takeF l s (wds.drop s) = takeS l) ∧ Hid (Below w.heap.size w wr))
  case atStart => exact ⟨0, rfl, rfl, Lib.hid rfl, Lib.hid ((Below.refl _ _).alloc (Nat.le_refl _) _)⟩
  case round =>
    obtain ⟨s, hm, rfl, hT, hB⟩ := hrel
    by_cases h0 : gk = 0
    · obtain rfl : s = 14 := by omega
      go_wp2_with fail
      go_ret2
      refine ⟨?_, hB.out⟩
      have h := hT.out
      have e : takeF l 14 (List.drop 14 wds) = none := rfl
      rw [e] at h
      simp only [takeR, ← h]
      rfl
    · have hs : s < 14 := by omega
      have hI := hidx s wr hs
      have hW := wds_get s hs
      have hTS := Lib.hid (takeF_step l s hs)
      clear hidx
      obtain ⟨W, hWe⟩ : ∃ W, W = wds.getD s 0 := ⟨_, rfl⟩
      rw [← hWe] at hI hW hTS
      obtain ⟨q, hqe⟩ : ∃ q, q = 60 / W := ⟨_, rfl⟩
      rw [← hqe] at hTS
      have hQ : wrap64 (Int.tdiv 60 (W : Int)) = (q : Int) := by
        rw [tdiv60, ← hqe, ← IntWalk.i64_left]
        exact IntWalk.i64_in _ (by have : 60 / W ≤ 60 := Nat.div_le_self _ _; omega)
      have hq1 : q ≤ 60 := by rw [hqe]; exact Nat.div_le_self _ _
      have hW0 : ¬ W = 0 := by omega
      obtain ⟨n, hne⟩ : ∃ n, n = min q l.length := ⟨_, rfl⟩
      have hnl : n ≤ l.length := by omega
      have HNE := Lib.hid hne
      have HWE := Lib.hid hWe
      have HQE := Lib.hid hqe
      clear hWe hqe
      go_upto_region 4 with (fail)
      go_cut [6] (fun s6 wx => s6 = .int .i64 (n : Int) ∧ wx = wr)
      case first =>
        have hmin : (if (l.length : Int) < (q : Int) then (l.length : Int) else (q : Int)) = (n : Int) := by split <;> omega
        clear hne
        go_wp2_with fail
        all_goals go_meet
        all_goals go_light
        all_goals (refine ⟨?_, rfl⟩; congr 1; have h1 := HNE.out; have h2 := HQE.out; clear HNE HQE; subst h2; have h3 : ((60 / W : Nat) : Int) = 60 / (W : Int) := (by simp); omega)
      case rest =>
      obtain ⟨rfl, rfl⟩ := hcut
      clear hne hQ hI
      obtain ⟨g0, hg0⟩ : ∃ g, g = gk := ⟨gk, rfl⟩
      rw [← hg0] at hm h0
      have HG0 := Lib.hid hg0
      clear hg0
      go_wp2_with fail
      go_loopg [7, 24] n (fun m s7 s24 wr => ∃ j M : Nat, j + m = n ∧ s24 = .int .i64 (j : Int) ∧ s7 = .int .i64 (M : Int) ∧ M ≤ 64 ∧ Hid (∀ w, M ≤ w ↔ fitsB (l.take j) w = true) ∧ Hid (Below w.heap.size w wr))
      case atStart => exact ⟨0, 0, by omega, rfl, rfl, by omega, Lib.hid (fun w => by simp [fitsB]), hB⟩
      case round =>
        clear hB
        obtain ⟨j, M, hj, rfl, rfl, hM, hF, hB⟩ := hrel
        by_cases h2 : gk = 0
        · obtain rfl : j = n := by omega
          clear hj
          have hF' : M ≤ W ↔ fitsB (l.take q) W = true := by
            have e : l.take j = l.take q := by
              have := HNE.out
              by_cases hc : q ≤ l.length
              · rw [show j = q by omega]
              · rw [List.take_of_length_le (by omega), List.take_of_length_le (by omega)]
            rw [← e]; exact hF.out W
          have HF := Lib.hid hF'
          clear hF'
          by_cases hMW : M ≤ W
          · have hMW' : (M : Int) ≤ (W : Int) := by omega
            go_wp2_with fail
            go_ret2
            go_light
            refine ⟨?_, hB.out⟩
            have h := hT.out
            rw [hTS.out, if_pos (HF.out.1 hMW)] at h
            simp only [takeR, ← h]
            rw [← HQE.out, ← HNE.out]
            rfl
          · have hMW' : ¬ (M : Int) ≤ (W : Int) := by omega
            go_wp2_with fail
            go_roundg (g0 - 1)
            case measure => go_light; have := HG0.out; omega
            case rel =>
              go_light
              refine ⟨s + 1, by omega, by go_num, ?_, hB⟩
              have h := hT.out
              rw [hTS.out, if_neg (fun h => hMW (HF.out.2 h))] at h
              exact Lib.hid h
        · have hjn : j < n := by omega
          have hN : Nums wr (.slice ao0 l.length cap0) l := RdV.below hr hB.out
          obtain ⟨b, off, cap, he, hb, hc⟩ := num_at hN j (by omega)
          simp only [Value.slice.injEq, true_and] at he
          obtain ⟨rfl, rfl⟩ := he
          have hv : l.getD j 0 < 18446744073709551616 := by
            have : j < l.length := by omega
            rw [show l.getD j 0 = l[j] by simp [this]]
            exact hx _ (List.getElem_mem this)
          have hF2 := Lib.hid (most_next l j M (by omega) hF.out)
          clear hF hN
          generalize l.getD j 0 = x at *
          have hL := len64_any x hv wr
          have hbl := bl_le64 x hv
          generalize bl x = X at *
          go_upto_region 9 with fail
          go_wp2_with (refine Calls.mono hL ?_; rintro _ _ ⟨rfl, rfl⟩)
          all_goals go_roundg (gk - 1)
          all_goals (try (case measure => go_light; omega))
          all_goals (try go_light)
          all_goals (refine ⟨j + 1, max M X, by omega, by go_num, ?_, by omega, hF2, hB⟩)
          all_goals (congr 1; omega)

end Go.Proofs.YthcgalpabjjkoaaDoor

/- XPackPack: pack.Pack: what it gives is packL. -/
namespace Go.Proofs.YthcgalpabjjkoaaDoor
open Go.RowKit
set_option linter.unusedVariables false

/-- What is packed, by the list alone. -/
def pkA (l : List Nat) : Option (List UInt8) := packL l.length l

theorem takeN_pos {l : List Nat} {s w : Nat} (h : takeS l = some (s, w)) (hl : l ≠ []) : 1 ≤ min (60 / w) l.length := by
  obtain ⟨hs, hw, _⟩ := takeS_some h
  have := wds_get s hs
  rw [← hw] at this
  have h1 : 1 ≤ 60 / w := (Nat.one_le_div_iff (by omega)).2 this.2
  have h2 : 0 < l.length := List.length_pos_iff.2 hl
  omega

theorem packL_fuel : ∀ (f g : Nat) (l : List Nat), l.length ≤ f → l.length ≤ g → packL f l = packL g l
  | 0, 0, l, _, _ => rfl
  | 0, g + 1, l, h, _ => by
    obtain rfl : l = [] := List.eq_nil_of_length_eq_zero (by omega)
    simp [packL]
  | f + 1, 0, l, _, h => by
    obtain rfl : l = [] := List.eq_nil_of_length_eq_zero (by omega)
    simp [packL]
  | f + 1, g + 1, l, h1, h2 => by
    unfold packL
    by_cases hl : l = []
    · rw [if_pos hl, if_pos hl]
    · rw [if_neg hl, if_neg hl]
      cases ht : takeS l with
      | none => rfl
      | some p =>
        obtain ⟨s, w⟩ := p
        have hp := takeN_pos ht hl
        have e : (l.drop (min (60 / w) l.length)).length = l.length - min (60 / w) l.length := by simp
        simp only
        rw [packL_fuel f g _ (by omega) (by omega)]

theorem pkA_nil : pkA [] = some [] := rfl
theorem pkA_none {l : List Nat} (hl : l ≠ []) (h : takeS l = none) : pkA l = none := by
  unfold pkA
  obtain ⟨n, hn⟩ : ∃ n, l.length = n + 1 := ⟨l.length - 1, by have := List.length_pos_iff.2 hl; omega⟩
  rw [hn]
  unfold packL
  rw [if_neg hl, h]
theorem pkA_some {l : List Nat} {s w : Nat} (hl : l ≠ []) (h : takeS l = some (s, w)) : pkA l = (pkA (l.drop (min (60 / w) l.length))).map fun b => be8 (wordN w s l) ++ b := by
  have hp := takeN_pos h hl
  have e : (l.drop (min (60 / w) l.length)).length = l.length - min (60 / w) l.length := by simp
  generalize hk : min (60 / w) l.length = k at *
  obtain ⟨n, hn⟩ : ∃ n, l.length = n + 1 := ⟨l.length - 1, by have := List.length_pos_iff.2 hl; omega⟩
  have e1 : pkA (l.drop k) = packL n (l.drop k) := packL_fuel _ _ _ (Nat.le_refl _) (by omega)
  rw [e1]
  unfold pkA
  rw [hn]
  have e2 : packL (n + 1) l = if l = [] then some [] else match takeS l with
    | none => none
    | some (s, w) => (packL n (l.drop (min (60 / w) l.length))).map fun b => be8 (wordN w s l) ++ b := rfl
  rw [e2, if_neg hl, h]
  simp only [hk]

theorem takeR_none {l : List Nat} (h : takeS l = none) : takeR l = (-1, 0) := by unfold takeR; rw [h]
theorem takeR_some {l : List Nat} {s w : Nat} (h : takeS l = some (s, w)) : takeR l = ((s : Int), ((min (60 / w) l.length : Nat) : Int)) := by unfold takeR; rw [h]

section
variable {P : Program}
/-- 'x[lo:]' as wpList_slice_rd, what reads in another world. -/
theorem wpList_slice_at (w0 w : World) {ops : Array Oper} {rest : List Oper} {o : Oper} {a : Act} {Q : Exit → Act → World → Prop} (hgd : o.guard = none) (x : Operand) (lo hi : Option Operand) (t : TypeId)
    (ho : o.op = .slice t x lo hi none) (e : TypeId) (size : Nat) (z : Value) (bytes : Nat) (ht : P.underlying t = some (.slice e)) (hinfo : (P.info? e).map (fun i => (i.zero, i.size, i.bytes)) = some (some z, size, bytes))
    (ao : Option Addr) (n cap : Nat) (xs : List Value) (hx : a.eval x = .slice ao n cap) (hr : RdV w0 size (.slice ao n cap) n xs) (l m : Nat)
    (hb : (Instr.sliceBounds true n cap (lo.map a.eval) (hi.map a.eval) none).run P w = .ok (l, m, cap) w) (hl : l ≤ m) (hm : m ≤ n)
    (h : ∀ ao' cap', RdV w0 size (.slice ao' (m - l) cap') (m - l) ((xs.drop (l * size)).take ((m - l) * size)) → (∀ k, (Value.slice ao' (m - l) cap').ownBlock = some k → (Value.slice ao n cap).ownBlock = some k) →
      wpList P ops Q rest (a.put o.dst (.slice ao' (m - l) cap')) w) : wpList P ops Q (o :: rest) a w := by
  obtain ⟨i, hi', hz, hsize, hby⟩ := info_parts hinfo
  have hrun : (Instr.sliceAt t (.slice ao n cap) (lo.map a.eval) (hi.map a.eval) none).run P w = .ok (.slice (if cap = l then ao else ao.map (·.add (l * size))) (m - l) (cap - l)) w := by
    simp only [Instr.sliceAt, Sem.run_bind, run_underlying ht, Result.andThen_ok, Instr.slice, hb, sizeOf, typeInfo]
    simp [hi', hsize]
  refine wpList_plain hgd fun K hK => ?_
  unfold Oper.wp execOp
  simp only [ho, hx, Option.map_none, Sem.run_bind, hrun, Result.andThen_ok]
  exact hK _ _ (h _ _ (hr.cut l m hl hm) (fun k hk => cut_block k hk n cap))

end

theorem infoU64 : (Tryd.prog.info? 25).map (fun i => (i.zero, i.size, i.bytes)) = some (some (.int .u64 0), 1, 8) := by kernel_rfl

theorem shl_u64 (x Z : Nat) : IntKind.u64.wrap ((x : Int) * 2 ^ min Z 64) = ((x * 2 ^ Z % 18446744073709551616 : Nat) : Int) := by
  have e : ∀ v : Int, IntKind.u64.wrap v = v % 18446744073709551616 := fun v => by simp [IntKind.wrap, IntKind.signed, IntKind.bits]
  rw [e]
  by_cases h : Z ≤ 64
  · rw [Nat.min_eq_left h]; simp
  · rw [Nat.min_eq_right (by omega)]
    have : x * 2 ^ Z = x * 2 ^ (Z - 64) * 18446744073709551616 := by
      rw [Nat.mul_assoc]
      congr 1
      rw [show (18446744073709551616 : Nat) = 2 ^ 64 by rfl, ← Nat.pow_add]
      congr 1
      omega
    rw [this, Nat.mul_mod_left]
    omega

set_option maxHeartbeats 2000000 in
set_option maxRecDepth 100000 in
theorem pack_any (l : List Nat) (v : Value) (w : World) (hl : l.length ≤ 17592186044416) (hx : ∀ x ∈ l, x < 18446744073709551616) (hr : Nums w v l) :
    Calls Tryd.prog 56 #[v] w fun e w' => Below w.heap.size w w' ∧ ((pkA l = none ∧ e = .returned (.tuple #[.slice none 0 0, .int .i64 3])) ∨
      ∃ bs ao cap, pkA l = some bs ∧ bs.length ≤ 8 * l.length ∧ e = .returned (.tuple #[.slice ao bs.length cap, .int .i64 0]) ∧ Own w' w.heap.size (.slice ao bs.length cap) bs) := by
  obtain ⟨ao0, cap0, rfl, hnc, hcm⟩ := RdV.shape hr
  unfold maxLen at hcm
  have hst : ∀ t : Array Value, (storeCells ⟨w.heap.size + 1, 0, none⟩ wArr.toList).run Tryd.prog ((w.alloc (.cells wArr 120)).alloc (.cells #[.int .i64 0, .int .i64 0, .int .i64 0, .int .i64 0, .int .i64 0, .int .i64 0, .int .i64 0, .int .i64 0, .int .i64 0, .int .i64 0, .int .i64 0, .int .i64 0, .int .i64 0, .int .i64 0] 120)) = .ok () ((w.alloc (.cells wArr 120)).alloc (.cells wArr 120)) := by
    intro _
    have e : (w.alloc (.cells wArr 120)).heap.size = w.heap.size + 1 := by simp
    have := run_storeCells_new (P := Tryd.prog) (w.alloc (.cells wArr 120)) 120 #[.int .i64 0, .int .i64 0, .int .i64 0, .int .i64 0, .int .i64 0, .int .i64 0, .int .i64 0, .int .i64 0, .int .i64 0, .int .i64 0, .int .i64 0, .int .i64 0, .int .i64 0, .int .i64 0] wArr rfl rfl (by simp [wArr, Value.oneCell'])
    rw [e] at this
    exact this
  have hs := hst #[]
  clear hst
  have HA0 : ∀ k < 14, ((w.alloc (.cells wArr 120)).alloc (.cells wArr 120)).cell? ⟨w.heap.size + 1, k, none⟩ = some (.int .i64 (wds.getD k 0 : Nat)) := by
    intro k hk
    have e : (w.alloc (.cells wArr 120)).heap.size = w.heap.size + 1 := by simp
    have := cell_of_row ((w.alloc (.cells wArr 120)).alloc (.cells wArr 120)) (w.heap.size + 1) k wArr 120 (0, 0) (by rw [← e]; exact heap_alloc_last _ _)
    rw [this]
    have hcase : k = 0 ∨ k = 1 ∨ k = 2 ∨ k = 3 ∨ k = 4 ∨ k = 5 ∨ k = 6 ∨ k = 7 ∨ k = 8 ∨ k = 9 ∨ k = 10 ∨ k = 11 ∨ k = 12 ∨ k = 13 := by omega
    rcases hcase with rfl | rfl | rfl | rfl | rfl | rfl | rfl | rfl | rfl | rfl | rfl | rfl | rfl | rfl <;> rfl
  have HA := Lib.hid HA0
  clear HA0
  have HB0 := Lib.hid (((Below.refl w.heap.size w).alloc (Nat.le_refl _) (.cells wArr 120)).alloc (by simp) (.cells wArr 120))
  have HZ := Lib.hid (show ((w.alloc (.cells wArr 120)).alloc (.cells wArr 120)).heap.size = w.heap.size + 2 by simp)
  go_enter Tryd.func56, Tryd.ntmps56
  go_upto_region 2 with (fail)
  go_wp2_with (refine Calls.mono (widths_any _) ?_; rintro _ _ ⟨rfl, rfl⟩)
  generalize (w.alloc (.cells wArr 120)).alloc (.cells wArr 120) = w1 at *
  clear hs
  go_loopg [0, 4] l.length (fun m s0 s4 wr => ∃ (r : List Nat) (ps : List UInt8) (ao : Option Addr) (cap : Nat) (pao : Option Addr) (pcap : Nat), r.length = m ∧ s0 = .slice ao r.length cap ∧ s4 = .slice pao ps.length pcap ∧
    r.length ≤ l.length ∧ ps.length + 8 * r.length ≤ 8 * l.length ∧ Hid (Nums w (.slice ao r.length cap) r) ∧ Hid (∀ x ∈ r, x < 18446744073709551616) ∧ Hid (pkA l = (pkA r).map (ps ++ ·)) ∧
    Hid (Own wr w.heap.size (.slice pao ps.length pcap) ps) ∧ Hid (∀ k, (Value.slice pao ps.length pcap).ownBlock = some k → k ≠ w.heap.size + 1) ∧ Hid (∀ k < 14, wr.cell? ⟨w.heap.size + 1, k, none⟩ = some (.int .i64 (wds.getD k 0 : Nat))) ∧ w.heap.size + 1 < wr.heap.size ∧ Hid (Below w.heap.size w wr))
  case atStart => exact ⟨l, [], ao0, cap0, none, 0, rfl, rfl, rfl, Nat.le_refl _, by simp, Lib.hid hr, Lib.hid hx, Lib.hid (by simp), Lib.hid (Own.nil _ _), Lib.hid (by intro k hk; cases hk), HA, by rw [HZ.out]; omega, HB0⟩
  case round =>
    clear HA HB0 HZ hr hx hnc
    obtain ⟨r, ps, ao, cap, pao, pcap, hm, rfl, rfl, hrl, hpl, HN, HX, HP, HO, HK, HA, hAl, hB⟩ := hrel
    obtain ⟨_, _, he, hrc, hcap⟩ := RdV.shape HN.out
    unfold maxLen at hcap
    simp only [Value.slice.injEq, true_and] at he
    obtain ⟨he1, he2⟩ := he
    subst he1 he2
    have hrlen := Lib.hid hm
    by_cases h0 : gk = 0
    · obtain rfl : r = [] := List.eq_nil_of_length_eq_zero (by omega)
      clear hm hrlen
      go_wp2_with fail
      go_ret2
      refine ⟨hB.out, .inr ⟨ps, pao, pcap, ?_, by omega, by go_light; rfl, HO.out⟩⟩
      rw [HP.out, pkA_nil]
      simp
    · have hr0 : 0 < r.length := by omega
      have hne : r ≠ [] := List.length_pos_iff.1 hr0
      clear hm
      have hN1 : Nums wr (.slice ao r.length cap) r := RdV.below HN.out hB.out
      have hT := take_any r _ wr (by omega) HX.out hN1
      have hTN := takeR_none (l := r)
      cases ht : takeS r with
      | none =>
        rw [hTN ht] at hT
        have hpn := Lib.hid (pkA_none hne ht)
        clear hTN ht hne hN1
        go_wp2_with (refine Calls.mono hT ?_; rintro _ _ ⟨rfl, hb2⟩; have HB2 := Lib.hid hb2; clear hb2 hT)
        go_ret2
        refine ⟨hB.out.trans (HB2.out.mono hB.out.size), .inl ⟨?_, by go_light; rfl⟩⟩
        rw [HP.out, hpn.out]
        rfl
      | some p =>
        obtain ⟨S, W⟩ := p
        rw [takeR_some ht] at hT
        dsimp only at hT
        have hps := Lib.hid (pkA_some hne ht)
        obtain ⟨hS, hW, hF⟩ := takeS_some ht
        have hWb := wds_get S hS
        rw [← hW] at hWb
        have hnp := takeN_pos ht hne
        have HWN := Lib.hid (show wordN W S r = wordT W S r (min (60 / W) r.length) from rfl)
        have hcW : Hid (wds.getD S 0 = W) := Lib.hid hW.symm
        have hn60 : min (60 / W) r.length ≤ 60 := by have : 60 / W ≤ 60 := Nat.div_le_self _ _; omega
        generalize hn : min (60 / W) r.length = n at *
        have hnl : n ≤ r.length := by omega
        clear hTN ht hne hW hF hn
        go_upto_region 5 with (go_at_call 76; refine Calls.mono hT ?_; rintro _ w2 ⟨rfl, hb2⟩; have HB2 := Lib.hid hb2; clear hb2 hT hN1)
        have hN2 : Hid (Nums w2 (.slice ao r.length cap) r) := Lib.hid (RdV.below HN.out (hB.out.trans (HB2.out.mono hB.out.size)))
        have hA2 : Hid (w2.cell? ⟨w.heap.size + 1, S, none⟩ = some (.int .i64 (W : Int))) := Lib.hid (by rw [HB2.out.cell hAl, HA.out S hS, hcW.out])
        have hB2 : Hid (Below w.heap.size w w2) := Lib.hid (hB.out.trans (HB2.out.mono hB.out.size))
        have hO2 : Hid (Own w2 w.heap.size (.slice pao ps.length pcap) ps) := Lib.hid ((Chg.ofBelowAny (S := fun _ => False) HB2.out).owns HO.out (fun _ _ h => h))
        have hA3 : Hid (∀ k < 14, w2.cell? ⟨w.heap.size + 1, k, none⟩ = some (.int .i64 (wds.getD k 0 : Nat))) := Lib.hid (fun k hk => by rw [HB2.out.cell hAl]; exact HA.out k hk)
        have hAl2 : w.heap.size + 1 < w2.heap.size := Nat.lt_of_lt_of_le hAl HB2.out.size
        have hword0 : Hid (wordT W S r 0 = S * 1152921504606846976) := Lib.hid (by show S * 2 ^ 60 % 18446744073709551616 = _; omega)
        clear hB HO HA hAl HB2
        obtain ⟨g0, hg0⟩ : ∃ g, g = gk := ⟨gk, rfl⟩
        have HG0 := Lib.hid hg0
        clear hg0 h0
        go_wp2_with fail
        go_loopg [8, 29] n (fun m s8 s29 wr => ∃ i : Nat, i + m = n ∧ s29 = .int .i64 (i : Int) ∧ s8 = .int .u64 ((wordT W S r i : Nat) : Int) ∧ ∃ q, wr = w2.drewN q)
        case atStart => exact ⟨0, by omega, rfl, by rw [hword0.out]; simp, 0, rfl⟩
        case round =>
          obtain ⟨i, hi, rfl, rfl, q, rfl⟩ := hrel
          by_cases h0 : gk = 0
          · obtain rfl : i = n := by omega
            clear hi
            have hTl : wordT W S r i < 18446744073709551616 := wordT_lt W S r i
            rw [HWN.out] at hps
            generalize wordT W S r i = T at *
            have hNv : RdV w 1 (.slice ao r.length cap) r.length (r.map uV) := HN.out
            go_upto_region 13 with fail
            have hO4 : Hid (Own (w2.drewN q) w.heap.size (.slice pao ps.length pcap) ps) := hO2
            have hB4 : Hid (Below w.heap.size w (w2.drewN q)) := Lib.hid ⟨hB2.out.os, hB2.out.tape, hB2.out.output, hB2.out.size, hB2.out.block⟩
            have hA4 : Hid (∀ k < 14, (w2.drewN q).cell? ⟨w.heap.size + 1, k, none⟩ = some (.int .i64 (wds.getD k 0 : Nat))) := hA3
            have hAl4 : w.heap.size + 1 < (w2.drewN q).heap.size := hAl2
            clear hA2 hA3 hO2 hB2 hAl2 hN2
            generalize w2.drewN q = w4 at *
            go_wp2_with (first
              | (go_at_call 33; refine Calls.mono (tail_any T hTl _) ?_; rintro _ w5 ⟨tao, tcap, rfl, ho5, hb5⟩; have HO5 := Lib.hid ho5; have HB5 := Lib.hid hb5; clear ho5 hb5; have HO6 := Lib.hid ((Chg.ofBelowAny (S := fun _ => False) HB5.out).owns hO4.out (fun _ _ h => h)); have hlen8 := be8_len T; have hls : ps.length + (be8 T).length ≤ 140737488355328 := (by omega); have hbs5 : w.heap.size ≤ w5.heap.size := (by have := HB5.out.size; omega); clear hlen8)
              | (at_builtin; refine wpList_append_bs _ rfl (.tmp 44) (.tmp 46) rfl w.heap.size (.slice pao ps.length pcap) ps rfl HO6.out (.slice tao (be8 T).length tcap) (be8 T) rfl HO5.out.rd hls hbs5 ?_; intro ao6 cap6 w6 hg6; have HG := Lib.hid hg6; clear hg6 HO5)
              | (with_reducible refine wpList_slice_at w w6 rfl (.tmp 48) (some (.tmp 49)) none 101 rfl 25 1 (.int .u64 0) 8 Tryd.underlying101 infoU64 _ _ _ _ rfl hNv i r.length ?hb hnl (Nat.le_refl _) ?hk))
            case hb => exact bounds_lo _ _ _ _ hnl
            case hk =>
              intro ao5 cap5 hr5 hb5
              have hcells := Lib.hid (show (((r.map uV).drop i).take (r.length - i)) = (r.drop i).map uV by rw [List.take_of_length_le (by simp), List.map_drop])
              rw [hcells.out] at hr5
              have HLn := Lib.hid (show r.length - i = (r.drop i).length by simp)
              rw [HLn.out] at hr5
              have HR5 : Hid (Nums w (.slice ao5 (r.drop i).length cap5) (r.drop i)) := Lib.hid hr5
              clear hr5 hb5 hcells
              go_wp2_with fail
              go_roundg (g0 - i)
              case measure => go_light; have h1 := HG0.out; have h2 := hrlen.out; omega
              case rel =>
                go_light
                refine ⟨r.drop i, ps ++ be8 T, ao5, cap5, ao6, cap6, ?_, by rw [HLn.out], by simp, ?_, ?_, HR5, Lib.hid (fun x hx => HX.out x (List.mem_of_mem_drop hx)), Lib.hid ?_, Lib.hid HG.out.owns, ?_, ?_, ?_, ?_⟩
                · have h1 := HG0.out; have h2 := hrlen.out; have h3 := HLn.out; omega
                · have h3 := HLn.out; omega
                · have h3 := HLn.out; simp only [List.length_append, be8_len]; omega
                · rw [HP.out, hps.out, Option.map_map]
                  simp [Function.comp_def, List.append_assoc]
                · exact Lib.hid (fun k hk => by
                    rcases HG.out.row k hk with h | h
                    · exact HK.out k h
                    · have := HB5.out.size; omega)
                · exact Lib.hid (fun k hk => by
                    rw [HG.out.chg.cell (p := ⟨w.heap.size + 1, k, none⟩) (by have := HB5.out.size; simp; omega) (fun h => HK.out _ h rfl), HB5.out.cell hAl4]
                    exact hA4.out k hk)
                · have h1 := HG.out.grown.size; have h2 := HB5.out.size; omega
                · exact Lib.hid ((hB4.out.trans (HB5.out.mono hB4.out.size)).trans (HG.out.below hbs5 (fun k hk => (HO6.out.lt k hk).1)))
          · have hin : i < n := by omega
            obtain ⟨b, off, bcap, he, hb, hc⟩ := num_at (w := w2.drewN q) hN2.out i (by omega)
            simp only [Value.slice.injEq, true_and] at he
            obtain ⟨rfl, rfl⟩ := he
            have hc2 : (w2.drewN q).cell? ⟨w.heap.size + 1, S, none⟩ = some (.int .i64 (W : Int)) := hA2.out
            have hxi : r.getD i 0 < 18446744073709551616 := by
              have : i < r.length := by omega
              rw [show r.getD i 0 = r[i] by simp [this]]
              exact HX.out _ (List.getElem_mem this)
            have hwl := wordT_lt W S r i
            have hiW : i * W < 4000 := Nat.lt_of_le_of_lt (Nat.mul_le_mul (show i ≤ 60 by omega) hWb.2) (by decide)
            have hnext : Hid (wordT W S r (i + 1) = wordT W S r i ||| (r.getD i 0 * 2 ^ (i * W) % 18446744073709551616)) := Lib.hid rfl
            obtain ⟨Z, hZ⟩ : ∃ Z, Z = i * W := ⟨_, rfl⟩
            rw [← hZ] at hiW hnext
            have hm1 : IntKind.i64.wrap ((i : Int) * (W : Int)) = (Z : Int) := by
              rw [show (i : Int) * (W : Int) = (Z : Int) by rw [hZ]; simp]
              exact IntWalk.i64_in _ (by omega)
            clear hZ
            generalize wordT W S r i = T at *
            generalize r.getD i 0 = x at *
            go_wp2_with fail
            go_roundg (gk - 1)
            case measure => go_light; omega
            case rel =>
              go_light
              refine ⟨i + 1, by omega, by go_num, ?_, q, rfl⟩
              rw [hnext.out, shl_u64, u64_or_nat _ _ hwl (Nat.mod_lt _ (by decide))]
end Go.Proofs.YthcgalpabjjkoaaDoor

/- XPkOut: The two Packs' results as bytes and an error; the first byte of own bytes stored anew. -/
namespace Go.Proofs.YthcgalpabjjkoaaDoor
open Go.RowKit
set_option linter.unusedVariables false

def pkO (l : List Nat) : List UInt8 × Nat := match pkA l with
  | none => ([], 3)
  | some bs => (bs, 0)

theorem pkO_one {l : List Nat} {base : Nat} {w w' : World} {e : Ending} (h : Below base w w' ∧ ((pkA l = none ∧ e = .returned (.tuple #[.slice none 0 0, .int .i64 3])) ∨
      ∃ bs ao cap, pkA l = some bs ∧ bs.length ≤ 8 * l.length ∧ e = .returned (.tuple #[.slice ao bs.length cap, .int .i64 0]) ∧ Own w' base (.slice ao bs.length cap) bs)) :
    Below base w w' ∧ ∃ ao cap, e = .returned (.tuple #[.slice ao (pkO l).1.length cap, .int .i64 ((pkO l).2 : Int)]) ∧ Own w' base (.slice ao (pkO l).1.length cap) (pkO l).1 ∧ (pkO l).1.length ≤ 8 * l.length := by
  refine ⟨h.1, ?_⟩
  unfold pkO
  rcases h.2 with ⟨h1, rfl⟩ | ⟨bs, ao, cap, h1, h2, rfl, ho⟩
  · rw [h1]
    exact ⟨none, 0, rfl, Own.nil _ _, by simp⟩
  · rw [h1]
    exact ⟨ao, cap, rfl, ho, h2⟩
theorem pkO_ok {l : List Nat} {p : List UInt8} {m : Nat} (h : (p, m) = pkO l) : (m = 0 ∧ pkA l = some p) ∨ (m = 3 ∧ pkA l = none) := by
  unfold pkO at h
  cases hp : pkA l with
  | none => rw [hp] at h; simp only [Prod.mk.injEq] at h; exact .inr ⟨h.2, rfl⟩
  | some q => rw [hp] at h; simp only [Prod.mk.injEq] at h; exact .inl ⟨h.2, by rw [h.1]⟩

theorem below_dr {B : Nat} {w wr : World} (h : Below B w wr) (n : Nat) : Below B w (wr.drewN n) := ⟨h.os, h.tape, h.output, h.size, h.block⟩
/-- A store into an elder block leaves what is own and newer. -/
theorem own_past {w : World} {base g o : Nat} {v u : Value} {bs : List UInt8} (h : Own w base v bs) (hg : g < base) : Own (w.setCell ⟨g, o, none⟩ u) base v bs :=
  ((Chg.refl (fun k => k = g) w).setCell (p := ⟨g, o, none⟩) (fun _ => rfl) u).owns h (fun k hk e => by have := (World.ownsRow.lt h k hk).1; omega)
theorem own_put0 {w : World} {base n cap : Nat} {ao : Option Addr} {x : UInt8} {r : List UInt8} (h : Own w base (.slice ao n cap) (x :: r)) :
    ∃ g, ao = some ⟨g, 0, none⟩ ∧ base ≤ g ∧ w.cell? ⟨g, 0, none⟩ = some (bV x) ∧ w.frozen? ⟨g, 0, none⟩ = false ∧ ∀ y : UInt8, Own (w.setCell ⟨g, 0, none⟩ (bV y)) base (.slice ao n cap) (y :: r) := by
  have h0 : w.ownsRow base 5 1 (.slice ao n cap) (x :: r).length ((x :: r).map bV) := h
  rcases h0.2 with ⟨_, hn⟩ | ⟨g, cap', cur, he, hb, rest⟩
  · simp at hn
  · simp only [Value.slice.injEq] at he
    obtain ⟨rfl, hn, rfl⟩ := he
    subst hn
    refine ⟨g, rfl, hb, ?_, h0.frozenAt 0, fun y => ?_⟩
    · rw [h0.cellAt 0 (by simp)]; rfl
    · have := (h0.stored 0 (bV y)).1
      exact this
theorem own_putj {w : World} {base n cap j : Nat} {ao : Option Addr} {bs : List UInt8} (h : Own w base (.slice ao n cap) bs) (hj : j < bs.length) :
    ∃ g, ao = some ⟨g, 0, none⟩ ∧ base ≤ g ∧ w.cell? ⟨g, j, none⟩ = some (bV bs[j]) ∧ w.frozen? ⟨g, j, none⟩ = false ∧ ∀ y : UInt8, Own (w.setCell ⟨g, j, none⟩ (bV y)) base (.slice ao n cap) (bs.set j y) := by
  have h0 : w.ownsRow base 5 1 (.slice ao n cap) bs.length (bs.map bV) := h
  rcases h0.2 with ⟨_, hn⟩ | ⟨g, cap', cur, he, hb, rest⟩
  · omega
  · simp only [Value.slice.injEq] at he
    obtain ⟨rfl, hn, rfl⟩ := he
    subst hn
    refine ⟨g, rfl, hb, ?_, h0.frozenAt j, fun y => ?_⟩
    · rw [h0.cellAt j (by omega)]; simp [hj]
    · have := (h0.stored j (bV y)).1
      unfold Own
      rw [List.length_set, List.map_set]
      exact this
end Go.Proofs.YthcgalpabjjkoaaDoor

/- XRPack04: gristref04.Pack: what it gives is pkA, too. -/
namespace Go.Proofs.YthcgalpabjjkoaaDoor
open Go.RowKit
set_option linter.unusedVariables false

theorem pkA_big : ∀ (n : Nat) (l : List Nat), l.length ≤ n → ∀ x ∈ l, ¬ x < 2 ^ 60 → pkA l = none
  | 0, l, h, x, hx, _ => by
    have := List.length_pos_of_mem hx
    omega
  | n + 1, l, h, x, hx, hb => by
    have hne : l ≠ [] := List.ne_nil_of_mem hx
    cases ht : takeS l with
    | none => exact pkA_none hne ht
    | some p =>
      obtain ⟨s, W⟩ := p
      obtain ⟨hs, hW, hf⟩ := takeS_some ht
      have hp := takeN_pos ht hne
      have hwb := wds_get s hs
      rw [← hW] at hwb
      have e : l.take (60 / W) = l.take (min (60 / W) l.length) := by
        by_cases hc : 60 / W ≤ l.length
        · rw [Nat.min_eq_left hc]
        · rw [Nat.min_eq_right (by omega), List.take_of_length_le (by omega), List.take_of_length_le (by omega)]
      rw [e] at hf
      rw [pkA_some hne ht]
      have hx2 : x ∈ l.drop (min (60 / W) l.length) := by
        have hx' := hx
        rw [← List.take_append_drop (min (60 / W) l.length) l, List.mem_append] at hx'
        rcases hx' with h1 | h1
        · exfalso
          have := List.all_eq_true.1 hf x h1
          have h2 : x < 2 ^ W := of_decide_eq_true this
          have h3 : 2 ^ W ≤ 2 ^ 60 := Nat.pow_le_pow_right (by omega) hwb.2
          omega
        · exact h1
      rw [pkA_big n _ (by rw [List.length_drop]; omega) x hx2 hb]
      rfl

theorem rwidths_any (w : World) :
    Calls Tryd.prog 81 #[] w fun e w' => e = .returned (.slice (some ⟨w.heap.size, 0, none⟩) 14 14) ∧ w' = w.alloc (.cells wArr 3) := by
  go_enter Tryd.func81, Tryd.ntmps81
  go_wp2
  go_ret
  exact ⟨rfl, rfl⟩

theorem wcells (w3 : World) : ∀ i, i < 14 → (w3.alloc (.cells wArr 3)).cell? ⟨w3.heap.size, i, none⟩ = some (.int .i64 (wds.getD i 0 : Nat)) := by
  intro i hi
  obtain ⟨b, off, c, he, _, _, _, hc⟩ := RdV.some (RdV.lit w3 wArr 3 14 1 (by decide) rfl) (by decide) (by decide)
  simp only [Value.slice.injEq, Option.some.injEq, Addr.mk.injEq, true_and, and_true] at he
  obtain ⟨⟨rfl, rfl⟩, rfl⟩ := he
  have h14 : i = 0 ∨ i = 1 ∨ i = 2 ∨ i = 3 ∨ i = 4 ∨ i = 5 ∨ i = 6 ∨ i = 7 ∨ i = 8 ∨ i = 9 ∨ i = 10 ∨ i = 11 ∨ i = 12 ∨ i = 13 := by omega
  have := hc i (.int .i64 (wds.getD i 0 : Nat)) (by rcases h14 with rfl | rfl | rfl | rfl | rfl | rfl | rfl | rfl | rfl | rfl | rfl | rfl | rfl | rfl <;> rfl)
  simpa using this

theorem z_lt60 {i n W Z L : Nat} (hin : i < n) (h : n = min (60 / W) L) (hZ : Z = i * W) (hW : 1 ≤ W) : Z < 60 := by
  have h1 : n ≤ 60 / W := by omega
  have h2 : (i + 1) * W ≤ 60 := Nat.le_trans (Nat.mul_le_mul_right W (show i + 1 ≤ 60 / W by omega)) (Nat.div_mul_le_self 60 W)
  rw [Nat.add_mul, ← hZ] at h2
  omega

theorem or_step (T x Z : Nat) (hT : T < 18446744073709551616) (hZ : Z < 60) : ((T ||| x * 2 ^ Z % 18446744073709551616 : Nat) : Int) = bits BinOp.or IntKind.u64 (T : Int) (IntKind.u64.wrap ((x : Int) * 2 ^ Z)) := by
  have := shl_u64 x Z
  rw [Nat.min_eq_left (by omega)] at this
  rw [this, u64_or_nat _ _ hT (Nat.mod_lt _ (by decide))]

theorem x_shr (x W : Nat) (X : Bool) (h : X = decide (x < 2 ^ W)) : decide ((x : Int) / 2 ^ W = 0) = X := by
  have e : ((x : Int) / 2 ^ W = 0) ↔ x < 2 ^ W := by
    rw [show ((x : Int) / 2 ^ W) = ((x / 2 ^ W : Nat) : Int) by simp]
    rw [Int.natCast_eq_zero, Nat.div_eq_zero_iff]
    have : 0 < 2 ^ W := Nat.two_pow_pos W
    omega
  rw [h]
  exact decide_eq_decide.2 e

theorem beq_dec (a : Int) : (a == 0) = decide (a = 0) := rfl

set_option maxHeartbeats 2000000 in
set_option maxRecDepth 100000 in
theorem rpack_any (l : List Nat) (v : Value) (w : World) (hl : l.length ≤ 17592186044416) (hx : ∀ x ∈ l, x < 18446744073709551616) (hr : Nums w v l) :
    Calls Tryd.prog 62 #[v] w fun e w' => Below w.heap.size w w' ∧ ((pkA l = none ∧ e = .returned (.tuple #[.slice none 0 0, .int .i64 3])) ∨
      ∃ bs ao cap, pkA l = some bs ∧ bs.length ≤ 8 * l.length ∧ e = .returned (.tuple #[.slice ao bs.length cap, .int .i64 0]) ∧ Own w' w.heap.size (.slice ao bs.length cap) bs) := by
  obtain ⟨ao0, cap0, rfl, hnc, hcm⟩ := RdV.shape hr
  unfold maxLen at hcm
  have HB0 := Lib.hid ((Below.refl w.heap.size w).alloc (Nat.le_refl _) (.cells wArr 3))
  have HC := Lib.hid (wcells w)
  have HR := Lib.hid hr
  have HX := Lib.hid hx
  have hsz : w.heap.size < (w.alloc (.cells wArr 3)).heap.size := by simp
  clear hr hx
  go_enter Tryd.func62, Tryd.ntmps62
  go_wp2_with (go_at_call 81; refine (rwidths_any _).mono ?_; rintro _ _ ⟨rfl, rfl⟩)
  generalize w.alloc (.cells wArr 3) = w1 at *
  go_loopg [16] l.length (fun m s16 wr => ∃ i : Nat, i + m = l.length ∧ s16 = .int .i64 (i : Int) ∧ Hid (∀ x ∈ l.take i, x < 2 ^ 60) ∧ ∃ q, wr = w1.drewN q)
  case atStart => exact ⟨0, by omega, rfl, Lib.hid (by simp), 0, rfl⟩
  case round =>
    obtain ⟨i, hi, rfl, hA, q, rfl⟩ := hrel
    by_cases h0 : gk = 0
    · have hlen : i = l.length := by omega
      subst hlen
      clear hi
      have HALL : Hid (∀ x ∈ l, x < 2 ^ 60) := Lib.hid (fun x hx => hA.out x (by rw [List.take_length]; exact hx))
      clear hA
      go_wp2_with fail
      have HB2 : Hid (Below w.heap.size w (w1.drewN q)) := Lib.hid ⟨HB0.out.os, HB0.out.tape, HB0.out.output, HB0.out.size, HB0.out.block⟩
      have HC2 : Hid (∀ i, i < 14 → (w1.drewN q).cell? ⟨w.heap.size, i, none⟩ = some (.int .i64 (wds.getD i 0 : Nat))) := HC
      have hsz2 : w.heap.size < (w1.drewN q).heap.size := hsz
      clear HB0 HC hsz
      generalize w1.drewN q = w2 at *
      go_loopg [5, 7] l.length (fun m s5 s7 wr => ∃ (k : Nat) (ps : List UInt8) (pao : Option Addr) (pcap : Nat), k + m = l.length ∧ s7 = .int .i64 (k : Int) ∧ s5 = .slice pao ps.length pcap ∧ ps.length ≤ 8 * k ∧ Hid (pkA l = (pkA (l.drop k)).map (ps ++ ·)) ∧
        Hid (Own wr w.heap.size (.slice pao ps.length pcap) ps) ∧ Hid (∀ k, (Value.slice pao ps.length pcap).ownBlock = some k → k ≠ w.heap.size) ∧ Hid (∀ i, i < 14 → wr.cell? ⟨w.heap.size, i, none⟩ = some (.int .i64 (wds.getD i 0 : Nat))) ∧ w.heap.size < wr.heap.size ∧ Hid (Below w.heap.size w wr))
      case atStart => exact ⟨0, [], none, 0, by omega, rfl, rfl, by simp, Lib.hid (by simp), Lib.hid (Own.nil _ _), Lib.hid (by intro k hk; cases hk), HC2, hsz2, HB2⟩
      case round =>
        clear HC2 hsz2 HB2
        obtain ⟨k, ps, pao, pcap, hk, rfl, rfl, hpl, HP, HO, HK, HC, hsz, HB⟩ := hrel
        obtain ⟨g0, hg0⟩ : ∃ g, g = gk := ⟨gk, rfl⟩
        have HG0 := Lib.hid hg0
        have HKG := Lib.hid hk
        clear hg0
        by_cases h1 : gk = 0
        · obtain rfl : k = l.length := by omega
          clear hk
          go_wp2_with fail
          go_ret2
          refine ⟨HB.out, .inr ⟨ps, pao, pcap, ?_, by omega, by go_light; rfl, HO.out⟩⟩
          rw [HP.out, List.drop_length, pkA_nil]
          simp
        · have hkl : k < l.length := by omega
          clear hk h1 h0
          have hR0 : ∀ wr, Below w.heap.size w wr → ∀ t, k + t < l.length → ∃ b off, ao0 = some ⟨b, off, none⟩ ∧ wr.cell? ⟨b, off + (k + t), none⟩ = some (.int .u64 ((l.drop k).getD t 0 : Nat)) := by
            intro wr hb t ht
            obtain ⟨b, off, cap', he, _, hc⟩ := num_at (RdV.below HR.out hb) (k + t) ht
            simp only [Value.slice.injEq, true_and] at he
            refine ⟨b, off, he.1, ?_⟩
            rw [hc]
            simp [List.getD_eq_getElem?_getD]
          have HR1 := Lib.hid hR0
          have hXr : Hid (∀ x ∈ l.drop k, x < 18446744073709551616) := Lib.hid (fun x hx => HX.out x (List.mem_of_mem_drop hx))
          have hne : Hid (takeS (l.drop k) ≠ none) := Lib.hid (by
            rw [List.drop_eq_getElem_cons hkl]
            intro h
            exact takeS_none.1 h (HALL.out _ (List.getElem_mem hkl)))
          have hrl : Hid ((l.drop k).length = l.length - k) := Lib.hid List.length_drop
          have hnil : Hid (l.drop k ≠ []) := Lib.hid (by intro h; have := congrArg List.length h; rw [List.length_drop] at this; simp at this; omega)
          have HDD : Hid (∀ n, (l.drop k).drop n = l.drop (k + n)) := Lib.hid (fun n => List.drop_drop)
          clear hR0
          generalize l.drop k = r at *
          generalize wr = wo at *
          go_wp2_with fail
          go_loopg [5, 7, 31] 14 (fun m s5 s7 s31 wr => s5 = .slice pao ps.length pcap ∧ s7 = .int .i64 (k : Int) ∧ ∃ s : Nat, s + m = 14 ∧ s31 = .int .i64 (s : Int) ∧ Hid (takeF r s (wds.drop s) = takeS r) ∧ ∃ q, wr = wo.drewN q)
          case atStart => exact ⟨rfl, rfl, 0, rfl, rfl, Lib.hid rfl, 0, rfl⟩
          case round =>
            obtain ⟨rfl, rfl, s, hs, rfl, hT, q1, rfl⟩ := hrel
            by_cases h1 : gk = 0
            · obtain rfl : s = 14 := by omega
              exfalso
              apply hne.out
              rw [← hT.out]
              rfl
            · have hs14 : s < 14 := by omega
              have hTS := Lib.hid (takeF_step r s hs14)
              have hcW : (wo.drewN q1).cell? ⟨w.heap.size, s, none⟩ = some (.int .i64 (wds.getD s 0 : Nat)) := HC.out s hs14
              have hW := wds_get s hs14
              obtain ⟨W, hWe⟩ : ∃ W, W = wds.getD s 0 := ⟨_, rfl⟩
              rw [← hWe] at hcW hW hTS
              obtain ⟨n, hne2⟩ : ∃ n, n = min (60 / W) r.length := ⟨_, rfl⟩
              have hnl : n ≤ r.length := by omega
              have hn60 : n ≤ 60 := by have : 60 / W ≤ 60 := Nat.div_le_self _ _; omega
              have HNE := Lib.hid hne2
              have HWE := Lib.hid hWe
              have hW0 : ¬ W = 0 := by omega
              have hHC : Hid (∀ q, (wo.drewN q).cell? ⟨w.heap.size, s, none⟩ = some (.int .i64 (W : Int))) := Lib.hid (fun q => by rw [hWe]; exact HC.out s hs14)
              have HS := Lib.hid hs
              obtain ⟨g1, hg1⟩ : ∃ g, g = gk := ⟨gk, rfl⟩
              have HG1 := Lib.hid hg1
              clear hWe hne2 hg1 h1 hs
              go_upto_region 14 with fail
              go_cut [9] (fun s9 wx => s9 = .int .i64 (n : Int) ∧ wx = wo.drewN q1)
              case first =>
                go_wp2_with fail
                all_goals go_meet
                all_goals go_light
                all_goals (refine ⟨?_, rfl⟩; congr 1; have h1 := HNE.out; have h2 := hrl.out; have h3 : ((60 / W : Nat) : Int) = 60 / (W : Int) := (by simp); omega)
              case rest =>
              obtain ⟨rfl, rfl⟩ := hcut
              have hword0 : Hid (wordT W s r 0 = s * 1152921504606846976) := Lib.hid (by show s * 2 ^ 60 % 18446744073709551616 = _; omega)
              clear hcW
              go_wp2_with fail
              go_loopg [10, 11, 48] n (fun m s10 s11 s48 wr => ∃ i : Nat, i + m = n ∧ s48 = .int .i64 (i : Int) ∧ s10 = .int .u64 ((wordT W s r i : Nat) : Int) ∧ s11 = .bool (fitsB (r.take i) W) ∧ ∃ q, wr = wo.drewN q)
              case atStart => exact ⟨0, by omega, rfl, by rw [hword0.out]; simp, by simp [fitsB], q1, rfl⟩
              case round =>
                obtain ⟨i, hi, rfl, rfl, rfl, q, rfl⟩ := hrel
                by_cases h1 : gk = 0
                · obtain rfl : i = n := by omega
                  clear hi
                  cases hf : fitsB (r.take i) W with
                  | true =>
                    have e : r.take i = r.take (60 / W) := by
                      have := HNE.out
                      by_cases hc : 60 / W ≤ r.length
                      · rw [show i = 60 / W by omega]
                      · rw [List.take_of_length_le (by omega), List.take_of_length_le (by omega)]
                    have hTk : takeS r = some (s, W) := by
                      rw [e] at hf
                      rw [← hT.out, hTS.out, if_pos hf]
                    have hps := pkA_some hnil.out hTk
                    rw [← HNE.out, show wordN W s r = wordT W s r i by unfold wordN; rw [← HNE.out]] at hps
                    have HPS := Lib.hid hps
                    have hi1 : 1 ≤ i := by have := takeN_pos hTk hnil.out; have := HNE.out; omega
                    have hTl : wordT W s r i < 18446744073709551616 := wordT_lt W s r i
                    clear e hTk hps hf
                    generalize wordT W s r i = T at *
                    have hO4 : Hid (Own (wo.drewN q) w.heap.size (.slice pao ps.length pcap) ps) := HO
                    have hB4 : Hid (Below w.heap.size w (wo.drewN q)) := Lib.hid ⟨HB.out.os, HB.out.tape, HB.out.output, HB.out.size, HB.out.block⟩
                    have hA4 : Hid (∀ k < 14, (wo.drewN q).cell? ⟨w.heap.size, k, none⟩ = some (.int .i64 (wds.getD k 0 : Nat))) := HC
                    have hAl4 : w.heap.size < (wo.drewN q).heap.size := hsz
                    have hKL := hrl.out
                    clear HO HB HC hsz hHC
                    generalize wo.drewN q = w4 at *
                    go_wp2_with (first
                      | (go_at_call 22; refine Calls.mono (eight_any T hTl _) ?_; rintro _ w5 ⟨tao, tcap, rfl, ho5, hb5⟩; have HO5 := Lib.hid ho5; have HB5 := Lib.hid hb5; clear ho5 hb5; have HO6 := Lib.hid ((Chg.ofBelowAny (S := fun _ => False) HB5.out).owns hO4.out (fun _ _ h => h)); have hlen8 := be8_len T; have hls : ps.length + (be8 T).length ≤ 140737488355328 := (by omega); have hbs5 : w.heap.size ≤ w5.heap.size := (by have := HB5.out.size; omega); clear hlen8)
                      | (at_builtin; refine wpList_append_bs _ rfl (.tmp 85) (.tmp 87) rfl w.heap.size (.slice pao ps.length pcap) ps rfl HO6.out (.slice tao (be8 T).length tcap) (be8 T) rfl HO5.out.rd hls hbs5 ?_; intro ao6 cap6 w6 hg6; have HG := Lib.hid hg6; clear hg6 HO5))
                    go_roundg (g0 - i)
                    case measure => go_light; have h1 := HG0.out; have h2 := HKG.out; omega
                    case rel =>
                      go_light
                      have hd := HDD.out i
                      refine ⟨k + i, ps ++ be8 T, ao6, cap6, by have h1 := HG0.out; have h2 := HKG.out; omega, by go_num, by simp, by simp only [List.length_append, be8_len]; omega, Lib.hid ?_, Lib.hid HG.out.owns, Lib.hid (fun k hk => ?_), Lib.hid (fun k hk => ?_), ?_, Lib.hid ?_⟩
                      · rw [HP.out, HPS.out, Option.map_map, hd]
                        simp [Function.comp_def, List.append_assoc]
                      · rcases HG.out.row k hk with h | h
                        · exact HK.out k h
                        · have := HB5.out.size; omega
                      · rw [HG.out.chg.cell (p := ⟨w.heap.size, k, none⟩) (by have := HB5.out.size; simp; omega) (fun h => HK.out _ h rfl), HB5.out.cell hAl4]
                        exact hA4.out k hk
                      · have h1 := HG.out.grown.size; have h2 := HB5.out.size; omega
                      · exact (hB4.out.trans (HB5.out.mono hB4.out.size)).trans (HG.out.below hbs5 (fun k hk => (HO6.out.lt k hk).1))
                  | false =>
                    go_wp2_with fail
                    go_roundg (g1 - 1)
                    case measure => go_light; have h1 := HG1.out; have h2 := HS.out; omega
                    case rel =>
                      go_light
                      have e : r.take i = r.take (60 / W) := by
                        have := HNE.out
                        by_cases hc : 60 / W ≤ r.length
                        · rw [show i = 60 / W by omega]
                        · rw [List.take_of_length_le (by omega), List.take_of_length_le (by omega)]
                      rw [e] at hf
                      refine ⟨rfl, rfl, s + 1, by have h1 := HG1.out; have h2 := HS.out; omega, by go_num, ?_, q, rfl⟩
                      have h := hT.out
                      rw [hTS.out, if_neg (by rw [hf]; simp)] at h
                      exact Lib.hid h
                · have hin : i < n := by omega
                  have hkb : k + i < l.length := by have := hrl.out; omega
                  obtain ⟨b, off, he, hc⟩ := HR1.out wo HB.out i hkb
                  subst he
                  have hcW : wo.cell? ⟨w.heap.size, s, none⟩ = some (.int .i64 (W : Int)) := hHC.out 0
                  have hxi : r.getD i 0 < 18446744073709551616 := by
                    have : i < r.length := by omega
                    rw [show r.getD i 0 = r[i] by simp [this]]
                    exact hXr.out _ (List.getElem_mem this)
                  have hfn : Hid (fitsB (r.take (i + 1)) W = (fitsB (r.take i) W && decide (r.getD i 0 < 2 ^ W))) := Lib.hid (by
                    have : i < r.length := by omega
                    rw [show r.getD i 0 = r[i] by simp [this]]
                    unfold fitsB
                    rw [List.take_succ_eq_append_getElem this, List.all_append]
                    simp)
                  have hwl := wordT_lt W s r i
                  have hiW : i * W < 4000 := Nat.lt_of_le_of_lt (Nat.mul_le_mul (show i ≤ 60 by omega) hW.2) (by decide)
                  have hnext : Hid (wordT W s r (i + 1) = wordT W s r i ||| (r.getD i 0 * 2 ^ (i * W) % 18446744073709551616)) := Lib.hid rfl
                  obtain ⟨Z, hZ⟩ : ∃ Z, Z = i * W := ⟨_, rfl⟩
                  rw [← hZ] at hiW hnext
                  have hm1 : IntKind.i64.wrap ((i : Int) * (W : Int)) = (Z : Int) := by
                    rw [show (i : Int) * (W : Int) = (Z : Int) by rw [hZ]; simp]
                    exact IntWalk.i64_in _ (by omega)
                  have hZ60 : Z < 60 := z_lt60 hin HNE.out hZ hW.1
                  clear hZ hiW
                  generalize wordT W s r i = T at *
                  generalize r.getD i 0 = x at *
                  have HWL := Lib.hid hwl
                  have HXI := Lib.hid hxi
                  clear hwl hxi
                  obtain ⟨j, hj⟩ : ∃ j, j = k + i := ⟨_, rfl⟩
                  rw [← hj] at hc hkb
                  have t1 : (k : Int) + (i : Int) = (j : Int) := by omega
                  have t5 : IntKind.i64.wrap (j : Int) = (j : Int) := IntWalk.i64_in _ (by omega)
                  clear hj
                  have hnx : Hid (wrap64 ((i : Int) + 1) = ((i + 1 : Nat) : Int)) := Lib.hid (by rw [← IntWalk.i64_left, IntWalk.i64_in _ (by omega)]; omega)
                  have HIN := Lib.hid hin
                  have HN60 := Lib.hid hn60
                  have HLL := Lib.hid hl
                  have HPL := Lib.hid hpl
                  have HNL := Lib.hid hnl
                  have HKL := Lib.hid hkl
                  have hwb : W ≤ 60 := hW.2
                  clear hl hcm hnc hpl hkl hnl hn60 hin hW
                  go_upto_region 20 with fail
                  generalize fitsB (r.take i) W = F at *
                  cases F with
                  | false =>
                    go_quiet (fail)
                    go_upto_region 21 with fail
                    go_quiet (fail)
                    go_wp2_with fail
                    go_roundg (gk - 1)
                    case measure => go_light; have := HIN.out; omega
                    case rel =>
                      go_light
                      have hor := or_step T x Z HWL.out hZ60
                      have hw0 := HIN.out
                      have hw1 := HN60.out
                      refine ⟨i + 1, by omega, by rw [hnx.out], by rw [hnext.out, hor], by rw [hfn.out]; simp, _, rfl⟩
                  | true =>
                    obtain ⟨X, hX⟩ : ∃ X, X = decide (x < 2 ^ W) := ⟨_, rfl⟩
                    rw [← hX] at hfn
                    have hX2 := x_shr x W X hX
                    clear hX
                    go_quiet (fail)
                    go_upto_region 21 with fail
                    go_quiet (fail)
                    go_wp2_with fail
                    go_roundg (gk - 1)
                    case measure => go_light; have := HIN.out; omega
                    case rel =>
                      go_light
                      have hor := or_step T x Z HWL.out hZ60
                      have hw0 := HIN.out
                      have hw1 := HN60.out
                      refine ⟨i + 1, by omega, by rw [hnx.out], by rw [hnext.out, hor], by rw [hfn.out]; simp [beq_dec, hX2], _, rfl⟩
    · have hil : i < l.length := by omega
      have hN : Nums (w1.drewN q) (.slice ao0 l.length cap0) l := RdV.below HR.out (by have := HB0.out; exact ⟨this.os, this.tape, this.output, this.size, this.block⟩)
      obtain ⟨b, off, bcap, he, hb, hc⟩ := num_at hN i hil
      simp only [Value.slice.injEq, true_and] at he
      obtain ⟨rfl, rfl⟩ := he
      clear hN
      have hxi : l.getD i 0 < 18446744073709551616 := by
        rw [show l.getD i 0 = l[i] by simp [hil]]
        exact HX.out _ (List.getElem_mem hil)
      have hmem : Hid (l.getD i 0 ∈ l) := Lib.hid (by rw [show l.getD i 0 = l[i] by simp [hil]]; exact List.getElem_mem hil)
      have hstep : Hid (∀ x ∈ l.take (i + 1), x = l.getD i 0 ∨ x ∈ l.take i) := Lib.hid (by
        intro x hx
        rw [List.take_succ_eq_append_getElem hil, List.mem_append] at hx
        rcases hx with h | h
        · exact .inr h
        · left; simpa [hil] using h)
      generalize l.getD i 0 = x at *
      by_cases hbig : x < 1152921504606846976
      · have hI : decide ((1152921504606846976 : Int) ≤ (x : Int)) = false := decide_eq_false (by omega)
        have HBG := Lib.hid hbig
        clear hbig
        generalize hXX : decide ((1152921504606846976 : Int) ≤ (x : Int)) = XX at *
        subst hI
        go_wp2_with fail
        go_roundg (gk - 1)
        case measure => go_light; omega
        case rel =>
          go_light
          refine ⟨i + 1, by omega, by go_num, Lib.hid (fun y hy => ?_), q, rfl⟩
          rcases hstep.out y hy with rfl | h
          · exact HBG.out
          · exact hA.out y h
      · have hI : decide ((1152921504606846976 : Int) ≤ (x : Int)) = true := decide_eq_true (by omega)
        have HP := Lib.hid (pkA_big _ l (Nat.le_refl _) x hmem.out hbig)
        clear hbig
        generalize hXX : decide ((1152921504606846976 : Int) ≤ (x : Int)) = XX at *
        subst hI
        go_wp2_with fail
        go_ret2
        exact ⟨⟨HB0.out.os, HB0.out.tape, HB0.out.output, HB0.out.size, HB0.out.block⟩, .inl ⟨HP.out, by go_light; rfl⟩⟩
end Go.Proofs.YthcgalpabjjkoaaDoor

/- XUnPlain: What the two Unpacks give, in plain words. -/
namespace Go.Proofs.YthcgalpabjjkoaaDoor
set_option linter.unusedVariables false

theorem rd_get {bs : List UInt8} {i : Nat} (h : 8 * i + 8 ≤ bs.length) :
    num (((bits8 bs).drop (64 * i)).take 4) = rdN 8 (bs.drop (8 * i)) / 2 ^ 60 ∧ num (((bits8 bs).drop (64 * i + 4)).take 60) = rdN 8 (bs.drop (8 * i)) % 2 ^ 60 := by
  have e1 : (bits8 bs).drop (64 * i) = bits8 (bs.drop (8 * i)) := by rw [← bits8_drop]; congr 1; omega
  have e2 : (bits8 bs).drop (64 * i + 4) = (bits8 (bs.drop (8 * i))).drop 4 := by rw [← e1, List.drop_drop]
  rw [e1, e2]
  have hl : 64 ≤ (bits8 (bs.drop (8 * i))).length := by simp; omega
  unfold rdN
  rw [← bits8_take]
  generalize bits8 (bs.drop (8 * i)) = c at *
  have e3 : c.take (8 * 8) = c.take 4 ++ (c.drop 4).take 60 := by
    rw [show 8 * 8 = 4 + 60 by rfl, List.take_add]
  have h60 : ((c.drop 4).take 60).length = 60 := by simp; omega
  have := num_lt ((c.drop 4).take 60)
  rw [h60] at this
  rw [e3, num_append, h60]
  constructor <;> omega

/-- The words of bytes. -/
def wordsOf : Nat → List UInt8 → List Nat
  | 0, _ => []
  | m + 1, bs => rdN 8 bs :: wordsOf m (bs.drop 8)
def wl (bs : List UInt8) : List Nat := wordsOf (bs.length / 8) bs

theorem wordsOf_len : ∀ (m : Nat) (bs : List UInt8), (wordsOf m bs).length = m
  | 0, _ => rfl
  | m + 1, bs => by unfold wordsOf; rw [List.length_cons, wordsOf_len m]
theorem wl_len (bs : List UInt8) : (wl bs).length = bs.length / 8 := wordsOf_len _ _
theorem wordsOf_drop : ∀ (m i : Nat) (bs : List UInt8), i < m → (wordsOf m bs).drop i = rdN 8 (bs.drop (8 * i)) :: (wordsOf m bs).drop (i + 1)
  | m + 1, 0, bs, _ => rfl
  | m + 1, i + 1, bs, h => by
    have := wordsOf_drop m i (bs.drop 8) (by omega)
    unfold wordsOf
    rw [List.drop_succ_cons, List.drop_succ_cons, this, List.drop_drop]
    congr 3
    omega
theorem wl_drop (i : Nat) (bs : List UInt8) (h : 8 * i + 8 ≤ bs.length) : (wl bs).drop i = rdN 8 (bs.drop (8 * i)) :: (wl bs).drop (i + 1) :=
  wordsOf_drop _ _ _ (by omega)

def val (W v k : Nat) : Nat := v / 2 ^ (k * W) % 2 ^ W
def vals (W v m : Nat) : List Nat := (List.range m).map (val W v)
theorem vals_zero (W v : Nat) : vals W v 0 = [] := rfl
theorem vals_next (W v m : Nat) : vals W v (m + 1) = vals W v m ++ [val W v m] := by unfold vals; rw [List.range_succ, List.map_append]; rfl
theorem vals_len (W v m : Nat) : (vals W v m).length = m := by simp [vals]

/-- How many numbers a word still gives. -/
def room (n : Nat) (acc : List Nat) (s : Nat) : Nat := min (60 / wds.getD s 0) (n - acc.length)

def decR (n : Nat) : List Nat → List Nat → Option (List Nat)
  | [], acc => some acc
  | v :: r, acc => if v / 2 ^ 60 < 14 then decR n r (acc ++ vals (wds.getD (v / 2 ^ 60) 0) v (room n acc (v / 2 ^ 60))) else none
def decP (n : Nat) : List Nat → List Nat → Option (List Nat)
  | [], acc => some acc
  | v :: r, acc => if n ≤ acc.length then some acc else if v / 2 ^ 60 < 14 then decP n r (acc ++ vals (wds.getD (v / 2 ^ 60) 0) v (room n acc (v / 2 ^ 60))) else none

theorem room_le (n : Nat) (acc : List Nat) (s : Nat) : room n acc s ≤ 60 := by
  unfold room
  have : 60 / wds.getD s 0 ≤ 60 := Nat.div_le_self _ _
  omega

theorem decR_len {n : Nat} : ∀ {ws acc l : List Nat}, decR n ws acc = some l → acc.length ≤ l.length ∧ l.length ≤ acc.length + 60 * ws.length ∧ (acc.length ≤ n → l.length ≤ n)
  | [], acc, l, h => by
    obtain rfl : acc = l := by simpa [decR] using h
    simp
  | v :: r, acc, l, h => by
    unfold decR at h
    split at h
    · have ih := decR_len h
      rw [List.length_append, vals_len] at ih
      have h1 := room_le n acc (v / 2 ^ 60)
      have h2 : room n acc (v / 2 ^ 60) ≤ n - acc.length := Nat.min_le_right _ _
      rw [List.length_cons]
      generalize room n acc (v / 2 ^ 60) = R at *
      refine ⟨by omega, by omega, fun h3 => ih.2.2 (by omega)⟩
    · cases h

theorem decR_full {n : Nat} : ∀ {ws acc l : List Nat}, n ≤ acc.length → decR n ws acc = some l → l = acc
  | [], acc, l, _, h => by simpa [decR] using h.symm
  | v :: r, acc, l, hn, h => by
    unfold decR at h
    split at h
    · have e : room n acc (v / 2 ^ 60) = 0 := by unfold room; rw [Nat.sub_eq_zero_of_le hn, Nat.min_zero]
      rw [e, vals_zero, List.append_nil] at h
      exact decR_full hn h
    · cases h

theorem decP_of {n : Nat} : ∀ {ws acc l : List Nat}, decR n ws acc = some l → decP n ws acc = some l
  | [], acc, l, h => h
  | v :: r, acc, l, h => by
    unfold decP
    by_cases hn : n ≤ acc.length
    · rw [if_pos hn, decR_full hn h]
    · rw [if_neg hn]
      unfold decR at h
      split at h
      · rw [if_pos (by assumption)]
        exact decP_of h
      · cases h

theorem decR_of {n : Nat} : ∀ {ws acc l : List Nat}, (∀ v ∈ ws, v / 2 ^ 60 < 14) → decP n ws acc = some l → decR n ws acc = some l
  | [], acc, l, _, h => h
  | v :: r, acc, l, hv, h => by
    have h14 := hv v (by simp)
    have hr : ∀ x ∈ r, x / 2 ^ 60 < 14 := fun x hx => hv x (by simp [hx])
    unfold decP at h
    by_cases hn : n ≤ acc.length
    · rw [if_pos hn] at h
      obtain rfl : acc = l := by simpa using h
      have key : ∀ (ws : List Nat), (∀ v ∈ ws, v / 2 ^ 60 < 14) → decR n ws acc = some acc := by
        intro ws
        induction ws with
        | nil => intro _; rfl
        | cons v r ih =>
          intro hv
          unfold decR
          have e : room n acc (v / 2 ^ 60) = 0 := by unfold room; rw [Nat.sub_eq_zero_of_le hn, Nat.min_zero]
          rw [if_pos (hv v (by simp)), e, vals_zero, List.append_nil]
          exact ih (fun x hx => hv x (by simp [hx]))
      exact key _ hv
    · rw [if_neg hn, if_pos h14] at h
      unfold decR
      rw [if_pos h14]
      exact decR_of hr h

/-! ### What Pack gives -/
theorem pkA_ind {P : List Nat → List UInt8 → Prop} (h0 : P [] []) (h1 : ∀ (l : List Nat) (s W : Nat) (bs : List UInt8), l ≠ [] → takeS l = some (s, W) → 1 ≤ min (60 / W) l.length → pkA (l.drop (min (60 / W) l.length)) = some bs → P (l.drop (min (60 / W) l.length)) bs → P l (be8 (wordN W s l) ++ bs)) :
    ∀ (n : Nat) (l : List Nat) (bs : List UInt8), l.length ≤ n → pkA l = some bs → P l bs
  | n, [], bs, _, h => by
    rw [pkA_nil] at h
    obtain rfl : [] = bs := by simpa using h
    exact h0
  | 0, x :: r, bs, h, _ => by simp at h
  | n + 1, x :: r, bs, hn, h => by
    have hl : x :: r ≠ [] := by simp
    cases ht : takeS (x :: r) with
    | none => rw [pkA_none hl ht] at h; cases h
    | some p =>
      obtain ⟨s, W⟩ := p
      rw [pkA_some hl ht] at h
      have hp := takeN_pos ht hl
      generalize x :: r = l at *
      cases hd : pkA (l.drop (min (60 / W) l.length)) with
      | none => rw [hd] at h; cases h
      | some b =>
        rw [hd] at h
        obtain rfl : be8 (wordN W s l) ++ b = bs := by simpa using h
        exact h1 l s W b hl ht hp hd (pkA_ind h0 h1 n _ _ (by rw [List.length_drop]; omega) hd)

theorem wordN_lt (W s : Nat) (l : List Nat) : wordN W s l < 18446744073709551616 := wordT_lt _ _ _ _

theorem wl_cons (v : Nat) (hv : v < 18446744073709551616) (r : List UInt8) : wl (be8 v ++ r) = v :: wl r := by
  unfold wl
  have e : (be8 v ++ r).length / 8 = r.length / 8 + 1 := by rw [List.length_append, be8_len]; omega
  have e2 : (be8 v ++ r).drop 8 = r := by rw [show (8 : Nat) = (be8 v).length by rw [be8_len], List.drop_left]
  rw [e]
  unfold wordsOf
  rw [rd_be8 v hv, e2]
  cases h : r.length / 8 <;> rfl

def lowF (W : Nat) : List Nat → Nat
  | [] => 0
  | x :: r => x + 2 ^ W * lowF W r

theorem lowF_snoc (W : Nat) (x : Nat) : ∀ l : List Nat, lowF W (l ++ [x]) = lowF W l + x * 2 ^ (l.length * W)
  | [] => by simp [lowF]
  | y :: r => by
    have ih := lowF_snoc W x r
    rw [List.cons_append]
    unfold lowF
    rw [ih, List.length_cons, Nat.mul_add, Nat.add_mul, Nat.pow_add]
    simp only [Nat.one_mul]
    rw [show 2 ^ W * (x * 2 ^ (r.length * W)) = x * (2 ^ (r.length * W) * 2 ^ W) by rw [Nat.mul_left_comm, Nat.mul_comm (2 ^ W)]]
    omega

theorem fitsB_mem {l : List Nat} {W : Nat} : fitsB l W = true ↔ ∀ x ∈ l, x < 2 ^ W := by simp [fitsB]

theorem lowF_lt (W : Nat) : ∀ l : List Nat, (∀ x ∈ l, x < 2 ^ W) → lowF W l < 2 ^ (l.length * W)
  | [], _ => by simp [lowF]
  | x :: r, h => by
    have ih := lowF_lt W r (fun y hy => h y (by simp [hy]))
    have hx := h x (by simp)
    unfold lowF
    rw [List.length_cons, Nat.add_mul, Nat.pow_add, Nat.one_mul, Nat.mul_comm (2 ^ (r.length * W))]
    have h1 : 2 ^ W * (lowF W r + 1) ≤ 2 ^ W * 2 ^ (r.length * W) := Nat.mul_le_mul_left _ ih
    rw [Nat.mul_add] at h1
    omega

theorem lowF_get (W : Nat) : ∀ (l : List Nat) (k : Nat) (h : k < l.length), (∀ x ∈ l, x < 2 ^ W) → lowF W l / 2 ^ (k * W) % 2 ^ W = l[k]
  | x :: r, 0, _, h => by
    have hx := h x (by simp)
    unfold lowF
    rw [Nat.zero_mul, Nat.pow_zero, Nat.div_one, Nat.add_mul_mod_self_left, Nat.mod_eq_of_lt hx]
    rfl
  | x :: r, k + 1, hk, h => by
    have hx := h x (by simp)
    have ih := lowF_get W r k (by simpa using hk) (fun y hy => h y (by simp [hy]))
    have hp := Nat.two_pow_pos W
    unfold lowF
    rw [Nat.add_mul, Nat.one_mul, Nat.add_comm (k * W), Nat.pow_add, ← Nat.div_div_eq_div_mul, Nat.add_mul_div_left _ _ hp, Nat.div_eq_of_lt hx, Nat.zero_add, ih]
    rfl

theorem word_or (s p x low W : Nat) (hp : p + W ≤ 60) (hlow : low < 2 ^ p) (hx : x < 2 ^ W) : (s * 2 ^ 60 + low) ||| x * 2 ^ p = s * 2 ^ 60 + (low + x * 2 ^ p) := by
  have e60 : (2 : Nat) ^ 60 = 2 ^ p * 2 ^ (60 - p) := by rw [← Nat.pow_add]; congr 1; omega
  have ea : s * 2 ^ 60 = 2 ^ p * (s * 2 ^ (60 - p)) := by rw [e60, Nat.mul_left_comm]
  have hx2 : x < 2 ^ (60 - p) := Nat.lt_of_lt_of_le hx (Nat.pow_le_pow_right (by omega) (by omega))
  have e1 : 2 ^ p * (s * 2 ^ (60 - p)) + low = 2 ^ p * (s * 2 ^ (60 - p)) ||| low := Nat.two_pow_add_eq_or_of_lt hlow _
  have e2 : s * 2 ^ (60 - p) + x = s * 2 ^ (60 - p) ||| x := by
    rw [Nat.mul_comm]
    exact Nat.two_pow_add_eq_or_of_lt hx2 _
  have e3 : (2 ^ p * (s * 2 ^ (60 - p))) ||| (x * 2 ^ p) = 2 ^ p * (s * 2 ^ (60 - p) ||| x) := by
    rw [Nat.mul_comm (2 ^ p), ← Nat.shiftLeft_eq _ p, ← Nat.shiftLeft_eq x p, ← Nat.shiftLeft_or_distrib, Nat.shiftLeft_eq _ p, Nat.mul_comm]
  rw [ea, e1, Nat.or_assoc, Nat.or_comm low, ← Nat.or_assoc, e3, ← e2, ← Nat.two_pow_add_eq_or_of_lt hlow, Nat.mul_add, Nat.mul_comm x]
  omega

theorem wordT_eq (W s : Nat) (l : List Nat) (hs : s < 14) : ∀ i, i ≤ l.length → i * W ≤ 60 → (∀ x ∈ l.take i, x < 2 ^ W) → wordT W s l i = s * 2 ^ 60 + lowF W (l.take i)
  | 0, _, _, _ => by
    show s * 2 ^ 60 % 18446744073709551616 = _
    simp [lowF]
    omega
  | i + 1, hi, hw, hx => by
    have hil : i < l.length := by omega
    rw [Nat.add_mul, Nat.one_mul] at hw
    have e := List.take_succ_eq_append_getElem hil
    rw [e] at hx
    have ih := wordT_eq W s l hs i (by omega) (by omega) (fun x h => hx x (List.mem_append_left _ h))
    have hx1 := hx l[i] (List.mem_append_right _ (by simp))
    have hlow := lowF_lt W (l.take i) (fun x h => hx x (List.mem_append_left _ h))
    have hlen : (l.take i).length = i := by simp; omega
    rw [hlen] at hlow
    have hm : l[i] * 2 ^ (i * W) % 18446744073709551616 = l[i] * 2 ^ (i * W) := by
      refine Nat.mod_eq_of_lt ?_
      have h1 : l[i] * 2 ^ (i * W) < 2 ^ W * 2 ^ (i * W) := Nat.mul_lt_mul_of_pos_right hx1 (Nat.two_pow_pos _)
      rw [← Nat.pow_add] at h1
      have h2 : 2 ^ (W + i * W) ≤ 2 ^ 60 := Nat.pow_le_pow_right (by omega) (by omega)
      omega
    unfold wordT
    rw [ih, show l.getD i 0 = l[i] by simp [hil], hm, word_or _ _ _ _ _ hw hlow hx1, e, lowF_snoc, hlen]

/-- What Pack's word holds. -/
theorem wordN_eq {l : List Nat} {s W : Nat} (h : takeS l = some (s, W)) : wordN W s l = s * 2 ^ 60 + lowF W (l.take (min (60 / W) l.length)) ∧ (∀ x ∈ l.take (min (60 / W) l.length), x < 2 ^ W) ∧ s < 14 ∧ W = wds.getD s 0 ∧ min (60 / W) l.length * W ≤ 60 := by
  obtain ⟨hs, hw, hf⟩ := takeS_some h
  have hx : ∀ x ∈ l.take (min (60 / W) l.length), x < 2 ^ W := by
    intro x hx
    refine fitsB_mem.1 hf x ?_
    by_cases hc : 60 / W ≤ l.length
    · rwa [Nat.min_eq_left hc] at hx
    · rw [Nat.min_eq_right (by omega), List.take_length] at hx
      rwa [List.take_of_length_le (by omega)]
  have hm : min (60 / W) l.length * W ≤ 60 := Nat.le_trans (Nat.mul_le_mul_right W (Nat.min_le_left _ _)) (Nat.div_mul_le_self 60 W)
  exact ⟨wordT_eq W s l hs _ (Nat.min_le_right _ _) hm hx, hx, hs, hw, hm⟩

theorem word_sel {s W : Nat} {ys : List Nat} (hx : ∀ x ∈ ys, x < 2 ^ W) (hm : ys.length * W ≤ 60) : (s * 2 ^ 60 + lowF W ys) / 2 ^ 60 = s ∧ vals W (s * 2 ^ 60 + lowF W ys) ys.length = ys := by
  have hl := lowF_lt W ys hx
  have h60 : 2 ^ (ys.length * W) ≤ 2 ^ 60 := Nat.pow_le_pow_right (by omega) hm
  refine ⟨by omega, ?_⟩
  refine List.ext_getElem (by rw [vals_len]) fun k h1 h2 => ?_
  have hg : (vals W (s * 2 ^ 60 + lowF W ys) ys.length)[k] = val W (s * 2 ^ 60 + lowF W ys) k := by simp [vals]
  rw [vals_len] at h1
  rw [hg]
  unfold val
  have hk : k * W + W ≤ 60 := by
    have := Nat.mul_le_mul_right W (show k + 1 ≤ ys.length by omega)
    rw [Nat.add_mul, Nat.one_mul] at this
    omega
  have e60 : (2 : Nat) ^ 60 = 2 ^ (k * W) * (2 ^ W * 2 ^ (60 - (k * W + W))) := by
    rw [← Nat.pow_add, ← Nat.pow_add]; congr 1; omega
  rw [e60, Nat.mul_left_comm, Nat.mul_left_comm s, Nat.add_comm, Nat.add_mul_div_left _ _ (Nat.two_pow_pos _), Nat.add_mul_mod_self_left]
  exact lowF_get W ys k h2 hx

theorem pkA_good {l : List Nat} {bs : List UInt8} (h : pkA l = some bs) : bs.length % 8 = 0 ∧ l.length ≤ 60 * (bs.length / 8) ∧ (∀ v ∈ wl bs, v / 2 ^ 60 < 14) ∧ ∀ acc : List Nat, decR (acc.length + l.length) (wl bs) acc = some (acc ++ l) := by
  refine pkA_ind (P := fun l bs => bs.length % 8 = 0 ∧ l.length ≤ 60 * (bs.length / 8) ∧ (∀ v ∈ wl bs, v / 2 ^ 60 < 14) ∧ ∀ acc : List Nat, decR (acc.length + l.length) (wl bs) acc = some (acc ++ l)) ?_ ?_ l.length l bs (Nat.le_refl _) h
  · refine ⟨rfl, Nat.le_refl _, fun v hv => ?_, fun acc => ?_⟩
    · simp [wl, wordsOf] at hv
    · simp [wl, wordsOf, decR]
  · intro l s W bs hl ht hp hd ⟨i1, i2, i3, i4⟩
    obtain ⟨w1, w2, w3, w4, w5⟩ := wordN_eq ht
    have hlt := wordN_lt W s l
    have hlen : (l.take (min (60 / W) l.length)).length = min (60 / W) l.length := by simp
    have hsel := word_sel (s := s) w2 (by rw [hlen]; exact w5)
    rw [← w1, hlen] at hsel
    have hdl : (l.drop (min (60 / W) l.length)).length = l.length - min (60 / W) l.length := by simp
    rw [hdl] at i2
    have h60 : 60 / W ≤ 60 := Nat.div_le_self _ _
    refine ⟨?_, ?_, ?_, ?_⟩
    · rw [List.length_append, be8_len]; omega
    · rw [List.length_append, be8_len]; omega
    · rw [wl_cons _ hlt]
      intro v hv
      rcases List.mem_cons.1 hv with rfl | hv
      · rw [hsel.1]; exact w3
      · exact i3 v hv
    · intro acc
      rw [wl_cons _ hlt]
      have hroom : room (acc.length + l.length) acc s = min (60 / W) l.length := by
        unfold room
        rw [← w4, Nat.add_sub_cancel_left]
      have e : decR (acc.length + l.length) (wordN W s l :: wl bs) acc = decR (acc.length + l.length) (wl bs) (acc ++ l.take (min (60 / W) l.length)) := by
        conv => lhs; unfold decR
        rw [if_pos (by rw [hsel.1]; exact w3), hsel.1, hroom, ← w4, hsel.2]
      have := i4 (acc ++ l.take (min (60 / W) l.length))
      rw [List.length_append, hlen, hdl, show acc.length + min (60 / W) l.length + (l.length - min (60 / W) l.length) = acc.length + l.length by omega, List.append_assoc, List.take_append_drop] at this
      rw [e, this]

/-- What both Unpacks give. -/
def unA (bs : List UInt8) (n : Int) : Option (List Nat) := if 0 ≤ n then match decP n.toNat (wl bs) [] with
    | none => none
    | some l => if pkA l = some bs ∧ (l.length : Int) = n then some l else none
  else none

theorem unA_back {l : List Nat} {bs : List UInt8} (h : pkA l = some bs) : unA bs l.length = some l := by
  have := (pkA_good h).2.2.2 []
  rw [List.length_nil, Nat.zero_add, List.nil_append] at this
  have h2 := decP_of this
  unfold unA
  rw [if_pos (by omega), Int.toNat_natCast, h2]
  simp only
  rw [if_pos ⟨h, trivial⟩]

theorem unA_some {l : List Nat} {bs : List UInt8} {n : Nat} (h : decP n (wl bs) [] = some l) (h2 : pkA l = some bs) (h3 : l.length = n) : unA bs n = some l := by
  unfold unA
  rw [if_pos (by omega), Int.toNat_natCast, h]
  simp only
  rw [if_pos ⟨h2, by omega⟩]
theorem unA_none {l : List Nat} {bs : List UInt8} {n : Nat} (h : decP n (wl bs) [] = some l) (h2 : ¬ (pkA l = some bs ∧ l.length = n)) : unA bs n = none := by
  unfold unA
  rw [if_pos (by omega), Int.toNat_natCast, h]
  simp only
  rw [if_neg (fun ⟨a, b⟩ => h2 ⟨a, by omega⟩)]
theorem unA_stop {bs : List UInt8} {n : Nat} (h : decP n (wl bs) [] = none) : unA bs n = none := by
  unfold unA
  rw [if_pos (by omega), Int.toNat_natCast, h]
theorem unA_neg {bs : List UInt8} {n : Int} (h : n < 0) : unA bs n = none := by
  unfold unA
  rw [if_neg (by omega)]
/-- A bad word, or bytes that are no words: none. -/
theorem unA_bad {bs : List UInt8} {n : Nat} (h : decR n (wl bs) [] = none) : unA bs n = none := by
  cases hp : decP n (wl bs) [] with
  | none => exact unA_stop hp
  | some l =>
    refine unA_none hp fun ⟨h1, h2⟩ => ?_
    have := decR_of (pkA_good h1).2.2.1 hp
    rw [this] at h
    cases h
theorem unA_form {bs : List UInt8} {n : Int} (h : bs.length % 8 ≠ 0 ∨ n < 0 ∨ 60 * (bs.length : Int) < n) : unA bs n = none := by
  by_cases hn : n < 0
  · exact unA_neg hn
  · obtain ⟨m, rfl⟩ := Int.eq_ofNat_of_zero_le (show 0 ≤ n by omega)
    cases hp : decP m (wl bs) [] with
    | none => exact unA_stop hp
    | some l =>
      refine unA_none hp fun ⟨h1, h2⟩ => ?_
      obtain ⟨g1, g2, _⟩ := pkA_good h1
      omega
theorem decP_lt {n : Nat} : ∀ {ws acc l : List Nat}, decP n ws acc = some l → (∀ x ∈ acc, x < 18446744073709551616) → ∀ x ∈ l, x < 18446744073709551616
  | [], acc, l, h, ha => by
    obtain rfl : acc = l := by simpa [decP] using h
    exact ha
  | v :: r, acc, l, h, ha => by
    unfold decP at h
    split at h
    · obtain rfl : acc = l := by simpa using h
      exact ha
    · split at h
      · rename_i h14
        refine decP_lt h fun x hx => ?_
        rw [List.mem_append] at hx
        rcases hx with hx | hx
        · exact ha x hx
        · unfold vals at hx
          obtain ⟨k, _, rfl⟩ := List.mem_map.1 hx
          unfold val
          have hw := (wds_get _ h14).2
          have h1 : v / 2 ^ (k * wds.getD (v / 2 ^ 60) 0) % 2 ^ wds.getD (v / 2 ^ 60) 0 < 2 ^ wds.getD (v / 2 ^ 60) 0 := Nat.mod_lt _ (Nat.two_pow_pos _)
          have h2 : 2 ^ wds.getD (v / 2 ^ 60) 0 ≤ 2 ^ 60 := Nat.pow_le_pow_right (by omega) hw
          omega
      · cases h
theorem unA_lt {bs : List UInt8} {n : Int} {l : List Nat} (h : unA bs n = some l) : ∀ x ∈ l, x < 18446744073709551616 := by
  unfold unA at h
  split at h
  · split at h
    · cases h
    · rename_i m hm
      split at h
      · obtain rfl : m = l := by simpa using h
        exact decP_lt hm (by simp)
      · cases h
  · cases h
end Go.Proofs.YthcgalpabjjkoaaDoor

/- XUnMem: What the two Unpacks keep in memory while they run. -/
namespace Go.Proofs.YthcgalpabjjkoaaDoor
open Go.RowKit
set_option linter.unusedVariables false

def OwnN (w : World) (base : Nat) (v : Value) (l : List Nat) : Prop := w.ownsRow base 25 1 v l.length (l.map uV)
theorem OwnN.nums {w : World} {base : Nat} {v : Value} {l : List Nat} (h : OwnN w base v l) : Nums w v l := RdV.ofOwns h

/-- The list, the widths' block a, nothing old changed. -/
def St (w wr : World) (a B : Nat) (v : Value) (l : List Nat) : Prop :=
  OwnN wr B v l ∧ Below w.heap.size w wr ∧ (∀ k, k < 14 → wr.cell? ⟨a, k, none⟩ = some (.int .i64 (wds.getD k 0 : Nat))) ∧ w.heap.size ≤ a ∧ a < B ∧ B ≤ wr.heap.size

theorem St.drewN {w wr : World} {a B : Nat} {v : Value} {l : List Nat} (h : St w wr a B v l) (m : Nat) : St w (wr.drewN m) a B v l := by
  obtain ⟨h1, h2, h3, h4, h5, h6⟩ := h
  exact ⟨h1, ⟨h2.os, h2.tape, h2.output, h2.size, h2.block⟩, h3, h4, h5, h6⟩
theorem St.grew {w wr w2 : World} {a B : Nat} {v v2 : Value} {l l2 : List Nat} (h : St w wr a B v l) (g : Grew wr w2 B 25 1 v v2 l2.length (l2.map uV)) : St w w2 a B v2 l2 := by
  obtain ⟨h1, h2, h3, h4, h5, h6⟩ := h
  have hs := g.grown.size
  refine ⟨g.owns, h2.trans (g.below h2.size (fun k hk => ?_)), fun k hk => ?_, h4, h5, by omega⟩
  · have := (World.ownsRow.lt h1 k hk).1
    omega
  · rw [g.chg.cell (p := ⟨a, k, none⟩) (by show a < _; omega) (fun e => ?_)]
    · exact h3 k hk
    · have := (World.ownsRow.lt h1 a e).1
      omega
theorem St.chg {w wr w2 : World} {a B : Nat} {v : Value} {l : List Nat} {S : Nat → Prop} (h : St w wr a B v l) (c : Chg S wr w2) (hS : ∀ k, S k → a < k ∧ k < B) : St w w2 a B v l := by
  obtain ⟨h1, h2, h3, h4, h5, h6⟩ := h
  have hs := c.size
  refine ⟨c.owns h1 (fun k hk e => ?_), h2.trans (c.below h2.size (fun k hk => ?_)), fun k hk => ?_, h4, h5, by omega⟩
  · have := (World.ownsRow.lt h1 k hk).1
    have := hS k e
    omega
  · have := hS k hk; omega
  · rw [c.cell (p := ⟨a, k, none⟩) (by show a < _; omega) (fun e => ?_)]
    · exact h3 k hk
    · have := hS a e
      omega

theorem and_step (V Z W M : Nat) (hV : V < 18446744073709551616) (hM : M = 2 ^ W - 1) (hW : W ≤ 60) : bits BinOp.and IntKind.u64 ((V : Int) / 2 ^ Z) (M : Int) = ((V / 2 ^ Z % 2 ^ W : Nat) : Int) := by
  have e1 : ((V : Int) / 2 ^ Z) = ((V / 2 ^ Z : Nat) : Int) := by simp
  have h2 : 2 ^ W ≤ 2 ^ 60 := Nat.pow_le_pow_right (by omega) hW
  have h3 : V / 2 ^ Z ≤ V := Nat.div_le_self _ _
  rw [e1, u64_and_nat _ _ (by omega) (by omega), hM, Nat.and_two_pow_sub_one_eq_mod]
theorem mask_eq (W : Nat) (hW : W ≤ 60) : ∃ M : Nat, M = 2 ^ W - 1 ∧ IntKind.u64.wrap (IntKind.u64.wrap ((2 : Int) ^ W) - 1) = (M : Int) := by
  refine ⟨2 ^ W - 1, rfl, ?_⟩
  have e : ((2 : Int) ^ W) = ((2 ^ W : Nat) : Int) := by simp
  have h2 : 2 ^ W ≤ 2 ^ 60 := Nat.pow_le_pow_right (by omega) hW
  have h3 := Nat.two_pow_pos W
  rw [e, IntWalk.u64_in ((2 ^ W : Nat) : Int) (by omega), IntWalk.u64_in _ (by omega)]
  omega

/-- What an Unpack ends with. -/
def UnEnd (bs : List UInt8) (n : Int) (w : World) (e : Ending) (w' : World) : Prop :=
  Below w.heap.size w w' ∧ ((unA bs n = none ∧ e = .returned (.tuple #[.slice none 0 0, .int .i64 2])) ∨ ∃ l ao cap, unA bs n = some l ∧ l.length ≤ 17592186044416 ∧ (l.length : Int) = n ∧ e = .returned (.tuple #[.slice ao l.length cap, .int .i64 0]) ∧ OwnN w' w.heap.size (.slice ao l.length cap) l)
end Go.Proofs.YthcgalpabjjkoaaDoor

/- XUn04: pack.Unpack. -/
namespace Go.Proofs.YthcgalpabjjkoaaDoor
open Go.RowKit
set_option linter.unusedVariables false

theorem bytesEqual_any (xs bs : List UInt8) (a b : Value) (w : World) (ha : Rd w a xs) (hb : Rd w b bs) :
    Calls Tryd.prog 27 #[a, b] w fun e w' => e = .returned (.bool (xs == bs)) ∧ w' = w := by
  have c4 := run_str ha 33 5 9 Tryd.underlying33 Tryd.underlying5 Tryd.underlying9
  have c5 := run_str hb 33 5 9 Tryd.underlying33 Tryd.underlying5 Tryd.underlying9
  go_enter Tryd.func27, Tryd.ntmps27
  go_wp2_with fail
  go_ret
  exact ⟨rfl, rfl⟩

theorem val_low (V k W : Nat) (h : (k + 1) * W ≤ 60) : V % 2 ^ 60 / 2 ^ (k * W) % 2 ^ W = val W V k := by
  unfold val
  rw [Nat.add_mul, Nat.one_mul] at h
  have e : (2 : Nat) ^ 60 = 2 ^ (k * W) * 2 ^ (60 - k * W) := by rw [← Nat.pow_add]; congr 1; omega
  rw [e, Nat.mod_mul_right_div_self, Nat.mod_mod_of_dvd]
  exact Nat.pow_dvd_pow 2 (by omega)
theorem low_next (X k W : Nat) : X / 2 ^ (k * W) / 2 ^ W = X / 2 ^ ((k + 1) * W) := by
  rw [Nat.div_div_eq_div_mul, ← Nat.pow_add, Nat.add_mul, Nat.one_mul]
theorem and_step0 (X W M : Nat) (hX : X < 18446744073709551616) (hM : M = 2 ^ W - 1) (hW : W ≤ 60) : bits BinOp.and IntKind.u64 (X : Int) (M : Int) = ((X % 2 ^ W : Nat) : Int) := by
  have := and_step X 0 W M hX hM hW
  simpa using this

set_option maxHeartbeats 2000000 in
set_option maxRecDepth 100000 in
theorem unpack_any (bs : List UInt8) (n : Int) (hn1 : -9223372036854775808 ≤ n) (hn2 : n ≤ 9223372036854775807) (v : Value) (w : World) (hl : bs.length ≤ 140737488355328) (hB : ∃ B : Nat, B ≤ 17592186044416 ∧ (n ≤ B ∨ 60 * (bs.length / 8) ≤ B)) (hr : Rd w v bs) :
    Calls Tryd.prog 87 #[v, .int .i64 n] w fun e w' => UnEnd bs n w e w' := by
  obtain ⟨ao0, cap0, rfl, hnc, hcm⟩ := RdV.shape hr
  unfold maxLen at hcm
  by_cases hneg : n < 0
  · go_enter Tryd.func87, Tryd.ntmps87
    go_wp2_with fail
    go_ret2
    exact ⟨Below.refl _ _, .inl ⟨unA_neg hneg, by go_light; rfl⟩⟩
  · obtain ⟨N, rfl⟩ := Int.eq_ofNat_of_zero_le (show 0 ≤ n by omega)
    have hst : ∀ t : Array Value, (storeCells ⟨w.heap.size + 1, 0, none⟩ wArr.toList).run Tryd.prog ((w.alloc (.cells wArr 120)).alloc (.cells #[.int .i64 0, .int .i64 0, .int .i64 0, .int .i64 0, .int .i64 0, .int .i64 0, .int .i64 0, .int .i64 0, .int .i64 0, .int .i64 0, .int .i64 0, .int .i64 0, .int .i64 0, .int .i64 0] 120)) = .ok () ((w.alloc (.cells wArr 120)).alloc (.cells wArr 120)) := by
      intro _
      have e : (w.alloc (.cells wArr 120)).heap.size = w.heap.size + 1 := by simp
      have := run_storeCells_new (P := Tryd.prog) (w.alloc (.cells wArr 120)) 120 #[.int .i64 0, .int .i64 0, .int .i64 0, .int .i64 0, .int .i64 0, .int .i64 0, .int .i64 0, .int .i64 0, .int .i64 0, .int .i64 0, .int .i64 0, .int .i64 0, .int .i64 0, .int .i64 0] wArr rfl rfl (by simp [wArr, Value.oneCell'])
      rw [e] at this
      exact this
    have hs := hst #[]
    clear hst
    have HA0 : ∀ k < 14, ((w.alloc (.cells wArr 120)).alloc (.cells wArr 120)).cell? ⟨w.heap.size + 1, k, none⟩ = some (.int .i64 (wds.getD k 0 : Nat)) := by
      intro k hk
      have e : (w.alloc (.cells wArr 120)).heap.size = w.heap.size + 1 := by simp
      have := cell_of_row ((w.alloc (.cells wArr 120)).alloc (.cells wArr 120)) (w.heap.size + 1) k wArr 120 (0, 0) (by rw [← e]; exact heap_alloc_last _ _)
      rw [this]
      have hcase : k = 0 ∨ k = 1 ∨ k = 2 ∨ k = 3 ∨ k = 4 ∨ k = 5 ∨ k = 6 ∨ k = 7 ∨ k = 8 ∨ k = 9 ∨ k = 10 ∨ k = 11 ∨ k = 12 ∨ k = 13 := by omega
      rcases hcase with rfl | rfl | rfl | rfl | rfl | rfl | rfl | rfl | rfl | rfl | rfl | rfl | rfl | rfl <;> rfl
    have HA := Lib.hid HA0
    clear HA0
    have HB0 := Lib.hid (((Below.refl w.heap.size w).alloc (Nat.le_refl _) (.cells wArr 120)).alloc (by simp) (.cells wArr 120))
    have HZ := Lib.hid (show ((w.alloc (.cells wArr 120)).alloc (.cells wArr 120)).heap.size = w.heap.size + 2 by simp)
    have HR := Lib.hid hr
    have HBB := Lib.hid hB
    have HNI := Lib.hid hn2
    clear hr hB hn1 hn2
    go_enter Tryd.func87, Tryd.ntmps87
    go_upto_region 4 with (fail)
    go_upto_region 5 with (refine Calls.mono (widths_any _) ?_; rintro _ _ ⟨rfl, rfl⟩)
    generalize (w.alloc (.cells wArr 120)).alloc (.cells wArr 120) = w1 at *
    clear hs
    have hNR := newReader_any _ bs w1 hl (RdV.below HR.out HB0.out)
    go_wp2_with (go_at_call 42; refine hNR.mono ?_; rintro _ w2 ⟨blk, rfl, hrd, hbl⟩)
    have HRD := Lib.hid hrd
    have hs2 : w1.heap.size ≤ w2.heap.size := hbl.size
    obtain ⟨lo, hlo⟩ : ∃ lo, lo = w1.heap.size := ⟨_, rfl⟩
    obtain ⟨B, hBz⟩ : ∃ B, B = w2.heap.size := ⟨_, rfl⟩
    have HLO := Lib.hid (show lo = w.heap.size + 2 by rw [hlo, HZ.out])
    have HBb := Lib.hid (show blk < B by obtain ⟨_, _, _, _, _, _, _, _, _, h, _⟩ := hrd; rw [hBz]; exact h)
    have HLb := Lib.hid (show lo ≤ blk by obtain ⟨_, _, _, _, _, _, _, _, h, _⟩ := hrd; rw [hlo]; exact h)
    have HST := Lib.hid (show St w w2 (w.heap.size + 1) B (.slice none 0 0) [] from ⟨World.ownsRow_nil _ _ _ _, HB0.out.trans (hbl.mono (by rw [HZ.out]; omega)), fun k hk => (hbl.cell (p := ⟨w.heap.size + 1, k, none⟩) (by rw [HZ.out]; simp)).trans (HA.out k hk), by omega, by have := HLO.out; have := HLb.out; have := HBb.out; omega, by omega⟩)
    rw [← hlo, ← hBz] at hrd
    have HRD := Lib.hid hrd
    clear HA HB0 HZ hrd hbl hs2 hlo hBz hNR
    obtain ⟨Q, hQ⟩ : ∃ Q, Q = bs.length / 8 := ⟨_, rfl⟩
    have HQ := Lib.hid hQ
    clear hQ
    go_loopg [6] Q (fun m s6 wr => ∃ (i : Nat) (acc : List Nat) (ao : Option Addr) (cap : Nat), i + m = Q ∧ s6 = .slice ao acc.length cap ∧ Hid (decP N (wl bs) [] = decP N ((wl bs).drop i) acc) ∧
      Hid (St w wr (w.heap.size + 1) B (.slice ao acc.length cap) acc) ∧ Hid (Rdr wr blk lo B bs (64 * i) false) ∧ Hid (∀ x ∈ acc, x < 18446744073709551616) ∧ Hid ((acc.length ≤ N ∧ acc.length ≤ 60 * i)))
    case atStart => exact ⟨0, [], none, 0, by omega, rfl, Lib.hid rfl, HST, HRD, Lib.hid (by simp), Lib.hid (by simp)⟩
    case round =>
      clear HST HRD
      obtain ⟨i, acc, ao, cap, hi, rfl, HD, HS, HRD, HX, HN⟩ := hrel
      have hacc : acc.length ≤ 17592186044416 := by
        obtain ⟨B, hB1, hB2⟩ := HBB.out
        have h1 := HN.out
        have h2 := HQ.out
        rcases hB2 with h | h <;> omega
      have hLf := left_any blk lo B (64 * i) bs false wr HRD.out
      obtain ⟨L, hL⟩ : ∃ L, L = 8 * bs.length - 64 * i := ⟨_, rfl⟩
      simp only [Bool.false_eq_true, if_false, ← hL] at hLf
      have hL60 : L ≤ 1125899906842624 := by omega
      have HL := Lib.hid hL
      have HI := Lib.hid hi
      clear hL hi
      by_cases hex : i = Q ∨ N ≤ acc.length
      · go_upto_region 6 with fail
        go_cut [27] (fun s27 wx => s27 = .bool false ∧ ∃ q, wx = wr.drewN q)
        case first =>
          by_cases h64 : 64 ≤ L
          · have hlt : ¬ (acc.length : Int) < (N : Int) := by
              have h1 := HL.out; have h2 := HQ.out
              rcases hex with h | h <;> omega
            have hLI : (64 : Int) ≤ (L : Int) := by omega
            go_wp2_with (go_at_call 70; refine hLf.mono ?_; rintro _ _ ⟨rfl, q1, rfl⟩)
            all_goals go_meet
            all_goals go_light
            all_goals exact ⟨by congr 1; exact decide_eq_false (by omega), q1, rfl⟩
          · have hLI : ¬ (64 : Int) ≤ (L : Int) := by omega
            go_wp2_with (go_at_call 70; refine hLf.mono ?_; rintro _ _ ⟨rfl, q1, rfl⟩)
            all_goals go_meet
            all_goals go_light
            all_goals exact ⟨rfl, q1, rfl⟩
        case rest =>
        obtain ⟨rfl, q1, rfl⟩ := hcut
        have hD := HD.out
        have HDP : Hid (decP N (wl bs) [] = some acc) := Lib.hid (by
          rw [hD]
          rcases hex with h | h
          · rw [List.drop_of_length_le (by rw [wl_len, h, HQ.out]; exact Nat.le_refl _)]
            rfl
          · cases hc : (wl bs).drop i with
            | nil => rfl
            | cons v r => show (if N ≤ acc.length then some acc else _) = some acc; rw [if_pos h])
        have HS2 := Lib.hid (HS.out.drewN q1)
        have hRd : Rd (wr.drewN q1) (.slice ao0 bs.length cap0) bs := RdV.below HR.out HS2.out.2.1
        have HRd := Lib.hid hRd
        have hRP := pack_any acc _ _ hacc HX.out HS2.out.1.nums
        clear hD HD hRd hex HS HL HI hLf HRD
        generalize wr.drewN q1 = wo at *
        cases hpk : pkA acc with
        | none =>
          have HU := Lib.hid (unA_none HDP.out (fun h => by rw [hpk] at h; cases h.1))
          rw [hpk] at hRP
          clear hpk
          go_upto_region 17 with (go_at_call 56; refine hRP.mono ?_; rintro e w3 ⟨hbl, h⟩; rcases h with ⟨_, rfl⟩ | ⟨bs', pao, pcap, h1, h2, _, _⟩; have HB3 := Lib.hid (HS2.out.2.1.trans (hbl.mono HS2.out.2.1.size)); clear hbl hRP; rotate_left 1; cases h1)
          go_wp2_with fail
          go_ret2
          exact ⟨HB3.out, .inl ⟨HU.out, by go_light; rfl⟩⟩
        | some cs =>
          have HPK := Lib.hid hpk
          rw [hpk] at hRP
          clear hpk
          go_upto_region 17 with (go_at_call 56; refine hRP.mono ?_; rintro e w3 ⟨hbl, h⟩; rcases h with ⟨h, _⟩ | ⟨bs', pao, pcap, h1, h2, rfl, ho⟩; cases h; obtain rfl : cs = bs' := (by simpa using h1); have HB3 := Lib.hid (HS2.out.2.1.trans (hbl.mono HS2.out.2.1.size)); have hEQ := bytesEqual_any bs cs _ _ w3 (RdV.below HRd.out.v hbl) ho.rd; have HN4 := Lib.hid (show OwnN w3 w.heap.size (.slice ao acc.length cap) acc from ownsRow_mono ((Chg.ofBelowAny (S := fun _ => False) hbl).owns HS2.out.1 (fun _ _ h => h)) (by have h8 := HS2.out.2.2.2.1; have h9 := HS2.out.2.2.2.2.1; omega)); clear hbl ho h1 h2 hRP)
          by_cases hn : (acc.length : Int) = (N : Int)
          · by_cases hcb : bs = cs
            · subst hcb
              have HU := Lib.hid (unA_some HDP.out HPK.out (by omega))
              have HNN := Lib.hid hn
              have hbb : (bs == bs) = true := by simp
              rw [hbb] at hEQ
              go_wp2_with (go_at_call 27; refine hEQ.mono ?_; rintro _ _ ⟨rfl, rfl⟩)
              go_ret2
              exact ⟨HB3.out, .inr ⟨acc, ao, cap, HU.out, hacc, HNN.out, by go_light; rfl, HN4.out⟩⟩
            · have HU := Lib.hid (unA_none HDP.out (fun h => hcb (by have := h.1; rw [HPK.out] at this; simpa using this.symm)))
              have hbb : (bs == cs) = false := by simpa using hcb
              rw [hbb] at hEQ
              go_wp2_with (go_at_call 27; refine hEQ.mono ?_; rintro _ _ ⟨rfl, rfl⟩)
              go_ret2
              exact ⟨HB3.out, .inl ⟨HU.out, by go_light; rfl⟩⟩
          · have HU := Lib.hid (unA_none HDP.out (fun h => hn (by have := h.2; omega)))
            go_wp2_with fail
            go_ret2
            exact ⟨HB3.out, .inl ⟨HU.out, by go_light; rfl⟩⟩
      · have hiq : i < Q := by have := HI.out; omega
        have hlN : acc.length < N := by omega
        have hLI : (64 : Int) ≤ (L : Int) := by have h1 := HL.out; have h2 := HQ.out; omega
        have hltI : (acc.length : Int) < (N : Int) := by omega
        obtain ⟨g0, hg0⟩ : ∃ g, g = gk := ⟨gk, rfl⟩
        have HG0 := Lib.hid hg0
        have hwl := wl_drop i bs (by have := HQ.out; omega)
        have hrg := rd_get (bs := bs) (i := i) (by have := HQ.out; omega)
        have hV := rdN_lt 8 (bs.drop (8 * i))
        have HM := Lib.hid (show 64 * i + 64 ≤ 8 * bs.length by have := HQ.out; omega)
        generalize rdN 8 (bs.drop (8 * i)) = V at *
        have hV64 : V < 18446744073709551616 := hV
        clear hg0 hV
        obtain ⟨S, hS⟩ : ∃ S, S = V / 2 ^ 60 := ⟨_, rfl⟩
        obtain ⟨X0, hX0⟩ : ∃ X0, X0 = V % 2 ^ 60 := ⟨_, rfl⟩
        have hS16 : S < 16 := by omega
        have hX60 : X0 < 1152921504606846976 := by omega
        rw [← hS, ← hX0] at hrg
        have hdr : Hid (decP N (wl bs) [] = if S < 14 then decP N ((wl bs).drop (i + 1)) (acc ++ vals (wds.getD S 0) V (room N acc S)) else none) := Lib.hid (by
          rw [HD.out, hwl, hS]
          show (if N ≤ acc.length then _ else _) = _
          rw [if_neg (by omega)])
        have HX0 := Lib.hid hX0
        have HRG := Lib.hid hrg
        clear hwl hS HD hV64 hX0 hrg hex
        have hG1 := fun (wx : World) (h : Rdr wx blk lo B bs (64 * i) false) => getSome_any blk lo B (64 * i) bs 4 (by decide) (by decide) (by have := HM.out; omega) wx h
        have hG2 := fun (wx : World) (h : Rdr wx blk lo B bs (64 * i + 4) false) => getSome_any blk lo B (64 * i + 4) bs 60 (by decide) (by decide) (by have := HM.out; omega) wx h
        rw [HRG.out.1] at hG1
        rw [HRG.out.2] at hG2
        go_upto_region 9 with (first
          | (go_at_call 70; refine hLf.mono ?_; rintro _ _ ⟨rfl, q1, rfl⟩; have HS1 := Lib.hid (HS.out.drewN q1); have HR1 := Lib.hid (HRD.out.below (below_drewN q1)); clear HS HRD hLf)
          | (go_at_call 43; refine (hG1 _ HR1.out).mono ?_; rintro _ w4 ⟨rfl, hr4, hc4⟩; have HS4 := Lib.hid (HS1.out.chg hc4 (fun k hk => by subst hk; have := HLO.out; have := HLb.out; have := HBb.out; omega)); have HR4 := Lib.hid hr4; clear hG1 hr4 hc4 HR1)
          | (go_at_call 43; refine (hG2 _ HR4.out).mono ?_; rintro _ w5 ⟨rfl, hr5, hc5⟩; have HS5 := Lib.hid (HS4.out.chg hc5 (fun k hk => by subst hk; have := HLO.out; have := HLb.out; have := HBb.out; omega)); have HR5 := Lib.hid hr5; clear hG2 hr5 hc5 HS4))
        clear HS1 HR4
        by_cases h14 : S < 14
        · have hdr2 := hdr.out
          rw [if_pos h14] at hdr2
          have HD := Lib.hid hdr2
          clear hdr hdr2
          have hWb := wds_get S h14
          have hcW : w5.cell? ⟨w.heap.size + 1, S, none⟩ = some (.int .i64 (wds.getD S 0 : Nat)) := HS5.out.2.2.1 S h14
          obtain ⟨W, hWE⟩ : ∃ W, W = wds.getD S 0 := ⟨_, rfl⟩
          have HWE := Lib.hid hWE
          rw [← hWE] at hWb hcW HD
          obtain ⟨R, hRE⟩ : ∃ R, R = room N acc S := ⟨_, rfl⟩
          have hR60 : R ≤ 60 := by rw [hRE]; exact room_le _ _ _
          have hRdef : R = min (60 / W) (N - acc.length) := by rw [hRE, hWE]; rfl
          have HRD := Lib.hid hRdef
          rw [← hRE] at HD
          clear hWE hRE hRdef
          go_wp2_with fail
          go_loopg [6, 10, 11] R (fun m s6 s10 s11 wr => ∃ (k : Nat) (L : List Nat) (ao : Option Addr) (cap Y X : Nat), k + m = R ∧ s11 = .int .i64 (Y : Int) ∧ s10 = .int .u64 (X : Int) ∧ Hid (Y = (k + 1) * W) ∧ Hid (X = X0 / 2 ^ (k * W)) ∧ s6 = .slice ao L.length cap ∧ Hid (L = acc ++ vals W V k) ∧ Hid (St w wr (w.heap.size + 1) B (.slice ao L.length cap) L) ∧ Hid (Rdr wr blk lo B bs (64 * i + 4 + 60) false))
          case atStart => exact ⟨0, acc, ao, cap, W, X0, by omega, rfl, rfl, Lib.hid (by simp), Lib.hid (by simp), rfl, Lib.hid (by rw [vals_zero, List.append_nil]), HS5, HR5⟩
          case round =>
            clear HS5 HR5 hcW
            obtain ⟨k, L2, lo2, lc, Y, X, hk, rfl, rfl, HY, HXX, rfl, HL2, HS, HRd⟩ := hrel
            have hcW : wr.cell? ⟨w.heap.size + 1, S, none⟩ = some (.int .i64 (W : Int)) := by have := HS.out.2.2.1 S h14; rwa [← HWE.out] at this
            have hLl : Hid (L2.length = acc.length + k) := Lib.hid (by rw [HL2.out, List.length_append, vals_len])
            have hkR0 : k ≤ R := by omega
            have hYb : Y ≤ 4000 := by
              rw [HY.out]
              exact Nat.le_trans (Nat.mul_le_mul (show k + 1 ≤ 61 by omega) hWb.2) (by decide)
            have hXb : X < 1152921504606846976 := by
              rw [HXX.out]
              exact Nat.lt_of_le_of_lt (Nat.div_le_self _ _) hX60
            by_cases h1 : gk = 0
            · obtain rfl : k = R := by omega
              clear hk
              have HX2 : Hid (∀ x ∈ L2, x < 18446744073709551616) := Lib.hid (by
                intro x hx
                rw [HL2.out] at hx
                rcases List.mem_append.1 hx with h | h
                · exact HX.out x h
                · obtain ⟨t, _, rfl⟩ := List.mem_map.1 h
                  have : 2 ^ W ≤ 2 ^ 60 := Nat.pow_le_pow_right (by omega) hWb.2
                  have h2 : val W V t < 2 ^ W := Nat.mod_lt _ (Nat.two_pow_pos _)
                  omega)
              have HD2 : Hid (decP N (wl bs) [] = decP N ((wl bs).drop (i + 1)) L2) := Lib.hid (by rw [HL2.out]; exact HD.out)
              have HN2 : Hid (L2.length ≤ N ∧ L2.length ≤ 60 * (i + 1)) := Lib.hid (by have h1 := hLl.out; have h2 := HRD.out; have h3 := HN.out; omega)
              have HR2 : Hid (Rdr wr blk lo B bs (64 * (i + 1)) false) := Lib.hid (by have := HRd.out; rwa [show 64 * i + 4 + 60 = 64 * (i + 1) by omega] at this)
              have HC : (60 : Int) < (Y : Int) ∨ ((Y : Int) ≤ 60 ∧ ¬ (L2.length : Int) < (N : Int)) := by
                have h1 := hLl.out; have h2 := HRD.out; have h3 := HN.out
                by_cases hc : (60 : Int) < (Y : Int)
                · exact .inl hc
                · refine .inr ⟨by omega, ?_⟩
                  have hkl : k < 60 / W := by
                    rcases Nat.lt_or_ge k (60 / W) with h | h
                    · exact h
                    · exfalso
                      have h4 := Nat.mul_le_mul_right W (show 60 / W + 1 ≤ k + 1 by omega)
                      have h5 := Nat.lt_mul_div_succ 60 (show 0 < W by omega)
                      rw [Nat.mul_comm] at h5
                      have := HY.out
                      omega
                  omega
              clear HN HX HD HL2 HRD HRd hYb hXb
              rcases HC with hc | ⟨hc, hc2⟩
              · go_wp2_with fail
                go_roundg (g0 - 1)
                case measure => go_light; have h1 := HG0.out; have h2 := HI.out; omega
                case rel =>
                  go_light
                  exact ⟨i + 1, L2, lo2, lc, by have h1 := HG0.out; have h2 := HI.out; omega, rfl, HD2, HS, HR2, HX2, HN2⟩
              · go_wp2_with fail
                go_roundg (g0 - 1)
                case measure => go_light; have h1 := HG0.out; have h2 := HI.out; omega
                case rel =>
                  go_light
                  exact ⟨i + 1, L2, lo2, lc, by have h1 := HG0.out; have h2 := HI.out; omega, rfl, HD2, HS, HR2, HX2, HN2⟩
            · have hkR : k < R := by omega
              have hkW : (k + 1) * W ≤ 60 := Nat.le_trans (Nat.mul_le_mul_right W (show k + 1 ≤ 60 / W by have h2 := HRD.out; omega)) (Nat.div_mul_le_self 60 W)
              have hc : (Y : Int) ≤ 60 := by have := HY.out; omega
              have hc2 : (L2.length : Int) < (N : Int) := by have h1 := hLl.out; have h2 := HRD.out; omega
              have h44 : L2.length + 1 ≤ 17592186044416 := by
                obtain ⟨B, hB1, hB2⟩ := HBB.out
                have h1 := HN.out
                have h2 := HQ.out
                have h5 := hLl.out
                rcases hB2 with h | h <;> omega
              have h63 : Hid (L2.length + 1 ≤ maxLen) := Lib.hid (by unfold maxLen; omega)
              have hby : Hid ((L2.length + 1) * 8 ≤ 140737488355328) := Lib.hid (by omega)
              have hba : Hid (∀ o, B ≤ (wr.alloc o).heap.size) := Lib.hid (fun o => by have h6 := HS.out.2.2.2.2.2; have e2 : (wr.alloc o).heap.size = wr.heap.size + 1 := (by simp); omega)
              have hod : Hid (wr.ownsRow B 25 1 (.slice lo2 L2.length lc) L2.length (L2.map uV)) := Lib.hid HS.out.1
              have hnext : Hid ((L2 ++ [X % 2 ^ W]) = acc ++ vals W V (k + 1)) := Lib.hid (by rw [HL2.out, vals_next, List.append_assoc, ← val_low V k W hkW, HXX.out, HX0.out])
              have hXn : Hid (X / 2 ^ W = X0 / 2 ^ ((k + 1) * W)) := Lib.hid (by rw [HXX.out, low_next])
              have hYn : Hid (Y + W = (k + 1 + 1) * W) := Lib.hid (by rw [HY.out, Nat.add_mul (k + 1) 1, Nat.one_mul])
              have hYW : (Y : Int) + (W : Int) ≤ 1000 := by omega
              obtain ⟨M, hM, hM2⟩ := mask_eq W hWb.2
              have HAN := Lib.hid (and_step0 X W M (by omega) hM hWb.2)
              have hwb := hWb.2
              have hdv : Hid ((X : Int) / 2 ^ W = ((X / 2 ^ W : Nat) : Int)) := Lib.hid (by simp)
              have HKR := Lib.hid (show k + 1 ≤ R ∧ k < 60 by omega)
              have HGK := Lib.hid hk
              have HWB := Lib.hid hWb
              clear hM h44 hacc hnc hcm hk hkR hkR0 hR60 hiq hl hkW hWb hYb
              go_upto_region 15 with (at_builtin; refine wpList_append_rd _ rfl (.tmp 51) (.tmp 59) 101 rfl B 25 (.int .u64 0) 1 8 Tryd.underlying101 infoU64 rfl (by decide) (.slice lo2 L2.length lc) L2.length (L2.map uV) rfl (World.ownsRow.alloc hod.out _) (.slice (some ⟨wr.heap.size, 0, none⟩) 1 1) 1 _ rfl (RdV.one wr _ 25) (one_one _ rfl) h63.out hby.out (hba.out _) ?_; intro ao6 cap6 w6 hg6; have HG := Lib.hid hg6.ofAlloc; clear hg6)
              have hlen : L2.length + 1 = (L2 ++ [X % 2 ^ W]).length := by simp
              have HR6 : Hid (Rdr w6 blk lo B bs (64 * i + 4 + 60) false) := Lib.hid (HRd.out.keep HG.out.chg (fun j _ hj2 e => by have := (World.ownsRow.lt hod.out j e).1; omega))
              have HS6 : Hid (St w w6 (w.heap.size + 1) B (.slice ao6 (L2 ++ [X % 2 ^ W]).length cap6) (L2 ++ [X % 2 ^ W])) := Lib.hid (HS.out.grew (by
                have hg := HG.out
                rw [HAN.out] at hg
                have e : L2.map uV ++ [.int .u64 ((X % 2 ^ W : Nat) : Int)] = (L2 ++ [X % 2 ^ W]).map uV := by simp [uV]
                rw [e, hlen] at hg
                exact hg))
              have hcW6 : w6.cell? ⟨w.heap.size + 1, S, none⟩ = some (.int .i64 (W : Int)) := by have := HS6.out.2.2.1 S h14; rwa [← HWE.out] at this
              have HLEN := Lib.hid hlen
              clear hM2 HAN HRd HS hod hba hcW hlen
              go_wp2_with fail
              go_roundg (gk - 1)
              case measure => go_light; have h1 := HKR.out; have h2 := HGK.out; omega
              case rel =>
                go_light
                exact ⟨k + 1, L2 ++ [X % 2 ^ W], ao6, cap6, Y + W, X / 2 ^ W, by have h1 := HKR.out; have h2 := HGK.out; omega, by simp, by rw [hdv.out], hYn, hXn, by rw [← HLEN.out], hnext, HS6, HR6⟩
        · have hdr2 := hdr.out
          rw [if_neg h14] at hdr2
          have HU := Lib.hid (unA_stop hdr2)
          clear hdr hdr2
          have h13 : (14 : Int) ≤ (S : Int) := by omega
          go_wp2_with fail
          go_ret2
          exact ⟨HS5.out.2.1, .inl ⟨HU.out, by go_light; rfl⟩⟩
end Go.Proofs.YthcgalpabjjkoaaDoor

/- XRUn04: gristref04.Unpack. -/
namespace Go.Proofs.YthcgalpabjjkoaaDoor
open Go.RowKit
set_option linter.unusedVariables false

theorem u64_small (Z : Nat) (h : Z ≤ 60) : IntKind.u64.wrap (Z : Int) = (Z : Int) := IntWalk.u64_in _ (by omega)
theorem min64 (Z : Nat) (h : Z < 60) : min Z 64 = Z := Nat.min_eq_left (by omega)
theorem nsh (V Z : Nat) : ((V / 2 ^ Z : Nat) : Int) = (V : Int) / 2 ^ Z := by simp

end Go.Proofs.YthcgalpabjjkoaaDoor
