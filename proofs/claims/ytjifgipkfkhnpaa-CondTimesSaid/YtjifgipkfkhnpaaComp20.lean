/- cond: fields' tests, by the program. -/
import Derived.Test.YtjifgipkfkhnpaaTag20
namespace Go.Proofs.Ytjifgipkfkhnpaa
open Go.RowKit
set_option linter.unusedVariables false

/-- A text among texts. -/
def inS (l : List ByteArray) (s : ByteArray) : Bool := l.any fun x => s.toList == x.toList
theorem str_at {w : World} {v : Value} {l : List ByteArray} (h : RdV w 1 v l.length (l.map Value.string)) (i : Nat) (hi : i < l.length) :
    ∃ b off cap, v = .slice (some ⟨b, off, none⟩) l.length cap ∧ w.cell? ⟨b, off + i, none⟩ = some (.string l[i]) := by
  obtain ⟨b, off, cap, rfl, _, _, _, hc⟩ := RdV.some h (by omega) (by omega)
  exact ⟨b, off, cap, rfl, hc i _ (by rw [List.getElem?_map, List.getElem?_eq_getElem hi]; rfl)⟩
theorem Idx.inS {l : List ByteArray} {s : ByteArray} {r : Int} (h : Idx l.length (onAt l fun x => s.toList == x.toList) r) : decide (0 ≤ r) = inS l s := by
  rcases h.find with ⟨rfl, hf⟩ | ⟨k, hk, rfl, hf⟩
  · rw [List.find?_eq_none] at hf
    have : Go.Proofs.Ytjifgipkfkhnpaa.inS l s = false := by
      unfold Go.Proofs.Ytjifgipkfkhnpaa.inS
      rw [List.any_eq_false]
      intro x hx
      exact hf x hx
    rw [this]; rfl
  · have hp := List.find?_some hf
    have : Go.Proofs.Ytjifgipkfkhnpaa.inS l s = true := by
      unfold Go.Proofs.Ytjifgipkfkhnpaa.inS
      rw [List.any_eq_true]
      exact ⟨_, List.getElem_mem hk, hp⟩
    rw [this]; simp

set_option maxHeartbeats 1000000 in
theorem index_any (l : List ByteArray) (s : ByteArray) (v : Value) (w : World) (hr : RdV w 1 v l.length (l.map Value.string)) :
    Calls Try.prog 42 #[v, .string s] w fun e w' => ∃ r : Int, e = .returned (.int .i64 r) ∧ Idx l.length (onAt l fun x => s.toList == x.toList) r ∧ w' = w := by
  obtain ⟨ao0, cap0, rfl, hlc, hcm⟩ := RdV.shape hr
  unfold maxLen at hcm
  go_enter Try.func42, Try.ntmps42
  go_wp2_with fail
  go_loopg [5, 8] l.length (fun m s5 s8 wr => ∃ k : Nat, k + m = l.length ∧ s8 = .int .i64 k ∧ Hid (∀ j, j < k → onAt l (fun x => s.toList == x.toList) j = false) ∧ wr = w)
  case atStart => exact ⟨0, by omega, rfl, Lib.hid (fun j hj => by omega), rfl⟩
  case round =>
    obtain ⟨k, hk, rfl, hno, rfl⟩ := hrel
    by_cases h0 : gk = 0
    · obtain rfl : k = l.length := by omega
      clear hk
      go_wp2_with fail
      go_ret
      exact ⟨_, rfl, .inl ⟨rfl, hno.out⟩, rfl⟩
    · have hlt : k < l.length := by omega
      obtain ⟨b, off, cap', he, e0⟩ := str_at hr k hlt
      simp only [Value.slice.injEq, true_and] at he
      obtain ⟨rfl, rfl⟩ := he
      have hP : onAt l (fun x => s.toList == x.toList) k = (s.toList == l[k].toList) := onAt_lt l (fun x => s.toList == x.toList) k hlt
      by_cases h2 : (s.toList == l[k].toList) = true
      · rw [h2] at hP
        have HA := Lib.hid hP
        clear hP
        generalize l[k] = x at *
        go_wp2_with fail
        go_ret
        exact ⟨_, rfl, .inr ⟨k, hlt, rfl, HA.out, hno.out⟩, rfl⟩
      · rw [Bool.not_eq_true] at h2
        rw [h2] at hP
        have HN : Hid (∀ j, j < k + 1 → onAt l (fun x => s.toList == x.toList) j = false) := Lib.hid (fun j hj => by
          by_cases hjk : j = k
          · rw [hjk]; exact hP
          · exact hno.out j (by omega))
        clear hP
        generalize l[k] = x at *
        go_wp2_with fail
        go_roundg (gk - 1)
        case measure => go_light; omega
        case rel =>
          go_light
          exact ⟨k + 1, by omega, by go_num, HN, rfl⟩
theorem contains_any (l : List ByteArray) (s : ByteArray) (v : Value) (w : World) (hr : RdV w 1 v l.length (l.map Value.string)) :
    Calls Try.prog 31 #[v, .string s] w fun e w' => e = .returned (.bool (inS l s)) ∧ w' = w := by
  have hi := index_any l s v w hr
  obtain ⟨ao0, cap0, rfl, hlc, hcm⟩ := RdV.shape hr
  go_enter Try.func31, Try.ntmps31
  go_wp2_with (go_at_call 42; refine hi.mono ?_; rintro _ _ ⟨r, rfl, hx, rfl⟩; have HX := Lib.hid hx.inS; clear hx)
  go_ret
  exact ⟨by rw [← HX.out]; rfl, rfl⟩

/-- Does a field have this name? -/
def nameP (nm : ByteArray) (f : Fd) : Bool := f.n.toList == nm.toList
theorem fdC_any (f : Fd) (nm : ByteArray) (p1 : Nat) (w : World) (c1 : w.cell? ⟨p1, 1, none⟩ = some (.string nm)) :
    Calls Try.prog 34 #[.agg #[.string f.n, .int .i64 f.k, .int .u64 (f.b : Int), .string f.t], .pointer (some ⟨p1, 0, none⟩)] w fun e w' => e = .returned (.bool (nameP nm f)) ∧ Below w.heap.size w w' := by
  have hl1 := World.block_lt_of_cell? w _ c1
  have d1 : (w.alloc (.cells #[.string f.n, .int .i64 f.k, .int .u64 (f.b : Int), .string f.t] 72)).cell? ⟨p1, 1, none⟩ = some (.string nm) := (World.cell?_alloc_past _ _ _ hl1).trans c1
  clear c1
  go_enter Try.func34, Try.ntmps34
  go_wp2_with fail
  go_ret
  exact ⟨rfl, (Below.refl _ _).alloc (Nat.le_refl _) _⟩

/-- How a field's value compares to a test's; false: it doesn't. -/
def cmpD (ka : Int) (ba : Nat) (ta : ByteArray) (kb : Int) (bb : Nat) (tb : ByteArray) (sg : ByteArray) : Int × Bool :=
  if ((ka == kb) && (ka != 1)) && (ka == 2) then (cmpI (wrap64 (ba : Int)) (wrap64 (bb : Int)), true)
  else if ((ka == kb) && (ka != 1)) && (ka == 4) then (cmpS ta tb, true)
  else if ((ka == kb) && (ka != 1)) && (ka == 3) then (cmpI (ba : Int) (bb : Int), (sg.toList == [61]) || (sg.toList == [33, 61]))
  else (cmpF (numF ka ba) (numF kb bb), (isF ka && isF kb && !nanF (numF ka ba) && !nanF (numF kb bb)))
set_option maxHeartbeats 2000000 in
theorem compared_any (ka : Int) (ba : Nat) (ta : ByteArray) (kb : Int) (bb : Nat) (tb : ByteArray) (sg : ByteArray) (w : World) :
    Calls Try.prog 35 #[.agg #[.int .i64 ka, .int .u64 (ba : Int), .string ta], .agg #[.int .i64 kb, .int .u64 (bb : Int), .string tb], .string sg] w
      fun e w' => e = .returned (.tuple #[.int .i64 (cmpD ka ba ta kb bb tb sg).1, .bool (cmpD ka ba ta kb bb tb sg).2]) ∧ Below w.heap.size w w' := by
  obtain ⟨wA, hwA⟩ : ∃ wA, wA = (w.alloc (.cells #[.int .i64 ka, .int .u64 (ba : Int), .string ta] 41)).alloc (.cells #[.int .i64 kb, .int .u64 (bb : Int), .string tb] 41) := ⟨_, rfl⟩
  have hb2 : Below w.heap.size w wA := by rw [hwA]; exact ((Below.refl _ _).alloc (Nat.le_refl _) _).alloc (by simp) _
  have HB2 := Lib.hid (hwA ▸ hb2)
  have hCI := fun a b (w : World) => cmpI_any a b w
  have hCU := fun a b (w : World) => cmpU_any a b w
  have hCS := fun a b (w : World) => cmpS_any a b w
  have hNa := fun (w : World) => number_any ka ba ta w
  have hNb := fun (w : World) => number_any kb bb tb w
  obtain ⟨V, hV⟩ : ∃ V, V = cmpD ka ba ta kb bb tb sg := ⟨_, rfl⟩
  have c0 : wA.cell? ⟨w.heap.size + 1, 0, none⟩ = some (.int .i64 kb) := by rw [hwA]; simp
  have c1 : wA.cell? ⟨w.heap.size + 1, 1, none⟩ = some (.int .u64 (bb : Int)) := by rw [hwA]; simp
  have c2 : wA.cell? ⟨w.heap.size + 1, 2, none⟩ = some (.string tb) := by rw [hwA]; simp
  have hs : wA.heap.size = w.heap.size + 2 := by rw [hwA]; simp
  have hNa2 := (number_any ka ba ta wA).mono (R' := fun e w2 => e = .returned (.tuple #[.float .f64 (numF ka ba), .bool (isF ka)]) ∧ w2.cell? ⟨w.heap.size + 1, 0, none⟩ = some (.int .i64 kb) ∧ w2.cell? ⟨w.heap.size + 1, 1, none⟩ = some (.int .u64 (bb : Int)) ∧ w2.cell? ⟨w.heap.size + 1, 2, none⟩ = some (.string tb) ∧ Hid (Below w.heap.size w w2))
    (by rintro _ w2 ⟨rfl, hb⟩; exact ⟨rfl, (hb.cell (by simp; omega)).trans c0, (hb.cell (by simp; omega)).trans c1, (hb.cell (by simp; omega)).trans c2, Lib.hid (hb2.trans (hb.mono (by omega)))⟩)
  rw [hwA] at hNa2
  clear c0 c1 c2 hs hb2 hwA
  rw [← hV]
  unfold cmpD at hV
  have hSame : ka = kb → ka = 2 ∨ ka = 4 ∨ ka = 3 ∨ (V = (cmpF (numF ka ba) (numF kb bb), (isF ka && isF kb && !nanF (numF ka ba) && !nanF (numF kb bb))) ∧ (ka = 1 ∨ (ka ≠ 1 ∧ ka ≠ 2 ∧ ka ≠ 3 ∧ ka ≠ 4))) := by
    intro h
    by_cases h2 : ka = 2
    · exact .inl h2
    by_cases h4 : ka = 4
    · exact .inr (.inl h4)
    by_cases h3 : ka = 3
    · exact .inr (.inr (.inl h3))
    refine .inr (.inr (.inr ⟨?_, by omega⟩))
    rw [hV, beq_false_of_ne h2, beq_false_of_ne h4, beq_false_of_ne h3]
    simp
  by_cases hk : ka = kb
  · rcases hSame hk with h | h | h | ⟨hV2, h⟩
    · subst hk; subst h
      have HV : Hid (V = (cmpI (wrap64 (ba : Int)) (wrap64 (bb : Int)), true)) := Lib.hid (by rw [hV]; rfl)
      clear hSame hV
      go_enter Try.func35, Try.ntmps35
      go_wp2_with (go_at_call 30; refine (hCI _ _ _).mono ?_; rintro _ _ ⟨rfl, rfl⟩)
      go_ret2
      exact ⟨by rw [HV.out]; rfl, HB2.out⟩
    · subst hk; subst h
      have HV : Hid (V = (cmpS ta tb, true)) := Lib.hid (by rw [hV]; rfl)
      clear hSame hV
      go_enter Try.func35, Try.ntmps35
      go_wp2_with (go_at_call 44; refine (hCS _ _ _).mono ?_; rintro _ _ ⟨rfl, rfl⟩)
      go_ret2
      exact ⟨by rw [HV.out]; rfl, HB2.out⟩
    · subst hk; subst h
      have HV : Hid (V = (cmpI (ba : Int) (bb : Int), (sg.toList == [61]) || (sg.toList == [33, 61]))) := Lib.hid (by rw [hV]; rfl)
      clear hSame hV
      by_cases hs : (sg.toList == [61]) = true
      · have HV2 : Hid (V = (cmpI (ba : Int) (bb : Int), true)) := Lib.hid (by rw [HV.out, hs]; rfl)
        clear HV
        go_enter Try.func35, Try.ntmps35
        go_wp2_with (go_at_call 45; refine (hCU _ _ _).mono ?_; rintro _ _ ⟨rfl, rfl⟩)
        go_ret2
        exact ⟨by rw [HV2.out]; rfl, HB2.out⟩
      · rw [Bool.not_eq_true] at hs
        have HV2 : Hid (V = (cmpI (ba : Int) (bb : Int), (sg.toList == [33, 61]))) := Lib.hid (by rw [HV.out, hs]; rfl)
        clear HV
        go_enter Try.func35, Try.ntmps35
        go_wp2_with (go_at_call 45; refine (hCU _ _ _).mono ?_; rintro _ _ ⟨rfl, rfl⟩)
        go_ret2
        exact ⟨by rw [HV2.out]; rfl, HB2.out⟩
    · subst hk
      have HV := Lib.hid hV2
      clear hSame hV hV2
      rcases h with rfl | ⟨h1, h2, h3, h4⟩
      · have n1 : ((1 : Int) == 1) = true := rfl
        go_enter Try.func35, Try.ntmps35
        go_upto_region 10 with (go_at_call 46; refine hNa2.mono ?_; rintro _ w2 ⟨rfl, q0, q1, q2, HB⟩; clear hNa2 HB2)
        go_upto_region 11 with (go_at_call 46; refine (hNb _).mono ?_; rintro _ w3 ⟨rfl, hb3⟩; have HB3 := Lib.hid (HB.out.trans (hb3.mono HB.out.size)); clear hb3 q0 q1 q2 HB)
        have hNx := fun (w : World) => nan_any (numF 1 ba) w
        have hNy := fun (w : World) => nan_any (numF 1 bb) w
        have hCF := fun (w : World) => cmpF_any (numF 1 ba) (numF 1 bb) w
        clear hNa hNb hCI hCU hCS
        generalize cmpF (numF 1 ba) (numF 1 bb) = C at *
        generalize nanF (numF 1 ba) = N1 at *
        generalize nanF (numF 1 bb) = N2 at *
        generalize numF 1 ba = x at *
        generalize numF 1 bb = y at *
        generalize isF 1 = A1 at *
        cases A1 <;> cases N1 <;> cases N2
        all_goals go_wp2_with (first | (go_at_call 47; refine (hCF _).mono ?_; rintro _ _ ⟨rfl, rfl⟩) | (go_at_call 48; with_reducible refine (hNx _).mono ?_; rintro _ _ ⟨rfl, rfl⟩) | (go_at_call 48; with_reducible refine (hNy _).mono ?_; rintro _ _ ⟨rfl, rfl⟩))
        all_goals (go_ret2; exact ⟨by rw [HV.out]; rfl, HB3.out⟩)
      · have n1 : (ka != 1) = true := by simpa using h1
        have n2 : (ka == 2) = false := beq_false_of_ne h2
        have n3 : (ka == 3) = false := beq_false_of_ne h3
        have n4 : (ka == 4) = false := beq_false_of_ne h4
        clear h1 h2 h3 h4
        go_enter Try.func35, Try.ntmps35
        go_upto_region 10 with (go_at_call 46; refine hNa2.mono ?_; rintro _ w2 ⟨rfl, q0, q1, q2, HB⟩; clear hNa2 HB2)
        go_upto_region 11 with (go_at_call 46; refine (hNb _).mono ?_; rintro _ w3 ⟨rfl, hb3⟩; have HB3 := Lib.hid (HB.out.trans (hb3.mono HB.out.size)); clear hb3 q0 q1 q2 HB)
        have hNx := fun (w : World) => nan_any (numF ka ba) w
        have hNy := fun (w : World) => nan_any (numF ka bb) w
        have hCF := fun (w : World) => cmpF_any (numF ka ba) (numF ka bb) w
        clear hNa hNb hCI hCU hCS
        generalize cmpF (numF ka ba) (numF ka bb) = C at *
        generalize nanF (numF ka ba) = N1 at *
        generalize nanF (numF ka bb) = N2 at *
        generalize numF ka ba = x at *
        generalize numF ka bb = y at *
        generalize isF ka = A1 at *
        cases A1 <;> cases N1 <;> cases N2
        all_goals go_wp2_with (first | (go_at_call 47; refine (hCF _).mono ?_; rintro _ _ ⟨rfl, rfl⟩) | (go_at_call 48; with_reducible refine (hNx _).mono ?_; rintro _ _ ⟨rfl, rfl⟩) | (go_at_call 48; with_reducible refine (hNy _).mono ?_; rintro _ _ ⟨rfl, rfl⟩))
        all_goals (go_ret2; exact ⟨by rw [HV.out]; rfl, HB3.out⟩)
  · have HV : Hid (V = (cmpF (numF ka ba) (numF kb bb), (isF ka && isF kb && !nanF (numF ka ba) && !nanF (numF kb bb)))) := Lib.hid (by rw [hV, beq_false_of_ne hk]; simp)
    clear hSame hV
    go_enter Try.func35, Try.ntmps35
    go_upto_region 10 with (go_at_call 46; refine hNa2.mono ?_; rintro _ w2 ⟨rfl, q0, q1, q2, HB⟩; clear hNa2 HB2)
    go_upto_region 11 with (go_at_call 46; refine (hNb _).mono ?_; rintro _ w3 ⟨rfl, hb3⟩; have HB3 := Lib.hid (HB.out.trans (hb3.mono HB.out.size)); clear hb3 q0 q1 q2 HB)
    have hNx := fun (w : World) => nan_any (numF ka ba) w
    have hNy := fun (w : World) => nan_any (numF kb bb) w
    have hCF := fun (w : World) => cmpF_any (numF ka ba) (numF kb bb) w
    clear hNa hNb hCI hCU hCS
    generalize cmpF (numF ka ba) (numF kb bb) = C at *
    generalize nanF (numF ka ba) = N1 at *
    generalize nanF (numF kb bb) = N2 at *
    generalize numF ka ba = x at *
    generalize numF kb bb = y at *
    generalize isF ka = A1 at *
    generalize isF kb = A2 at *
    cases A1 <;> cases A2 <;> cases N1 <;> cases N2
    all_goals go_wp2_with (first | (go_at_call 47; refine (hCF _).mono ?_; rintro _ _ ⟨rfl, rfl⟩) | (go_at_call 48; with_reducible refine (hNx _).mono ?_; rintro _ _ ⟨rfl, rfl⟩) | (go_at_call 48; with_reducible refine (hNy _).mono ?_; rintro _ _ ⟨rfl, rfl⟩))
    all_goals (go_ret2; exact ⟨by rw [HV.out]; rfl, HB3.out⟩)
end Go.Proofs.Ytjifgipkfkhnpaa
