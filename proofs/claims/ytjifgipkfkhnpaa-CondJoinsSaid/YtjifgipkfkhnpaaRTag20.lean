/- The document's tests of tags: gristref15.Tag, gristref20.by, tag, signs, gristref19.In. -/
import Derived.Test.YtjifgipkfkhnpaaTagd20
namespace Go.Proofs.Ytjifgipkfkhnpaa
open Go.RowKit
set_option linter.unusedVariables false

set_option maxHeartbeats 1000000 in
theorem rin_any (l : List ByteArray) (s : ByteArray) (v : Value) (w : World) (hr : RdV w 1 v l.length (l.map Value.string)) :
    Calls Try.prog 37 #[v, .string s] w fun e w' => e = .returned (.bool (inS l s)) ∧ w' = w := by
  have hsym : ∀ x : ByteArray, (x.toList == s.toList) = (s.toList == x.toList) := fun x => by
    generalize x.toList = a
    generalize s.toList = b
    rw [Bool.eq_iff_iff]
    simp only [beq_iff_eq]
    exact eq_comm
  obtain ⟨ao0, cap0, rfl, hlc, hcm⟩ := RdV.shape hr
  unfold maxLen at hcm
  have HS := Lib.hid hsym
  clear hsym
  go_enter Try.func37, Try.ntmps37
  go_wp2_with fail
  go_loopg [5, 8] l.length (fun m s5 s8 wr => ∃ k : Nat, k + m = l.length ∧ s8 = .int .i64 k ∧ Hid ((l.take k).any (fun x => s.toList == x.toList) = false) ∧ wr = w)
  case atStart => exact ⟨0, by omega, rfl, Lib.hid rfl, rfl⟩
  case round =>
    obtain ⟨k, hk, rfl, hno, rfl⟩ := hrel
    by_cases h0 : gk = 0
    · obtain rfl : k = l.length := by omega
      clear hk
      have HV : Hid (inS l s = false) := Lib.hid (by have := hno.out; rw [List.take_length] at this; exact this)
      clear hno
      go_wp2_with fail
      go_ret
      exact ⟨by rw [HV.out]; rfl, rfl⟩
    · have hlt : k < l.length := by omega
      obtain ⟨b, off, cap', he, e0⟩ := str_at hr k hlt
      simp only [Value.slice.injEq, true_and] at he
      obtain ⟨rfl, rfl⟩ := he
      have hsy := HS.out l[k]
      by_cases h2 : (l[k].toList == s.toList) = true
      · have HV : Hid (inS l s = true) := Lib.hid (by
          unfold inS
          rw [List.any_eq_true]
          exact ⟨l[k], List.getElem_mem hlt, by rw [← hsy]; exact h2⟩)
        clear hsy hno
        generalize l[k] = x at *
        go_wp2_with fail
        go_ret
        exact ⟨by rw [HV.out]; rfl, rfl⟩
      · rw [Bool.not_eq_true] at h2
        have HN : Hid ((l.take (k + 1)).any (fun x => s.toList == x.toList) = false) := Lib.hid (by
          rw [List.take_succ_eq_append_getElem hlt, List.any_append, hno.out, List.any_cons, List.any_nil, ← hsy, h2]; rfl)
        clear hsy
        generalize l[k] = x at *
        go_wp2_with fail
        go_roundg (gk - 1)
        case measure => go_light; omega
        case rel =>
          go_light
          exact ⟨k + 1, by omega, by go_num, HN, rfl⟩

def signL : List ByteArray := [{ data := #[61] }, { data := #[33, 61] }, { data := #[60] }, { data := #[60, 61] }, { data := #[62] }, { data := #[62, 61] }]
theorem signs_any (w : World) : Calls Try.prog 38 #[] w fun e w' => ∃ v, e = .returned v ∧ RdV w' 1 v signL.length (signL.map Value.string) ∧ Below w.heap.size w w' := by
  go_enter Try.func38, Try.ntmps38
  go_wp2_with fail
  go_ret
  exact ⟨_, rfl, RdV.lit _ _ _ 6 1 (by decide) rfl, (Below.refl _ _).alloc (Nat.le_refl _) _⟩
/-- The signs that are known are the six. -/
theorem inS_signs (s : ByteArray) : inS signL s = knw s := by
  unfold inS knw sgn signL
  simp only [List.any_cons, List.any_nil, Bool.or_false]
  rw [str_mk [61] _ rfl, str_mk [33, 61] _ rfl, str_mk [60] _ rfl, str_mk [60, 61] _ rfl, str_mk [62] _ rfl, str_mk [62, 61] _ rfl]
  generalize s.toList = l
  by_cases h1 : l = [61]
  · subst h1; rfl
  by_cases h2 : l = [33, 61]
  · subst h2; rfl
  by_cases h3 : l = [60]
  · subst h3; rfl
  by_cases h4 : l = [60, 61]
  · subst h4; rfl
  by_cases h5 : l = [62]
  · subst h5; rfl
  by_cases h6 : l = [62, 61]
  · subst h6; rfl
  rw [beq_false_of_ne h1, beq_false_of_ne h2, beq_false_of_ne h3, beq_false_of_ne h4, beq_false_of_ne h5, beq_false_of_ne h6]
  rfl

/-- What a sign says, told from 'less' and 'more'. -/
def byF (s : ByteArray) (L M : Bool) : Bool :=
  if s.toList == [61] then !L && !M else if s.toList == [33, 61] then L || M else if s.toList == [60] then L else if s.toList == [60, 61] then !M else if s.toList == [62] then M else if s.toList == [62, 61] then !L else false
set_option maxHeartbeats 1000000 in
theorem by_any (s : ByteArray) (L M : Bool) (w : World) : Calls Try.prog 50 #[.string s, .bool L, .bool M] w fun e w' => e = .returned (.bool (byF s L M)) ∧ w' = w := by
  cases L <;> cases M
  all_goals go_enter Try.func50, Try.ntmps50
  all_goals go_wp2_with fail
  all_goals (go_ret; refine ⟨?_, rfl⟩)
  all_goals (unfold byF; simp only [*, Bool.false_eq_true, if_false, if_true]; rfl)
theorem byF_cmp (s a b : ByteArray) : byF s (Op.bytesLess a.toList b.toList) (!(Op.bytesLess a.toList b.toList || (a.toList == b.toList))) = sgn s (cmpS a b) := by
  unfold byF sgn cmpS
  generalize s.toList = l
  generalize Op.bytesLess a.toList b.toList = L
  generalize (a.toList == b.toList) = E
  cases L <;> cases E
  all_goals
    by_cases h1 : l = [61]
    · subst h1; rfl
    by_cases h2 : l = [33, 61]
    · subst h2; rfl
    by_cases h3 : l = [60]
    · subst h3; rfl
    by_cases h4 : l = [60, 61]
    · subst h4; rfl
    by_cases h5 : l = [62]
    · subst h5; rfl
    by_cases h6 : l = [62, 61]
    · subst h6; rfl
    rw [beq_false_of_ne h1, beq_false_of_ne h2, beq_false_of_ne h3, beq_false_of_ne h4, beq_false_of_ne h5, beq_false_of_ne h6]
    rfl

set_option maxHeartbeats 1000000 in
theorem rtag_any (l : List Tg) (nm key : ByteArray) (v : Value) (w : World) (hr : RdV w 2 v l.length (l.flatMap Tg.cells)) :
    Calls Try.prog 49 #[.agg #[.string nm, v], .string key] w fun e w' => e = .returned (.tuple #[.string (tagV l key), .bool (tagB l key)]) ∧ Below w.heap.size w w' := by
  obtain ⟨ao0, cap0, rfl, hlc, hcm⟩ := RdV.shape hr
  unfold maxLen at hcm
  obtain ⟨wA, hwA⟩ : ∃ wA, wA = w.alloc (.cells #[.string nm, .slice ao0 l.length cap0] 25) := ⟨_, rfl⟩
  have hbA : Below w.heap.size w wA := by rw [hwA]; exact (Below.refl _ _).alloc (Nat.le_refl _) _
  have c1 : wA.cell? ⟨w.heap.size, 1, none⟩ = some (.slice ao0 l.length cap0) := by rw [hwA]; simp
  have hrA := hr.below hbA
  have HW := Lib.hid hwA
  have HB := Lib.hid hbA
  clear hr hwA hbA
  go_enter Try.func49, Try.ntmps49
  go_upto_region 1 with fail
  rw [← HW.out]
  clear HW
  go_wp2_with fail
  go_loopg [6, 10] l.length (fun m s6 s10 wr => ∃ k : Nat, k + m = l.length ∧ s10 = .int .i64 k ∧ Hid ((l.take k).find? (keyP key) = none) ∧ wr = wA)
  case atStart => exact ⟨0, by omega, rfl, Lib.hid rfl, rfl⟩
  case round =>
    obtain ⟨k, hk, rfl, hno, rfl⟩ := hrel
    by_cases h0 : gk = 0
    · obtain rfl : k = l.length := by omega
      clear hk
      have HV : Hid (tagV l key = { data := #[] } ∧ tagB l key = false) := Lib.hid (by have := hno.out; rw [List.take_length] at this; unfold tagV tagB; rw [this]; exact ⟨rfl, rfl⟩)
      clear hno
      go_wp2_with fail
      go_ret2
      exact ⟨by rw [HV.out.1, HV.out.2]; rfl, HB.out⟩
    · have hlt : k < l.length := by omega
      obtain ⟨b, off, cap', he, e0, e1⟩ := tg_at hrA k hlt
      simp only [Value.slice.injEq, true_and] at he
      obtain ⟨rfl, rfl⟩ := he
      have hfs : l.find? (keyP key) = if keyP key l[k] then some l[k] else (l.drop (k + 1)).find? (keyP key) := by
        conv => lhs; rw [← List.take_append_drop k l, List.find?_append, hno.out, Option.none_or, List.drop_eq_getElem_cons hlt, List.find?_cons]
        cases keyP key l[k] <;> rfl
      have hft : (l.take (k + 1)).find? (keyP key) = if keyP key l[k] then some l[k] else none := by
        rw [List.take_succ_eq_append_getElem hlt, List.find?_append, hno.out, Option.none_or, List.find?_cons]
        cases keyP key l[k] <;> rfl
      by_cases h2 : (l[k].k.toList == key.toList) = true
      · have hp : keyP key l[k] = true := h2
        have HV : Hid (tagV l key = l[k].v ∧ tagB l key = true) := Lib.hid (by unfold tagV tagB; rw [hfs, hp]; exact ⟨rfl, rfl⟩)
        clear hfs hft hp hno
        generalize l[k] = x at *
        go_wp2_with fail
        go_ret2
        exact ⟨by rw [HV.out.1, HV.out.2]; rfl, HB.out⟩
      · rw [Bool.not_eq_true] at h2
        have hp : keyP key l[k] = false := h2
        have HN : Hid ((l.take (k + 1)).find? (keyP key) = none) := Lib.hid (by rw [hft, hp]; rfl)
        clear hfs hft hp
        generalize l[k] = x at *
        go_wp2_with fail
        go_roundg (gk - 1)
        case measure => go_light; omega
        case rel =>
          go_light
          exact ⟨k + 1, by omega, by go_num, HN, rfl⟩

set_option maxHeartbeats 1000000 in
theorem rtagd_any (c : Lf) (l : List Tg) (nm : ByteArray) (pv v : Value) (w : World) (hp : ∃ ao n cap, pv = .slice ao n cap) (hr : RdV w 2 v l.length (l.flatMap Tg.cells)) :
    Calls Try.prog 39 #[.agg #[.string nm, v], .agg #[.int .i64 c.op, .string c.nm, .string c.sg, .int .i64 c.k, .int .u64 (c.b : Int), .string c.t, pv]] w fun e w' => e = .returned (.bool (tgd c l)) ∧ Below w.heap.size w w' := by
  obtain ⟨pa, pn, pc, rfl⟩ := hp
  obtain ⟨ao0, cap0, rfl, hlc, hcm⟩ := RdV.shape hr
  unfold maxLen at hcm
  have HG := Lib.hid (show tgd c l = ((c.k == 4) && sgn c.sg (cmpS (tagV l c.nm) c.t)) from rfl)
  obtain ⟨op, nm2, sg, kd, bb, tt⟩ := c
  dsimp only at HG ⊢
  obtain ⟨wA, hwA⟩ : ∃ wA, wA = (w.alloc (.cells #[.string nm, .slice ao0 l.length cap0] 25)).alloc (.cells #[.int .i64 op, .string nm2, .string sg, .int .i64 kd, .int .u64 (bb : Int), .string tt, .slice pa pn pc] 43) := ⟨_, rfl⟩
  have hb2 : Below w.heap.size w wA := by rw [hwA]; exact ((Below.refl _ _).alloc (Nat.le_refl _) _).alloc (by simp) _
  have hs : wA.heap.size = w.heap.size + 2 := by rw [hwA]; simp
  have k2 : wA.cell? ⟨w.heap.size + 1, 2, none⟩ = some (Value.string sg) := by rw [hwA]; simp
  have k3 : wA.cell? ⟨w.heap.size + 1, 3, none⟩ = some (Value.int .i64 kd) := by rw [hwA]; simp
  have k5 : wA.cell? ⟨w.heap.size + 1, 5, none⟩ = some (Value.string tt) := by rw [hwA]; simp
  have hT := (rtag_any l nm nm2 (.slice ao0 l.length cap0) wA (hr.below hb2)).mono (R' := fun e w2 => e = .returned (.tuple #[.string (tagV l nm2), .bool (tagB l nm2)]) ∧ w2.cell? ⟨w.heap.size + 1, 2, none⟩ = some (Value.string sg) ∧ w2.cell? ⟨w.heap.size + 1, 3, none⟩ = some (Value.int .i64 kd) ∧ w2.cell? ⟨w.heap.size + 1, 5, none⟩ = some (Value.string tt) ∧ Hid (Below w.heap.size w w2))
    (by rintro _ w2 ⟨rfl, hb⟩; exact ⟨rfl, (hb.cell (by simp; omega)).trans k2, (hb.cell (by simp; omega)).trans k3, (hb.cell (by simp; omega)).trans k5, Lib.hid (hb2.trans (hb.mono (by omega)))⟩)
  rw [hwA] at hT
  have hBy := fun L M (w : World) => by_any sg L M w
  have HE := Lib.hid (byF_cmp sg (tagV l nm2) tt)
  clear hr hb2 hs k2 k3 k5 hwA
  go_enter Try.func39, Try.ntmps39
  go_upto_region 2 with (go_at_call 49; refine hT.mono ?_; rintro _ w2 ⟨rfl, hc2, hc3, hc5, HB⟩; clear hT)
  generalize tagV l nm2 = tv at *
  by_cases h4 : (kd == 4) = true
  · rw [h4, Bool.true_and] at HG
    go_wp2_with (go_at_call 50; refine (hBy _ _ _).mono ?_; rintro _ _ ⟨rfl, rfl⟩)
    go_ret
    refine ⟨?_, HB.out⟩
    rw [HG.out, ← HE.out]
    simp
  · rw [Bool.not_eq_true] at h4
    rw [h4, Bool.false_and] at HG
    go_wp2_with fail
    go_ret
    exact ⟨by rw [HG.out]; rfl, HB.out⟩
end Go.Proofs.Ytjifgipkfkhnpaa
