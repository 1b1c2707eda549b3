/- slices.IndexFunc, at the closures of cond and series. Printed by gen_idx20.py. -/
import Derived.Test.YtjifgipkfkhnpaaSign20
namespace Go.Proofs.Ytjifgipkfkhnpaa
open Go.RowKit
set_option linter.unusedVariables false

/-- Where the first one is for which p holds; -1: there is none. -/
def Idx (n : Nat) (p : Nat → Bool) (r : Int) : Prop := (r = -1 ∧ ∀ k, k < n → p k = false) ∨ ∃ k, k < n ∧ r = (k : Int) ∧ p k = true ∧ ∀ j, j < k → p j = false
theorem Idx.any {n : Nat} {p : Nat → Bool} {r : Int} (h : Idx n p r) : decide (0 ≤ r) = (List.range n).any p := by
  rcases h with ⟨rfl, h⟩ | ⟨k, hk, rfl, hp, _⟩
  · have : (List.range n).any p = false := by
      rw [List.any_eq_false]
      intro x hx
      rw [h x (List.mem_range.1 hx)]
      simp
    rw [this]; rfl
  · have : (List.range n).any p = true := by
      rw [List.any_eq_true]
      exact ⟨k, List.mem_range.2 hk, hp⟩
    rw [this]; simp
/-- A tag. -/
structure Tg where
  k : ByteArray
  v : ByteArray
def Tg.cells (t : Tg) : List Value := [.string t.k, .string t.v]
/-- A field. -/
structure Fd where
  n : ByteArray
  k : Int
  b : Nat
  t : ByteArray
def Fd.cells (f : Fd) : List Value := [.string f.n, .int .i64 f.k, .int .u64 (f.b : Int), .string f.t]
theorem tg_at {w : World} {v : Value} {l : List Tg} (h : RdV w 2 v l.length (l.flatMap Tg.cells)) (i : Nat) (hi : i < l.length) :
    ∃ b off cap, v = .slice (some ⟨b, off, none⟩) l.length cap ∧ w.cell? ⟨b, off + i * 2, none⟩ = some (.string l[i].k) ∧ w.cell? ⟨b, off + i * 2 + 1, none⟩ = some (.string l[i].v) := by
  obtain ⟨b, off, cap, rfl, _, _, _, hc⟩ := RdV.some h (by omega) (by omega)
  have e0 := flat_at Tg.cells 2 (fun _ => rfl) l i hi 0 (by omega)
  have e1 := flat_at Tg.cells 2 (fun _ => rfl) l i hi 1 (by omega)
  refine ⟨b, off, cap, rfl, ?_, ?_⟩
  · have := hc (i * 2 + 0) _ e0
    simpa [Tg.cells] using this
  · have := hc (i * 2 + 1) _ e1
    simpa [Tg.cells, Nat.add_assoc] using this
theorem fd_at {w : World} {v : Value} {l : List Fd} (h : RdV w 4 v l.length (l.flatMap Fd.cells)) (i : Nat) (hi : i < l.length) :
    ∃ b off cap, v = .slice (some ⟨b, off, none⟩) l.length cap ∧ w.cell? ⟨b, off + i * 4, none⟩ = some (.string l[i].n) ∧ w.cell? ⟨b, off + i * 4 + 1, none⟩ = some (.int .i64 l[i].k) ∧
      w.cell? ⟨b, off + i * 4 + 2, none⟩ = some (.int .u64 (l[i].b : Int)) ∧ w.cell? ⟨b, off + i * 4 + 3, none⟩ = some (.string l[i].t) := by
  obtain ⟨b, off, cap, rfl, _, _, _, hc⟩ := RdV.some h (by omega) (by omega)
  have e0 := flat_at Fd.cells 4 (fun _ => rfl) l i hi 0 (by omega)
  have e1 := flat_at Fd.cells 4 (fun _ => rfl) l i hi 1 (by omega)
  have e2 := flat_at Fd.cells 4 (fun _ => rfl) l i hi 2 (by omega)
  have e3 := flat_at Fd.cells 4 (fun _ => rfl) l i hi 3 (by omega)
  refine ⟨b, off, cap, rfl, ?_, ?_, ?_, ?_⟩
  · have := hc (i * 4 + 0) _ e0
    simpa [Fd.cells] using this
  · have := hc (i * 4 + 1) _ e1
    simpa [Fd.cells, Nat.add_assoc] using this
  · have := hc (i * 4 + 2) _ e2
    simpa [Fd.cells, Nat.add_assoc] using this
  · have := hc (i * 4 + 3) _ e3
    simpa [Fd.cells, Nat.add_assoc] using this

set_option maxHeartbeats 1000000 in
theorem idxTag_any (l : List Tg) (p : Nat → Bool) (v : Value) (p1 : Nat) (w : World) (hr : RdV w 2 v l.length (l.flatMap Tg.cells))
    (hcl : ∀ k (hk : k < l.length) (w1 : World), Below w.heap.size w w1 → Calls Try.prog 52 #[.agg #[.string l[k].k, .string l[k].v], .pointer (some ⟨p1, 0, none⟩)] w1 fun e w2 => e = .returned (.bool (p k)) ∧ Below w1.heap.size w1 w2) :
    Calls Try.prog 51 #[v, .func (.func 52) #[] #[.pointer (some ⟨p1, 0, none⟩)]] w fun e w' => ∃ r : Int, e = .returned (.int .i64 r) ∧ Idx l.length p r ∧ Below w.heap.size w w' := by
  obtain ⟨ao0, cap0, rfl, hlc, hcm⟩ := RdV.shape hr
  unfold maxLen at hcm
  have HCL := Lib.hid hcl
  clear hcl
  go_enter Try.func51, Try.ntmps51
  go_wp2_with fail
  go_loopg [5, 8] l.length (fun m s5 s8 wr => ∃ k : Nat, k + m = l.length ∧ s8 = .int .i64 k ∧ Hid (∀ j, j < k → p j = false) ∧ Hid (Below w.heap.size w wr))
  case atStart => exact ⟨0, by omega, rfl, Lib.hid (fun j hj => by omega), Lib.hid (Below.refl _ _)⟩
  case round =>
    obtain ⟨k, hk, rfl, hno, hbel⟩ := hrel
    by_cases h0 : gk = 0
    · obtain rfl : k = l.length := by omega
      clear hk
      go_wp2_with fail
      go_ret
      exact ⟨_, rfl, .inl ⟨rfl, hno.out⟩, hbel.out⟩
    · have hlt : k < l.length := by omega
      obtain ⟨b, off, cap', he, e0, e1⟩ := tg_at (hr.below hbel.out) k hlt
      simp only [Value.slice.injEq, true_and] at he
      obtain ⟨rfl, rfl⟩ := he
      have hcl := HCL.out k hlt wr hbel.out
      generalize l[k] = x at *
      go_wp2_with fail
      refine hcl.mono ?_
      rintro e w' ⟨rfl, hb⟩
      have HB := Lib.hid (hbel.out.trans (hb.mono hbel.out.size))
      clear hb hcl e0 e1
      by_cases h2 : p k = true
      · rw [h2]
        have HA := Lib.hid h2
        clear h2
        go_wp2_with fail
        go_ret
        exact ⟨_, rfl, .inr ⟨k, hlt, rfl, HA.out, hno.out⟩, HB.out⟩
      · rw [Bool.not_eq_true] at h2
        rw [h2]
        have HN : Hid (∀ j, j < k + 1 → p j = false) := Lib.hid (fun j hj => by
          by_cases hjk : j = k
          · rw [hjk]; exact h2
          · exact hno.out j (by omega))
        clear h2
        go_wp2_with fail
        go_roundg (gk - 1)
        case measure => go_light; omega
        case rel =>
          go_light
          exact ⟨k + 1, by omega, by go_num, HN, HB⟩

set_option maxHeartbeats 1000000 in
theorem idxFd_any (l : List Fd) (p : Nat → Bool) (v : Value) (p1 : Nat) (w : World) (hr : RdV w 4 v l.length (l.flatMap Fd.cells))
    (hcl : ∀ k (hk : k < l.length) (w1 : World), Below w.heap.size w w1 → Calls Try.prog 34 #[.agg #[.string l[k].n, .int .i64 l[k].k, .int .u64 (l[k].b : Int), .string l[k].t], .pointer (some ⟨p1, 0, none⟩)] w1 fun e w2 => e = .returned (.bool (p k)) ∧ Below w1.heap.size w1 w2) :
    Calls Try.prog 33 #[v, .func (.func 34) #[] #[.pointer (some ⟨p1, 0, none⟩)]] w fun e w' => ∃ r : Int, e = .returned (.int .i64 r) ∧ Idx l.length p r ∧ Below w.heap.size w w' := by
  obtain ⟨ao0, cap0, rfl, hlc, hcm⟩ := RdV.shape hr
  unfold maxLen at hcm
  have HCL := Lib.hid hcl
  clear hcl
  go_enter Try.func33, Try.ntmps33
  go_wp2_with fail
  go_loopg [5, 8] l.length (fun m s5 s8 wr => ∃ k : Nat, k + m = l.length ∧ s8 = .int .i64 k ∧ Hid (∀ j, j < k → p j = false) ∧ Hid (Below w.heap.size w wr))
  case atStart => exact ⟨0, by omega, rfl, Lib.hid (fun j hj => by omega), Lib.hid (Below.refl _ _)⟩
  case round =>
    obtain ⟨k, hk, rfl, hno, hbel⟩ := hrel
    by_cases h0 : gk = 0
    · obtain rfl : k = l.length := by omega
      clear hk
      go_wp2_with fail
      go_ret
      exact ⟨_, rfl, .inl ⟨rfl, hno.out⟩, hbel.out⟩
    · have hlt : k < l.length := by omega
      obtain ⟨b, off, cap', he, e0, e1, e2, e3⟩ := fd_at (hr.below hbel.out) k hlt
      simp only [Value.slice.injEq, true_and] at he
      obtain ⟨rfl, rfl⟩ := he
      have hcl := HCL.out k hlt wr hbel.out
      generalize l[k] = x at *
      go_wp2_with fail
      refine hcl.mono ?_
      rintro e w' ⟨rfl, hb⟩
      have HB := Lib.hid (hbel.out.trans (hb.mono hbel.out.size))
      clear hb hcl e0 e1 e2 e3
      by_cases h2 : p k = true
      · rw [h2]
        have HA := Lib.hid h2
        clear h2
        go_wp2_with fail
        go_ret
        exact ⟨_, rfl, .inr ⟨k, hlt, rfl, HA.out, hno.out⟩, HB.out⟩
      · rw [Bool.not_eq_true] at h2
        rw [h2]
        have HN : Hid (∀ j, j < k + 1 → p j = false) := Lib.hid (fun j hj => by
          by_cases hjk : j = k
          · rw [hjk]; exact h2
          · exact hno.out j (by omega))
        clear h2
        go_wp2_with fail
        go_roundg (gk - 1)
        case measure => go_light; omega
        case rel =>
          go_light
          exact ⟨k + 1, by omega, by go_num, HN, HB⟩

set_option maxHeartbeats 1000000 in
theorem idxC1_any (l : List (Lf × Value)) (p : Nat → Bool) (v : Value) (p1 p2 : Nat) (w : World) (hr : RdV w 7 v l.length (l.flatMap lcells))
    (hcl : ∀ k (hk : k < l.length) (w1 : World), Below w.heap.size w w1 → Calls Try.prog 26 #[.agg #[.int .i64 l[k].1.op, .string l[k].1.nm, .string l[k].1.sg, .int .i64 l[k].1.k, .int .u64 (l[k].1.b : Int), .string l[k].1.t, l[k].2], .pointer (some ⟨p1, 0, none⟩), .pointer (some ⟨p2, 0, none⟩)] w1 fun e w2 => e = .returned (.bool (p k)) ∧ Below w1.heap.size w1 w2) :
    Calls Try.prog 40 #[v, .func (.func 26) #[] #[.pointer (some ⟨p1, 0, none⟩), .pointer (some ⟨p2, 0, none⟩)]] w fun e w' => ∃ r : Int, e = .returned (.int .i64 r) ∧ Idx l.length p r ∧ Below w.heap.size w w' := by
  obtain ⟨ao0, cap0, rfl, hlc, hcm⟩ := RdV.shape hr
  unfold maxLen at hcm
  have HCL := Lib.hid hcl
  clear hcl
  go_enter Try.func40, Try.ntmps40
  go_wp2_with fail
  go_loopg [5, 8] l.length (fun m s5 s8 wr => ∃ k : Nat, k + m = l.length ∧ s8 = .int .i64 k ∧ Hid (∀ j, j < k → p j = false) ∧ Hid (Below w.heap.size w wr))
  case atStart => exact ⟨0, by omega, rfl, Lib.hid (fun j hj => by omega), Lib.hid (Below.refl _ _)⟩
  case round =>
    obtain ⟨k, hk, rfl, hno, hbel⟩ := hrel
    by_cases h0 : gk = 0
    · obtain rfl : k = l.length := by omega
      clear hk
      go_wp2_with fail
      go_ret
      exact ⟨_, rfl, .inl ⟨rfl, hno.out⟩, hbel.out⟩
    · have hlt : k < l.length := by omega
      obtain ⟨b, off, cap', he, e0, e1, e2, e3, e4, e5, e6⟩ := cond_at (hr.below hbel.out) k hlt
      simp only [Value.slice.injEq, true_and] at he
      obtain ⟨rfl, rfl⟩ := he
      have hcl := HCL.out k hlt wr hbel.out
      generalize l[k] = x at *
      go_wp2_with fail
      refine hcl.mono ?_
      rintro e w' ⟨rfl, hb⟩
      have HB := Lib.hid (hbel.out.trans (hb.mono hbel.out.size))
      clear hb hcl e0 e1 e2 e3 e4 e5 e6
      by_cases h2 : p k = true
      · rw [h2]
        have HA := Lib.hid h2
        clear h2
        go_wp2_with fail
        go_ret
        exact ⟨_, rfl, .inr ⟨k, hlt, rfl, HA.out, hno.out⟩, HB.out⟩
      · rw [Bool.not_eq_true] at h2
        rw [h2]
        have HN : Hid (∀ j, j < k + 1 → p j = false) := Lib.hid (fun j hj => by
          by_cases hjk : j = k
          · rw [hjk]; exact h2
          · exact hno.out j (by omega))
        clear h2
        go_wp2_with fail
        go_roundg (gk - 1)
        case measure => go_light; omega
        case rel =>
          go_light
          exact ⟨k + 1, by omega, by go_num, HN, HB⟩

set_option maxHeartbeats 1000000 in
theorem idxC2_any (l : List (Lf × Value)) (p : Nat → Bool) (v : Value) (p1 : Nat) (w : World) (hr : RdV w 7 v l.length (l.flatMap lcells))
    (hcl : ∀ k (hk : k < l.length) (w1 : World), Below w.heap.size w w1 → Calls Try.prog 28 #[.agg #[.int .i64 l[k].1.op, .string l[k].1.nm, .string l[k].1.sg, .int .i64 l[k].1.k, .int .u64 (l[k].1.b : Int), .string l[k].1.t, l[k].2], .pointer (some ⟨p1, 0, none⟩)] w1 fun e w2 => e = .returned (.bool (p k)) ∧ Below w1.heap.size w1 w2) :
    Calls Try.prog 40 #[v, .func (.func 28) #[] #[.pointer (some ⟨p1, 0, none⟩)]] w fun e w' => ∃ r : Int, e = .returned (.int .i64 r) ∧ Idx l.length p r ∧ Below w.heap.size w w' := by
  obtain ⟨ao0, cap0, rfl, hlc, hcm⟩ := RdV.shape hr
  unfold maxLen at hcm
  have HCL := Lib.hid hcl
  clear hcl
  go_enter Try.func40, Try.ntmps40
  go_wp2_with fail
  go_loopg [5, 8] l.length (fun m s5 s8 wr => ∃ k : Nat, k + m = l.length ∧ s8 = .int .i64 k ∧ Hid (∀ j, j < k → p j = false) ∧ Hid (Below w.heap.size w wr))
  case atStart => exact ⟨0, by omega, rfl, Lib.hid (fun j hj => by omega), Lib.hid (Below.refl _ _)⟩
  case round =>
    obtain ⟨k, hk, rfl, hno, hbel⟩ := hrel
    by_cases h0 : gk = 0
    · obtain rfl : k = l.length := by omega
      clear hk
      go_wp2_with fail
      go_ret
      exact ⟨_, rfl, .inl ⟨rfl, hno.out⟩, hbel.out⟩
    · have hlt : k < l.length := by omega
      obtain ⟨b, off, cap', he, e0, e1, e2, e3, e4, e5, e6⟩ := cond_at (hr.below hbel.out) k hlt
      simp only [Value.slice.injEq, true_and] at he
      obtain ⟨rfl, rfl⟩ := he
      have hcl := HCL.out k hlt wr hbel.out
      generalize l[k] = x at *
      go_wp2_with fail
      refine hcl.mono ?_
      rintro e w' ⟨rfl, hb⟩
      have HB := Lib.hid (hbel.out.trans (hb.mono hbel.out.size))
      clear hb hcl e0 e1 e2 e3 e4 e5 e6
      by_cases h2 : p k = true
      · rw [h2]
        have HA := Lib.hid h2
        clear h2
        go_wp2_with fail
        go_ret
        exact ⟨_, rfl, .inr ⟨k, hlt, rfl, HA.out, hno.out⟩, HB.out⟩
      · rw [Bool.not_eq_true] at h2
        rw [h2]
        have HN : Hid (∀ j, j < k + 1 → p j = false) := Lib.hid (fun j hj => by
          by_cases hjk : j = k
          · rw [hjk]; exact h2
          · exact hno.out j (by omega))
        clear h2
        go_wp2_with fail
        go_roundg (gk - 1)
        case measure => go_light; omega
        case rel =>
          go_light
          exact ⟨k + 1, by omega, by go_num, HN, HB⟩
end Go.Proofs.Ytjifgipkfkhnpaa
