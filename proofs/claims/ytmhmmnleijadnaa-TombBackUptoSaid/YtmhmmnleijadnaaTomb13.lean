/- gristlaw13's tombs: whether a tomb takes a point, by the program and by the document. -/
import Derived.Test.YtmhmmnleijadnaaOpen
import Derived.Test.YtmhmmnleijadnaaProg
import Derived.BigRegion
import Derived.Deep.LoopGhost
import Derived.Deep.DeepCutAuto
import Derived.Deep.QuietTactic
import Derived.BigQuiet
import Derived.Lib.Hide
import Derived.Deep.Light
namespace Go.Proofs.Ytmhmmnleijadnaa
open Go.RowKit
set_option linter.unusedVariables false

/-- A tomb. -/
structure Tm where
  s : ByteArray
  f : ByteArray
  a : Int
  b : Int

def Tm.cells (t : Tm) : List Value := [.string t.s, .string t.f, .int .i64 t.a, .int .i64 t.b]
/-- It takes a point. -/
def Tm.cov (t : Tm) (s f : ByteArray) (x : Int) : Bool := decide (t.s.toList = s.toList) && (decide (t.f.toList = []) || decide (t.f.toList = f.toList)) && decide (t.a ≤ x) && decide (x ≤ t.b)

set_option maxHeartbeats 400000 in
theorem covers_any (t : Tm) (s f : ByteArray) (x : Int) (w : World) :
    Calls Try.prog 25 #[.agg #[.string t.s, .string t.f, .int .i64 t.a, .int .i64 t.b], .string s, .string f, .int .i64 x] w fun e w' => e = .returned (.bool (t.cov s f x)) ∧ Below w.heap.size w w' := by
  obtain ⟨ts, tf, ta, tb⟩ := t
  dsimp only
  go_enter Try.func25, Try.ntmps25
  go_wp2_with fail
  all_goals (go_ret; refine ⟨?_, (Below.refl _ _).alloc (Nat.le_refl _) _⟩)
  all_goals (congr 2; simp only [Tm.cov]; simp_all <;> omega)

set_option maxHeartbeats 400000 in
/-- What Covers' closure captures: three cells of its own. -/
theorem clos_any (t : Tm) (s f : ByteArray) (x : Int) (p1 p2 p3 : Nat) (w : World) (c1 : w.cell? ⟨p1, 0, none⟩ = some (.string s)) (c2 : w.cell? ⟨p2, 0, none⟩ = some (.string f)) (c3 : w.cell? ⟨p3, 0, none⟩ = some (.int .i64 x)) :
    Calls Try.prog 24 #[.agg #[.string t.s, .string t.f, .int .i64 t.a, .int .i64 t.b], .pointer (some ⟨p1, 0, none⟩), .pointer (some ⟨p2, 0, none⟩), .pointer (some ⟨p3, 0, none⟩)] w fun e w' => e = .returned (.bool (t.cov s f x)) ∧ Below w.heap.size w w' := by
  have hl1 := World.block_lt_of_cell? w _ c1
  have hl2 := World.block_lt_of_cell? w _ c2
  have hl3 := World.block_lt_of_cell? w _ c3
  have d1 : (w.alloc (.cells #[.string t.s, .string t.f, .int .i64 t.a, .int .i64 t.b] 45)).cell? ⟨p1, 0, none⟩ = some (.string s) := (World.cell?_alloc_past _ _ _ hl1).trans c1
  have d2 : (w.alloc (.cells #[.string t.s, .string t.f, .int .i64 t.a, .int .i64 t.b] 45)).cell? ⟨p2, 0, none⟩ = some (.string f) := (World.cell?_alloc_past _ _ _ hl2).trans c2
  have d3 : (w.alloc (.cells #[.string t.s, .string t.f, .int .i64 t.a, .int .i64 t.b] 45)).cell? ⟨p3, 0, none⟩ = some (.int .i64 x) := (World.cell?_alloc_past _ _ _ hl3).trans c3
  clear c1 c2 c3
  go_enter Try.func24, Try.ntmps24
  go_wp2_with fail
  refine (covers_any t s f x _).mono ?_
  rintro e w' ⟨rfl, hb⟩
  have HB := Lib.hid hb
  clear hb
  go_wp2_with fail
  go_ret
  exact ⟨rfl, ((Below.refl _ _).alloc (Nat.le_refl _) _).trans (HB.out.mono (by simp))⟩

/-- A tomb's four cells. -/
theorem tomb_at {w : World} {v : Value} {l : List Tm} (h : RdV w 4 v l.length (l.flatMap Tm.cells)) (i : Nat) (hi : i < l.length) :
    ∃ b off cap, v = .slice (some ⟨b, off, none⟩) l.length cap ∧ w.cell? ⟨b, off + i * 4, none⟩ = some (.string l[i].s) ∧ w.cell? ⟨b, off + i * 4 + 1, none⟩ = some (.string l[i].f) ∧
      w.cell? ⟨b, off + i * 4 + 2, none⟩ = some (.int .i64 l[i].a) ∧ w.cell? ⟨b, off + i * 4 + 3, none⟩ = some (.int .i64 l[i].b) := by
  obtain ⟨b, off, cap, rfl, _, _, _, hc⟩ := RdV.some h (by omega) (by omega)
  have e0 := flat_at Tm.cells 4 (fun _ => rfl) l i hi 0 (by omega)
  have e1 := flat_at Tm.cells 4 (fun _ => rfl) l i hi 1 (by omega)
  have e2 := flat_at Tm.cells 4 (fun _ => rfl) l i hi 2 (by omega)
  have e3 := flat_at Tm.cells 4 (fun _ => rfl) l i hi 3 (by omega)
  refine ⟨b, off, cap, rfl, ?_, ?_, ?_, ?_⟩
  · have := hc (i * 4 + 0) _ e0
    simpa [Tm.cells] using this
  · have := hc (i * 4 + 1) _ e1
    simpa [Tm.cells, Nat.add_assoc] using this
  · have := hc (i * 4 + 2) _ e2
    simpa [Tm.cells, Nat.add_assoc] using this
  · have := hc (i * 4 + 3) _ e3
    simpa [Tm.cells, Nat.add_assoc] using this

theorem any_take (l : List Tm) (P : Tm → Bool) (k : Nat) (h : k < l.length) : (l.take (k + 1)).any P = ((l.take k).any P || P l[k]) := by
  rw [List.take_succ_eq_append_getElem h, List.any_append, List.any_cons, List.any_nil, Bool.or_false]
theorem any_at (l : List Tm) (P : Tm → Bool) (k : Nat) (h : k < l.length) (hp : P l[k] = true) : l.any P = true := by
  rw [List.any_eq_true]; exact ⟨l[k], List.getElem_mem h, hp⟩

set_option maxHeartbeats 1000000 in
theorem index_any (l : List Tm) (v : Value) (s f : ByteArray) (x : Int) (p1 p2 p3 : Nat) (w : World) (hl : l.length ≤ 140737488355328) (hr : RdV w 4 v l.length (l.flatMap Tm.cells))
    (c1 : w.cell? ⟨p1, 0, none⟩ = some (.string s)) (c2 : w.cell? ⟨p2, 0, none⟩ = some (.string f)) (c3 : w.cell? ⟨p3, 0, none⟩ = some (.int .i64 x)) :
    Calls Try.prog 35 #[v, .func (.func 24) #[] #[.pointer (some ⟨p1, 0, none⟩), .pointer (some ⟨p2, 0, none⟩), .pointer (some ⟨p3, 0, none⟩)]] w
      fun e w' => ∃ r : Int, e = .returned (.int .i64 r) ∧ decide (0 ≤ r) = l.any (fun t => t.cov s f x) ∧ Below w.heap.size w w' := by
  obtain ⟨ao0, cap0, rfl, hlc, hcm⟩ := RdV.shape hr
  unfold maxLen at hcm
  have hl1 := World.block_lt_of_cell? w _ c1
  have hl2 := World.block_lt_of_cell? w _ c2
  have hl3 := World.block_lt_of_cell? w _ c3
  have C1 := Lib.hid c1
  have C2 := Lib.hid c2
  have C3 := Lib.hid c3
  clear c1 c2 c3
  go_enter Try.func35, Try.ntmps35
  go_wp2_with fail
  go_loopg [5, 8] l.length (fun m s5 s8 wr => ∃ k : Nat, k + m = l.length ∧ s8 = .int .i64 k ∧ Hid ((l.take k).any (fun t => t.cov s f x) = false) ∧ Hid (Below w.heap.size w wr))
  case atStart => exact ⟨0, by omega, rfl, Lib.hid (by simp), Lib.hid (Below.refl _ _)⟩
  case round =>
    obtain ⟨k, hk, rfl, hno, hbel⟩ := hrel
    by_cases h0 : gk = 0
    · obtain rfl : k = l.length := by omega
      clear hk
      go_wp2_with fail
      go_ret
      have := hno.out
      rw [List.take_length] at this
      exact ⟨_, rfl, by rw [this]; simp, hbel.out⟩
    · have hlt : k < l.length := by omega
      obtain ⟨b, off, cap', he, e0, e1, e2, e3⟩ := tomb_at (hr.below hbel.out) k hlt
      simp only [Value.slice.injEq, true_and] at he
      obtain ⟨rfl, rfl⟩ := he
      have hcl := clos_any l[k] s f x p1 p2 p3 wr ((hbel.out.cell hl1).trans C1.out) ((hbel.out.cell hl2).trans C2.out) ((hbel.out.cell hl3).trans C3.out)
      go_wp2_with fail
      refine hcl.mono ?_
      rintro e w' ⟨rfl, hb⟩
      have HB := Lib.hid (hbel.out.trans (hb.mono hbel.out.size))
      clear hb hcl e0 e1 e2 e3
      by_cases h2 : l[k].cov s f x = true
      · rw [h2]
        have HA := Lib.hid (any_at l (fun t => t.cov s f x) k hlt h2)
        clear h2
        go_wp2_with fail
        go_ret
        exact ⟨_, rfl, by rw [HA.out]; simp, HB.out⟩
      · rw [Bool.not_eq_true] at h2
        rw [h2]
        have HN : Hid ((l.take (k + 1)).any (fun t => t.cov s f x) = false) := Lib.hid (by rw [any_take l _ k hlt, hno.out, h2]; rfl)
        clear h2
        go_wp2_with fail
        go_roundg (gk - 1)
        case measure => go_light; omega
        case rel =>
          go_light
          exact ⟨k + 1, by omega, by go_num, HN, HB⟩

theorem contains_any (l : List Tm) (v : Value) (s f : ByteArray) (x : Int) (p1 p2 p3 : Nat) (w : World) (hl : l.length ≤ 140737488355328) (hr : RdV w 4 v l.length (l.flatMap Tm.cells))
    (c1 : w.cell? ⟨p1, 0, none⟩ = some (.string s)) (c2 : w.cell? ⟨p2, 0, none⟩ = some (.string f)) (c3 : w.cell? ⟨p3, 0, none⟩ = some (.int .i64 x)) :
    Calls Try.prog 23 #[v, .func (.func 24) #[] #[.pointer (some ⟨p1, 0, none⟩), .pointer (some ⟨p2, 0, none⟩), .pointer (some ⟨p3, 0, none⟩)]] w
      fun e w' => e = .returned (.bool (l.any (fun t => t.cov s f x))) ∧ Below w.heap.size w w' := by
  have hi := index_any l v s f x p1 p2 p3 w hl hr c1 c2 c3
  clear c1 c2 c3
  go_enter Try.func23, Try.ntmps23
  go_wp2_with fail
  refine hi.mono ?_
  rintro e w' ⟨r, rfl, hd, hb⟩
  have HB := Lib.hid hb
  have HD := Lib.hid hd
  clear hb hd
  go_wp2_with fail
  go_ret
  exact ⟨by rw [← HD.out]; rfl, HB.out⟩

set_option maxHeartbeats 400000 in
theorem tcovers_any (l : List Tm) (v : Value) (s f : ByteArray) (x : Int) (w : World) (hl : l.length ≤ 140737488355328) (hr : RdV w 4 v l.length (l.flatMap Tm.cells)) :
    Calls Try.prog 14 #[v, .string s, .string f, .int .i64 x] w fun e w' => e = .returned (.bool (l.any (fun t => t.cov s f x))) ∧ Below w.heap.size w w' := by
  have hmf : ∀ (fn : Fn) (first cap : Array Value) (w : World), (Instr.makeFunc fn first cap).run Try.prog w = .ok (.func fn first cap) w := fun _ _ _ _ => rfl
  have HR := Lib.hid hr
  clear hr
  go_enter Try.func14, Try.ntmps14
  go_wp2_with fail
  refine (contains_any l v s f x w.heap.size (w.heap.size + 1) (w.heap.size + 1 + 1) _ hl (((HR.out.alloc _).alloc _).alloc _) ?_ ?_ ?_).mono ?_
  · rw [World.cell?_alloc_past _ _ _ (by simp; omega), World.cell?_alloc_past _ _ _ (by simp), World.cell?_alloc_at _ _ _ _ rfl]; rfl
  · rw [World.cell?_alloc_past _ _ _ (by simp), World.cell?_alloc_at _ _ _ _ (by simp)]; rfl
  · rw [World.cell?_alloc_at _ _ _ _ (by simp)]; rfl
  · rintro e w' ⟨rfl, hb⟩
    have HB := Lib.hid ((((Below.refl w.heap.size w).alloc (Nat.le_refl _) (.cells #[.string s] 9)).alloc (by simp) (.cells #[.string f] 9)).alloc (by simp; omega) (.cells #[.int .i64 x] 2) |>.trans (hb.mono (by simp; omega)))
    clear hb
    go_wp2_with fail
    go_ret
    exact ⟨rfl, HB.out⟩

theorem cov_split (t : Tm) (s f : ByteArray) (x : Int) : t.cov s f x = (decide (t.s.toList = s.toList) && (decide (t.f.toList = []) || decide (t.f.toList = f.toList)) && decide (t.a ≤ x) && decide (x ≤ t.b)) := rfl

set_option maxHeartbeats 1000000 in
theorem rcovers_any (l : List Tm) (v : Value) (s f : ByteArray) (x : Int) (w : World) (hl : l.length ≤ 140737488355328) (hr : RdV w 4 v l.length (l.flatMap Tm.cells)) :
    Calls Try.prog 15 #[v, .string s, .string f, .int .i64 x] w fun e w' => e = .returned (.bool (l.any (fun t => t.cov s f x))) ∧ w = w' := by
  obtain ⟨ao0, cap0, rfl, hlc, hcm⟩ := RdV.shape hr
  unfold maxLen at hcm
  go_enter Try.func15, Try.ntmps15
  go_wp2_with fail
  go_loopg [9, 12] l.length (fun m s9 s12 wr => ∃ k : Nat, k + m = l.length ∧ s12 = .int .i64 k ∧ Hid ((l.take k).any (fun t => t.cov s f x) = false) ∧ w = wr)
  case atStart => exact ⟨0, by omega, rfl, Lib.hid (by simp), rfl⟩
  case round =>
    obtain ⟨k, hk, rfl, hno, rfl⟩ := hrel
    by_cases h0 : gk = 0
    · obtain rfl : k = l.length := by omega
      clear hk
      go_wp2_with fail
      go_ret
      have := hno.out
      rw [List.take_length] at this
      exact ⟨by rw [this]; rfl, rfl⟩
    · have hlt : k < l.length := by omega
      obtain ⟨b, off, cap', he, e0, e1, e2, e3⟩ := tomb_at hr k hlt
      simp only [Value.slice.injEq, true_and] at he
      obtain ⟨rfl, rfl⟩ := he
      have HN : Hid ((l.take (k + 1)).any (fun t => t.cov s f x) = l[k].cov s f x) := Lib.hid (by rw [any_take l _ k hlt, hno.out]; rfl)
      have HA : Hid (l[k].cov s f x = true → l.any (fun t => t.cov s f x) = true) := Lib.hid (any_at l (fun t => t.cov s f x) k hlt)
      have HC := Lib.hid (cov_split l[k] s f x)
      generalize l[k] = t at *
      obtain ⟨ts, tf, ta, tb⟩ := t
      dsimp only at *
      go_wp2_with fail
      all_goals first
        | (go_ret
           go_light
           exact ⟨by rw [HA.out (by rw [HC.out]; simp [*] <;> omega)]; rfl, rfl⟩)
        | (go_roundg (gk - 1)
           case measure => go_light; omega
           case rel =>
             go_light
             exact ⟨k + 1, by omega, by go_num, Lib.hid (by rw [HN.out, HC.out]; simp [*] <;> omega), rfl⟩)

end Go.Proofs.Ytmhmmnleijadnaa
