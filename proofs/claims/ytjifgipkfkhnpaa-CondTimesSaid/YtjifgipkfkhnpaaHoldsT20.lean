/- cond.Holds. -/
import Derived.Test.YtjifgipkfkhnpaaHolds20
namespace Go.Proofs.Ytjifgipkfkhnpaa
open Go.RowKit
set_option linter.unusedVariables false

def leaf1 : Lf := ⟨1, { data := #[] }, { data := #[] }, 0, 0, { data := #[] }⟩
theorem all_any (a : Option Addr) (n c : Nat) (w : World) :
    Calls Try.prog 18 #[.slice a n c] w fun e w' => e = .returned (.agg #[.int .i64 1, .string { data := #[] }, .string { data := #[] }, .int .i64 0, .int .u64 0, .string { data := #[] }, .slice a n c]) ∧ Below w.heap.size w w' := by
  go_enter Try.func18, Try.ntmps18
  go_wp2_with fail
  exact bodyPost_ret (v := .agg #[.int .i64 1, .string { data := #[] }, .string { data := #[] }, .int .i64 0, .int .u64 0, .string { data := #[] }, .slice a n c]) (by simp [results, Try.results18, go_sem]) rfl ⟨rfl, (Below.refl _ _).alloc (Nat.le_refl _) _⟩

theorem holdsT_any (E : Env) (F : Fo) (pv tv fv nv : Value) (w : World) (hp : RdF w pv F) (hE : EnvAt w E tv fv nv) :
    Calls Try.prog 13 #[pv, .agg #[.string E.nm, tv, fv, .int .i64 E.time], nv] w fun e w' => e = .returned (.bool (hl E true F)) ∧ Below w.heap.size w w' := by
  have hp' := hp
  obtain ⟨xs, hr, hm⟩ := hp'
  obtain ⟨pa, pc, rfl, hn1, hn2⟩ := RdV.shape hr
  obtain ⟨ta, tc, rfl, ht1, ht2⟩ := RdV.shape hE.t
  obtain ⟨fa, fc, rfl, hf1, hf2⟩ := RdV.shape hE.f
  obtain ⟨na, nc, rfl, hm1, hm2⟩ := RdV.shape hE.n
  have hA := fun (w : World) => all_any pa xs.length pc w
  have hH : ∀ w1, Below w.heap.size w w1 → Calls Try.prog 21 #[.agg #[.int .i64 1, .string { data := #[] }, .string { data := #[] }, .int .i64 0, .int .u64 0, .string { data := #[] }, .slice pa xs.length pc], .agg #[.string E.nm, .slice ta E.tags.length tc, .slice fa E.fds.length fc, .int .i64 E.time], .slice na E.names.length nc] w1 fun e w' => e = .returned (.bool (hl E true F)) ∧ Below w1.heap.size w1 w' :=
    fun w1 h => holds_any E (F.sz + 1) leaf1 F _ _ _ _ w1 (by omega) (hp.below h) (hE.below h)
  have HH := Lib.hid hH
  have hb : ∀ n t f x : Value, ∀ ty, Below w.heap.size w (w.alloc (.cells #[n, t, f, x] ty)) := fun n t f x ty => (Below.refl _ _).alloc (Nat.le_refl _) _
  obtain ⟨wA, hwA⟩ : ∃ wA, wA = w.alloc (.cells #[.string E.nm, .slice ta E.tags.length tc, .slice fa E.fds.length fc, .int .i64 E.time] 28) := ⟨_, rfl⟩
  have hbA : Below w.heap.size w wA := by rw [hwA]; exact hb _ _ _ _ _
  have c0 : wA.cell? ⟨w.heap.size, 0, none⟩ = some (.string E.nm) := by rw [hwA]; simp
  have c1 : wA.cell? ⟨w.heap.size, 1, none⟩ = some (.slice ta E.tags.length tc) := by rw [hwA]; simp
  have c2 : wA.cell? ⟨w.heap.size, 2, none⟩ = some (.slice fa E.fds.length fc) := by rw [hwA]; simp
  have c3 : wA.cell? ⟨w.heap.size, 3, none⟩ = some (.int .i64 E.time) := by rw [hwA]; simp
  have HW := Lib.hid hwA
  have HBA := Lib.hid hbA
  have hkeep : ∀ w' : World, Below wA.heap.size wA w' → w'.cell? ⟨w.heap.size, 0, none⟩ = some (.string E.nm) ∧ w'.cell? ⟨w.heap.size, 1, none⟩ = some (.slice ta E.tags.length tc) ∧ w'.cell? ⟨w.heap.size, 2, none⟩ = some (.slice fa E.fds.length fc) ∧ w'.cell? ⟨w.heap.size, 3, none⟩ = some (.int .i64 E.time) := fun w' h =>
    have q : ∀ (bk o : Nat) (u : Value), wA.cell? ⟨bk, o, none⟩ = some u → w'.cell? ⟨bk, o, none⟩ = some u := fun bk o u q => (h.cell (World.block_lt_of_cell? _ _ q)).trans q
    ⟨q _ _ _ c0, q _ _ _ c1, q _ _ _ c2, q _ _ _ c3⟩
  have hB0 : Below wA.heap.size wA wA.drew := (Below.refl _ _).drew
  clear c0 c1 c2 c3 hp hE hH hr hm hb hbA hwA
  go_enter Try.func13, Try.ntmps13
  go_upto_region 1 with fail
  rw [← HW.out]
  clear HW
  go_region_held3 (fun w' => w'.cell? ⟨w.heap.size, 0, none⟩ = some (.string E.nm) ∧ w'.cell? ⟨w.heap.size, 1, none⟩ = some (.slice ta E.tags.length tc) ∧ w'.cell? ⟨w.heap.size, 2, none⟩ = some (.slice fa E.fds.length fc) ∧ w'.cell? ⟨w.heap.size, 3, none⟩ = some (.int .i64 E.time))
    (first | exact hkeep _ hB0 | exact hkeep _ hB3 | exact hkeep _ hB4)
    (first
      | (go_at_call 18; refine (hA _).mono ?_; rintro _ w3 ⟨rfl, hb3⟩; have hB3 : Below wA.heap.size wA w3 := hB0.trans (hb3.mono hB0.size); clear hb3)
      | (go_at_call 21; refine (HH.out _ (HBA.out.trans (hB3.mono HBA.out.size))).mono ?_; rintro _ w4 ⟨rfl, hb4⟩; have hB4 : Below wA.heap.size wA w4 := hB3.trans (hb4.mono hB3.size); clear hb4))
  all_goals (go_wp2_with fail; go_ret; exact ⟨rfl, HBA.out.trans (hB4.mono HBA.out.size)⟩)
end Go.Proofs.Ytjifgipkfkhnpaa
