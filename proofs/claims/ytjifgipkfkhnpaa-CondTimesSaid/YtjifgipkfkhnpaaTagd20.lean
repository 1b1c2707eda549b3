/- cond.Tagged. -/
import Derived.Test.YtjifgipkfkhnpaaPlain20
namespace Go.Proofs.Ytjifgipkfkhnpaa
open Go.RowKit
set_option linter.unusedVariables false

/-- What of a series is deleted: from, to, whether it is, the error. -/
def tagR (ns : List ByteArray) (ts : List Tg) (F : Fo) : Int × Int × Bool × Int :=
  if (plF ns ts F).1 then ((rg (sp true F (-9223372036854775808) 9223372036854775807)).1, (rg (sp true F (-9223372036854775808) 9223372036854775807)).2, (plF ns ts F).2, 0) else (0, 0, false, 2)

theorem results_tmp4 {fn : Func} {t u v x : Tmp} (h : fn.results = #[.tmp t, .tmp u, .tmp v, .tmp x]) (tmps : Array Value) (P : Program) (w : World) :
    (results fn tmps).run P w = .ok (.tuple #[tmps.getD t undef, tmps.getD u undef, tmps.getD v undef, tmps.getD x undef]) w := by
  simp [results, h]

set_option maxHeartbeats 800000 in
theorem taggedT_any (ns : List ByteArray) (ts : List Tg) (rn : ByteArray) (F : Fo) (pv tv nv : Value) (w : World) (hp : RdF w pv F) (hT : RdV w 2 tv ts.length (ts.flatMap Tg.cells)) (hN : RdV w 1 nv ns.length (ns.map Value.string)) :
    Calls Try.prog 14 #[pv, .agg #[.string rn, tv], nv] w fun e w' => e = .returned (.tuple #[.int .i64 (tagR ns ts F).1, .int .i64 (tagR ns ts F).2.1, .bool (tagR ns ts F).2.2.1, .int .i64 (tagR ns ts F).2.2.2]) ∧ Below w.heap.size w w' := by
  have hp' := hp
  obtain ⟨xs, hr, hm⟩ := hp'
  obtain ⟨pa, pc, rfl, hn1, hn2⟩ := RdV.shape hr
  obtain ⟨ta, tc, rfl, ht1, ht2⟩ := RdV.shape hT
  obtain ⟨na, nc, rfl, hm1, hm2⟩ := RdV.shape hN
  have hA := fun (w : World) => all_any pa xs.length pc w
  have hH : ∀ w1, Below w.heap.size w w1 → Calls Try.prog 22 #[.agg #[.int .i64 1, .string { data := #[] }, .string { data := #[] }, .int .i64 0, .int .u64 0, .string { data := #[] }, .slice pa xs.length pc], .agg #[.string rn, .slice ta ts.length tc], .slice na ns.length nc] w1 fun e w' => e = .returned (.tuple #[.bool (plF ns ts F).1, .bool (plF ns ts F).2]) ∧ Below w1.heap.size w1 w' :=
    fun w1 h => plain_any ns ts rn (F.sz + 1) leaf1 F _ _ _ w1 (by omega) (hp.below h) (hT.below h) (hN.below h)
  have hSp := fun (w1 : World) (h : Below w.heap.size w w1) => spanT_any F _ w1 (hp.below h)
  have HH := Lib.hid hH
  have HSp := Lib.hid hSp
  have HV := Lib.hid (show tagR ns ts F = if (plF ns ts F).1 then ((rg (sp true F (-9223372036854775808) 9223372036854775807)).1, (rg (sp true F (-9223372036854775808) 9223372036854775807)).2, (plF ns ts F).2, 0) else (0, 0, false, 2) from rfl)
  generalize tagR ns ts F = V at *
  generalize plF ns ts F = B at *
  generalize rg (sp true F (-9223372036854775808) 9223372036854775807) = R at *
  obtain ⟨b1, b2⟩ := B
  obtain ⟨wA, hwA⟩ : ∃ wA, wA = w.alloc (.cells #[.string rn, .slice ta ts.length tc] 25) := ⟨_, rfl⟩
  have hbA : Below w.heap.size w wA := by rw [hwA]; exact (Below.refl _ _).alloc (Nat.le_refl _) _
  have c0 : wA.cell? ⟨w.heap.size, 0, none⟩ = some (.string rn) := by rw [hwA]; simp
  have c1 : wA.cell? ⟨w.heap.size, 1, none⟩ = some (.slice ta ts.length tc) := by rw [hwA]; simp
  have HW := Lib.hid hwA
  have HBA := Lib.hid hbA
  have hkeep : ∀ w' : World, Below wA.heap.size wA w' → w'.cell? ⟨w.heap.size, 0, none⟩ = some (.string rn) ∧ w'.cell? ⟨w.heap.size, 1, none⟩ = some (.slice ta ts.length tc) := fun w' h =>
    have q : ∀ (bk o : Nat) (u : Value), wA.cell? ⟨bk, o, none⟩ = some u → w'.cell? ⟨bk, o, none⟩ = some u := fun bk o u q => (h.cell (World.block_lt_of_cell? _ _ q)).trans q
    ⟨q _ _ _ c0, q _ _ _ c1⟩
  have hB0 : Below wA.heap.size wA wA.drew := (Below.refl _ _).drew
  clear c0 c1 hp hH hSp hr hm hT hN hbA hwA
  go_enter Try.func14, Try.ntmps14
  go_upto_region 1 with fail
  rw [← HW.out]
  clear HW
  go_region_held3 (fun w' => w'.cell? ⟨w.heap.size, 0, none⟩ = some (.string rn) ∧ w'.cell? ⟨w.heap.size, 1, none⟩ = some (.slice ta ts.length tc))
    (first | exact hkeep _ hB0 | exact hkeep _ hB3 | exact hkeep _ hB4)
    (first
      | (go_at_call 18; refine (hA _).mono ?_; rintro _ w3 ⟨rfl, hb3⟩; have hB3 : Below wA.heap.size wA w3 := hB0.trans (hb3.mono hB0.size); clear hb3)
      | (go_at_call 22; refine (HH.out _ (HBA.out.trans (hB3.mono HBA.out.size))).mono ?_; rintro _ w4 ⟨rfl, hb4⟩; have hB4 : Below wA.heap.size wA w4 := hB3.trans (hb4.mono hB3.size); clear hb4))
  all_goals (have HB4 := Lib.hid (HBA.out.trans (hB4.mono HBA.out.size)); clear hB4 hB3 hB0 hkeep HH hA)
  all_goals cases b1
  all_goals go_wp2_with (go_at_call 10; refine (HSp.out _ HB4.out).mono ?_; rintro _ w5 ⟨rfl, hb5⟩; have HB5 := Lib.hid (HB4.out.trans (hb5.mono HB4.out.size)); clear hb5)
  · (try simp only [Exit.inBlock, Exit.then])
    refine bodyPost_ret (results_tmp4 rfl _ _ _) rfl ?_
    exact ⟨by rw [HV.out]; rfl, HB4.out⟩
  · (try simp only [Exit.inBlock, Exit.then])
    refine bodyPost_ret (results_tmp4 rfl _ _ _) rfl ?_
    exact ⟨by rw [HV.out]; rfl, HB5.out⟩
end Go.Proofs.Ytjifgipkfkhnpaa
