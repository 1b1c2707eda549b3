/- TombApplies' walk: of any columns just what is not covered stays, in its order. -/
import Derived.Test.YtmhmmnleijadnaaCovers13
import Derived.Test.YtmhmmnleijadnaaRApply13
namespace Go.Proofs.Ytmhmmnleijadnaa
open Go.RowKit Go.ChangeShapes Go.WideShapes Go.ChangeAt
set_option linter.unusedVariables false

theorem OutOk.cols {w : World} {base : Nat} {v : Value} {rs : List Cl} (h : OutOk w base v rs) : Cols w v rs := ⟨RdV.ofOwns h.1, fun c hc => RdV.ofOwns (h.2 c hc).1⟩

theorem below_drewN {B : Nat} {a w : World} (h : Below B a w) (q : Nat) : Below B a (w.drewN q) := ⟨h.os, h.tape, h.output, h.size, h.block⟩

set_option maxHeartbeats 2000000 in
theorem tombApplies_run (l : List Tm) (v : Value) (cs : List Cl) (cv : Value) (w : World) (hl : l.length * 48 ≤ 140737488351232) (hr : RdV w 4 v l.length (l.flatMap Tm.cells))
    (hc : cs.length * 56 ≤ 140737488351232) (hp : ∀ c ∈ cs, c.ps.length * 40 ≤ 140737488351232) (hcs : Cols w cv cs) :
    Calls Try.prog 3 #[v, cv] w fun e w' => e = .returned (.bool true) ∧ Below w.heap.size w w' := by
  go_enter Try.func3, Try.ntmps3
  go_wp2_with fail
  refine (awake_any w).mono ?_
  rintro e w1 ⟨rfl, hb1⟩
  have hr1 := hr.below hb1
  have hc1 := hcs.below hb1
  go_wp2_with fail
  refine (theirs_any l _ _ hl hr1).mono ?_
  rintro e w3 ⟨ao3, cap3, rfl, ho3, hb3⟩
  have hb13 := hb1.trans (hb3.mono hb1.size)
  have hr3 := hr.below hb13
  have hc3 := hcs.below hb13
  have ht3 := RdV.ofOwns ho3
  go_wp2_with fail
  refine (apply_any l _ cs cv _ (by omega) ht3 hc hp hc3).mono ?_
  rintro e w4 ⟨ao4, cap4, rs, rfl, htag, hout, hb4⟩
  have hb14 := hb13.trans (hb4.mono hb13.size)
  have hr4 := hr.below hb14
  have hc4 := hcs.below hb14
  go_wp2_with fail
  refine (rapply_any l _ cs cv _ (by omega) hr4 hc hp hc4).mono ?_
  rintro e w5 ⟨ao5, cap5, rs5, rfl, htag5, hout5, hb5⟩
  have hb15 := hb14.trans (hb5.mono hb14.size)
  have hx := sameColumns_any rs rs5 _ _ _ (hout.below hb5).cols hout5.cols (htag.trans htag5.symm)
  go_wp2_with fail
  refine hx.mono ?_
  rintro e w6 ⟨rfl, q, rfl⟩
  go_wp2_with fail
  go_ret
  exact ⟨rfl, below_drewN hb15 q⟩

theorem tombApplies_walk {H : Type} (enc : TypeId × Value → H) (W : World) (base : Nat) (v0 v1 : Value) (d0 d1 : DataW H) (p0 p1 : List MemPlace)
    (o0 : Value.okWide Try.prog W .any base 22 v0) (o1 : Value.okWide Try.prog W .any base 23 v1)
    (t0 : DataW.Trod enc Try.prog W 0 (fun _ => true) true 22 v0 d0 p0) (t1 : DataW.Trod enc Try.prog W 0 (fun _ => true) true 23 v1 d1 p1)
    (hsz : (DataW.weightsEach Try.prog [22, 23] [d0, d1]).all (· ≤ reachBytes) = true) :
    Calls Try.prog 3 #[v0, v1] W fun e W' => e = .returned (.bool true) ∧ Below W.heap.size W W' := by
  simp only [DataW.weightsEach, List.append_nil, List.all_append, Bool.and_eq_true] at hsz
  obtain ⟨l, hr, hd⟩ := open_tombs o0 t0
  obtain ⟨cs, hcs, hc, hp⟩ := open_cols o1 t1 hsz.2
  exact tombApplies_run l v0 cs v1 W (tombs_small hsz.1 hd) hr hc hp hcs

end Go.Proofs.Ytmhmmnleijadnaa
