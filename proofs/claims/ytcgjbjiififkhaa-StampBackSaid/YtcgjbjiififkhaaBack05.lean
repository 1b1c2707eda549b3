/- StampBack's walk. -/
import Derived.Test.YtcgjbjiififkhaaRStDec2
namespace Go.Proofs.Ytcgjbjiififkhaa
open Go.RowKit Go.ChangeShapes Go.WideShapes Go.ChangeAt
set_option linter.unusedVariables false

theorem own_putj {w : World} {base n cap j : Nat} {ao : Option Addr} {bs : List UInt8} (h : Own w base (.slice ao n cap) bs) (hj : j < bs.length) :
    ∃ g, ao = some ⟨g, 0, none⟩ ∧ base ≤ g ∧ w.cell? ⟨g, j, none⟩ = some (bV bs[j]) ∧ w.frozen? ⟨g, j, none⟩ = false ∧ ∀ y : UInt8, Own (w.setCell ⟨g, j, none⟩ (bV y)) base (.slice ao n cap) (bs.set j y) := by
  have h0 : w.ownsRow base 5 1 (.slice ao n cap) bs.length (bs.map bV) := h
  rcases h0.2 with ⟨_, hn⟩ | ⟨g, cap', cur, he, hb, rest⟩
  · omega
  · simp only [Value.slice.injEq] at he
    obtain ⟨rfl, hn, rfl⟩ := he
    subst hn
    refine ⟨g, rfl, hb, ?_, h0.frozenAt j, fun y => ?_⟩
    · rw [h0.cellAt j (by omega)]; simp [hj]
    · have := (h0.stored j (bV y)).1
      unfold Own
      rw [List.length_set, List.map_set]
      exact this

set_option maxHeartbeats 2000000 in
set_option maxRecDepth 100000 in
theorem stampBack_run (l : List Int) (a : Int) (y : Nat) (hy : y ≤ 255) (v : Value) (w : World) (hx : ∀ x ∈ l, i64ok x) (hr : Tms w v l) :
    Calls Try.prog 6 #[v, .int .i64 a, .int .u8 (y : Int)] w fun e w' => e = .returned (.bool true) ∧ Below w.heap.size w w' := by
  obtain ⟨ao0, cap0, rfl, hnc, hcm⟩ := RdV.shape hr
  unfold maxLen at hcm
  go_enter Try.func6, Try.ntmps6
  go_wp2_with fail
  refine (awake05_any w).mono ?_
  rintro e w1 ⟨rfl, hb1⟩
  have HB1 := Lib.hid hb1
  have HR1 := Lib.hid (show Tms w1 (.slice ao0 l.length cap0) l from RdV.below hr hb1)
  have hE := encode_any l _ _ hx HR1.out
  have HX := Lib.hid hx
  clear hb1 hr hx
  cases hes : encS l with
  | none =>
    go_upto_region 4 with (go_at_call 10; refine hE.mono ?_; rintro e w2 ⟨hb2, h⟩; rw [hes] at h; rcases h with ⟨_, rfl⟩ | ⟨_, _, _, h, _⟩; have HB2 := Lib.hid (HB1.out.trans (hb2.mono HB1.out.size)); clear hb2 hE; rotate_left 1; cases h)
    go_wp2_with fail
    go_ret
    exact ⟨rfl, HB2.out⟩
  | some b =>
    have HES := Lib.hid hes
    clear hes
    go_upto_region 4 with (go_at_call 10; refine hE.mono ?_; rintro e w2 ⟨hb2, h⟩; rw [HES.out] at h; rcases h with ⟨h, _⟩ | ⟨b2, bo, bc, h, h9, h11, rfl, ho⟩; cases h; obtain rfl : b = b2 := (by simpa using h); have HB2 := Lib.hid (HB1.out.trans (hb2.mono HB1.out.size)); have HO2 := Lib.hid ho; have HT2 := Lib.hid (show Tms w2 (.slice ao0 l.length cap0) l from RdV.below HR1.out hb2); have H9 := Lib.hid h9; have H11 := Lib.hid h11; clear hb2 hE ho h h9 h11)
    have hD := decode_any b _ w2 (by have := H9.out; omega) HO2.out.rd
    have HDS := Lib.hid (decS_of HX.out HES.out)
    go_upto_region 7 with (go_at_call 12; refine hD.mono ?_; rintro e w3 ⟨hb3, h⟩; rw [HDS.out] at h; rcases h with ⟨h, _⟩ | ⟨t2, xo, xc, h, rfl, ht⟩; cases h; obtain rfl : l = t2 := (by simpa using h); have HB3 := Lib.hid (HB2.out.trans (hb3.mono HB2.out.size)); have HO3 := Lib.hid (show Own w3 w1.heap.size (.slice bo b.length bc) b from (Chg.ofBelowAny (S := fun _ => False) hb3).owns HO2.out (fun _ _ h => h)); have hSM := sameTimes_any l _ _ w3 ht (RdV.below HT2.out hb3); clear hb3 hD ht h)
    obtain ⟨j, hj⟩ : ∃ j, j = uT a % b.length := ⟨_, rfl⟩
    have hjl : j < b.length := by rw [hj]; exact Nat.mod_lt _ (by have := H11.out; omega)
    have hua := u64_wrap a
    have hjI : ((uT a : Nat) : Int) % (b.length : Int) = (j : Int) := by rw [hj]; simp
    have hbl9 : b.length ≤ 9000 := H9.out
    have hb0 : ¬ (b.length : Int) = 0 := by have := H11.out; omega
    have hbl0 : 0 < b.length := by omega
    obtain ⟨g, rfl, hgb, hgc, hgf, hput⟩ := own_putj HO3.out hjl
    obtain ⟨z, hz⟩ : ∃ z : UInt8, z = UInt8.ofNat (b[j].toNat + y) := ⟨_, rfl⟩
    have hzI : ((b[j].toNat : Int) + (y : Int)) % 256 = ((z.toNat : Nat) : Int) := by rw [hz, UInt8.toNat_ofNat']; omega
    have HPUT := Lib.hid (hput z)
    have hlz : (b.set j z).length = b.length := List.length_set
    have HLZ := Lib.hid hlz
    unfold bV at hgc
    clear hput hz hj hlz
    generalize b[j].toNat = B at *
    generalize uT a = U at *
    go_upto_region 10 with (go_at_call 13; refine hSM.mono ?_; rintro _ _ ⟨rfl, q1, rfl⟩)
    have HB4 := Lib.hid ((below_dr HB3.out q1).setCell (p := ⟨g, j, none⟩) (Nat.le_trans HB1.out.size hgb) (.int .u8 (z.toNat : Int)))
    have HO4 := Lib.hid (show Rd ((w3.drewN q1).setCell ⟨g, j, none⟩ (.int .u8 (z.toNat : Int))) (.slice (some ⟨g, 0, none⟩) b.length bc) (b.set j z) from Own.rd (show Own ((w3.drewN q1).setCell ⟨g, j, none⟩ (.int .u8 (z.toNat : Int))) w1.heap.size (.slice (some ⟨g, 0, none⟩) b.length bc) (b.set j z) from HPUT.out))
    clear HPUT hgc hgf
    generalize (w3.drewN q1).setCell ⟨g, j, none⟩ (.int .u8 (z.toNat : Int)) = w4 at *
    have HL9 : Hid ((b.set j z).length ≤ 140737488355328) := Lib.hid (by rw [HLZ.out]; omega)
    generalize b.set j z = b4 at *
    obtain ⟨p, hp⟩ : ∃ p, p = deO b4 := ⟨_, rfl⟩
    have HP := Lib.hid hp
    clear hp
    go_upto_region 12 with (first
      | (go_at_call 12; refine (decode_any b4 _ _ HL9.out HO4.out).mono ?_; intro e w5 h; obtain ⟨hb5, ao5, cap5, rfl, hr5⟩ := deO_one h; rw [← HP.out] at hr5 ⊢; have HB5 := Lib.hid (HB4.out.trans (hb5.mono HB4.out.size)); have HR5 := Lib.hid hr5; have HN5 := Lib.hid (show Rd w5 (.slice (some ⟨g, 0, none⟩) b.length bc) b4 from RdV.below HO4.out.v hb5); clear h hb5 hr5)
      | (go_at_call 11; refine (rdecode_any b4 _ _ HL9.out HN5.out).mono ?_; intro e w6 h; obtain ⟨hb6, ao6, cap6, rfl, hr6⟩ := deO_one h; rw [← HP.out] at hr6 ⊢; have HB6 := Lib.hid (HB5.out.trans (hb6.mono HB5.out.size)); have hSM2 := sameTimes_any p.1 _ _ w6 (RdV.below HR5.out hb6) hr6; clear h hb6 hr6))
    obtain ⟨l2, m⟩ := p
    dsimp only at *
    go_wp2_with (go_at_call 13; refine hSM2.mono ?_; rintro _ _ ⟨rfl, q, rfl⟩)
    go_ret
    exact ⟨rfl, below_dr HB6.out _⟩
theorem stampBack_walk {H : Type} (enc : TypeId × Value → H) (W : World) (base : Nat) (v0 v1 v2 : Value) (d0 d1 d2 : DataW H) (p0 p1 p2 : List MemPlace)
    (o0 : Value.okWide Try.prog W .any base 22 v0) (o1 : Value.okWide Try.prog W .any base 3 v1) (o2 : Value.okWide Try.prog W .any base 5 v2)
    (t0 : DataW.Trod enc Try.prog W 0 (fun _ => true) true 22 v0 d0 p0) (t1 : DataW.Trod enc Try.prog W 0 (fun _ => true) true 3 v1 d1 p1) (t2 : DataW.Trod enc Try.prog W 0 (fun _ => true) true 5 v2 d2 p2)
    (hsz : (DataW.weightsEach Try.prog [22, 3, 5] [d0, d1, d2]).all (· ≤ reachBytes) = true) :
    Calls Try.prog 6 #[v0, v1, v2] W fun e W' => e = .returned (.bool true) ∧ Below W.heap.size W W' := by
  obtain ⟨l, hr0, hx, _, _⟩ := open_times o0 t0
  obtain ⟨a1, rfl, rfl, rfl, w1⟩ := open_int Try.underlying3 o1 t1
  obtain ⟨a2, rfl, rfl, rfl, w2⟩ := open_int Try.underlying5 o2 t2
  have hy := wf_u8 w2
  obtain ⟨m, rfl⟩ := Int.eq_ofNat_of_zero_le hy.1
  exact stampBack_run l a1 m (by omega) v0 W hx hr0
end Go.Proofs.Ytcgjbjiififkhaa
