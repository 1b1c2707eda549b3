/- PackUnpacks' and PackBack's walks. -/
import Derived.Test.YtlcaaimaaalcpaaUn04
import Derived.Test.YtlcaaimaaalcpaaAwake04
import Derived.Test.YtlcaaimaaalcpaaOpenNums
import Derived.Test.YtlcaaimaaalcpaaSameNums
namespace Go.Proofs.Ytlcaaimaaalcpaa
open Go.RowKit Go.ChangeShapes Go.WideShapes Go.ChangeAt
set_option linter.unusedVariables false

def unOut (bs : List UInt8) (n : Int) : List Nat × Nat := match unA bs n with
  | none => ([], 2)
  | some l => (l, 0)

theorem un_one {bs : List UInt8} {n : Int} {w w' : World} {e : Ending} (h : UnEnd bs n w e w') :
    Below w.heap.size w w' ∧ ∃ ao cap, e = .returned (.tuple #[.slice ao (unOut bs n).1.length cap, .int .i64 ((unOut bs n).2 : Int)]) ∧ Nums w' (.slice ao (unOut bs n).1.length cap) (unOut bs n).1 ∧ (unOut bs n).1.length ≤ 17592186044416 := by
  refine ⟨h.1, ?_⟩
  unfold unOut
  rcases h.2 with ⟨h1, rfl⟩ | ⟨l, ao, cap, h1, h2, _, rfl, ho⟩
  · rw [h1]
    exact ⟨none, 0, rfl, RdV.nil _ _, by simp⟩
  · rw [h1]
    exact ⟨ao, cap, rfl, ho, h2⟩

set_option maxHeartbeats 2000000 in
set_option maxRecDepth 100000 in
theorem packUnpacks_run (bs : List UInt8) (n : Int) (hn1 : -9223372036854775808 ≤ n) (hn2 : n ≤ 9223372036854775807) (v : Value) (w : World) (hl : bs.length ≤ 1048576) (hr : Rd w v bs) :
    Calls Try.prog 5 #[v, .int .i64 n] w fun e w' => e = .returned (.bool true) ∧ Below w.heap.size w w' := by
  obtain ⟨ao0, cap0, rfl, hnc, hcm⟩ := RdV.shape hr
  unfold maxLen at hcm
  have HBB : Hid (∃ B : Nat, B ≤ 17592186044416 ∧ (n ≤ B ∨ 60 * (bs.length / 8) ≤ B)) := Lib.hid ⟨60 * (bs.length / 8), by omega, .inr (Nat.le_refl _)⟩
  have HL : Hid (bs.length ≤ 140737488355328) := Lib.hid (by omega)
  have HN1 := Lib.hid hn1
  have HN2 := Lib.hid hn2
  go_enter Try.func5, Try.ntmps5
  go_wp2_with fail
  refine (awake_any w).mono ?_
  rintro e w1 ⟨rfl, hb1⟩
  have HB1 := Lib.hid hb1
  have HR1 := Lib.hid (show Rd w1 (.slice ao0 bs.length cap0) bs from RdV.below hr hb1)
  obtain ⟨p, hp⟩ : ∃ p, p = unOut bs n := ⟨_, rfl⟩
  have HP := Lib.hid hp
  clear hb1 hr hl hp hn1 hn2
  go_upto_region 5 with (first
    | (go_at_call 10; refine (runpack_any bs n HN1.out HN2.out _ _ HL.out HBB.out HR1.out).mono ?_; intro e w2 h; obtain ⟨hb2, ao2, cap2, rfl, hr2, _⟩ := un_one h; rw [← HP.out] at hr2 ⊢; have HB2 := Lib.hid hb2; have HR2 := Lib.hid hr2; have HN2b := Lib.hid (show Rd w2 (.slice ao0 bs.length cap0) bs from RdV.below HR1.out hb2); clear h hb2 hr2)
    | (go_at_call 11; refine (unpack_any bs n HN1.out HN2.out _ _ HL.out HBB.out HN2b.out).mono ?_; intro e w3 h; obtain ⟨hb3, ao3, cap3, rfl, hr3, hl3⟩ := un_one h; rw [← HP.out] at hr3 hl3 ⊢; have HB3 := Lib.hid hb3; have hSM := sameNums_any p.1 _ _ w3 hl3 hr3 (RdV.below HR2.out hb3); clear h hb3 hr3 hl3))
  obtain ⟨l, m⟩ := p
  dsimp only at *
  go_wp2_with (go_at_call 12; refine hSM.mono ?_; rintro _ _ ⟨rfl, q, rfl⟩)
  go_ret
  exact ⟨rfl, (HB1.out.trans ((HB2.out.trans (HB3.out.mono HB2.out.size)).mono HB1.out.size)).trans ((below_drewN q).mono (by have h1 := HB1.out.size; have h2 := HB2.out.size; have h3 := HB3.out.size; omega))⟩

theorem packUnpacks_walk {H : Type} (enc : TypeId × Value → H) (W : World) (base : Nat) (v0 v1 : Value) (d0 d1 : DataW H) (p0 p1 : List MemPlace)
    (o0 : Value.okWide Try.prog W .any base 24 v0) (o1 : Value.okWide Try.prog W .any base 3 v1)
    (t0 : DataW.Trod enc Try.prog W 0 (fun _ => true) true 24 v0 d0 p0) (t1 : DataW.Trod enc Try.prog W 0 (fun _ => true) true 3 v1 d1 p1)
    (hsz : (DataW.weightsEach Try.prog [24, 3] [d0, d1]).all (· ≤ reachBytes) = true) (hk : Rows.uptoSmall H [d0, d1] = true) :
    Calls Try.prog 5 #[v0, v1] W fun e W' => e = .returned (.bool true) ∧ Below W.heap.size W W' := by
  obtain ⟨bs, hr0, hb0, _⟩ := open_bytes o0 t0
  obtain ⟨a1, rfl, rfl, rfl, w1⟩ := open_int Try.underlying3 o1 t1
  have hy := wf_i64' w1
  have h := bulk_small hk
  simp only [Rows.uptoBulkAll] at h
  exact packUnpacks_run bs a1 hy.1 hy.2 v0 W (by omega) hr0

set_option maxHeartbeats 2000000 in
set_option maxRecDepth 100000 in
theorem packBack_run (l : List Nat) (x : Nat) (hx : x ≤ 255) (v : Value) (w : World) (hl : l.length ≤ 17592186043904) (hX : ∀ y ∈ l, y < 18446744073709551616) (hr : Nums w v l) :
    Calls Try.prog 6 #[v, .int .u8 (x : Int)] w fun e w' => e = .returned (.bool true) ∧ Below w.heap.size w w' := by
  obtain ⟨ao0, cap0, rfl, hnc, hcm⟩ := RdV.shape hr
  unfold maxLen at hcm
  go_enter Try.func6, Try.ntmps6
  go_wp2_with fail
  refine (awake_any w).mono ?_
  rintro e w1 ⟨rfl, hb1⟩
  have HB1 := Lib.hid hb1
  have HR1 := Lib.hid (show Nums w1 (.slice ao0 l.length cap0) l from RdV.below hr hb1)
  have hRP := pack_any l _ _ (by omega) hX HR1.out
  clear hb1 hr hX
  cases hpk : pkA l with
  | none =>
    rw [hpk] at hRP
    clear hpk
    go_upto_region 4 with (go_at_call 9; refine hRP.mono ?_; rintro e w3 ⟨hbl, h⟩; rcases h with ⟨_, rfl⟩ | ⟨bs', pao, pcap, h1, h2, _, _⟩; have HB3 := Lib.hid hbl; clear hbl hRP; rotate_left 1; cases h1)
    go_wp2_with fail
    go_ret
    exact ⟨rfl, HB1.out.trans (HB3.out.mono HB1.out.size)⟩
  | some bs =>
    have HU := Lib.hid (unA_back hpk)
    rw [hpk] at hRP
    clear hpk
    go_upto_region 4 with (go_at_call 9; refine hRP.mono ?_; rintro e w2 ⟨hbl, h⟩; rcases h with ⟨h, _⟩ | ⟨bs', pao, pcap, h1, h2, rfl, ho⟩; cases h; obtain rfl : bs = bs' := (by simpa using h1); have HB2 := Lib.hid hbl; have HR2 := Lib.hid ho.rd; have HN2 := Lib.hid (show Nums w2 (.slice ao0 l.length cap0) l from RdV.below HR1.out hbl); have HBL := Lib.hid (show bs.length ≤ 140737488355328 by omega); clear hbl ho h1 h2 hRP)
    obtain ⟨N, hN⟩ : ∃ N, N = l.length + x := ⟨_, rfl⟩
    have hNI : (l.length : Int) + (x : Int) = (N : Int) := by omega
    have HN1 : Hid (-9223372036854775808 ≤ (N : Int)) := Lib.hid (by omega)
    have HN2b : Hid ((N : Int) ≤ 9223372036854775807) := Lib.hid (by omega)
    have HL1 : Hid (-9223372036854775808 ≤ (l.length : Int)) := Lib.hid (by omega)
    have HL2 : Hid ((l.length : Int) ≤ 9223372036854775807) := Lib.hid (by omega)
    have HQ1 : Hid (∃ B : Nat, B ≤ 17592186044416 ∧ ((l.length : Int) ≤ B ∨ 60 * (bs.length / 8) ≤ B)) := Lib.hid ⟨l.length, by omega, .inl (Int.le_refl _)⟩
    have HQ2 : Hid (∃ B : Nat, B ≤ 17592186044416 ∧ ((N : Int) ≤ B ∨ 60 * (bs.length / 8) ≤ B)) := Lib.hid ⟨N, by omega, .inl (Int.le_refl _)⟩
    have hwN : IntKind.i64.wrap ((l.length : Int) + (x : Int)) = (N : Int) := by rw [hNI]; exact IntWalk.i64_in _ (by omega)
    obtain ⟨p, hp⟩ : ∃ p, p = unOut bs N := ⟨_, rfl⟩
    have HP := Lib.hid hp
    have HP1 : Hid (unOut bs l.length = (l, 0)) := Lib.hid (by unfold unOut; rw [HU.out])
    clear hp hN
    go_upto_region 9 with (first
      | (go_at_call 11; refine (unpack_any bs (l.length : Int) HL1.out HL2.out _ _ HBL.out HQ1.out HR2.out).mono ?_; intro e w3 h; obtain ⟨hb3, ao3, cap3, rfl, hr3, hl3⟩ := un_one h; rw [HP1.out] at hr3 hl3 ⊢; have HB3 := Lib.hid hb3; have HR3 := Lib.hid hr3; have HR3b := Lib.hid (show Rd w3 (.slice pao bs.length pcap) bs from RdV.below HR2.out.v hb3); have HN3 := Lib.hid (show Nums w3 (.slice ao0 l.length cap0) l from RdV.below HN2.out hb3); clear h hb3 hr3 hl3 HR2)
      | (go_at_call 11; refine (unpack_any bs (N : Int) HN1.out HN2b.out _ _ HBL.out HQ2.out HR3b.out).mono ?_; intro e w4 h; obtain ⟨hb4, ao4, cap4, rfl, hr4, hl4⟩ := un_one h; rw [← HP.out] at hr4 hl4 ⊢; have HB4 := Lib.hid hb4; have HR4 := Lib.hid hr4; have HR4b := Lib.hid (show Rd w4 (.slice pao bs.length pcap) bs from RdV.below HR3b.out.v hb4); clear h hb4 hr4 hl4)
      | (go_at_call 10; refine (runpack_any bs (N : Int) HN1.out HN2b.out _ _ HBL.out HQ2.out HR4b.out).mono ?_; intro e w5 h; obtain ⟨hb5, ao5, cap5, rfl, hr5, hl5⟩ := un_one h; rw [← HP.out] at hr5 hl5 ⊢; have HB5 := Lib.hid hb5; have HLP := Lib.hid hl5; have HR5 := Lib.hid hr5; have HS1 := Lib.hid (show Nums w5 (.slice ao3 l.length cap3) l from RdV.below (RdV.below HR3.out HB4.out) hb5); have HS2 := Lib.hid (show Nums w5 (.slice ao0 l.length cap0) l from RdV.below (RdV.below HN3.out HB4.out) hb5); have HS3 := Lib.hid (show Nums w5 (.slice ao4 p.1.length cap4) p.1 from RdV.below HR4.out hb5); clear h hb5 hr5 hl5))
    have hSA := sameNums_any l _ _ w5 (by omega) HS1.out HS2.out
    have hSB := fun q => sameNums_any p.1 _ _ (w5.drewN q) HLP.out HS3.out HR5.out
    have HBX := Lib.hid (HB1.out.trans ((HB2.out.trans ((HB3.out.trans ((HB4.out.trans (HB5.out.mono HB4.out.size)).mono HB3.out.size)).mono HB2.out.size)).mono HB1.out.size))
    clear HP HP1 hwN hNI
    obtain ⟨l2, m⟩ := p
    dsimp only at *
    go_wp2_with (first
      | (go_at_call 12; refine hSA.mono ?_; rintro _ _ ⟨rfl, q1, rfl⟩; clear hSA)
      | (go_at_call 12; refine (hSB q1).mono ?_; rintro _ _ ⟨rfl, q2, rfl⟩))
    go_ret
    refine ⟨rfl, HBX.out.trans ((below_drewN (q1 + q2)).mono HBX.out.size)⟩

theorem packBack_walk {H : Type} (enc : TypeId × Value → H) (W : World) (base : Nat) (v0 v1 : Value) (d0 d1 : DataW H) (p0 p1 : List MemPlace)
    (o0 : Value.okWide Try.prog W .any base 22 v0) (o1 : Value.okWide Try.prog W .any base 5 v1)
    (t0 : DataW.Trod enc Try.prog W 0 (fun _ => true) true 22 v0 d0 p0) (t1 : DataW.Trod enc Try.prog W 0 (fun _ => true) true 5 v1 d1 p1)
    (hsz : (DataW.weightsEach Try.prog [22, 5] [d0, d1]).all (· ≤ reachBytes) = true) :
    Calls Try.prog 6 #[v0, v1] W fun e W' => e = .returned (.bool true) ∧ Below W.heap.size W W' := by
  obtain ⟨l, hr0, hx, _, h4⟩ := open_nums o0 t0
  obtain ⟨a1, rfl, rfl, rfl, w1⟩ := open_int Try.underlying5 o1 t1
  have hy := wf_u8 w1
  obtain ⟨m, rfl⟩ := Int.eq_ofNat_of_zero_le hy.1
  simp only [DataW.weightsEach, List.all_append, Bool.and_eq_true] at hsz
  have hb : l.length ≤ 17592186043904 := by
    rcases h4 with ⟨_, _, rfl⟩ | ⟨els, sp, rfl, hl⟩
    · simp
    · have hb : Try.prog.bytesOf 29 = 8 := by kernel_rfl
      have := List.all_eq_true.1 hsz.1 ((els.length + sp.length) * Try.prog.bytesOf 29) (by simp [DataW.weights, Try.underlying22])
      rw [hb] at this
      have t2 := of_decide_eq_true this
      have hr : reachBytes = 140737488351232 := by decide
      rw [hr] at t2
      omega
  exact packBack_run l m (by omega) v0 W hb hx hr0
end Go.Proofs.Ytlcaaimaaalcpaa
