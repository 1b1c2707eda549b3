/- The statement 'ColumnDecodesUptoCardSaid', out of its walk 'columnDecodes_walk': the frame of a tied card: the table of math/bits reads as it is laid. Conditions: what is read is of bulk at most 1048576. -/
import Derived.Test.YtoenpmnjimcnlaaDoorG8
import Derived.Test.YtoenpmnjimcnlaaDoorG6
import Derived.Test.YtoenpmnjimcnlaaDoorG9
import Derived.WalkKit
import Derived.ProofKit
import Derived.OpenShut
import Derived.ChangeOld
import Derived.Below
import Derived.SizedLaws
import Derived.JoinedCond
import Derived.Deep.DeepHandedRow
/- XBits07: ColumnBits' walk. -/
namespace Go.Proofs.YtoenpmnjimcnlaaDoor
open Go.RowKit Go.ChangeShapes Go.WideShapes Go.ChangeAt
set_option linter.unusedVariables false

def cl62 (x : Nat) : Nat := x &&& 13835058055282163711
theorem cl62_num (x : Nat) (h : x < 18446744073709551616) : Go.bits .andNot .u64 (x : Int) 4611686018427387904 = ((cl62 x : Nat) : Int) := u64_andNot_nat x 4611686018427387904 h (by decide)
theorem cl62_lt (x : Nat) (h : x < 18446744073709551616) : cl62 x < 18446744073709551616 := Nat.lt_of_le_of_lt Nat.and_le_left h
theorem cl62_fin (x : Nat) : finB (cl62 x) = true := by
  refine decide_eq_true ?_
  unfold rungB cl62
  have h := Nat.and_mod_two_pow (a := x) (b := 13835058055282163711) (n := 63)
  rw [show (2 : Nat) ^ 63 = 9223372036854775808 from rfl] at h
  rw [h, show (13835058055282163711 : Nat) % 9223372036854775808 = 2 ^ 62 - 1 from rfl, Nat.and_two_pow_sub_one_eq_mod]
  have := Nat.mod_lt (x % 9223372036854775808) (Nat.two_pow_pos 62)
  omega
theorem pkA_short {l : List Nat} {bs : List UInt8} (h : pkA l = some bs) : bs.length ≤ 8 * l.length :=
  pkA_ind (P := fun l bs => bs.length ≤ 8 * l.length) (by simp) (fun l s W bs hl ht hm hp ih => by
    rw [List.length_append, be8_len]
    rw [List.length_drop] at ih
    have : min (60 / W) l.length ≤ l.length := Nat.min_le_right _ _
    generalize min (60 / W) l.length = m at *
    omega) _ l bs (Nat.le_refl _) h
theorem good_nums {k : Int} {xs : List Nat} (hk : k = 1 ∨ k = 2) (h1 : 1 ≤ xs.length) (h2 : xs.length ≤ 1000) (hx : ∀ x ∈ xs, x < 18446744073709551616 ∧ (k = 1 → finB x = true)) :
    ∃ b, encC (xs.map (vaN k)) = (b, 0) ∧ b.length ≤ 100000 ∧ b = (if k = 1 then encF xs else encI xs) ∧ CdG k (xs.length : Int) b (xs.map (vaN k)) ∧ (∀ v ∈ xs.map (vaN k), v.ok) := by
  have hok : ∀ v ∈ xs.map (vaN k), v.ok := by
    intro v hv
    obtain ⟨x, hx2, rfl⟩ := List.mem_map.1 hv
    refine ⟨?_, (hx x hx2).1⟩
    unfold i64ok vaN
    dsimp only
    omega
  have hkk : ∀ v ∈ xs.map (vaN k), v.k = k := by
    intro v hv
    obtain ⟨x, hx2, rfl⟩ := List.mem_map.1 hv
    rfl
  have hlen : (xs.map (vaN k)).length = xs.length := List.length_map _
  have h0 : ((xs.map (vaN k)).getD 0 v0).k = k := hkk _ (getD_mem _ 0 v0 (by omega))
  have hf : (xs.map (vaN k)).all formV = true := by
    rw [List.all_eq_true]
    intro v hv
    obtain ⟨x, hx2, rfl⟩ := List.mem_map.1 hv
    rcases hk with rfl | rfl
    · rw [formV_1 rfl]
      simp [vaN, (hx x hx2).2 rfl]
      rfl
    · rw [formV_2 rfl]
      simp [vaN]
      rfl
  have ha : ((xs.map (vaN k)).all fun v => decide (v.k = ((xs.map (vaN k)).getD 0 v0).k)) = true := by
    rw [List.all_eq_true]
    intro v hv
    rw [h0]
    exact decide_eq_true (hkk v hv)
  have he := encC_ok (by omega) hf ha
  rw [h0, bitsV_map] at he
  rcases hk with rfl | rfl
  · rw [if_pos rfl] at he
    exact ⟨encF xs, he, by have := encF_len (l := xs) (fun x hx2 => (hx x hx2).1); omega, by rw [if_pos rfl], ⟨he, by rw [hlen], hkk, hok⟩, hok⟩
  · rw [if_neg (by decide), if_pos rfl] at he
    refine ⟨encI xs, he, ?_, by rw [if_neg (by decide)], ⟨he, by rw [hlen], hkk, hok⟩, hok⟩
    unfold encI
    cases hp : pkA (zgs xs xs.length) with
    | none =>
      show (0 :: rawI xs).length ≤ 100000
      rw [List.length_cons, rawI_len]
      omega
    | some p =>
      have := pkA_short hp
      rw [zgs_len] at this
      show (1 :: p).length ≤ 100000
      rw [List.length_cons]
      omega

set_option maxHeartbeats 2000000 in
set_option maxRecDepth 100000 in
theorem columnBits_run (l : List Nat) (v : Value) (w : World) (hx : ∀ x ∈ l, x < 18446744073709551616) (ht : Tab w) (hr : Nums w v l) :
    Calls Tryd.prog 6 #[v] w fun e w' => e = .returned (.bool true) ∧ Below w.heap.size w w' := by
  obtain ⟨ao0, cap0, rfl, hnc, hcm⟩ := RdV.shape hr
  unfold maxLen at hcm
  obtain ⟨n, hn⟩ : ∃ n, n = l.length := ⟨_, rfl⟩
  have HN := Lib.hid hn
  have HR := Lib.hid hr
  have HX := Lib.hid hx
  have HTB := Lib.hid ht
  rw [← hn] at hnc ⊢
  clear hr hn hx ht
  go_enter Tryd.func6, Tryd.ntmps6
  go_wp2_with (go_at_call 8; refine (awake07_any w HTB.out).mono ?_; rintro e w1 ⟨rfl, hb1⟩; have HB1 := Lib.hid hb1; clear hb1)
  go_loopg [3, 4, 18] n (fun m s3 s4 s18 wr => ∃ (k q : Nat) (io : Option Addr) (ic : Nat) (fo : Option Addr) (fc : Nat), k + m = n ∧ q ≤ 1000 ∧ (k < 1000 → q = k) ∧ (1000 ≤ k → q = 1000) ∧ s18 = .int .i64 (k : Int) ∧ s3 = .slice io q ic ∧ s4 = .slice fo q fc ∧ Hid (OwnV wr w.heap.size (.slice io q ic) ((l.take q).map (vaN 2))) ∧ Hid (OwnV wr w.heap.size (.slice fo q fc) (((l.take q).map cl62).map (vaN 1))) ∧ Hid (Apart (.slice io q ic) (.slice fo q fc)) ∧ Hid (Below w.heap.size w wr))
  case atStart => exact ⟨0, 0, none, 0, none, 0, by omega, by omega, fun _ => rfl, fun h => by omega, rfl, rfl, rfl, Lib.hid (OwnV.nil _ _), Lib.hid (OwnV.nil _ _), Lib.hid (fun j h _ => by cases h), HB1⟩
  case round =>
    obtain ⟨k, q, io, ic, fo, fc, hk, hq, hq1, hq2, rfl, rfl, rfl, HI, HF, HA, HB⟩ := hrel
    by_cases h0 : gk = 0
    · obtain rfl : k = n := by omega
      have hqn : Hid (q ≤ k) := Lib.hid ((Nat.lt_or_ge k 1000).elim (fun h => Nat.le_of_eq (hq1 h)) (fun h => Nat.le_trans hq h))
      have HTW := Lib.hid (HTB.out.below HB.out)
      have HLT : Hid ((l.take q).length = q) := Lib.hid (by rw [List.length_take, ← HN.out]; have := hqn.out; omega)
      have HBS := HB.out.size
      clear hk hq1 hq2 h0 HA
      by_cases hq0 : q = 0
      · subst hq0
        go_wp2_with fail
        go_ret
        exact ⟨rfl, HB.out⟩
      · have hq0I : ((q : Int) == 0) = false := by simp; omega
        obtain ⟨b, e1, hbl, hbe, hG1, hok1⟩ := good_nums (k := 2) (xs := l.take q) (.inr rfl) (by rw [HLT.out]; omega) (by rw [HLT.out]; exact hq) (fun x hx => ⟨HX.out x (List.mem_of_mem_take hx), fun h => by cases h⟩)
        obtain ⟨c, e2, hcl, hce, hG2, hok2⟩ := good_nums (k := 1) (xs := (l.take q).map cl62) (.inl rfl) (by rw [List.length_map, HLT.out]; omega) (by rw [List.length_map, HLT.out]; exact hq) (fun x hx => by
          obtain ⟨y, hy, rfl⟩ := List.mem_map.1 hx
          exact ⟨cl62_lt _ (HX.out y (List.mem_of_mem_take hy)), fun _ => cl62_fin y⟩)
        rw [HLT.out] at hG1
        rw [List.length_map, HLT.out] at hG2
        obtain ⟨I, hI⟩ : ∃ I, I = (l.take q).map (vaN 2) := ⟨_, rfl⟩
        obtain ⟨F, hF⟩ : ∃ F, F = ((l.take q).map cl62).map (vaN 1) := ⟨_, rfl⟩
        have HIL : Hid (I.length = q) := Lib.hid (by rw [hI, List.length_map, HLT.out])
        have HFL : Hid (F.length = q) := Lib.hid (by rw [hF, List.length_map, List.length_map, HLT.out])
        rw [← hI] at e1 hG1 hok1 HI
        rw [← hF] at e2 hG2 hok2 HF
        have HVI := Lib.hid (show Vals wr (.slice io q ic) I from HI.out.vals)
        have HVF := Lib.hid (show Vals wr (.slice fo q fc) F from HF.out.vals)
        have HG1 := Lib.hid hG1
        have HG2 := Lib.hid hG2
        have HK1 := Lib.hid hok1
        have HK2 := Lib.hid hok2
        have HE1 := Lib.hid e1
        have HE2 := Lib.hid e2
        clear hbe hce hI hF e1 e2 hG1 hG2 hok1 hok2 HI HF hqn
        have hKE := encodeC_any I (.slice io q ic) wr HK1.out HTW.out HVI.out
        go_upto_region 14 with (go_at_call 10; refine hKE.mono ?_; rintro e w3 ⟨hb3, ao3, cap3, rfl, hr3⟩; rw [HE1.out] at hr3 ⊢; have HB3 := Lib.hid (HB.out.trans (hb3.mono HB.out.size)); have HR3 := Lib.hid hr3.rd; have HVI3 := Lib.hid (HVI.out.below hb3); have HVF3 := Lib.hid (HVF.out.below hb3); have HT3 := Lib.hid (HTW.out.below hb3); clear hb3 hr3 hKE)
        try dsimp only
        have hKD : Calls Tryd.prog 12 #[.int .i64 2, .int .i64 (q : Int), .slice ao3 b.length cap3] w3 _ := decodeC_any 2 (q : Int) b (.slice ao3 b.length cap3) w3 (by unfold i64ok; omega) (by unfold i64ok; omega) (by omega) HT3.out HR3.out
        go_upto_region 15 with (go_at_call 12; refine hKD.mono ?_; rintro e w4 ⟨hb4, hu4, ao4, cap4, rfl, hv4⟩; rw [dcP_of HG1.out hu4] at hv4 ⊢; have HB4 := Lib.hid (HB3.out.trans (hb4.mono HB3.out.size)); have HV4 := Lib.hid hv4; have HVI4 := Lib.hid (HVI3.out.below hb4); have HVF4 := Lib.hid (HVF3.out.below hb4); have HT4 := Lib.hid (HT3.out.below hb4); clear hb4 hv4 hu4 hKD)
        try dsimp only
        have hKE2 := encodeC_any F (.slice fo q fc) w4 HK2.out HT4.out HVF4.out
        go_upto_region 16 with (go_at_call 10; refine hKE2.mono ?_; rintro e w5 ⟨hb5, ao5, cap5, rfl, hr5⟩; rw [HE2.out] at hr5 ⊢; have HB5 := Lib.hid (HB4.out.trans (hb5.mono HB4.out.size)); have HR5 := Lib.hid hr5.rd; have HV5 := Lib.hid (HV4.out.below hb5); have HVI5 := Lib.hid (HVI4.out.below hb5); have HVF5 := Lib.hid (HVF4.out.below hb5); have HT5 := Lib.hid (HT4.out.below hb5); clear hb5 hr5 hKE2)
        try dsimp only
        have hKD2 : Calls Tryd.prog 12 #[.int .i64 1, .int .i64 (q : Int), .slice ao5 c.length cap5] w5 _ := decodeC_any 1 (q : Int) c (.slice ao5 c.length cap5) w5 (by unfold i64ok; omega) (by unfold i64ok; omega) (by omega) HT5.out HR5.out
        go_upto_region 17 with (go_at_call 12; refine hKD2.mono ?_; rintro e w6 ⟨hb6, hu6, ao6, cap6, rfl, hv6⟩; rw [dcP_of HG2.out hu6] at hv6 ⊢; have HB6 := Lib.hid (HB5.out.trans (hb6.mono HB5.out.size)); have HV6 := Lib.hid hv6; have HVa6 := Lib.hid (HV5.out.below hb6); have HVI6 := Lib.hid (HVI5.out.below hb6); have HVF6 := Lib.hid (HVF5.out.below hb6); clear hb6 hv6 hu6 hKD2)
        try dsimp only
        have hS1 := sameV_any I (.slice ao4 I.length cap4) (.slice io q ic) w6 HVa6.out HVI6.out
        have hS2 := fun w' (h : Below w6.heap.size w6 w') => sameV_any F (.slice ao6 F.length cap6) (.slice fo q fc) w' (HV6.out.below h) (HVF6.out.below h)
        go_wp2_with (first
          | (with_reducible refine hS1.mono ?_; rintro _ w7 ⟨rfl, q7, hw7⟩; have HW7 := Lib.hid hw7; have hS3 := hS2 w7 (by rw [hw7]; exact below_drewN _); clear hw7 hS1 hS2)
          | (with_reducible refine hS3.mono ?_; rintro _ w8 ⟨rfl, q8, hw8⟩; have HW8 := Lib.hid hw8; clear hw8 hS3))
        go_ret
        have hw7 := HW7.out
        have hw8 := HW8.out
        subst hw7
        subst hw8
        exact ⟨rfl, HB6.out.trans (((below_drewN _).trans ((below_drewN _).mono (Nat.le_refl _))).mono HB6.out.size)⟩
    · have hkn : k < n := by omega
      by_cases h1000 : k < 1000
      · obtain rfl : q = k := hq1 h1000
        obtain ⟨b3, off3, c3, he3, hb3, hc3⟩ := num_at (RdV.below HR.out HB.out) q (by rw [← HN.out]; exact hkn)
        rw [← HN.out] at he3
        simp only [Value.slice.injEq, true_and] at he3
        obtain ⟨rfl, rfl⟩ := he3
        have hlt := HX.out _ (getD_mem l q 0 (by rw [← HN.out]; exact hkn))
        have hcl := cl62_num (l.getD q 0) hlt
        have hnx : Hid (l.take (q + 1) = l.take q ++ [l.getD q 0]) := Lib.hid (by rw [List.take_succ_eq_append_getElem (by rw [← HN.out]; exact hkn), getD_get l q 0 (by rw [← HN.out]; exact hkn)])
        have HL : Hid ((l.take q).length = q) := Lib.hid (by rw [List.length_take, ← HN.out]; omega)
        obtain ⟨I, hI⟩ : ∃ I, I = (l.take q).map (vaN 2) := ⟨_, rfl⟩
        obtain ⟨F, hF⟩ : ∃ F, F = ((l.take q).map cl62).map (vaN 1) := ⟨_, rfl⟩
        have HL1 : Hid (I.length = q) := Lib.hid (by rw [hI, List.length_map, HL.out])
        have HL2 : Hid (F.length = q) := Lib.hid (by rw [hF, List.length_map, List.length_map, HL.out])
        have HI2 : Hid ((l.take (q + 1)).map (vaN 2) = I ++ [vaN 2 (l.getD q 0)]) := Lib.hid (by rw [hnx.out, List.map_append, hI]; rfl)
        have HF2 : Hid (((l.take (q + 1)).map cl62).map (vaN 1) = F ++ [vaN 1 (cl62 (l.getD q 0))]) := Lib.hid (by rw [hnx.out, List.map_append, List.map_append, hF]; rfl)
        rw [← hI] at HI
        rw [← hF] at HF
        have HB3 : Hid (b3 < w.heap.size) := Lib.hid (by
          obtain ⟨b4, off4, c4, he4, hb4, _⟩ := num_at HR.out q (by rw [← HN.out]; exact hkn)
          simp only [Value.slice.injEq, Option.some.injEq, Addr.mk.injEq, and_true] at he4
          obtain ⟨⟨rfl, _⟩, _⟩ := he4
          exact hb4)
        have hBS := HB.out.size
        clear hI hF hnx hq1 hq2
        generalize cl62 (l.getD q 0) = y2 at *
        generalize l.getD q 0 = y1 at *
        go_upto_region 9 with (at_builtin; refine wpList_append_val2 _ rfl (.tmp 23) (.tmp 29) rfl w.heap.size (.slice io q ic) I (vaN 2 y1) rfl HI.out rfl (by rw [HL1.out]; omega) hBS ?_; intro ao8 cap8 w8 ho8 hc8 hr8; rw [HL1.out] at ho8 hr8 ⊢; have HO8 := Lib.hid ho8; have HC8 := Lib.hid hc8; have HR8 := Lib.hid hr8; clear ho8 hc8 hr8)
        have HF8 := Lib.hid (show OwnV w8 w.heap.size (.slice fo q fc) F from HC8.out.owns HF.out (fun j hj e => HA.out j e hj))
        have HB8 := Lib.hid (HB.out.trans (HC8.out.below hBS (fun j hj => (World.ownsRow.lt HI.out j hj).1)))
        have hc8 := (HC8.out.cell (p := ⟨b3, off3 + q, none⟩) hb3 (fun h => absurd (World.ownsRow.lt HI.out _ h).1 (Nat.not_le.2 HB3.out))).trans hc3
        have HA8 := Lib.hid (show Apart (.slice ao8 (q + 1) cap8) (.slice fo q fc) from fun j h1 h2 => by
          rcases HR8.out j h1 with h | h
          · exact HA.out j h h2
          · have := (World.ownsRow.lt HF.out j h2).2; omega)
        have hBS8 := HB8.out.size
        clear hc3 HI HF HA HB
        go_wp2_with (at_builtin; refine wpList_append_val2 _ rfl (.tmp 31) (.tmp 38) rfl w.heap.size (.slice fo q fc) F (vaN 1 y2) rfl HF8.out rfl (by rw [HL2.out]; omega) hBS8 ?_; intro ao9 cap9 w9 ho9 hc9 hr9; rw [HL2.out] at ho9 hr9 ⊢; have HO9 := Lib.hid ho9; have HC9 := Lib.hid hc9; have HR9 := Lib.hid hr9; clear ho9 hc9 hr9)
        go_roundg (gk - 1)
        case measure => go_light; omega
        case rel =>
          go_light
          refine ⟨q + 1, q + 1, ao8, cap8, ao9, cap9, by omega, by omega, fun _ => rfl, fun h => by omega, by congr 1, rfl, rfl, Lib.hid ?_, Lib.hid ?_, Lib.hid (fun j h1 h2 => ?_), Lib.hid (HB8.out.trans (HC9.out.below hBS8 (fun j hj => (World.ownsRow.lt HF8.out j hj).1)))⟩
          · rw [HI2.out]
            exact HC9.out.owns HO8.out (fun j hj e => HA8.out j hj e)
          · rw [HF2.out]
            exact HO9.out
          · rcases HR9.out j h2 with h | h
            · exact HA8.out j h1 h
            · have := (World.ownsRow.lt HO8.out j h1).2; omega
      · have hge : ¬ (k : Int) < 1000 := by omega
        obtain rfl : q = 1000 := hq2 (by omega)
        clear hq1 hq2
        go_wp2_with fail
        go_roundg (gk - 1)
        case measure => go_light; omega
        case rel =>
          go_light
          exact ⟨k + 1, 1000, io, ic, fo, fc, by omega, by omega, fun h => by omega, fun _ => rfl, by congr 1, rfl, rfl, HI, HF, HA, HB⟩

theorem columnBits_walk {H : Type} (enc : TypeId × Value → H) (W : World) (base : Nat) (v0 : Value) (d0 : DataW H) (p0 : List MemPlace)
    (o0 : Value.okWide Tryd.prog W .any base 38 v0)
    (t0 : DataW.Trod enc Tryd.prog W 0 (fun _ => true) true 38 v0 d0 p0)
    (hsz : (DataW.weightsEach Tryd.prog [38] [d0]).all (· ≤ reachBytes) = true) (ht : Tab W) :
    Calls Tryd.prog 6 #[v0] W fun e W' => e = .returned (.bool true) ∧ Below W.heap.size W W' := by
  obtain ⟨l, hr0, hx, _, _⟩ := open_nums o0 t0
  exact columnBits_run l v0 W hx ht hr0
end Go.Proofs.YtoenpmnjimcnlaaDoor

/- XBack07: ColumnBack's and ColumnDecodes' walks. -/
namespace Go.Proofs.YtoenpmnjimcnlaaDoor
open Go.RowKit Go.ChangeShapes Go.WideShapes Go.ChangeAt
set_option linter.unusedVariables false

set_option maxHeartbeats 2000000 in
set_option maxRecDepth 100000 in
theorem columnDecodes_run (k n : Int) (b : List UInt8) (v : Value) (w : World) (hk : i64ok k) (hn : i64ok n) (hl : b.length ≤ 17592186044400) (ht : Tab w) (hr : Rd w v b) :
    Calls Tryd.prog 4 #[.int .i64 k, .int .i64 n, v] w fun e w' => e = .returned (.bool true) ∧ Below w.heap.size w w' := by
  obtain ⟨ao0, cap0, rfl, hnc, hcm⟩ := RdV.shape hr
  unfold maxLen at hcm
  have HR := Lib.hid hr
  have HTB := Lib.hid ht
  clear hr ht
  go_enter Tryd.func4, Tryd.ntmps4
  go_wp2_with (go_at_call 8; refine (awake07_any w HTB.out).mono ?_; rintro e w1 ⟨rfl, hb1⟩; have HB1 := Lib.hid hb1; clear hb1)
  go_loopg [15] 5 (fun m s15 wr => ∃ (i : Nat), i + m = 5 ∧ s15 = .int .i64 (i : Int) ∧ Hid (Below w.heap.size w wr))
  case atStart => exact ⟨0, by omega, rfl, HB1⟩
  case round =>
    obtain ⟨i, hi, rfl, HB⟩ := hrel
    by_cases h0 : gk = 0
    · obtain rfl : i = 5 := by omega
      go_wp2_with fail
      go_ret
      exact ⟨rfl, HB.out⟩
    · have hi5 : (i : Int) < 5 := by omega
      go_upto_if 20 with fail
      go_cut [8] (fun s8 wx => wx = wr ∧ ∃ q : Int, i64ok q ∧ s8 = .int .i64 q)
      case first =>
        by_cases hi0 : i = 0
        · subst hi0
          go_wp2_with fail
          go_meet
          go_light
          exact ⟨rfl, k, hk, rfl⟩
        · have hiI : (0 : Int) < (i : Int) := by omega
          go_wp2_with fail
          go_meet
          go_light
          exact ⟨rfl, (i : Int), by unfold i64ok; omega, rfl⟩
      case rest =>
      obtain ⟨rfl, q, hq, rfl⟩ := hcut
      generalize wc = wo at *
      have HRo := Lib.hid (show Rd wo (.slice ao0 b.length cap0) b from RdV.below HR.out HB.out)
      have HTo := Lib.hid (HTB.out.below HB.out)
      have hK1 := rdecodeC_any q n b (.slice ao0 b.length cap0) wo hq hn hl HRo.out
      obtain ⟨p, hp⟩ : ∃ p, p = dcP q n b := ⟨_, rfl⟩
      have HP := Lib.hid hp
      clear hp
      go_upto_region 10 with (go_at_call 11; refine hK1.mono ?_; rintro e w3 ⟨hb3, hu3, ao3, cap3, rfl, hv3⟩; rw [← HP.out] at hv3 ⊢; have HB3 := Lib.hid (HB.out.trans (hb3.mono HB.out.size)); have HV3 := Lib.hid hv3; have HR3 := Lib.hid (show Rd w3 (.slice ao0 b.length cap0) b from RdV.below HRo.out hb3); have HT3 := Lib.hid (HTo.out.below hb3); clear hb3 hv3 hu3 hK1)
      have hK2 := decodeC_any q n b (.slice ao0 b.length cap0) w3 hq hn (by omega) HT3.out HR3.out
      go_upto_region 11 with (go_at_call 12; refine hK2.mono ?_; rintro e w4 ⟨hb4, hu4, ao4, cap4, rfl, hv4⟩; rw [← HP.out] at hv4 ⊢; have HB4 := Lib.hid (HB3.out.trans (hb4.mono HB3.out.size)); have HV4 := Lib.hid hv4; have HV34 := Lib.hid (HV3.out.below hb4); clear hb4 hv4 hu4 hK2)
      obtain ⟨l, m⟩ := p
      try dsimp only at *
      have hS := sameV_any l (.slice ao4 l.length cap4) (.slice ao3 l.length cap3) w4 HV4.out HV34.out
      go_wp2_with (with_reducible refine hS.mono ?_; rintro _ w7 ⟨rfl, q7, hw7⟩; have HB7 := Lib.hid (show Below w.heap.size w w7 by rw [hw7]; exact HB4.out.trans ((below_drewN _).mono HB4.out.size)); clear hw7 hS)
      go_roundg (gk - 1)
      case measure => go_light; omega
      case rel =>
        go_light
        exact ⟨i + 1, by omega, by congr 1, HB7⟩
theorem columnDecodes_walk {H : Type} (enc : TypeId × Value → H) (W : World) (base : Nat) (v0 v1 v2 : Value) (d0 d1 d2 : DataW H) (p0 p1 p2 : List MemPlace)
    (o0 : Value.okWide Tryd.prog W .any base 3 v0) (o1 : Value.okWide Tryd.prog W .any base 3 v1) (o2 : Value.okWide Tryd.prog W .any base 24 v2)
    (t0 : DataW.Trod enc Tryd.prog W 0 (fun _ => true) true 3 v0 d0 p0) (t1 : DataW.Trod enc Tryd.prog W 0 (fun _ => true) true 3 v1 d1 p1) (t2 : DataW.Trod enc Tryd.prog W 0 (fun _ => true) true 24 v2 d2 p2)
    (hsz : (DataW.weightsEach Tryd.prog [3, 3, 24] [d0, d1, d2]).all (· ≤ reachBytes) = true) (hk : Rows.uptoSmall H [d0, d1, d2] = true) (ht : Tab W) :
    Calls Tryd.prog 4 #[v0, v1, v2] W fun e W' => e = .returned (.bool true) ∧ Below W.heap.size W W' := by
  obtain ⟨k, rfl, rfl, rfl, hk0⟩ := open_int Tryd.underlying3 o0 t0
  obtain ⟨n, rfl, rfl, rfl, hn0⟩ := open_int Tryd.underlying3 o1 t1
  obtain ⟨bs, hr0, hbl, _⟩ := open_bytes o2 t2
  have h := bulk_small hk
  simp only [Rows.uptoBulkAll] at h
  exact columnDecodes_run k n bs v2 W (wf_i64' hk0) (wf_i64' hn0) (by omega) ht hr0
theorem encC_err {l : List Va} (h : (encC l).2 ≠ 0) : (encC l).1 = [] := by
  by_cases h1 : l.length = 0 ∨ 1000 < l.length
  · rw [encC_len h1]
  · cases h2 : l.all formV with
    | false => rw [encC_form h2]
    | true =>
      cases h3 : (l.all fun v => decide (v.k = (l.getD 0 v0).k)) with
      | false => rw [encC_type h1 h2 h3]
      | true =>
        rw [encC_ok h1 h2 h3] at h ⊢
        split at h
        · exact absurd rfl h
        · split at h
          · exact absurd rfl h
          · split at h
            · exact absurd rfl h
            · split at h
              · rename_i a1 a2 a3 a4
                rw [if_neg a1, if_neg a2, if_neg a3, if_pos a4]
              · exact absurd rfl h
theorem encC_short {l : List Va} {b : List UInt8} (hok : ∀ v ∈ l, v.ok) (h : encC l = (b, 0)) : b.length ≤ 10000000 := by
  obtain ⟨h1, h2, h3⟩ := encC_fits h
  have he := encC_ok h1 h2 h3
  rw [h] at he
  have hlb : (bitsV l).length = l.length := bitsV_len l
  split at he
  · simp only [Prod.mk.injEq, and_true] at he
    have := encF_len (bitsV_lt hok)
    rw [he]
    omega
  · split at he
    · simp only [Prod.mk.injEq, and_true] at he
      rw [he]
      unfold encI
      cases hp : pkA (zgs (bitsV l) (bitsV l).length) with
      | none =>
        show (0 :: rawI (bitsV l)).length ≤ _
        rw [List.length_cons, rawI_len]
        omega
      | some p =>
        have := pkA_short hp
        rw [zgs_len] at this
        show (1 :: p).length ≤ _
        rw [List.length_cons]
        omega
    · split at he
      · simp only [Prod.mk.injEq, and_true] at he
        rw [he]
        unfold encBo
        rw [length_pack8, bo_bits]
        omega
      · split at he
        · simp at he
        · rename_i h9
          simp only [Prod.mk.injEq, and_true] at he
          rw [he]
          unfold encS4
          split
          · rename_i hc
            rw [List.length_cons]
            omega
          · rw [List.length_cons]
            omega
theorem encC_good {l : List Va} {b : List UInt8} (hok : ∀ v ∈ l, v.ok) (h : encC l = (b, 0)) : CdG (l.getD 0 v0).k (l.length : Int) b l ∧ 1 ≤ l.length ∧ l.length ≤ 1000 := by
  obtain ⟨h1, h2, h3⟩ := encC_fits h
  exact ⟨⟨h, rfl, fun v hv => of_decide_eq_true (List.all_eq_true.1 h3 v hv), hok⟩, by omega, by omega⟩

set_option maxHeartbeats 2000000 in
set_option maxRecDepth 100000 in
theorem columnBack_run (l : List Va) (a : Int) (y : Nat) (hy : y ≤ 255) (v : Value) (w : World) (hok : ∀ x ∈ l, x.ok) (ht : Tab w) (hr : Vals w v l) :
    Calls Tryd.prog 5 #[v, .int .i64 a, .int .u8 (y : Int)] w fun e w' => e = .returned (.bool true) ∧ Below w.heap.size w w' := by
  obtain ⟨ao0, cap0, rfl, hnc, hcm⟩ := RdV.shape hr
  unfold maxLen at hcm
  have HR := Lib.hid hr
  have HTB := Lib.hid ht
  have HOK := Lib.hid hok
  clear hr ht hok
  go_enter Tryd.func5, Tryd.ntmps5
  go_wp2_with (go_at_call 8; refine (awake07_any w HTB.out).mono ?_; rintro e w1 ⟨rfl, hb1⟩; have HB1 := Lib.hid hb1; clear hb1)
  have HR1 := Lib.hid (show Vals w1 (.slice ao0 l.length cap0) l from RdV.below HR.out HB1.out)
  have HT1 := Lib.hid (HTB.out.below HB1.out)
  have hE := encodeC_any l (.slice ao0 l.length cap0) w1 HOK.out HT1.out HR1.out
  obtain ⟨p, hp⟩ : ∃ p, p = encC l := ⟨_, rfl⟩
  have HP := Lib.hid hp
  clear hp
  go_upto_region 4 with (go_at_call 10; refine hE.mono ?_; rintro e w2 ⟨hb2, bo, bc, rfl, ho⟩; rw [← HP.out] at ho ⊢; have HB2 := Lib.hid (HB1.out.trans (hb2.mono HB1.out.size)); have HO2 := Lib.hid ho; have HV2 := Lib.hid (HR1.out.below hb2); have HT2 := Lib.hid (HT1.out.below hb2); clear hb2 hE ho)
  obtain ⟨b, m⟩ := p
  try dsimp only at *
  by_cases hm : m = 0
  · subst hm
    obtain ⟨hG, hl1, hl2⟩ := encC_good HOK.out HP.out.symm
    have hbl := encC_short HOK.out HP.out.symm
    obtain ⟨b0, off0, c0, he0, hb0, hv0, _, _⟩ := val_at HR.out 0 (by omega)
    simp only [Value.slice.injEq, true_and] at he0
    obtain ⟨rfl, rfl⟩ := he0
    simp only [Nat.zero_mul, Nat.add_zero] at hv0
    have HV0 := Lib.hid hv0
    have HB00 := Lib.hid hb0
    have hv2 := (HB2.out.cell (p := ⟨b0, off0, none⟩) hb0).trans hv0
    have hb02 := Nat.lt_of_lt_of_le hb0 HB2.out.size
    have HLL := Lib.hid hl1
    have HL2 := Lib.hid hl2
    clear hv0 hb0 hl1 hl2
    have hll := HLL.out
    have hl2 := HL2.out
    have hki : i64ok (l.getD 0 v0).k := (HOK.out _ (getD_mem l 0 v0 (by omega))).1
    have HG := Lib.hid hG
    have hD := decodeC_any (l.getD 0 v0).k (l.length : Int) b (.slice bo b.length bc) w2 hki (by unfold i64ok; omega) (by omega) HT2.out HO2.out.rd
    generalize (l.getD 0 v0).k = kk at *
    clear hG
    go_upto_region 7 with (go_at_call 12; refine hD.mono ?_; rintro e w3 ⟨hb3, hu3, xo, xc, rfl, hv3⟩; rw [dcP_of HG.out hu3] at hv3 ⊢; have HB3 := Lib.hid (HB2.out.trans (hb3.mono HB2.out.size)); have HO3 := Lib.hid (show Own w3 w1.heap.size (.slice bo b.length bc) b from (Chg.ofBelowAny (S := fun _ => False) hb3).owns HO2.out (fun _ _ h => h)); have HV3 := Lib.hid (HV2.out.below hb3); have HT3 := Lib.hid (HT2.out.below hb3); have hSM := sameV_any l (.slice xo l.length xc) (.slice (some ⟨b0, off0, none⟩) l.length cap0) w3 hv3 (HV2.out.below hb3); have hw3 := (HB3.out.cell (p := ⟨b0, off0, none⟩) HB00.out).trans HV0.out; have hb03 := Nat.lt_of_lt_of_le HB00.out HB3.out.size; clear hb3 hv3 hu3 hD)
    try dsimp only
    go_upto_if 48 with (with_reducible refine hSM.mono ?_; rintro _ _ ⟨rfl, q1, rfl⟩)
    go_cut [48] (fun s48 wx => ∃ b4 : List UInt8, b4.length = b.length ∧ Hid (Below w.heap.size w wx) ∧ Hid (Rd wx (.slice bo b.length bc) b4))
    case first =>
      by_cases hbz : b.length = 0
      · go_wp2_with fail
        go_meet
        go_light
        exact ⟨b, rfl, Lib.hid (below_dr HB3.out q1), Lib.hid HO3.out.rd⟩
      · obtain ⟨j, hj⟩ : ∃ j, j = uT a % b.length := ⟨_, rfl⟩
        have hjl : j < b.length := by rw [hj]; exact Nat.mod_lt _ (by omega)
        have hua := u64_wrap a
        have hjI : ((uT a : Nat) : Int) % (b.length : Int) = (j : Int) := by rw [hj]; simp
        have hb0 : ¬ (b.length : Int) = 0 := by omega
        have hbl0 : 0 < b.length := by omega
        obtain ⟨g, rfl, hgb, hgc, hgf, hput⟩ := own_putj HO3.out hjl
        obtain ⟨z, hz⟩ : ∃ z : UInt8, z = UInt8.ofNat (b[j].toNat + y) := ⟨_, rfl⟩
        have hzI : ((b[j].toNat : Int) + (y : Int)) % 256 = ((z.toNat : Nat) : Int) := by rw [hz, UInt8.toNat_ofNat']; omega
        have HPUT := Lib.hid (hput z)
        have hlz : (b.set j z).length = b.length := List.length_set
        have HLZ := Lib.hid hlz
        unfold bV at hgc
        clear hput hz hj hlz
        generalize b[j].toNat = B at *
        generalize uT a = U at *
        go_wp2_with fail
        go_meet
        go_light
        refine ⟨b.set j z, HLZ.out, Lib.hid ((below_dr HB3.out q1).setCell (p := ⟨g, j, none⟩) (Nat.le_trans HB1.out.size hgb) (.int .u8 (z.toNat : Int))), Lib.hid ?_⟩
        have h9 := Own.rd (show Own ((w3.drewN q1).setCell ⟨g, j, none⟩ (.int .u8 (z.toNat : Int))) w1.heap.size (.slice (some ⟨g, 0, none⟩) b.length bc) (b.set j z) from HPUT.out)
        exact h9
    case rest =>
    obtain ⟨b4, hb4l, HB4, HR4⟩ := hcut
    generalize wc = w4 at *
    have HT4 := Lib.hid (HTB.out.below HB4.out)
    have hv4 := (HB4.out.cell (p := ⟨b0, off0, none⟩) HB00.out).trans HV0.out
    have hb04 := Nat.lt_of_lt_of_le HB00.out HB4.out.size
    have HKI := Lib.hid hki
    have HNI := Lib.hid (show i64ok (l.length : Int) by unfold i64ok; omega)
    have HBL := Lib.hid (show b4.length ≤ 10000000 by omega)
    have E4 : Hid (Value.slice bo b.length bc = Value.slice bo b4.length bc) := Lib.hid (by rw [hb4l])
    clear hb4l
    have HR5 := Lib.hid (show Rd w4 (.slice bo b4.length bc) b4 from E4.out ▸ HR4.out)
    have hD1 := decodeC_any kk (l.length : Int) b4 (.slice bo b4.length bc) w4 HKI.out HNI.out (by have := HBL.out; omega) HT4.out HR5.out
    rw [← E4.out] at hD1
    obtain ⟨p, hp⟩ : ∃ p, p = dcP kk (l.length : Int) b4 := ⟨_, rfl⟩
    have HP4 := Lib.hid hp
    clear hp hw3 hb03 hSM hv2 hb02
    go_upto_region 12 with (go_at_call 12; (with_reducible refine hD1.mono ?_); rintro e w5 ⟨hb5, hu5, ao5, cap5, rfl, hr5⟩; rw [← HP4.out] at hr5 ⊢; have HB5 := Lib.hid (HB4.out.trans (hb5.mono HB4.out.size)); have HV5 := Lib.hid hr5; have HRB := Lib.hid (show Rd w5 (.slice bo b4.length bc) b4 from RdV.below HR5.out hb5); have hv5 := (HB5.out.cell (p := ⟨b0, off0, none⟩) HB00.out).trans HV0.out; have hb05 := Nat.lt_of_lt_of_le HB00.out HB5.out.size; clear hb5 hr5 hu5 hD1 hv4 hb04)
    have hD2 := rdecodeC_any kk (l.length : Int) b4 (.slice bo b4.length bc) w5 HKI.out HNI.out (by have := HBL.out; omega) HRB.out
    rw [← E4.out] at hD2
    go_upto_region 13 with (go_at_call 11; (with_reducible refine hD2.mono ?_); rintro e w6 ⟨hb6, hu6, ao6, cap6, rfl, hr6⟩; rw [← HP4.out] at hr6 ⊢; have HB6 := Lib.hid (HB5.out.trans (hb6.mono HB5.out.size)); have HV6 := Lib.hid hr6; have HV56 := Lib.hid (HV5.out.below hb6); clear hb6 hr6 hu6 hD2 hv5 hb05)
    obtain ⟨l2, m2⟩ := p
    try dsimp only at *
    have hS := sameV_any l2 (.slice ao5 l2.length cap5) (.slice ao6 l2.length cap6) w6 HV56.out HV6.out
    go_wp2_with (with_reducible refine hS.mono ?_; rintro _ _ ⟨rfl, q7, rfl⟩)
    go_ret
    exact ⟨rfl, below_dr HB6.out _⟩
  · have hbe : b = [] := by have := encC_err (l := l) (by rw [← HP.out]; exact hm); rw [← HP.out] at this; exact this
    have hmI : ((m : Int) != 0) = true := by simp; omega
    subst hbe
    go_wp2_with fail
    go_ret
    exact ⟨rfl, HB2.out⟩
theorem columnBack_walk {H : Type} (enc : TypeId × Value → H) (W : World) (base : Nat) (v0 v1 v2 : Value) (d0 d1 d2 : DataW H) (p0 p1 p2 : List MemPlace)
    (o0 : Value.okWide Tryd.prog W .any base 22 v0) (o1 : Value.okWide Tryd.prog W .any base 3 v1) (o2 : Value.okWide Tryd.prog W .any base 5 v2)
    (t0 : DataW.Trod enc Tryd.prog W 0 (fun _ => true) true 22 v0 d0 p0) (t1 : DataW.Trod enc Tryd.prog W 0 (fun _ => true) true 3 v1 d1 p1) (t2 : DataW.Trod enc Tryd.prog W 0 (fun _ => true) true 5 v2 d2 p2)
    (hsz : (DataW.weightsEach Tryd.prog [22, 3, 5] [d0, d1, d2]).all (· ≤ reachBytes) = true) (ht : Tab W) :
    Calls Tryd.prog 5 #[v0, v1, v2] W fun e W' => e = .returned (.bool true) ∧ Below W.heap.size W W' := by
  obtain ⟨l, hr0, hx⟩ := open_vals o0 t0
  obtain ⟨a1, rfl, rfl, rfl, w1⟩ := open_int Tryd.underlying3 o1 t1
  obtain ⟨a2, rfl, rfl, rfl, w2⟩ := open_int Tryd.underlying5 o2 t2
  have hy := wf_u8 w2
  obtain ⟨m, rfl⟩ := Int.eq_ofNat_of_zero_le hy.1
  exact columnBack_run l a1 m (by omega) v0 W hx ht hr0
end Go.Proofs.YtoenpmnjimcnlaaDoor

/- XLawColumnDecodesUpto: The statement 'ColumnDecodesUptoCardSaid', out of its walk 'columnDecodes_walk': the frame of a tied card: the table of math/bits reads as it is laid. Conditions: what is read is of bulk at most 1048576. -/
namespace Go.Proofs.YtoenpmnjimcnlaaDoor.lawColumnDecodesUpto
open Go.ChangeShapes Go.WideShapes Go.ChangeAt Go.RowKit
set_option linter.unusedVariables false
theorem own : ownKnob Tryd.prog.godebug = none := by kernel_rfl
theorem laidOut : laidOutB Tryd.prog = true := by kernel_rfl
theorem laid_met (os : Os) : laidMet Tryd.prog Rows.columnDecodesUptoRow.laid ((laidWorld os).forCall (fun _ _ => 0) ⟨#[], #[.int .i64 0, .int .i64 0, .slice none 0 0], []⟩).memory :=
  laidMet_of_run' 8 (by kernel_rfl) (by kernel_rfl)
theorem reads (os : Os) {H : Type} (enc : TypeId × Value → H) : ∃ places, DataW.whole enc Tryd.prog ((laidWorld os).forCall (fun _ _ => 0) ⟨#[], #[.int .i64 0, .int .i64 0, .slice none 0 0], []⟩).memory Tryd.f4.params.toList Rows.columnDecodesSpec.vars false (#[.int .i64 0, .int .i64 0, .slice none 0 0] : Array Value).toList 8 = some ([.lit (.int .i64 0), .lit (.int .i64 0), .nil], [], places) :=
  ⟨[], by kernel_rfl⟩
set_option maxRecDepth 100000 in
theorem lifted (os : Os) (started : os.Started) (H : Type) (enc : TypeId × Value → H) (F : Stop.Interp) :
    ReturnsInHanded {} Tryd.checked os 4 .any ((Rows.OpenSpec.upto Rows.columnDecodesSpec).preRow enc Tryd.prog Tryd.f4 Rows.columnDecodesUptoRow.domain false Rows.columnDecodesUptoRow.laid) (((Rows.OpenSpec.upto Rows.columnDecodesSpec).at F).post enc Tryd.prog Tryd.f4 false true false false) := by
  obtain ⟨places, hx⟩ := reads os enc
  refine returnsInHanded_of_row (C := Tryd.checked) (s := Rows.OpenSpec.upto Rows.columnDecodesSpec) own started (by kernel_rfl) Tryd.func4
    (witness_row_at (enc := enc) (C := Tryd.checked) false (laidWorld os) #[.int .i64 0, .int .i64 0, .slice none 0 0] rfl (by kernel_rfl) (by kernel_rfl) (by kernel_rfl)
      (OpenSpec.preRow_of_cond 8 hx (by kernel_rfl) (fun k hk => by cases hk; kernel_rfl) (by kernel_rfl) (laid_met os))) ?_
  intro W base args ds gs before hval0 hW _ hcnd hsz0 hL _ _
  have hval : ∀ (j : Nat) t v, Tryd.f4.params[j]? = some t → args[j]? = some v → Value.okWide Tryd.prog W .any base t v := hval0
  have hsz : (DataW.weightsEach Tryd.prog (Tryd.f4.params.toList ++ (Rows.OpenSpec.upto Rows.columnDecodesSpec).bare.plain.varTypes Tryd.prog) (ds ++ gs)).all (· ≤ reachBytes) = true := hsz0
  have hW' := hW
  obtain ⟨p, q, hA0, hV, rfl, hfz, hnd⟩ := hW
  have hA : DataW.TrodAll enc Tryd.prog W 0 (fun _ => true) true Tryd.f4.params.toList args.toList ds p := hA0
  rw [Tryd.params4] at hA hval hsz
  obtain ⟨v0, vs0, d0, ds0, p0, q0, hargs, rfl, rfl, t0, r0⟩ := trodAll_cons hA
  obtain ⟨v1, vs1, d1, ds1, p1, q1, rfl, rfl, rfl, t1, r1⟩ := trodAll_cons r0
  obtain ⟨v2, vs2, d2, ds2, p2, q2, rfl, rfl, rfl, t2, r2⟩ := trodAll_cons r1
  obtain ⟨rfl, rfl, rfl⟩ := trodAll_nil r2
  obtain rfl : args = #[v0, v1, v2] := by cases args; simp_all
  obtain ⟨rfl, rfl⟩ := trodVars_none hV
  have lt0 : ∀ x ∈ p0, x.block < W.heap.size := by obtain ⟨m, hm⟩ := t0; exact DataW.trod_lt m _ _ _ hm
  have lt1 : ∀ x ∈ p1, x.block < W.heap.size := by obtain ⟨m, hm⟩ := t1; exact DataW.trod_lt m _ _ _ hm
  have lt2 : ∀ x ∈ p2, x.block < W.heap.size := by obtain ⟨m, hm⟩ := t2; exact DataW.trod_lt m _ _ _ hm
  have hsz2 : (DataW.weightsEach Tryd.prog [3, 3, 24] [d0, d1, d2]).all (· ≤ reachBytes) = true := hsz
  have hk : Rows.uptoSmall H [d0, d1, d2] = true := hcnd _ rfl
  refine (columnDecodes_walk enc W base v0 v1 v2 d0 d1 d2 p0 p1 p2 (hval 0 3 v0 rfl rfl) (hval 1 3 v1 rfl rfl) (hval 2 24 v2 rfl rfl) t0 t1 t2 hsz2 hk (tab_of hL)).mono fun e W' ⟨he, bel⟩ => ?_
  subst he
  exact ⟨_, rfl, _, _, _, [], _, [], hW', trodAll_mk1 (shut_bool Tryd.underlying4 _), (trodAll_cons_mk (Below.trod laidOut (by kernel_rfl) (of_decide_eq_true (by kernel_rfl)) t0 bel lt0) (trodAll_cons_mk (Below.trod laidOut (by kernel_rfl) (of_decide_eq_true (by kernel_rfl)) t1 bel lt1) (trodAll_cons_mk (Below.trod laidOut (by kernel_rfl) (of_decide_eq_true (by kernel_rfl)) t2 bel lt2) trodAll_mk0))), rfl, bel.frame _, fun h => by cases h⟩
theorem said : Rows.ColumnDecodesUptoSaid :=
  OpenClaim.holds_of_cond 4 Tryd.f4 rfl rfl rfl rfl rfl rfl rfl ⟨rfl, rfl, rfl, rfl, rfl⟩ rfl rfl rfl rfl rfl (by kernel_rfl) Tryd.func4 (by kernel_rfl)
    (of_decide_eq_true (by kernel_rfl)) (by unfold Func.isWrapper; first | (rw [if_pos (by decide +kernel)]; kernel_rfl) | (rw [if_neg (by decide +kernel)]; exact ⟨rfl, rfl⟩))
    (fun os started H enc _ F => by rw [OpenClaim.pre_eq_preRow]; exact lifted os started H enc F)
theorem plain (f : FuncId) (fn : Func) (hf : Tryd.pinned.checked.prog.funcNamed "grist/gristlaw07.ColumnDecodes" = some f) (hfn : Tryd.pinned.checked.prog.funcs[f]? = some fn) :
    false = Tryd.pinned.checked.prog.looks [] ∧ ∀ (j : Nat) t, fn.params[j]? = some t → Tryd.pinned.checked.prog.wantsStandIn t = false := by
  obtain rfl : f = 4 := Option.some.inj ((show Tryd.prog.funcNamed "grist/gristlaw07.ColumnDecodes" = some 4 by kernel_rfl).symm.trans hf) |>.symm
  obtain rfl : fn = Tryd.f4 := (Option.some.inj (Tryd.func4.symm.trans hfn)).symm
  refine ⟨by kernel_rfl, fun j t ht => ?_⟩
  rw [Tryd.params4] at ht
  have hm : t ∈ [3, 3, 24] := by simpa using Array.mem_of_getElem? ht
  have hall : ([3, 3, 24].all fun u => !Tryd.prog.wantsStandIn u) = true := by kernel_rfl
  exact (show Tryd.prog.wantsStandIn t = false by simpa using List.all_eq_true.1 hall t hm)
theorem proved : Rows.ColumnDecodesUptoCardSaid :=
  Claim7.holds_tied_plain_at .later [] _ _ _ _ said (fun _ h => by cases h) (by kernel_rfl) (fun _ h => by cases h) columnDecodesUpto_row_tie rfl ⟨rfl, rfl⟩ (by kernel_rfl) rfl plain (by kernel_rfl)
#print axioms proved
end Go.Proofs.YtoenpmnjimcnlaaDoor.lawColumnDecodesUpto
