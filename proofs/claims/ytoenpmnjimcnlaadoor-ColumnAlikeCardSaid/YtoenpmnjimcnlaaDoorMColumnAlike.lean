/- The statement 'ColumnAlikeCardSaid', out of its walk 'columnAlike_walk': the frame of a tied card: the table of math/bits reads as it is laid. Conditions: none beyond the form's own reach. -/
import Derived.Test.YtoenpmnjimcnlaaDoorG8
import Derived.Test.YtoenpmnjimcnlaaDoorG6
import Derived.WalkKit
import Derived.ProofKit
import Derived.OpenShut
import Derived.ChangeOld
import Derived.Below
import Derived.SizedLaws
import Derived.JoinedCond
import Derived.Deep.DeepHandedRow
/- XBits07: ColumnBits' walk. -/
namespace Go.Proofs.YtoenpmnjimcnlaaDoor
open Go.RowKit Go.ChangeShapes Go.WideShapes Go.ChangeAt
set_option linter.unusedVariables false

def cl62 (x : Nat) : Nat := x &&& 13835058055282163711
theorem cl62_num (x : Nat) (h : x < 18446744073709551616) : Go.bits .andNot .u64 (x : Int) 4611686018427387904 = ((cl62 x : Nat) : Int) := u64_andNot_nat x 4611686018427387904 h (by decide)
theorem cl62_lt (x : Nat) (h : x < 18446744073709551616) : cl62 x < 18446744073709551616 := Nat.lt_of_le_of_lt Nat.and_le_left h
theorem cl62_fin (x : Nat) : finB (cl62 x) = true := by
  refine decide_eq_true ?_
  unfold rungB cl62
  have h := Nat.and_mod_two_pow (a := x) (b := 13835058055282163711) (n := 63)
  rw [show (2 : Nat) ^ 63 = 9223372036854775808 from rfl] at h
  rw [h, show (13835058055282163711 : Nat) % 9223372036854775808 = 2 ^ 62 - 1 from rfl, Nat.and_two_pow_sub_one_eq_mod]
  have := Nat.mod_lt (x % 9223372036854775808) (Nat.two_pow_pos 62)
  omega
theorem pkA_short {l : List Nat} {bs : List UInt8} (h : pkA l = some bs) : bs.length ≤ 8 * l.length :=
  pkA_ind (P := fun l bs => bs.length ≤ 8 * l.length) (by simp) (fun l s W bs hl ht hm hp ih => by
    rw [List.length_append, be8_len]
    rw [List.length_drop] at ih
    have : min (60 / W) l.length ≤ l.length := Nat.min_le_right _ _
    generalize min (60 / W) l.length = m at *
    omega) _ l bs (Nat.le_refl _) h
theorem good_nums {k : Int} {xs : List Nat} (hk : k = 1 ∨ k = 2) (h1 : 1 ≤ xs.length) (h2 : xs.length ≤ 1000) (hx : ∀ x ∈ xs, x < 18446744073709551616 ∧ (k = 1 → finB x = true)) :
    ∃ b, encC (xs.map (vaN k)) = (b, 0) ∧ b.length ≤ 100000 ∧ b = (if k = 1 then encF xs else encI xs) ∧ CdG k (xs.length : Int) b (xs.map (vaN k)) ∧ (∀ v ∈ xs.map (vaN k), v.ok) := by
  have hok : ∀ v ∈ xs.map (vaN k), v.ok := by
    intro v hv
    obtain ⟨x, hx2, rfl⟩ := List.mem_map.1 hv
    refine ⟨?_, (hx x hx2).1⟩
    unfold i64ok vaN
    dsimp only
    omega
  have hkk : ∀ v ∈ xs.map (vaN k), v.k = k := by
    intro v hv
    obtain ⟨x, hx2, rfl⟩ := List.mem_map.1 hv
    rfl
  have hlen : (xs.map (vaN k)).length = xs.length := List.length_map _
  have h0 : ((xs.map (vaN k)).getD 0 v0).k = k := hkk _ (getD_mem _ 0 v0 (by omega))
  have hf : (xs.map (vaN k)).all formV = true := by
    rw [List.all_eq_true]
    intro v hv
    obtain ⟨x, hx2, rfl⟩ := List.mem_map.1 hv
    rcases hk with rfl | rfl
    · rw [formV_1 rfl]
      simp [vaN, (hx x hx2).2 rfl]
      rfl
    · rw [formV_2 rfl]
      simp [vaN]
      rfl
  have ha : ((xs.map (vaN k)).all fun v => decide (v.k = ((xs.map (vaN k)).getD 0 v0).k)) = true := by
    rw [List.all_eq_true]
    intro v hv
    rw [h0]
    exact decide_eq_true (hkk v hv)
  have he := encC_ok (by omega) hf ha
  rw [h0, bitsV_map] at he
  rcases hk with rfl | rfl
  · rw [if_pos rfl] at he
    exact ⟨encF xs, he, by have := encF_len (l := xs) (fun x hx2 => (hx x hx2).1); omega, by rw [if_pos rfl], ⟨he, by rw [hlen], hkk, hok⟩, hok⟩
  · rw [if_neg (by decide), if_pos rfl] at he
    refine ⟨encI xs, he, ?_, by rw [if_neg (by decide)], ⟨he, by rw [hlen], hkk, hok⟩, hok⟩
    unfold encI
    cases hp : pkA (zgs xs xs.length) with
    | none =>
      show (0 :: rawI xs).length ≤ 100000
      rw [List.length_cons, rawI_len]
      omega
    | some p =>
      have := pkA_short hp
      rw [zgs_len] at this
      show (1 :: p).length ≤ 100000
      rw [List.length_cons]
      omega

set_option maxHeartbeats 2000000 in
set_option maxRecDepth 100000 in
theorem columnBits_run (l : List Nat) (v : Value) (w : World) (hx : ∀ x ∈ l, x < 18446744073709551616) (ht : Tab w) (hr : Nums w v l) :
    Calls Tryd.prog 6 #[v] w fun e w' => e = .returned (.bool true) ∧ Below w.heap.size w w' := by
  obtain ⟨ao0, cap0, rfl, hnc, hcm⟩ := RdV.shape hr
  unfold maxLen at hcm
  obtain ⟨n, hn⟩ : ∃ n, n = l.length := ⟨_, rfl⟩
  have HN := Lib.hid hn
  have HR := Lib.hid hr
  have HX := Lib.hid hx
  have HTB := Lib.hid ht
  rw [← hn] at hnc ⊢
  clear hr hn hx ht
  go_enter Tryd.func6, Tryd.ntmps6
  go_wp2_with (go_at_call 8; refine (awake07_any w HTB.out).mono ?_; rintro e w1 ⟨rfl, hb1⟩; have HB1 := Lib.hid hb1; clear hb1)
  go_loopg [3, 4, 18] n (fun m s3 s4 s18 wr => ∃ (k q : Nat) (io : Option Addr) (ic : Nat) (fo : Option Addr) (fc : Nat), k + m = n ∧ q ≤ 1000 ∧ (k < 1000 → q = k) ∧ (1000 ≤ k → q = 1000) ∧ s18 = .int .i64 (k : Int) ∧ s3 = .slice io q ic ∧ s4 = .slice fo q fc ∧ Hid (OwnV wr w.heap.size (.slice io q ic) ((l.take q).map (vaN 2))) ∧ Hid (OwnV wr w.heap.size (.slice fo q fc) (((l.take q).map cl62).map (vaN 1))) ∧ Hid (Apart (.slice io q ic) (.slice fo q fc)) ∧ Hid (Below w.heap.size w wr))
  case atStart => exact ⟨0, 0, none, 0, none, 0, by omega, by omega, fun _ => rfl, fun h => by omega, rfl, rfl, rfl, Lib.hid (OwnV.nil _ _), Lib.hid (OwnV.nil _ _), Lib.hid (fun j h _ => by cases h), HB1⟩
  case round =>
    obtain ⟨k, q, io, ic, fo, fc, hk, hq, hq1, hq2, rfl, rfl, rfl, HI, HF, HA, HB⟩ := hrel
    by_cases h0 : gk = 0
    · obtain rfl : k = n := by omega
      have hqn : Hid (q ≤ k) := Lib.hid ((Nat.lt_or_ge k 1000).elim (fun h => Nat.le_of_eq (hq1 h)) (fun h => Nat.le_trans hq h))
      have HTW := Lib.hid (HTB.out.below HB.out)
      have HLT : Hid ((l.take q).length = q) := Lib.hid (by rw [List.length_take, ← HN.out]; have := hqn.out; omega)
      have HBS := HB.out.size
      clear hk hq1 hq2 h0 HA
      by_cases hq0 : q = 0
      · subst hq0
        go_wp2_with fail
        go_ret
        exact ⟨rfl, HB.out⟩
      · have hq0I : ((q : Int) == 0) = false := by simp; omega
        obtain ⟨b, e1, hbl, hbe, hG1, hok1⟩ := good_nums (k := 2) (xs := l.take q) (.inr rfl) (by rw [HLT.out]; omega) (by rw [HLT.out]; exact hq) (fun x hx => ⟨HX.out x (List.mem_of_mem_take hx), fun h => by cases h⟩)
        obtain ⟨c, e2, hcl, hce, hG2, hok2⟩ := good_nums (k := 1) (xs := (l.take q).map cl62) (.inl rfl) (by rw [List.length_map, HLT.out]; omega) (by rw [List.length_map, HLT.out]; exact hq) (fun x hx => by
          obtain ⟨y, hy, rfl⟩ := List.mem_map.1 hx
          exact ⟨cl62_lt _ (HX.out y (List.mem_of_mem_take hy)), fun _ => cl62_fin y⟩)
        rw [HLT.out] at hG1
        rw [List.length_map, HLT.out] at hG2
        obtain ⟨I, hI⟩ : ∃ I, I = (l.take q).map (vaN 2) := ⟨_, rfl⟩
        obtain ⟨F, hF⟩ : ∃ F, F = ((l.take q).map cl62).map (vaN 1) := ⟨_, rfl⟩
        have HIL : Hid (I.length = q) := Lib.hid (by rw [hI, List.length_map, HLT.out])
        have HFL : Hid (F.length = q) := Lib.hid (by rw [hF, List.length_map, List.length_map, HLT.out])
        rw [← hI] at e1 hG1 hok1 HI
        rw [← hF] at e2 hG2 hok2 HF
        have HVI := Lib.hid (show Vals wr (.slice io q ic) I from HI.out.vals)
        have HVF := Lib.hid (show Vals wr (.slice fo q fc) F from HF.out.vals)
        have HG1 := Lib.hid hG1
        have HG2 := Lib.hid hG2
        have HK1 := Lib.hid hok1
        have HK2 := Lib.hid hok2
        have HE1 := Lib.hid e1
        have HE2 := Lib.hid e2
        clear hbe hce hI hF e1 e2 hG1 hG2 hok1 hok2 HI HF hqn
        have hKE := encodeC_any I (.slice io q ic) wr HK1.out HTW.out HVI.out
        go_upto_region 14 with (go_at_call 10; refine hKE.mono ?_; rintro e w3 ⟨hb3, ao3, cap3, rfl, hr3⟩; rw [HE1.out] at hr3 ⊢; have HB3 := Lib.hid (HB.out.trans (hb3.mono HB.out.size)); have HR3 := Lib.hid hr3.rd; have HVI3 := Lib.hid (HVI.out.below hb3); have HVF3 := Lib.hid (HVF.out.below hb3); have HT3 := Lib.hid (HTW.out.below hb3); clear hb3 hr3 hKE)
        try dsimp only
        have hKD : Calls Tryd.prog 12 #[.int .i64 2, .int .i64 (q : Int), .slice ao3 b.length cap3] w3 _ := decodeC_any 2 (q : Int) b (.slice ao3 b.length cap3) w3 (by unfold i64ok; omega) (by unfold i64ok; omega) (by omega) HT3.out HR3.out
        go_upto_region 15 with (go_at_call 12; refine hKD.mono ?_; rintro e w4 ⟨hb4, hu4, ao4, cap4, rfl, hv4⟩; rw [dcP_of HG1.out hu4] at hv4 ⊢; have HB4 := Lib.hid (HB3.out.trans (hb4.mono HB3.out.size)); have HV4 := Lib.hid hv4; have HVI4 := Lib.hid (HVI3.out.below hb4); have HVF4 := Lib.hid (HVF3.out.below hb4); have HT4 := Lib.hid (HT3.out.below hb4); clear hb4 hv4 hu4 hKD)
        try dsimp only
        have hKE2 := encodeC_any F (.slice fo q fc) w4 HK2.out HT4.out HVF4.out
        go_upto_region 16 with (go_at_call 10; refine hKE2.mono ?_; rintro e w5 ⟨hb5, ao5, cap5, rfl, hr5⟩; rw [HE2.out] at hr5 ⊢; have HB5 := Lib.hid (HB4.out.trans (hb5.mono HB4.out.size)); have HR5 := Lib.hid hr5.rd; have HV5 := Lib.hid (HV4.out.below hb5); have HVI5 := Lib.hid (HVI4.out.below hb5); have HVF5 := Lib.hid (HVF4.out.below hb5); have HT5 := Lib.hid (HT4.out.below hb5); clear hb5 hr5 hKE2)
        try dsimp only
        have hKD2 : Calls Tryd.prog 12 #[.int .i64 1, .int .i64 (q : Int), .slice ao5 c.length cap5] w5 _ := decodeC_any 1 (q : Int) c (.slice ao5 c.length cap5) w5 (by unfold i64ok; omega) (by unfold i64ok; omega) (by omega) HT5.out HR5.out
        go_upto_region 17 with (go_at_call 12; refine hKD2.mono ?_; rintro e w6 ⟨hb6, hu6, ao6, cap6, rfl, hv6⟩; rw [dcP_of HG2.out hu6] at hv6 ⊢; have HB6 := Lib.hid (HB5.out.trans (hb6.mono HB5.out.size)); have HV6 := Lib.hid hv6; have HVa6 := Lib.hid (HV5.out.below hb6); have HVI6 := Lib.hid (HVI5.out.below hb6); have HVF6 := Lib.hid (HVF5.out.below hb6); clear hb6 hv6 hu6 hKD2)
        try dsimp only
        have hS1 := sameV_any I (.slice ao4 I.length cap4) (.slice io q ic) w6 HVa6.out HVI6.out
        have hS2 := fun w' (h : Below w6.heap.size w6 w') => sameV_any F (.slice ao6 F.length cap6) (.slice fo q fc) w' (HV6.out.below h) (HVF6.out.below h)
        go_wp2_with (first
          | (with_reducible refine hS1.mono ?_; rintro _ w7 ⟨rfl, q7, hw7⟩; have HW7 := Lib.hid hw7; have hS3 := hS2 w7 (by rw [hw7]; exact below_drewN _); clear hw7 hS1 hS2)
          | (with_reducible refine hS3.mono ?_; rintro _ w8 ⟨rfl, q8, hw8⟩; have HW8 := Lib.hid hw8; clear hw8 hS3))
        go_ret
        have hw7 := HW7.out
        have hw8 := HW8.out
        subst hw7
        subst hw8
        exact ⟨rfl, HB6.out.trans (((below_drewN _).trans ((below_drewN _).mono (Nat.le_refl _))).mono HB6.out.size)⟩
    · have hkn : k < n := by omega
      by_cases h1000 : k < 1000
      · obtain rfl : q = k := hq1 h1000
        obtain ⟨b3, off3, c3, he3, hb3, hc3⟩ := num_at (RdV.below HR.out HB.out) q (by rw [← HN.out]; exact hkn)
        rw [← HN.out] at he3
        simp only [Value.slice.injEq, true_and] at he3
        obtain ⟨rfl, rfl⟩ := he3
        have hlt := HX.out _ (getD_mem l q 0 (by rw [← HN.out]; exact hkn))
        have hcl := cl62_num (l.getD q 0) hlt
        have hnx : Hid (l.take (q + 1) = l.take q ++ [l.getD q 0]) := Lib.hid (by rw [List.take_succ_eq_append_getElem (by rw [← HN.out]; exact hkn), getD_get l q 0 (by rw [← HN.out]; exact hkn)])
        have HL : Hid ((l.take q).length = q) := Lib.hid (by rw [List.length_take, ← HN.out]; omega)
        obtain ⟨I, hI⟩ : ∃ I, I = (l.take q).map (vaN 2) := ⟨_, rfl⟩
        obtain ⟨F, hF⟩ : ∃ F, F = ((l.take q).map cl62).map (vaN 1) := ⟨_, rfl⟩
        have HL1 : Hid (I.length = q) := Lib.hid (by rw [hI, List.length_map, HL.out])
        have HL2 : Hid (F.length = q) := Lib.hid (by rw [hF, List.length_map, List.length_map, HL.out])
        have HI2 : Hid ((l.take (q + 1)).map (vaN 2) = I ++ [vaN 2 (l.getD q 0)]) := Lib.hid (by rw [hnx.out, List.map_append, hI]; rfl)
        have HF2 : Hid (((l.take (q + 1)).map cl62).map (vaN 1) = F ++ [vaN 1 (cl62 (l.getD q 0))]) := Lib.hid (by rw [hnx.out, List.map_append, List.map_append, hF]; rfl)
        rw [← hI] at HI
        rw [← hF] at HF
        have HB3 : Hid (b3 < w.heap.size) := Lib.hid (by
          obtain ⟨b4, off4, c4, he4, hb4, _⟩ := num_at HR.out q (by rw [← HN.out]; exact hkn)
          simp only [Value.slice.injEq, Option.some.injEq, Addr.mk.injEq, and_true] at he4
          obtain ⟨⟨rfl, _⟩, _⟩ := he4
          exact hb4)
        have hBS := HB.out.size
        clear hI hF hnx hq1 hq2
        generalize cl62 (l.getD q 0) = y2 at *
        generalize l.getD q 0 = y1 at *
        go_upto_region 9 with (at_builtin; refine wpList_append_val2 _ rfl (.tmp 23) (.tmp 29) rfl w.heap.size (.slice io q ic) I (vaN 2 y1) rfl HI.out rfl (by rw [HL1.out]; omega) hBS ?_; intro ao8 cap8 w8 ho8 hc8 hr8; rw [HL1.out] at ho8 hr8 ⊢; have HO8 := Lib.hid ho8; have HC8 := Lib.hid hc8; have HR8 := Lib.hid hr8; clear ho8 hc8 hr8)
        have HF8 := Lib.hid (show OwnV w8 w.heap.size (.slice fo q fc) F from HC8.out.owns HF.out (fun j hj e => HA.out j e hj))
        have HB8 := Lib.hid (HB.out.trans (HC8.out.below hBS (fun j hj => (World.ownsRow.lt HI.out j hj).1)))
        have hc8 := (HC8.out.cell (p := ⟨b3, off3 + q, none⟩) hb3 (fun h => absurd (World.ownsRow.lt HI.out _ h).1 (Nat.not_le.2 HB3.out))).trans hc3
        have HA8 := Lib.hid (show Apart (.slice ao8 (q + 1) cap8) (.slice fo q fc) from fun j h1 h2 => by
          rcases HR8.out j h1 with h | h
          · exact HA.out j h h2
          · have := (World.ownsRow.lt HF.out j h2).2; omega)
        have hBS8 := HB8.out.size
        clear hc3 HI HF HA HB
        go_wp2_with (at_builtin; refine wpList_append_val2 _ rfl (.tmp 31) (.tmp 38) rfl w.heap.size (.slice fo q fc) F (vaN 1 y2) rfl HF8.out rfl (by rw [HL2.out]; omega) hBS8 ?_; intro ao9 cap9 w9 ho9 hc9 hr9; rw [HL2.out] at ho9 hr9 ⊢; have HO9 := Lib.hid ho9; have HC9 := Lib.hid hc9; have HR9 := Lib.hid hr9; clear ho9 hc9 hr9)
        go_roundg (gk - 1)
        case measure => go_light; omega
        case rel =>
          go_light
          refine ⟨q + 1, q + 1, ao8, cap8, ao9, cap9, by omega, by omega, fun _ => rfl, fun h => by omega, by congr 1, rfl, rfl, Lib.hid ?_, Lib.hid ?_, Lib.hid (fun j h1 h2 => ?_), Lib.hid (HB8.out.trans (HC9.out.below hBS8 (fun j hj => (World.ownsRow.lt HF8.out j hj).1)))⟩
          · rw [HI2.out]
            exact HC9.out.owns HO8.out (fun j hj e => HA8.out j hj e)
          · rw [HF2.out]
            exact HO9.out
          · rcases HR9.out j h2 with h | h
            · exact HA8.out j h1 h
            · have := (World.ownsRow.lt HO8.out j h1).2; omega
      · have hge : ¬ (k : Int) < 1000 := by omega
        obtain rfl : q = 1000 := hq2 (by omega)
        clear hq1 hq2
        go_wp2_with fail
        go_roundg (gk - 1)
        case measure => go_light; omega
        case rel =>
          go_light
          exact ⟨k + 1, 1000, io, ic, fo, fc, by omega, by omega, fun h => by omega, fun _ => rfl, by congr 1, rfl, rfl, HI, HF, HA, HB⟩

theorem columnBits_walk {H : Type} (enc : TypeId × Value → H) (W : World) (base : Nat) (v0 : Value) (d0 : DataW H) (p0 : List MemPlace)
    (o0 : Value.okWide Tryd.prog W .any base 38 v0)
    (t0 : DataW.Trod enc Tryd.prog W 0 (fun _ => true) true 38 v0 d0 p0)
    (hsz : (DataW.weightsEach Tryd.prog [38] [d0]).all (· ≤ reachBytes) = true) (ht : Tab W) :
    Calls Tryd.prog 6 #[v0] W fun e W' => e = .returned (.bool true) ∧ Below W.heap.size W W' := by
  obtain ⟨l, hr0, hx, _, _⟩ := open_nums o0 t0
  exact columnBits_run l v0 W hx ht hr0
end Go.Proofs.YtoenpmnjimcnlaaDoor

/- XAlike07: ColumnAlike's walk. -/
namespace Go.Proofs.YtoenpmnjimcnlaaDoor
open Go.RowKit Go.ChangeShapes Go.WideShapes Go.ChangeAt
set_option linter.unusedVariables false

theorem rep_get (C y i : Nat) (h : i < C) : (List.replicate C y).getD i 0 = y := by
  rw [getD_get _ i 0 (by simpa using h)]
  simp
theorem fbT_rep (C y : Nat) : ∀ i, i + 1 ≤ C → fbT (List.replicate C y) i = List.replicate i false
  | 0, _ => rfl
  | i + 1, h => by
    have ih := fbT_rep C y i (by omega)
    have hx : xAt (List.replicate C y) i = 0 := by
      unfold xAt
      rw [rep_get C y (i + 1) (by omega), rep_get C y i (by omega), Nat.xor_self]
    rw [fbT_next, ih, hx, fstep_zero, List.replicate_succ']
theorem encF_rep (C y : Nat) (h : 1 ≤ C) : (encF (List.replicate C y)).length = 8 + (C - 1 + 7) / 8 := by
  rw [encF_ref, List.length_append, be8_len, length_pack8, List.length_replicate, fbT_rep C y (C - 1) (by omega), List.length_replicate]

set_option maxHeartbeats 2000000 in
set_option maxRecDepth 100000 in
theorem columnAlike_run (x n : Nat) (w : World) (hx : x < 18446744073709551616) (hn : n < 65536) (ht : Tab w) :
    Calls Tryd.prog 7 #[.int .u64 (x : Int), .int .u16 (n : Int)] w fun e w' => e = .returned (.bool true) ∧ Below w.heap.size w w' := by
  obtain ⟨C, hC⟩ : ∃ C, C = 1 + n % 1000 := ⟨_, rfl⟩
  have hC1 : 1 ≤ C := by omega
  have hC2 : C ≤ 1000 := by omega
  have hCI : (1 : Int) + (n : Int) % 1000 = (C : Int) := by omega
  have hcl := cl62_num x hx
  have hyl := cl62_lt x hx
  have hyf := cl62_fin x
  have HTB := Lib.hid ht
  obtain ⟨y, hy⟩ : ∃ y, y = cl62 x := ⟨_, rfl⟩
  rw [← hy] at hcl hyl hyf
  obtain ⟨b, e1, hbl, hbe, hG1, hok1⟩ := good_nums (k := 1) (xs := List.replicate C y) (.inl rfl) (by simpa using hC1) (by simpa using hC2) (fun z hz => by
    rw [List.mem_replicate] at hz
    obtain ⟨_, rfl⟩ := hz
    exact ⟨hyl, fun _ => hyf⟩)
  rw [if_pos rfl] at hbe
  have hblen : b.length = 8 + (C - 1 + 7) / 8 := by rw [hbe, encF_rep C y hC1]
  have hbI : (b.length : Int) = 8 + ((C : Int) - 1 + 7) / 8 := by omega
  rw [List.length_replicate] at hG1
  obtain ⟨F, hF⟩ : ∃ F, F = (List.replicate C y).map (vaN 1) := ⟨_, rfl⟩
  have hFr : F = List.replicate C (vaN 1 y) := by rw [hF, List.map_replicate]
  rw [← hF] at e1 hG1 hok1
  have HFL : Hid (F.length = C) := Lib.hid (by rw [hFr, List.length_replicate])
  have HG1 := Lib.hid hG1
  have HK1 := Lib.hid hok1
  have HE1 := Lib.hid e1
  have HFR := Lib.hid hFr
  have HBI := Lib.hid hbI
  clear ht hC hy hbe hblen e1 hG1 hok1 hF hFr hbI
  go_enter Tryd.func7, Tryd.ntmps7
  go_wp2_with (go_at_call 8; refine (awake07_any w HTB.out).mono ?_; rintro e w1 ⟨rfl, hb1⟩; have HB1 := Lib.hid hb1; clear hb1)
  have hb0 : Below w1.heap.size w1 (w1.alloc (Obj.cells #[Value.int IntKind.i64 1, Value.int IntKind.u64 (y : Int), Value.string ⟨#[]⟩] 35)) := (Below.refl _ _).alloc (Nat.le_refl _) _
  have HB2 := Lib.hid (HB1.out.trans (hb0.mono HB1.out.size))
  have hw0 : (w1.alloc (Obj.cells #[Value.int IntKind.i64 1, Value.int IntKind.u64 (y : Int), Value.string ⟨#[]⟩] 35)).cell? ⟨w1.heap.size, 0, none⟩ = some (.int .i64 1) := by simp [World.cell?_alloc_new]
  have hw1 : (w1.alloc (Obj.cells #[Value.int IntKind.i64 1, Value.int IntKind.u64 (y : Int), Value.string ⟨#[]⟩] 35)).cell? ⟨w1.heap.size, 1, none⟩ = some (.int .u64 (y : Int)) := by simp [World.cell?_alloc_new]
  have hw2 : (w1.alloc (Obj.cells #[Value.int IntKind.i64 1, Value.int IntKind.u64 (y : Int), Value.string ⟨#[]⟩] 35)).cell? ⟨w1.heap.size, 2, none⟩ = some (.string ⟨#[]⟩) := by simp [World.cell?_alloc_new]
  have hs2 : w1.heap.size < (w1.alloc (Obj.cells #[Value.int IntKind.i64 1, Value.int IntKind.u64 (y : Int), Value.string ⟨#[]⟩] 35)).heap.size := by simp
  generalize w1.alloc (Obj.cells #[Value.int IntKind.i64 1, Value.int IntKind.u64 (y : Int), Value.string ⟨#[]⟩] 35) = w2 at *
  obtain ⟨H, hH⟩ : ∃ H, H = w2.heap.size := ⟨_, rfl⟩
  have HH := Lib.hid hH
  have hHw : w.heap.size ≤ H := by rw [hH]; exact HB2.out.size
  have HW0 := Lib.hid hw0
  have HW1 := Lib.hid hw1
  have HW2 := Lib.hid hw2
  have HS2 := Lib.hid hs2
  clear hH hb0 hw0 hw1 hw2 hs2 hcl
  go_loopg [7, 22] C (fun m s7 s22 wr => ∃ (k : Nat) (ao : Option Addr) (cap : Nat), k + m = C ∧ s22 = .int .i64 (k : Int) ∧ s7 = .slice ao k cap ∧ Hid (OwnV wr H (.slice ao k cap) (List.replicate k (vaN 1 y))) ∧ Hid (Chg (fun k => H ≤ k) w2 wr))
  case atStart => exact ⟨0, none, 0, by omega, rfl, rfl, Lib.hid (OwnV.nil _ _), Lib.hid (Chg.refl _ _)⟩
  case round =>
    obtain ⟨k, ao, cap, hk, rfl, rfl, HO, HC2⟩ := hrel
    have HB := Lib.hid (HB2.out.trans (HC2.out.below HB2.out.size (fun k h => Nat.le_trans hHw h)))
    by_cases h0 : gk = 0
    · obtain rfl : k = C := by omega
      have HVF := Lib.hid (show Vals wr (.slice ao k cap) F from by have := HO.out.vals; rw [← HFR.out] at this; exact this)
      have HTW := Lib.hid (HTB.out.below HB.out)
      have hKE := encodeC_any F (.slice ao k cap) wr HK1.out HTW.out (by exact HVF.out)
      clear hk h0
      go_upto_region 11 with (go_at_call 10; refine hKE.mono ?_; rintro e w3 ⟨hb3, ao3, cap3, rfl, hr3⟩; rw [HE1.out] at hr3 ⊢; have HB3 := Lib.hid (HB.out.trans (hb3.mono HB.out.size)); have HR3 := Lib.hid hr3.rd; have HVF3 := Lib.hid (HVF.out.below hb3); have HT3 := Lib.hid (HTW.out.below hb3); clear hb3 hr3 hKE)
      try dsimp only
      have hKD : Calls Tryd.prog 12 #[.int .i64 1, .int .i64 (k : Int), .slice ao3 b.length cap3] w3 _ := decodeC_any 1 (k : Int) b (.slice ao3 b.length cap3) w3 (by unfold i64ok; omega) (by unfold i64ok; omega) (by omega) HT3.out HR3.out
      go_upto_region 12 with (go_at_call 12; refine hKD.mono ?_; rintro e w4 ⟨hb4, hu4, ao4, cap4, rfl, hv4⟩; rw [dcP_of HG1.out hu4] at hv4 ⊢; have HB4 := Lib.hid (HB3.out.trans (hb4.mono HB3.out.size)); have HV4 := Lib.hid hv4; have HVF4 := Lib.hid (HVF3.out.below hb4); clear hb4 hv4 hu4 hKD)
      try dsimp only
      have hS1 := sameV_any F (.slice ao4 F.length cap4) (.slice ao k cap) w4 HV4.out HVF4.out
      have hbl2 := HBI.out
      go_wp2_with (with_reducible refine hS1.mono ?_; rintro _ w7 ⟨rfl, q7, hw7⟩; have HW7 := Lib.hid hw7; clear hw7 hS1)
      go_ret
      have hw7 := HW7.out
      subst hw7
      exact ⟨rfl, HB4.out.trans ((below_drewN _).mono HB4.out.size)⟩
    · have hkC : k < C := by omega
      have hd0 := (HC2.out.cell (p := ⟨w1.heap.size, 0, none⟩) HS2.out (fun h => by have h9 : H ≤ w1.heap.size := h; rw [HH.out] at h9; exact absurd HS2.out (Nat.not_lt.2 h9))).trans HW0.out
      have hd1 := (HC2.out.cell (p := ⟨w1.heap.size, 1, none⟩) HS2.out (fun h => by have h9 : H ≤ w1.heap.size := h; rw [HH.out] at h9; exact absurd HS2.out (Nat.not_lt.2 h9))).trans HW1.out
      have hd2 := (HC2.out.cell (p := ⟨w1.heap.size, 2, none⟩) HS2.out (fun h => by have h9 : H ≤ w1.heap.size := h; rw [HH.out] at h9; exact absurd HS2.out (Nat.not_lt.2 h9))).trans HW2.out
      have HLEN : Hid ((List.replicate k (vaN 1 y)).length = k) := Lib.hid (List.length_replicate)
      have HSN : Hid (List.replicate k (vaN 1 y) ++ [vaN 1 y] = List.replicate (k + 1) (vaN 1 y)) := Lib.hid (List.replicate_succ').symm
      have hHs : Hid (H ≤ wr.heap.size) := Lib.hid (by rw [HH.out]; exact HC2.out.size)
      go_wp2_with (at_builtin; refine wpList_append_val _ rfl (.tmp 24) (.tmp 26) rfl H (.slice ao k cap) (List.replicate k (vaN 1 y)) (vaN 1 y) rfl HO.out rfl (by rw [HLEN.out]; omega) hHs.out ?_; intro ao8 cap8 w8 ho8 hc8; rw [HLEN.out] at ho8 ⊢; rw [HSN.out] at ho8; have HO8 := Lib.hid ho8; have HC8 := Lib.hid (HC2.out.trans hc8); clear ho8 hc8)
      go_roundg (gk - 1)
      case measure => go_light; omega
      case rel =>
        go_light
        exact ⟨k + 1, ao8, cap8, by omega, by congr 1, rfl, HO8, HC8⟩

theorem columnAlike_walk {H : Type} (enc : TypeId × Value → H) (W : World) (base : Nat) (v0 v1 : Value) (d0 d1 : DataW H) (p0 p1 : List MemPlace)
    (o0 : Value.okWide Tryd.prog W .any base 33 v0) (o1 : Value.okWide Tryd.prog W .any base 40 v1)
    (t0 : DataW.Trod enc Tryd.prog W 0 (fun _ => true) true 33 v0 d0 p0) (t1 : DataW.Trod enc Tryd.prog W 0 (fun _ => true) true 40 v1 d1 p1)
    (hsz : (DataW.weightsEach Tryd.prog [33, 40] [d0, d1]).all (· ≤ reachBytes) = true) (ht : Tab W) :
    Calls Tryd.prog 7 #[v0, v1] W fun e W' => e = .returned (.bool true) ∧ Below W.heap.size W W' := by
  obtain ⟨x, rfl, rfl, rfl, hx⟩ := open_int Tryd.underlying33 o0 t0
  obtain ⟨n, rfl, rfl, rfl, hn⟩ := open_int Tryd.underlying40 o1 t1
  have h1 := wf_u64' hx
  have h2 := wf_u16' hn
  obtain ⟨x, rfl⟩ := Int.eq_ofNat_of_zero_le h1.1
  obtain ⟨n, rfl⟩ := Int.eq_ofNat_of_zero_le h2.1
  exact columnAlike_run x n W (by omega) (by omega) ht
end Go.Proofs.YtoenpmnjimcnlaaDoor

/- XLawColumnAlike: The statement 'ColumnAlikeCardSaid', out of its walk 'columnAlike_walk': the frame of a tied card: the table of math/bits reads as it is laid. Conditions: none beyond the form's own reach. -/
namespace Go.Proofs.YtoenpmnjimcnlaaDoor.lawColumnAlike
open Go.ChangeShapes Go.WideShapes Go.ChangeAt Go.RowKit
set_option linter.unusedVariables false
theorem own : ownKnob Tryd.prog.godebug = none := by kernel_rfl
theorem laidOut : laidOutB Tryd.prog = true := by kernel_rfl
theorem laid_met (os : Os) : laidMet Tryd.prog Rows.columnAlikeRow.laid ((laidWorld os).forCall (fun _ _ => 0) ⟨#[], #[.int .u64 0, .int .u16 0], []⟩).memory :=
  laidMet_of_run' 8 (by kernel_rfl) (by kernel_rfl)
theorem reads (os : Os) {H : Type} (enc : TypeId × Value → H) : ∃ places, DataW.whole enc Tryd.prog ((laidWorld os).forCall (fun _ _ => 0) ⟨#[], #[.int .u64 0, .int .u16 0], []⟩).memory Tryd.f7.params.toList Rows.columnAlikeSpec.vars false (#[.int .u64 0, .int .u16 0] : Array Value).toList 8 = some ([.lit (.int .u64 0), .lit (.int .u16 0)], [], places) :=
  ⟨[], by kernel_rfl⟩
set_option maxRecDepth 100000 in
theorem lifted (os : Os) (started : os.Started) (H : Type) (enc : TypeId × Value → H) (F : Stop.Interp) :
    ReturnsInHanded {} Tryd.checked os 7 .any ((OpenSpec.ofChange Rows.columnAlikeSpec).preRow enc Tryd.prog Tryd.f7 Rows.columnAlikeRow.domain false Rows.columnAlikeRow.laid) (((OpenSpec.ofChange Rows.columnAlikeSpec).at F).post enc Tryd.prog Tryd.f7 false true false false) := by
  obtain ⟨places, hx⟩ := reads os enc
  refine returnsInHanded_of_row (C := Tryd.checked) (s := OpenSpec.ofChange Rows.columnAlikeSpec) own started (by kernel_rfl) Tryd.func7
    (witness_row_at (enc := enc) (C := Tryd.checked) false (laidWorld os) #[.int .u64 0, .int .u16 0] rfl (by kernel_rfl) (by kernel_rfl) (by kernel_rfl)
      (OpenSpec.preRow_of_cond 8 hx (by kernel_rfl) (fun k hk => by cases hk) (by kernel_rfl) (laid_met os))) ?_
  intro W base args ds gs before hval0 hW _ hcnd hsz0 hL _ _
  have hval : ∀ (j : Nat) t v, Tryd.f7.params[j]? = some t → args[j]? = some v → Value.okWide Tryd.prog W .any base t v := hval0
  have hsz : (DataW.weightsEach Tryd.prog (Tryd.f7.params.toList ++ (OpenSpec.ofChange Rows.columnAlikeSpec).bare.plain.varTypes Tryd.prog) (ds ++ gs)).all (· ≤ reachBytes) = true := hsz0
  have hW' := hW
  obtain ⟨p, q, hA0, hV, rfl, hfz, hnd⟩ := hW
  have hA : DataW.TrodAll enc Tryd.prog W 0 (fun _ => true) true Tryd.f7.params.toList args.toList ds p := hA0
  rw [Tryd.params7] at hA hval hsz
  obtain ⟨v0, vs0, d0, ds0, p0, q0, hargs, rfl, rfl, t0, r0⟩ := trodAll_cons hA
  obtain ⟨v1, vs1, d1, ds1, p1, q1, rfl, rfl, rfl, t1, r1⟩ := trodAll_cons r0
  obtain ⟨rfl, rfl, rfl⟩ := trodAll_nil r1
  obtain rfl : args = #[v0, v1] := by cases args; simp_all
  obtain ⟨rfl, rfl⟩ := trodVars_none hV
  have lt0 : ∀ x ∈ p0, x.block < W.heap.size := by obtain ⟨m, hm⟩ := t0; exact DataW.trod_lt m _ _ _ hm
  have lt1 : ∀ x ∈ p1, x.block < W.heap.size := by obtain ⟨m, hm⟩ := t1; exact DataW.trod_lt m _ _ _ hm
  have hsz2 : (DataW.weightsEach Tryd.prog [33, 40] [d0, d1]).all (· ≤ reachBytes) = true := hsz
  refine (columnAlike_walk enc W base v0 v1 d0 d1 p0 p1 (hval 0 33 v0 rfl rfl) (hval 1 40 v1 rfl rfl) t0 t1 hsz2 (tab_of hL)).mono fun e W' ⟨he, bel⟩ => ?_
  subst he
  exact ⟨_, rfl, _, _, _, [], _, [], hW', trodAll_mk1 (shut_bool Tryd.underlying4 _), (trodAll_cons_mk (Below.trod laidOut (by kernel_rfl) (of_decide_eq_true (by kernel_rfl)) t0 bel lt0) (trodAll_cons_mk (Below.trod laidOut (by kernel_rfl) (of_decide_eq_true (by kernel_rfl)) t1 bel lt1) trodAll_mk0)), rfl, bel.frame _, fun h => by cases h⟩
theorem said : Rows.ColumnAlikeSaid :=
  OpenClaim.holds_of_cond 7 Tryd.f7 rfl rfl rfl rfl rfl rfl rfl ⟨rfl, rfl, rfl, rfl, rfl⟩ rfl rfl rfl rfl rfl (by kernel_rfl) Tryd.func7 (by kernel_rfl)
    (of_decide_eq_true (by kernel_rfl)) (by unfold Func.isWrapper; first | (rw [if_pos (by decide +kernel)]; kernel_rfl) | (rw [if_neg (by decide +kernel)]; exact ⟨rfl, rfl⟩))
    (fun os started H enc _ F => by rw [OpenClaim.pre_eq_preRow]; exact lifted os started H enc F)
theorem plain (f : FuncId) (fn : Func) (hf : Tryd.pinned.checked.prog.funcNamed "grist/gristlaw07.ColumnAlike" = some f) (hfn : Tryd.pinned.checked.prog.funcs[f]? = some fn) :
    false = Tryd.pinned.checked.prog.looks [] ∧ ∀ (j : Nat) t, fn.params[j]? = some t → Tryd.pinned.checked.prog.wantsStandIn t = false := by
  obtain rfl : f = 7 := Option.some.inj ((show Tryd.prog.funcNamed "grist/gristlaw07.ColumnAlike" = some 7 by kernel_rfl).symm.trans hf) |>.symm
  obtain rfl : fn = Tryd.f7 := (Option.some.inj (Tryd.func7.symm.trans hfn)).symm
  refine ⟨by kernel_rfl, fun j t ht => ?_⟩
  rw [Tryd.params7] at ht
  have hm : t ∈ [33, 40] := by simpa using Array.mem_of_getElem? ht
  have hall : ([33, 40].all fun u => !Tryd.prog.wantsStandIn u) = true := by kernel_rfl
  exact (show Tryd.prog.wantsStandIn t = false by simpa using List.all_eq_true.1 hall t hm)
theorem proved : Rows.ColumnAlikeCardSaid :=
  Claim7.holds_tied_plain_at .later [] _ _ _ _ said (fun _ h => by cases h) (by kernel_rfl) (fun _ h => by cases h) columnAlike_row_tie rfl ⟨rfl, rfl⟩ (by kernel_rfl) rfl plain (by kernel_rfl)
#print axioms proved
end Go.Proofs.YtoenpmnjimcnlaaDoor.lawColumnAlike
