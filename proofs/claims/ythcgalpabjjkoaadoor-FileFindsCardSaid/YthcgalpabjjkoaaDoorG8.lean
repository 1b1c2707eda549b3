/- Texts of ours, behind one another: Dec07, ColShort. No conditions but those that each states. -/
import Derived.Test.YthcgalpabjjkoaaDoorG5
import Derived.Test.YthcgalpabjjkoaaDoorG7
/- XDec07: column.Decode. -/
namespace Go.Proofs.YthcgalpabjjkoaaDoor
open Go.RowKit
set_option linter.unusedVariables false

/-- These values, all of this kind, n of them, have these bytes. -/
def CdG (k n : Int) (b : List UInt8) (l : List Va) : Prop := encC l = (b, 0) ∧ (l.length : Int) = n ∧ (∀ v ∈ l, v.k = k) ∧ (∀ v ∈ l, v.ok)
theorem CdG.nat {k : Int} {n : Nat} {b : List UInt8} {l : List Va} (h : CdG k (n : Int) b l) : CdGood k n b l := ⟨h.1, by have := h.2.1; omega, h.2.2⟩
theorem CdG.of {k : Int} {n : Nat} {b : List UInt8} {l : List Va} (h : CdGood k n b l) : CdG k (n : Int) b l := ⟨h.1, by rw [h.2.1], h.2.2⟩
theorem CdG.range {k n : Int} {b : List UInt8} {l : List Va} (h : CdG k n b l) : 1 ≤ n ∧ n ≤ 1000 := by
  have := (encC_fits h.1).1
  have := h.2.1
  omega
open Classical in
/-- What a Decode gives, and its error's number. -/
noncomputable def dcP (k n : Int) (b : List UInt8) : List Va × Int := if h : ∃ l, CdG k n b l then (h.choose, 0) else ([], 2)
theorem dcP_good {k n : Int} {b : List UInt8} {l : List Va} (h : CdG k n b l) (hu : ∀ l', CdG k n b l' → l' = l) : dcP k n b = (l, 0) := by
  have hx : ∃ l, CdG k n b l := ⟨l, h⟩
  unfold dcP
  rw [dif_pos hx, hu _ hx.choose_spec]
theorem dcP_bad {k n : Int} {b : List UInt8} (h : ∀ l, ¬ CdG k n b l) : dcP k n b = ([], 2) := by
  unfold dcP
  rw [dif_neg (fun ⟨l, hl⟩ => h l hl)]
def DcU (k n : Int) (b : List UInt8) : Prop := ∀ l l', CdG k n b l → CdG k n b l' → l' = l
theorem dcP_of {k n : Int} {b : List UInt8} {l : List Va} (h : CdG k n b l) (hu : DcU k n b) : dcP k n b = (l, 0) := dcP_good h (fun l' h' => hu l l' h h')
def DcEnd (k n : Int) (b : List UInt8) (w : World) (e : Ending) (w' : World) : Prop :=
  Below w.heap.size w w' ∧ DcU k n b ∧ ∃ ao cap, e = .returned (.tuple #[.slice ao (dcP k n b).1.length cap, .int .i64 (dcP k n b).2]) ∧ Vals w' (.slice ao (dcP k n b).1.length cap) (dcP k n b).1
theorem DcEnd.bad {k n : Int} {b : List UInt8} {w w' : World} (hb : Below w.heap.size w w') (h : ∀ l, ¬ CdG k n b l) : DcEnd k n b w (.returned (.tuple #[.slice none 0 0, .int .i64 2])) w' := by
  refine ⟨hb, fun l l' h1 _ => absurd h1 (h l), none, 0, ?_, ?_⟩
  · rw [dcP_bad h]; rfl
  · rw [dcP_bad h]; exact RdV.nil _ _
theorem DcEnd.good {k n : Int} {b : List UInt8} {w w' : World} {l : List Va} {ao : Option Addr} {cap : Nat} (hb : Below w.heap.size w w') (h : CdG k n b l) (hu : ∀ l', CdG k n b l' → l' = l) (hv : Vals w' (.slice ao l.length cap) l) : DcEnd k n b w (.returned (.tuple #[.slice ao l.length cap, .int .i64 0])) w' := by
  refine ⟨hb, fun l1 l2 h1 h2 => by rw [hu l1 h1, hu l2 h2], ao, cap, ?_, ?_⟩
  · rw [dcP_good h hu]
  · rw [dcP_good h hu]; exact hv
theorem rdEnd_boo {n : Nat} {b : List UInt8} : RdEnd 3 n b ((gNs b 1 n).map (vaN 3)) := by
  refine ⟨fun v hv => ?_, fun l' hl' => ?_⟩
  · obtain ⟨x, hx2, rfl⟩ := List.mem_map.1 hv
    exact ⟨rfl, by unfold Va.ok i64ok vaN; dsimp only; exact ⟨by omega, gNs_lt b 1 n (by decide) x hx2⟩⟩
  · obtain ⟨h1, h2⟩ := good_num (.inr (.inr rfl)) hl'
    rw [if_neg (by decide), if_neg (by decide)] at h2
    have h3 : ∀ y ∈ bitsV l', y < 2 := by
      intro y hy
      obtain ⟨v, hv, rfl⟩ := List.mem_map.1 hy
      have hf := (good_head hl').2.2.2.1 v hv
      rw [formV_3 (hl'.2.2.1 v hv), Bool.and_eq_true, decide_eq_true_eq, decide_eq_true_eq] at hf
      exact hf.2
    have := (boo_ys h2 h3).2.1
    rw [← h1]
    unfold gNs
    rw [← this]

set_option maxHeartbeats 2000000 in
set_option maxRecDepth 100000 in
theorem decodeC_any (k n : Int) (b : List UInt8) (v : Value) (w : World) (hk : i64ok k) (hn : i64ok n) (hl : b.length ≤ 140737488355328) (ht : Tab w) (hr : Rd w v b) :
    Calls Tryd.prog 72 #[.int .i64 k, .int .i64 n, v] w fun e w' => DcEnd k n b w e w' := by
  obtain ⟨ao0, cap0, rfl, hnc, hcm⟩ := RdV.shape hr
  unfold maxLen at hcm
  by_cases hrange : n < 1 ∨ 1000 < n
  · have HD := Lib.hid (fun l (h : CdG k n b l) => show False by have := h.range; omega)
    go_enter Tryd.func72, Tryd.ntmps72
    rcases hrange with h | h
    · go_wp2_with fail
      go_ret2
      exact DcEnd.bad (Below.refl _ _) HD.out
    · have h2 : ¬ n < 1 := by omega
      go_wp2_with fail
      go_ret2
      exact DcEnd.bad (Below.refl _ _) HD.out
  · obtain ⟨N, rfl⟩ := Int.eq_ofNat_of_zero_le (show 0 ≤ n by omega)
    have h1 : 1 ≤ N := by omega
    have h2 : N ≤ 1000 := by omega
    have HR := Lib.hid hr
    have HT := Lib.hid ht
    have hz1 : ¬ (N : Int) < 1 := by omega
    have hz2 : ¬ (1000 : Int) < (N : Int) := by omega
    clear hr ht hrange
    go_enter Tryd.func72, Tryd.ntmps72
    go_upto_block 0 with fail
    go_cut [8] (fun s8 wx => ∃ (l : List Va) (ao : Option Addr) (cap : Nat), s8 = .slice ao l.length cap ∧ Hid (Vals wx (.slice ao l.length cap) l) ∧ Hid (RdEnd k N b l) ∧ Hid (Below w.heap.size w wx))
    case first =>
      by_cases k1 : k = 1
      · subst k1
        have hK := unfloats_any N b (.slice ao0 b.length cap0) w h1 h2 hl HR.out
        go_wp2_with (go_at_call 89; refine hK.mono ?_; rintro _ w2 ⟨hb2, l, ao2, cap2, rfl, hv2, hd2⟩; have HB2 := Lib.hid hb2; have HV2 := Lib.hid hv2; have HD2 := Lib.hid hd2; clear hb2 hv2 hd2 hK)
        go_meet
        go_light
        exact ⟨l, ao2, cap2, rfl, HV2, HD2, HB2⟩
      · by_cases k2 : k = 2
        · subst k2
          have hK := unintegers_any N b (.slice ao0 b.length cap0) w h1 h2 hl HR.out
          go_wp2_with (go_at_call 90; refine hK.mono ?_; rintro _ w2 ⟨hb2, l, ao2, cap2, rfl, hv2, hd2⟩; have HB2 := Lib.hid hb2; have HV2 := Lib.hid hv2; have HD2 := Lib.hid hd2; clear hb2 hv2 hd2 hK)
          go_meet
          go_light
          exact ⟨l, ao2, cap2, rfl, HV2, HD2, HB2⟩
        · by_cases k3 : k = 3
          · subst k3
            have hnr := newReader_any (.slice ao0 b.length cap0) b w hl HR.out
            go_upto_region 11 with (go_at_call 42; refine hnr.mono ?_; rintro _ w1 ⟨blk, rfl, hr1, hb1⟩; have HS := Lib.hid (RS.start hr1 hb1); clear hr1 hb1 hnr)
            generalize w1.heap.size = H at *
            go_wp2_with fail
            go_loopg [8, 34] N (fun m s8 s34 wr => ∃ (k : Nat) (ao : Option Addr) (cap : Nat), k + m = N ∧ s34 = .int .i64 (k : Int) ∧ s8 = .slice ao k cap ∧ Hid (RS w wr H blk b (gS b 1 k).1 (gS b 1 k).2 (.slice ao k cap) ((gNs b 1 k).map (vaN 3))))
            case atStart => exact ⟨0, none, 0, by omega, rfl, rfl, HS⟩
            case round =>
              obtain ⟨k, ao, cap, hk, rfl, rfl, HS⟩ := hrel
              by_cases h0 : gk = 0
              · obtain rfl : k = N := by omega
                go_wp2_with fail
                go_meet
                go_light
                have e : ((gNs b 1 k).map (vaN 3)).length = k := by rw [List.length_map, gNs_len]
                refine ⟨(gNs b 1 k).map (vaN 3), ao, cap, by rw [e], Lib.hid ?_, Lib.hid rdEnd_boo, Lib.hid HS.out.bel⟩
                rw [e]
                exact HS.out.own.vals
              · have hkn : k < N := by omega
                have HG : Calls Tryd.prog 43 #[.pointer (some ⟨blk, 0, none⟩), .int .i64 1] wr _ := get_rs HS.out 1 1 rfl (by decide) (by decide)
                have hx : gV b (gS b 1 k).1 (gS b 1 k).2 1 = gN b 1 k := rfl
                rw [hx] at HG
                have hlen : ((gNs b 1 k).map (vaN 3)).length = k := by rw [List.length_map, gNs_len]
                have HLEN := Lib.hid hlen
                have hnx := Lib.hid (show (gNs b 1 (k + 1)).map (vaN 3) = (gNs b 1 k).map (vaN 3) ++ [vaN 3 (gN b 1 k)] from by rw [gNs_next, map_va])
                have hst : Hid (gS b 1 (k + 1) = (gP b (gS b 1 k).1 (gS b 1 k).2 1, gB b (gS b 1 k).1 (gS b 1 k).2 1)) := Lib.hid rfl
                clear hx hlen HS
                generalize gN b 1 k = x at *
                generalize gP b (gS b 1 k).1 (gS b 1 k).2 1 = p1 at *
                generalize gB b (gS b 1 k).1 (gS b 1 k).2 1 = d1 at *
                go_wp2_with (first
                  | (with_reducible refine HG.mono ?_; rintro _ w7 ⟨rfl, hs7⟩; have HS7 := Lib.hid hs7; clear hs7 HG)
                  | (at_builtin; refine wpList_append_val _ rfl (.tmp 36) (.tmp 40) rfl H (.slice ao k cap) ((gNs b 1 k).map (vaN 3)) (vaN 3 x) rfl HS7.out.own rfl (by rw [HLEN.out]; omega) HS7.out.size.2 ?_; intro ao8 cap8 w8 ho8 hc8; rw [HLEN.out] at ho8 ⊢; rw [← hnx.out] at ho8; have HS8 := Lib.hid (HS7.out.app ho8 hc8); clear ho8 hc8))
                go_roundg (gk - 1)
                case measure => go_light; omega
                case rel =>
                  go_light
                  exact ⟨k + 1, ao8, cap8, by omega, by congr 1, rfl, Lib.hid (by rw [hst.out]; exact HS8.out)⟩
          · by_cases k4 : k = 4
            · subst k4
              have hK := unstrings_any N b (.slice ao0 b.length cap0) w h1 h2 hl HR.out
              go_wp2_with (go_at_call 91; refine hK.mono ?_; rintro _ w2 ⟨hb2, l, ao2, cap2, rfl, hv2, hd2⟩; have HB2 := Lib.hid hb2; have HV2 := Lib.hid hv2; have HD2 := Lib.hid hd2; clear hb2 hv2 hd2 hK)
              go_meet
              go_light
              exact ⟨l, ao2, cap2, rfl, HV2, HD2, HB2⟩
            · have e1 : (k == 1) = false := by simpa using k1
              have e2 : (k == 2) = false := by simpa using k2
              have e3 : (k == 3) = false := by simpa using k3
              have e4 : (k == 4) = false := by simpa using k4
              have HD := Lib.hid (rdEnd_none (n := N) (b := b) (show ¬ (k = 1 ∨ k = 2 ∨ k = 3 ∨ k = 4) by omega))
              go_wp2_with fail
              go_meet
              go_light
              exact ⟨[], none, 0, rfl, Lib.hid (RdV.nil _ _), HD, Lib.hid (Below.refl _ _)⟩
    case rest =>
    obtain ⟨l, ao, cap, rfl, HV, HD, HB⟩ := hcut
    have HTc := Lib.hid (HT.out.below HB.out)
    have HRc := Lib.hid (show Rd wc (.slice ao0 b.length cap0) b from RdV.below HR.out HB.out)
    have HOK : Hid (∀ v ∈ l, v.ok) := Lib.hid (fun v hv => (HD.out.1 v hv).2)
    have hK := encodeC_any l (.slice ao l.length cap) wc HOK.out HTc.out HV.out
    obtain ⟨p, hp⟩ : ∃ p, p = encC l := ⟨_, rfl⟩
    have HP := Lib.hid hp
    clear hp
    go_upto_region 18 with (go_at_call 37; refine hK.mono ?_; rintro e w3 ⟨hb3, ao3, cap3, rfl, hr3⟩; rw [← HP.out] at hr3 ⊢; have HB3 := Lib.hid (HB.out.trans (hb3.mono HB.out.size)); have HR3 := Lib.hid hr3.rd; have HR4 := Lib.hid (show Rd w3 (.slice ao0 b.length cap0) b from RdV.below HRc.out hb3); have HV3 := Lib.hid (HV.out.below hb3); clear hb3 hr3 hK)
    obtain ⟨c, m⟩ := p
    dsimp only at *
    have HU := Lib.hid (fun l' (h : CdG k (N : Int) b l') => HD.out.2 l' h.nat)
    by_cases hm : m = 0
    · subst hm
      by_cases hln : l.length = N
      · have hEq := fun w' (h1 : Rd w' (.slice ao0 b.length cap0) b) (h2 : Rd w' (.slice ao3 c.length cap3) c) => bytesEqual_any b c (.slice ao0 b.length cap0) (.slice ao3 c.length cap3) w' h1 h2
        have hlnI : ((l.length : Int) != (N : Int)) = false := by simp [hln]
        have HLN := Lib.hid hln
        clear hln
        have hE3 := hEq w3 HR4.out HR3.out
        by_cases hbc : b = c
        · have hbe : (b == c) = true := by simp [hbc]
          rw [hbe] at hE3
          have HGD : Hid (CdG k (N : Int) b l) := Lib.hid ⟨by rw [← HP.out, hbc], by rw [HLN.out], fun v hv => (HD.out.1 v hv).1, HOK.out⟩
          clear hbc hbe hEq
          go_wp2_with (go_at_call 27; refine hE3.mono ?_; rintro _ w4 ⟨rfl, hw4⟩; have HW4 := Lib.hid hw4; clear hw4 hE3)
          go_ret2
          have := HW4.out
          subst this
          exact DcEnd.good HB3.out HGD.out HU.out HV3.out
        · have hbe : (b == c) = false := by simp [hbc]
          rw [hbe] at hE3
          have HNO := Lib.hid (fun l' (h : CdG k (N : Int) b l') => show False by
            have e := HU.out l' h
            subst e
            have := h.1
            rw [← HP.out] at this
            simp at this
            exact hbc this.symm)
          clear hbc hbe hEq
          go_wp2_with (go_at_call 27; refine hE3.mono ?_; rintro _ w4 ⟨rfl, hw4⟩; have HW4 := Lib.hid hw4; clear hw4 hE3)
          go_ret2
          have := HW4.out
          subst this
          exact DcEnd.bad HB3.out HNO.out
      · have hlnI : ((l.length : Int) != (N : Int)) = true := by simp; omega
        have HNO := Lib.hid (fun l' (h : CdG k (N : Int) b l') => show False by
          have e := HU.out l' h
          subst e
          have := h.2.1
          omega)
        clear hln
        go_wp2_with fail
        go_ret2
        exact DcEnd.bad HB3.out HNO.out
    · have hmI : ((m : Int) != 0) = true := by simp; omega
      have HNO := Lib.hid (fun l' (h : CdG k (N : Int) b l') => show False by
        have e := HU.out l' h
        subst e
        have := h.1
        rw [← HP.out] at this
        simp at this
        exact hm this.2)
      go_wp2_with fail
      go_ret2
      exact DcEnd.bad HB3.out HNO.out
end Go.Proofs.YthcgalpabjjkoaaDoor

/- XColShort: How long what column.Encode writes is; what was written reads back. -/
namespace Go.Proofs.YthcgalpabjjkoaaDoor
open Go.RowKit
set_option linter.unusedVariables false

theorem pkA_short {l : List Nat} {bs : List UInt8} (h : pkA l = some bs) : bs.length ≤ 8 * l.length :=
  pkA_ind (P := fun l bs => bs.length ≤ 8 * l.length) (by simp) (fun l s W bs hl ht hm hp ih => by
    rw [List.length_append, be8_len]
    rw [List.length_drop] at ih
    have : min (60 / W) l.length ≤ l.length := Nat.min_le_right _ _
    generalize min (60 / W) l.length = m at *
    omega) _ l bs (Nat.le_refl _) h
theorem good_nums {k : Int} {xs : List Nat} (hk : k = 1 ∨ k = 2) (h1 : 1 ≤ xs.length) (h2 : xs.length ≤ 1000) (hx : ∀ x ∈ xs, x < 18446744073709551616 ∧ (k = 1 → finB x = true)) :
    ∃ b, encC (xs.map (vaN k)) = (b, 0) ∧ b.length ≤ 100000 ∧ b = (if k = 1 then encF xs else encI xs) ∧ CdG k (xs.length : Int) b (xs.map (vaN k)) ∧ (∀ v ∈ xs.map (vaN k), v.ok) := by
  have hok : ∀ v ∈ xs.map (vaN k), v.ok := by
    intro v hv
    obtain ⟨x, hx2, rfl⟩ := List.mem_map.1 hv
    refine ⟨?_, (hx x hx2).1⟩
    unfold i64ok vaN
    dsimp only
    omega
  have hkk : ∀ v ∈ xs.map (vaN k), v.k = k := by
    intro v hv
    obtain ⟨x, hx2, rfl⟩ := List.mem_map.1 hv
    rfl
  have hlen : (xs.map (vaN k)).length = xs.length := List.length_map _
  have h0 : ((xs.map (vaN k)).getD 0 v0).k = k := hkk _ (getD_mem _ 0 v0 (by omega))
  have hf : (xs.map (vaN k)).all formV = true := by
    rw [List.all_eq_true]
    intro v hv
    obtain ⟨x, hx2, rfl⟩ := List.mem_map.1 hv
    rcases hk with rfl | rfl
    · rw [formV_1 rfl]
      simp [vaN, (hx x hx2).2 rfl]
      rfl
    · rw [formV_2 rfl]
      simp [vaN]
      rfl
  have ha : ((xs.map (vaN k)).all fun v => decide (v.k = ((xs.map (vaN k)).getD 0 v0).k)) = true := by
    rw [List.all_eq_true]
    intro v hv
    rw [h0]
    exact decide_eq_true (hkk v hv)
  have he := encC_ok (by omega) hf ha
  rw [h0, bitsV_map] at he
  rcases hk with rfl | rfl
  · rw [if_pos rfl] at he
    exact ⟨encF xs, he, by have := encF_len (l := xs) (fun x hx2 => (hx x hx2).1); omega, by rw [if_pos rfl], ⟨he, by rw [hlen], hkk, hok⟩, hok⟩
  · rw [if_neg (by decide), if_pos rfl] at he
    refine ⟨encI xs, he, ?_, by rw [if_neg (by decide)], ⟨he, by rw [hlen], hkk, hok⟩, hok⟩
    unfold encI
    cases hp : pkA (zgs xs xs.length) with
    | none =>
      show (0 :: rawI xs).length ≤ 100000
      rw [List.length_cons, rawI_len]
      omega
    | some p =>
      have := pkA_short hp
      rw [zgs_len] at this
      show (1 :: p).length ≤ 100000
      rw [List.length_cons]
      omega
theorem encC_err {l : List Va} (h : (encC l).2 ≠ 0) : (encC l).1 = [] := by
  by_cases h1 : l.length = 0 ∨ 1000 < l.length
  · rw [encC_len h1]
  · cases h2 : l.all formV with
    | false => rw [encC_form h2]
    | true =>
      cases h3 : (l.all fun v => decide (v.k = (l.getD 0 v0).k)) with
      | false => rw [encC_type h1 h2 h3]
      | true =>
        rw [encC_ok h1 h2 h3] at h ⊢
        split at h
        · exact absurd rfl h
        · split at h
          · exact absurd rfl h
          · split at h
            · exact absurd rfl h
            · split at h
              · rename_i a1 a2 a3 a4
                rw [if_neg a1, if_neg a2, if_neg a3, if_pos a4]
              · exact absurd rfl h
theorem encC_short {l : List Va} {b : List UInt8} (hok : ∀ v ∈ l, v.ok) (h : encC l = (b, 0)) : b.length ≤ 10000000 := by
  obtain ⟨h1, h2, h3⟩ := encC_fits h
  have he := encC_ok h1 h2 h3
  rw [h] at he
  have hlb : (bitsV l).length = l.length := bitsV_len l
  split at he
  · simp only [Prod.mk.injEq, and_true] at he
    have := encF_len (bitsV_lt hok)
    rw [he]
    omega
  · split at he
    · simp only [Prod.mk.injEq, and_true] at he
      rw [he]
      unfold encI
      cases hp : pkA (zgs (bitsV l) (bitsV l).length) with
      | none =>
        show (0 :: rawI (bitsV l)).length ≤ _
        rw [List.length_cons, rawI_len]
        omega
      | some p =>
        have := pkA_short hp
        rw [zgs_len] at this
        show (1 :: p).length ≤ _
        rw [List.length_cons]
        omega
    · split at he
      · simp only [Prod.mk.injEq, and_true] at he
        rw [he]
        unfold encBo
        rw [length_pack8, bo_bits]
        omega
      · split at he
        · simp at he
        · rename_i h9
          simp only [Prod.mk.injEq, and_true] at he
          rw [he]
          unfold encS4
          split
          · rename_i hc
            rw [List.length_cons]
            omega
          · rw [List.length_cons]
            omega
theorem encC_good {l : List Va} {b : List UInt8} (hok : ∀ v ∈ l, v.ok) (h : encC l = (b, 0)) : CdG (l.getD 0 v0).k (l.length : Int) b l ∧ 1 ≤ l.length ∧ l.length ≤ 1000 := by
  obtain ⟨h1, h2, h3⟩ := encC_fits h
  exact ⟨⟨h, rfl, fun v hv => of_decide_eq_true (List.all_eq_true.1 h3 v hv), hok⟩, by omega, by omega⟩
end Go.Proofs.YthcgalpabjjkoaaDoor
