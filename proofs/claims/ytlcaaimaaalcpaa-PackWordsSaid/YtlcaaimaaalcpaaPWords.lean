/- PackWords' walk. -/
import Derived.Test.YtlcaaimaaalcpaaAwake04
import Derived.ProofKit
import Derived.OpenShut
namespace Go.Proofs.Ytlcaaimaaalcpaa
open Go.RowKit Go.ChangeShapes Go.WideShapes Go.ChangeAt
set_option linter.unusedVariables false

def selF (w : Nat) : Nat → List Nat → Option (Nat × Nat)
  | _, [] => none
  | s, W :: r => if w ≤ W then some (s, W) else selF w (s + 1) r
/-- The room that the law's own loop finds. -/
def rm (w : Nat) : Nat → Nat
  | 0 => 1
  | i + 1 => if w ≤ wds.getD (13 - i) 0 then 60 / wds.getD (13 - i) 0 else rm w i
theorem sel_rm (w : Nat) (h1 : 1 ≤ w) (h2 : w ≤ 60) : ∃ s W, selF w 0 wds = some (s, W) ∧ rm w 14 = 60 / W ∧ 1 ≤ 60 / W := by
  have key : ∀ w : Fin 61, 1 ≤ w.val → (match selF w.val 0 wds with | some (s, W) => decide (rm w.val 14 = 60 / W ∧ 1 ≤ 60 / W) | none => false) = true := by decide +kernel
  have := key ⟨w, by omega⟩ h1
  dsimp only at this
  cases h : selF w 0 wds with
  | none => rw [h] at this; cases this
  | some p =>
    obtain ⟨s, W⟩ := p
    rw [h] at this
    have := of_decide_eq_true this
    exact ⟨s, W, rfl, this.1, this.2⟩

theorem fits_rep (w W m : Nat) (hm : 1 ≤ m) (h1 : 1 ≤ W) (h2 : W ≤ 60) : fitsB ((List.replicate m (2 ^ w - 1)).take (60 / W)) W = decide (w ≤ W) := by
  have hq : 1 ≤ 60 / W := (Nat.one_le_div_iff (by omega)).2 h2
  have hp := Nat.two_pow_pos w
  have key : 2 ^ w - 1 < 2 ^ W ↔ w ≤ W := by
    constructor
    · intro h
      have : 2 ^ w ≤ 2 ^ W := by omega
      exact (Nat.pow_le_pow_iff_right (by omega)).1 this
    · intro h
      have : 2 ^ w ≤ 2 ^ W := Nat.pow_le_pow_right (by omega) h
      omega
  rw [List.take_replicate]
  obtain ⟨k, hk⟩ : ∃ k, min (60 / W) m = k + 1 := ⟨min (60 / W) m - 1, by omega⟩
  rw [hk]
  unfold fitsB
  rw [List.all_replicate]
  simp [key]

theorem takeF_rep (w m : Nat) (hm : 1 ≤ m) : ∀ (r : List Nat) (s : Nat), (∀ W ∈ r, 1 ≤ W ∧ W ≤ 60) → takeF (List.replicate m (2 ^ w - 1)) s r = selF w s r
  | [], s, _ => rfl
  | W :: r, s, h => by
    have hW := h W (by simp)
    have ih := takeF_rep w m hm r (s + 1) (fun x hx => h x (by simp [hx]))
    unfold takeF selF
    rw [fits_rep w W m hm hW.1 hW.2, ih]
    simp

theorem pk_rep (w : Nat) (h1 : 1 ≤ w) (h2 : w ≤ 60) : ∀ (n m : Nat), m ≤ n → ∃ bs, pkA (List.replicate m (2 ^ w - 1)) = some bs ∧ bs.length = 8 * ((m + rm w 14 - 1) / rm w 14)
  | n, 0, _ => by
    obtain ⟨s, W, _, hr, hq⟩ := sel_rm w h1 h2
    refine ⟨[], rfl, ?_⟩
    rw [Nat.div_eq_of_lt (by omega)]
    rfl
  | 0, m + 1, h => by omega
  | n + 1, m + 1, h => by
    obtain ⟨s, W, hs, hr, hq⟩ := sel_rm w h1 h2
    have ht : takeS (List.replicate (m + 1) (2 ^ w - 1)) = some (s, W) := by
      rw [← hs]
      exact takeF_rep w (m + 1) (by omega) wds 0 (by decide)
    have hd : (List.replicate (m + 1) (2 ^ w - 1)).drop (min (60 / W) (List.replicate (m + 1) (2 ^ w - 1)).length) = List.replicate (m + 1 - min (60 / W) (m + 1)) (2 ^ w - 1) := by simp
    obtain ⟨bs, hb, hl⟩ := pk_rep w h1 h2 n (m + 1 - min (60 / W) (m + 1)) (by omega)
    refine ⟨be8 (wordN W s (List.replicate (m + 1) (2 ^ w - 1))) ++ bs, ?_, ?_⟩
    · rw [pkA_some (by simp) ht, hd, hb]; rfl
    · rw [List.length_append, be8_len, hl, hr]
      generalize 60 / W = q at *
      by_cases hc : q ≤ m + 1
      · rw [Nat.min_eq_left hc, show m + 1 + q - 1 = (m + 1 - q + q - 1) + q by omega, Nat.add_div_right _ (by omega)]
        omega
      · rw [Nat.min_eq_right (by omega), show m + 1 - (m + 1) + q - 1 = q - 1 by omega, Nat.div_eq_of_lt (show q - 1 < q by omega), show m + 1 + q - 1 = m + q by omega, Nat.add_div_right _ (by omega), Nat.div_eq_of_lt (by omega)]

set_option maxHeartbeats 2000000 in
set_option maxRecDepth 100000 in
theorem packWords_run (x y : Nat) (hx : x ≤ 255) (hy : y ≤ 255) (w : World) :
    Calls Try.prog 4 #[.int .u8 (x : Int), .int .u8 (y : Int)] w fun e w' => e = .returned (.bool true) ∧ Below w.heap.size w w' := by
  obtain ⟨k, hk⟩ : ∃ k, k = 1 + x % 60 := ⟨_, rfl⟩
  have hk1 : 1 ≤ k := by omega
  have hk2 : k ≤ 60 := by omega
  have hxk : 1 + (x : Int) % 60 = (k : Int) := by omega
  obtain ⟨X, hX⟩ : ∃ X, X = 2 ^ k - 1 := ⟨_, rfl⟩
  have hXl : X < 18446744073709551616 := by
    have : 2 ^ k ≤ 2 ^ 60 := Nat.pow_le_pow_right (by omega) hk2
    omega
  have HK := Lib.hid hk
  have HXX := Lib.hid hX
  have hV : IntKind.u64.wrap (IntKind.u64.wrap ((2 : Int) ^ k) - 1) = (X : Int) := by
    have e : ((2 : Int) ^ k) = ((2 ^ k : Nat) : Int) := by simp
    have h2 : 2 ^ k ≤ 2 ^ 60 := Nat.pow_le_pow_right (by omega) hk2
    have h3 := Nat.two_pow_pos k
    have h4 := IntWalk.u64_in ((2 ^ k : Nat) : Int) (by omega)
    rw [e, h4, IntWalk.u64_in _ (by omega)]
    omega
  clear hk hX
  go_enter Try.func4, Try.ntmps4
  go_wp2_with fail
  refine (awake_any w).mono ?_
  rintro e w1 ⟨rfl, hb⟩
  have HB := Lib.hid hb
  clear hb
  go_wp2_with fail
  go_loopg [7, 22] y (fun m s7 s22 wr => ∃ (j : Nat) (ao : Option Addr) (cap : Nat), j + m = y ∧ s22 = .int .i64 (j : Int) ∧ s7 = .slice ao j cap ∧ Hid (wr.ownsRow w.heap.size 29 1 (.slice ao j cap) j (List.replicate j (uV X))) ∧ Hid (Below w.heap.size w wr))
  case atStart => exact ⟨0, none, 0, by omega, rfl, rfl, Lib.hid (World.ownsRow_nil _ _ _ _), HB⟩
  case round =>
    obtain ⟨j, ao, cap, hj, rfl, rfl, hO, hB⟩ := hrel
    by_cases h0 : gk = 0
    · obtain rfl : j = y := by omega
      clear hj
      have hlen : (List.replicate j X).length = j := List.length_replicate
      have hNn : Nums wr (.slice ao j cap) (List.replicate j X) := by
        unfold Nums
        rw [hlen, List.map_replicate]
        exact RdV.ofOwns hO.out
      have hp := pack_any (List.replicate j X) _ _ (by rw [hlen]; omega) (fun z hz => by rw [List.eq_of_mem_replicate hz]; exact hXl) hNn
      obtain ⟨bs, hb1, hb2⟩ := pk_rep k hk1 hk2 j j (Nat.le_refl _)
      obtain ⟨sS, WW, hs1, hs2, hs3⟩ := sel_rm k hk1 hk2
      have hr1 : 1 ≤ rm k 14 := by rw [hs2]; exact hs3
      have hr2 : rm k 14 ≤ 60 := by rw [hs2]; exact Nat.div_le_self _ _
      rw [← HXX.out] at hb1
      rw [hb1] at hp
      have HLB := Lib.hid hb2
      clear hb1 hb2 hs1 hs2 hs3 hNn hlen hO
      go_upto_region 11 with (go_at_call 9; refine hp.mono ?_; rintro _ w3 ⟨hbl, h⟩; rcases h with ⟨h, _⟩ | ⟨bs', pao, pcap, h1, h2, rfl, ho⟩; cases h; obtain rfl : bs = bs' := (by simpa using h1); have HB3 := Lib.hid (hB.out.trans (hbl.mono hB.out.size)); clear hbl ho h1 h2 hp)
      have HB4 := Lib.hid (HB3.out.alloc HB3.out.size (.cells wArr 3))
      have hcell : ∀ i, i < 14 → (w3.alloc (.cells wArr 3)).cell? ⟨w3.heap.size, i, none⟩ = some (.int .i64 (wds.getD i 0 : Nat)) := by
        intro i hi
        obtain ⟨b, off, c, he, _, _, _, hc⟩ := RdV.some (RdV.lit w3 wArr 3 14 1 (by decide) rfl) (by decide) (by decide)
        simp only [Value.slice.injEq, Option.some.injEq, Addr.mk.injEq, true_and, and_true] at he
        obtain ⟨⟨rfl, rfl⟩, rfl⟩ := he
        have h14 : i = 0 ∨ i = 1 ∨ i = 2 ∨ i = 3 ∨ i = 4 ∨ i = 5 ∨ i = 6 ∨ i = 7 ∨ i = 8 ∨ i = 9 ∨ i = 10 ∨ i = 11 ∨ i = 12 ∨ i = 13 := by omega
        have := hc i (.int .i64 (wds.getD i 0 : Nat)) (by rcases h14 with rfl | rfl | rfl | rfl | rfl | rfl | rfl | rfl | rfl | rfl | rfl | rfl | rfl | rfl <;> rfl)
        simpa using this
      have HC := Lib.hid hcell
      clear hcell HB3
      have hsz4 : w3.heap.size < (w3.alloc (.cells wArr 3)).heap.size := by simp
      go_wp2_with fail
      unfold wArr at HC HB4 hsz4
      generalize w3.alloc (.cells #[.int .i64 1, .int .i64 2, .int .i64 3, .int .i64 4, .int .i64 5, .int .i64 6, .int .i64 7, .int .i64 8, .int .i64 10, .int .i64 12, .int .i64 15, .int .i64 20, .int .i64 30, .int .i64 60] 3) = w4 at *
      go_loopg [11, 40] 14 (fun m s11 s40 wr => ∃ i : Nat, i + m = 14 ∧ s40 = .int .i64 (i : Int) ∧ s11 = .int .i64 ((rm k i : Nat) : Int) ∧ ∃ q, wr = w4.drewN q)
      case atStart => exact ⟨0, rfl, rfl, rfl, 0, rfl⟩
      case round =>
        obtain ⟨i, hi, rfl, rfl, q, rfl⟩ := hrel
        by_cases h1 : gk = 0
        · obtain rfl : i = 14 := by omega
          clear hi
          generalize rm k 14 = R at *
          have hq : (j + R - 1) / R ≤ 315 := Nat.le_trans (Nat.div_le_self _ _) (by omega)
          have hm : wrap64 (8 * (((j : Int) + (R : Int) - 1) / (R : Int))) = ((8 * ((j + R - 1) / R) : Nat) : Int) := by
            have e : (8 * (((j : Int) + (R : Int) - 1) / (R : Int))) = ((8 * ((j + R - 1) / R) : Nat) : Int) := by
              have e1 : ((j : Int) + (R : Int) - 1) = ((j + R - 1 : Nat) : Int) := by omega
              rw [e1]
              simp
            rw [e, ← IntWalk.i64_left]
            exact IntWalk.i64_in _ (by omega)
          go_wp2_with fail
          go_ret
          refine ⟨?_, Lib.hid ⟨HB4.out.os, HB4.out.tape, HB4.out.output, HB4.out.size, HB4.out.block⟩ |>.out⟩
          go_light
          rw [HLB.out]
          simp
        · have hi14 : i < 14 := by omega
          have hc : (w4.drewN q).cell? ⟨w3.heap.size, 13 - i, none⟩ = some (.int .i64 (wds.getD (13 - i) 0 : Nat)) := HC.out (13 - i) (by omega)
          have hRN := Lib.hid (show rm k (i + 1) = if k ≤ wds.getD (13 - i) 0 then 60 / wds.getD (13 - i) 0 else rm k i from rfl)
          have hWb := wds_get (13 - i) (by omega)
          generalize wds.getD (13 - i) 0 = W at *
          obtain ⟨d, hd⟩ : ∃ d, d = 13 - i := ⟨_, rfl⟩
          rw [← hd] at hc
          have t0 : (13 : Int) - (i : Int) = (d : Int) := by omega
          have t4 : IntKind.i64.wrap (d : Int) = (d : Int) := IntWalk.i64_in _ (by omega)
          have hd13 : d < 14 := by omega
          clear hd
          by_cases hkW : k ≤ W
          · have hkI : (k : Int) ≤ (W : Int) := by omega
            go_wp2_with fail
            go_roundg (gk - 1)
            case measure => go_light; omega
            case rel =>
              go_light
              refine ⟨i + 1, by omega, by go_num, ?_, q, rfl⟩
              rw [hRN.out, if_pos hkW]
              simp
          · have hkI : ¬ (k : Int) ≤ (W : Int) := by omega
            go_wp2_with fail
            go_roundg (gk - 1)
            case measure => go_light; omega
            case rel =>
              go_light
              refine ⟨i + 1, by omega, by go_num, ?_, q, rfl⟩
              rw [hRN.out, if_neg hkW]
    · have hjy : j < y := by omega
      have h63 : j + 1 ≤ maxLen := by unfold maxLen; omega
      have hby : (j + 1) * 8 ≤ 140737488355328 := by omega
      have hba : ∀ o, w.heap.size ≤ (wr.alloc o).heap.size := fun o => by have := hB.out.size; simp; omega
      go_wp2_with (at_builtin; refine wpList_append_rd _ rfl (.tmp 24) (.tmp 29) 22 rfl w.heap.size 29 (.int .u64 0) 1 8 Try.underlying22 infoU64 rfl (by decide) (.slice ao j cap) j (List.replicate j (uV X)) rfl (World.ownsRow.alloc hO.out _) (.slice (some ⟨wr.heap.size, 0, none⟩) 1 1) 1 [uV X] rfl (RdV.one wr (uV X) 29) (one_one _ rfl) h63 hby (hba _) ?_; intro ao6 cap6 w6 hg6; have HG := Lib.hid hg6.ofAlloc; clear hg6)
      go_roundg (gk - 1)
      case measure => go_light; omega
      case rel =>
        go_light
        have hg := HG.out
        have e : List.replicate j (uV X) ++ [uV X] = List.replicate (j + 1) (uV X) := by rw [List.replicate_succ']
        rw [e] at hg
        exact ⟨j + 1, ao6, cap6, by omega, by go_num, rfl, Lib.hid hg.owns, Lib.hid (hB.out.trans (hg.below hB.out.size (fun k hk => (hO.out.lt k hk).1)))⟩
theorem packWords_walk {H : Type} (enc : TypeId × Value → H) (W : World) (base : Nat) (v0 v1 : Value) (d0 d1 : DataW H) (p0 p1 : List MemPlace)
    (o0 : Value.okWide Try.prog W .any base 5 v0) (o1 : Value.okWide Try.prog W .any base 5 v1)
    (t0 : DataW.Trod enc Try.prog W 0 (fun _ => true) true 5 v0 d0 p0) (t1 : DataW.Trod enc Try.prog W 0 (fun _ => true) true 5 v1 d1 p1)
    (hsz : (DataW.weightsEach Try.prog [5, 5] [d0, d1]).all (· ≤ reachBytes) = true) :
    Calls Try.prog 4 #[v0, v1] W fun e W' => e = .returned (.bool true) ∧ Below W.heap.size W W' := by
  obtain ⟨a0, rfl, rfl, rfl, w0⟩ := open_int Try.underlying5 o0 t0
  obtain ⟨a1, rfl, rfl, rfl, w1⟩ := open_int Try.underlying5 o1 t1
  have hx : 0 ≤ a0 ∧ a0 ≤ 255 := by simpa [Lit.wf, IntKind.min, IntKind.max, IntKind.signed, IntKind.bits] using w0
  have hy : 0 ≤ a1 ∧ a1 ≤ 255 := by simpa [Lit.wf, IntKind.min, IntKind.max, IntKind.signed, IntKind.bits] using w1
  obtain ⟨n, rfl⟩ := Int.eq_ofNat_of_zero_le hx.1
  obtain ⟨m, rfl⟩ := Int.eq_ofNat_of_zero_le hy.1
  exact packWords_run n m (by omega) (by omega) W

end Go.Proofs.Ytlcaaimaaalcpaa
