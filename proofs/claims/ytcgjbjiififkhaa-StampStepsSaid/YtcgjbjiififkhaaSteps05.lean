/- StampSteps' walk. -/
import Derived.Test.YtcgjbjiififkhaaRStDec2
namespace Go.Proofs.Ytcgjbjiififkhaa
open Go.RowKit Go.ChangeShapes Go.WideShapes Go.ChangeAt
set_option linter.unusedVariables false

/-- Times with one distance. -/
def ap (q : Int) (f n : Nat) : List Int := upto (fun i => q + (f : Int) * (i : Int)) n
theorem ap_len (q : Int) (f n : Nat) : (ap q f n).length = n := upto_len _ _
theorem ap_next (q : Int) (f n : Nat) : ap q f (n + 1) = ap q f n ++ [q + (f : Int) * (n : Int)] := upto_next _ _
theorem ap_get (q : Int) (f n i : Nat) (h : i < n) : (ap q f n).getD i 0 = q + (f : Int) * (i : Int) := upto_getDG _ _ _ _ h
theorem ap_ok (q : Int) (f n : Nat) (hq : -2305843009213693952 ≤ q ∧ q ≤ 2305843009213693951) (hf : f ≤ 1099511627776) (hn : n ≤ 1000) : ∀ x ∈ ap q f n, i64ok x := by
  intro x hx
  obtain ⟨i, hi, rfl⟩ := List.mem_map.1 hx
  have hi2 : i < n := List.mem_range.1 hi
  have : f * i ≤ 1099511627776 * 1000 := Nat.mul_le_mul hf (by omega)
  unfold i64ok
  rw [← Int.natCast_mul]
  omega
theorem ap_step (q : Int) (f n i : Nat) (h : i + 1 < n) : (ap q f n).getD (i + 1) 0 - (ap q f n).getD i 0 = (f : Int) := by
  rw [ap_get _ _ _ _ h, ap_get _ _ _ _ (by omega)]
  have : (f : Int) * ((i + 1 : Nat) : Int) = (f : Int) * (i : Int) + (f : Int) := by rw [Int.natCast_add, Int.mul_add]; simp
  omega
theorem ap_d (q : Int) (f n i : Nat) (h : i + 1 < n) (hf : f < 18446744073709551616) : dAt (ap q f n) i = f := by
  unfold dAt
  rw [ap_step _ _ _ _ h]
  exact uT_small f hf
theorem ap_ris (q : Int) (f n : Nat) (hf : 1 ≤ f) : ∀ k, k < n → risF (ap q f n) k = true
  | 0, _ => rfl
  | k + 1, h => by
    rw [risF_next, ap_ris q f n hf k (by omega)]
    have := ap_step q f n k h
    simp only [Bool.true_and, decide_eq_true_eq]
    omega
theorem ap_al (q : Int) (f n : Nat) (hf : f < 18446744073709551616) (hn : 2 ≤ n) : ∀ k, k < n → alF (ap q f n) k = true
  | 0, _ => by rw [alF_zero, ap_len]; exact decide_eq_true (by omega)
  | k + 1, h => by
    rw [alF_next, ap_al q f n hf hn k (by omega), ap_d q f n k h hf, ap_d q f n 0 (by omega) hf]
    simp
theorem ap_enc (q : Int) (f n : Nat) (h1 : 1 ≤ f) (hf : f < 18446744073709551616) (hn : 2 ≤ n) (hn2 : n ≤ 1000) : encS (ap q f n) = some (hdS 1 (ap q f n) ++ be8 f) := by
  rw [encS_some (by rw [ap_len]; omega) (by rw [ap_len]; omega) (by rw [ap_len]; exact ap_ris q f n h1 _ (by omega)), encB_al (by rw [ap_len]; exact ap_al q f n hf hn _ (by omega)), ap_d q f n 0 (by omega) hf]

theorem quo4 (a : Int) (ha : i64ok a) : -2305843009213693952 ≤ wrap64 (a.tdiv 4) ∧ wrap64 (a.tdiv 4) ≤ 2305843009213693951 ∧ True := by
  unfold i64ok at ha
  have h : -2305843009213693952 ≤ a.tdiv 4 ∧ a.tdiv 4 ≤ 2305843009213693951 := by
    by_cases h0 : 0 ≤ a
    · rw [Int.tdiv_eq_ediv_of_nonneg h0]; omega
    · obtain ⟨b, rfl⟩ : ∃ b, a = -b := ⟨-a, by omega⟩
      rw [Int.neg_tdiv, Int.tdiv_eq_ediv_of_nonneg (by omega)]; omega
  rw [← IntWalk.i64_left, IntWalk.i64_in _ (by omega)]
  exact ⟨h.1, h.2, trivial⟩

set_option maxHeartbeats 2000000 in
set_option maxRecDepth 100000 in
theorem stampSteps_run (a : Int) (b c : Nat) (ha : i64ok a) (hb : b < 18446744073709551616) (hc : c ≤ 65535) (w : World) :
    Calls Try.prog 7 #[.int .i64 a, .int .u64 (b : Int), .int .u16 (c : Int)] w fun e w' => e = .returned (.bool true) ∧ Below w.heap.size w w' := by
  obtain ⟨f, hf⟩ : ∃ f, f = 1 + b % 1099511627776 := ⟨_, rfl⟩
  have hf1 : 1 ≤ f := by omega
  have hf2 : f ≤ 1099511627776 := by omega
  have hfI : 1 + (b : Int) % 1099511627776 = (f : Int) := by omega
  obtain ⟨n, hn⟩ : ∃ n, n = 2 + c % 999 := ⟨_, rfl⟩
  have hn1 : 2 ≤ n := by omega
  have hn2 : n ≤ 1000 := by omega
  have hnI : 2 + (c : Int) % 999 = (n : Int) := by omega
  clear hf hn
  go_enter Try.func7, Try.ntmps7
  go_wp2_with fail
  refine (awake05_any w).mono ?_
  rintro e w1 ⟨rfl, hb1⟩
  have HB1 := Lib.hid hb1
  clear hb1
  go_wp2_with fail
  have hq := quo4 a ha
  generalize wrap64 (a.tdiv 4) = Q at *
  have HQ1 := Lib.hid hq.1
  have HQ2 := Lib.hid hq.2.1
  clear hfI hnI hq ha
  go_loopg [8, 26] n (fun m s8 s26 wr => ∃ (k : Nat) (ao : Option Addr) (cap : Nat), k + m = n ∧ s26 = .int .i64 (k : Int) ∧ s8 = .slice ao k cap ∧ Hid (OwnT wr w.heap.size (.slice ao k cap) (ap Q f k)) ∧ Hid (Below w.heap.size w wr))
  case atStart => exact ⟨0, none, 0, by omega, rfl, rfl, Lib.hid (World.ownsRow_nil _ _ _ _), HB1⟩
  case round =>
    obtain ⟨k, ao, cap, hk, rfl, rfl, HO, HB⟩ := hrel
    by_cases h0 : gk = 0
    · obtain rfl : k = n := by omega
      clear hk
      have hok := ap_ok Q f k ⟨HQ1.out, HQ2.out⟩ hf2 hn2
      have henc := ap_enc Q f k hf1 (by omega) hn1 hn2
      have hlen : (hdS 1 (ap Q f k) ++ be8 f).length = 19 := by rw [List.length_append, hdS_len, be8_len]
      have HDS := Lib.hid (decS_of hok henc)
      have hT : Tms wr (.slice ao k cap) (ap Q f k) := HO.out.tms
      have hE := encode_any (ap Q f k) _ wr hok hT
      have hAL := ap_len Q f k
      have HT := Lib.hid hT
      have HAL := Lib.hid hAL
      clear hok hT hAL
      generalize hdS 1 (ap Q f k) ++ be8 f = b at *
      have HLEN := Lib.hid hlen
      have HENC := Lib.hid henc
      clear hlen henc
      generalize ap Q f k = t at *
      go_upto_region 13 with (go_at_call 10; refine hE.mono ?_; rintro e w2 ⟨hb2, h⟩; rw [HENC.out] at h; rcases h with ⟨h, _⟩ | ⟨b2, bo, bc, h, h9, h11, rfl, ho⟩; cases h; obtain rfl : b = b2 := (by simpa using h); have HB2 := Lib.hid (HB.out.trans (hb2.mono HB.out.size)); have HO2 := Lib.hid ho.rd; have HT2 := Lib.hid (show Tms w2 (.slice ao k cap) t from RdV.below HT.out hb2); clear hb2 hE ho h h9 h11)
      have hD := decode_any b _ w2 (by rw [HLEN.out]; decide) HO2.out
      go_upto_region 14 with (go_at_call 12; refine hD.mono ?_; rintro e w3 ⟨hb3, h⟩; rw [HDS.out] at h; rcases h with ⟨h, _⟩ | ⟨t2, xo, xc, h, rfl, ht⟩; cases h; obtain rfl : t = t2 := (by simpa using h); have HB3 := Lib.hid (HB2.out.trans (hb3.mono HB2.out.size)); have hSM := sameTimes_any t _ _ w3 ht (RdV.below HT2.out hb3); clear hb3 hD ht h)
      have hl19 : ((b.length : Int) == 19) = true := by rw [HLEN.out]; rfl
      go_wp2_with (go_at_call 13; refine hSM.mono ?_; rintro _ _ ⟨rfl, q1, rfl⟩)
      go_ret
      exact ⟨rfl, below_dr HB3.out _⟩
    · have hkn : k < n := by omega
      have hfk : f * k ≤ 1099511627776 * 1000 := Nat.mul_le_mul hf2 (by omega)
      obtain ⟨Z, hZZ⟩ : ∃ Z, Z = f * k := ⟨_, rfl⟩
      rw [← hZZ] at hfk
      have hZ : IntKind.i64.wrap ((f : Int) * (k : Int)) = (Z : Int) := by rw [← Int.natCast_mul, ← hZZ]; exact IntWalk.i64_in _ (by omega)
      obtain ⟨S, hS⟩ : ∃ S, S = Q + (Z : Int) := ⟨_, rfl⟩
      have hS2 : IntKind.i64.wrap (Q + (Z : Int)) = S := by rw [hS]; have h1 := HQ1.out; have h2 := HQ2.out; exact IntWalk.i64_in _ (by omega)
      have HSS := Lib.hid (show S = Q + (f : Int) * (k : Int) by rw [hS, hZZ, Int.natCast_mul])
      have hnx := Lib.hid (ap_next Q f k)
      have hO1 : Hid (wr.ownsRow w.heap.size 2 1 (.slice ao k cap) k ((ap Q f k).map tV)) := Lib.hid (by have := HO.out; unfold OwnT at this; rwa [ap_len] at this)
      have h63 : Hid (k + 1 ≤ maxLen) := Lib.hid (by unfold maxLen; omega)
      have hby : Hid ((k + 1) * 8 ≤ 140737488355328) := Lib.hid (by omega)
      have hba : Hid (∀ o, w.heap.size ≤ (wr.alloc o).heap.size) := Lib.hid (fun o => by have h6 := HB.out.size; have e2 : (wr.alloc o).heap.size = wr.heap.size + 1 := (by simp); omega)
      clear hZZ hS HO
      go_wp2_with (at_builtin; refine wpList_append_rd _ rfl (.tmp 29) (.tmp 36) 22 rfl w.heap.size 2 (.int .i64 0) 1 8 Try.underlying22 infoI64 rfl (by decide) (.slice ao k cap) k ((ap Q f k).map tV) rfl (World.ownsRow.alloc hO1.out _) (.slice (some ⟨wr.heap.size, 0, none⟩) 1 1) 1 [tV S] rfl (RdV.one wr _ 2) (one_one _ rfl) h63.out hby.out (hba.out _) ?_; intro ao6 cap6 w6 hg6; have HG := Lib.hid hg6.ofAlloc; clear hg6)
      go_roundg (gk - 1)
      case measure => go_light; omega
      case rel =>
        go_light
        refine ⟨k + 1, ao6, cap6, by omega, by go_num, rfl, Lib.hid ?_, Lib.hid (HB.out.trans (HG.out.below HB.out.size (fun j hj => (World.ownsRow.lt hO1.out j hj).1)))⟩
        unfold OwnT
        rw [ap_len, hnx.out, List.map_append, ← HSS.out]
        exact HG.out.owns
theorem stampSteps_walk {H : Type} (enc : TypeId × Value → H) (W : World) (base : Nat) (v0 v1 v2 : Value) (d0 d1 d2 : DataW H) (p0 p1 p2 : List MemPlace)
    (o0 : Value.okWide Try.prog W .any base 2 v0) (o1 : Value.okWide Try.prog W .any base 37 v1) (o2 : Value.okWide Try.prog W .any base 29 v2)
    (t0 : DataW.Trod enc Try.prog W 0 (fun _ => true) true 2 v0 d0 p0) (t1 : DataW.Trod enc Try.prog W 0 (fun _ => true) true 37 v1 d1 p1) (t2 : DataW.Trod enc Try.prog W 0 (fun _ => true) true 29 v2 d2 p2)
    (hsz : (DataW.weightsEach Try.prog [2, 37, 29] [d0, d1, d2]).all (· ≤ reachBytes) = true) :
    Calls Try.prog 7 #[v0, v1, v2] W fun e W' => e = .returned (.bool true) ∧ Below W.heap.size W W' := by
  obtain ⟨a0, rfl, rfl, rfl, w0⟩ := open_int Try.underlying2 o0 t0
  obtain ⟨a1, rfl, rfl, rfl, w1⟩ := open_int Try.underlying37 o1 t1
  obtain ⟨a2, rfl, rfl, rfl, w2⟩ := open_int Try.underlying29 o2 t2
  have h1 := wf_u64' w1
  have h2 := wf_u16' w2
  obtain ⟨m1, rfl⟩ := Int.eq_ofNat_of_zero_le h1.1
  obtain ⟨m2, rfl⟩ := Int.eq_ofNat_of_zero_le h2.1
  exact stampSteps_run a0 m1 m2 (wf_i64' w0) (by omega) (by omega) W
end Go.Proofs.Ytcgjbjiififkhaa
