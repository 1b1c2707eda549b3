/- The statement 'FileBlocksCardSaid', out of its walk 'fileBlocks_walk': the frame of a tied card: the table of math/bits reads as it is laid. Conditions: none beyond the form's own reach. -/
import Derived.Test.YthcgalpabjjkoaaDoorG13
import Derived.Test.YthcgalpabjjkoaaDoorG19
import Derived.Test.YthcgalpabjjkoaaDoorG17
import Derived.Test.YthcgalpabjjkoaaDoorG16
import Derived.Test.YthcgalpabjjkoaaDoorG6
import Derived.WalkKit
import Derived.ProofKit
import Derived.OpenShut
import Derived.ChangeOld
import Derived.Below
import Derived.SizedLaws
import Derived.JoinedCond
import Derived.Deep.DeepHandedRow
/- XBlkP12: A column of rising times and integers: it is written. -/
namespace Go.Proofs.YthcgalpabjjkoaaDoor
open Go.RowKit
set_option linter.unusedVariables false
set_option maxRecDepth 100000

def bkP (F D : Int) (i : Nat) : Pn := ⟨F + (i : Int) * D, ⟨2, i, ⟨#[]⟩⟩⟩
def bkL (F D : Int) (c : Nat) : List Pn := upto (bkP F D) c
theorem bkL_len (F D : Int) (c : Nat) : (bkL F D c).length = c := upto_len _ _
theorem bkL_next (F D : Int) (c : Nat) : bkL F D (c + 1) = bkL F D c ++ [bkP F D c] := upto_next _ _
theorem bkL_at (F D : Int) (c i : Nat) (h : i < c) : (bkL F D c).getD i p0 = bkP F D i := upto_getDG _ _ _ _ h
theorem risT {t : List Int} (h : ∀ i, i + 1 < t.length → t.getD i 0 < t.getD (i + 1) 0) : ∀ k, k ≤ t.length - 1 → risF t k = true
  | 0, _ => rfl
  | k + 1, hk => by rw [risF_next, risT h k (by omega), decide_eq_true (h k (by omega))]; rfl
theorem encP_int {q : List Pn} (h1 : 1 ≤ q.length) (h2 : q.length ≤ 1000) (hk : ∀ p ∈ q, p.v.k = 2 ∧ p.v.t.size = 0) (hr : ∀ i, i + 1 < q.length → (q.getD i p0).t < (q.getD (i + 1) p0).t) : (encP q).2 = 0 := by
  have hl : (tsP q).length = q.length := tsP_len q
  have hv : (vsP q).length = q.length := by unfold vsP; exact List.length_map _
  have hr2 : risF (tsP q) ((tsP q).length - 1) = true := risT (fun i hi => by
    rw [hl] at hi
    rw [tsP_get q i (by omega), tsP_get q (i + 1) hi]
    exact hr i hi) _ (Nat.le_refl _)
  have ht := encS_some (l := tsP q) (by rw [hl]; omega) (by rw [hl]; omega) hr2
  have hvk : ∀ v ∈ vsP q, v.k = 2 ∧ v.t.size = 0 := by
    intro v hv
    obtain ⟨p, hp, rfl⟩ := List.mem_map.1 hv
    exact hk p hp
  have h0 : ((vsP q).getD 0 v0).k = 2 := (hvk _ (getD_mem _ 0 v0 (by rw [hv]; omega))).1
  have hf : (vsP q).all formV = true := by
    rw [List.all_eq_true]
    intro v hv
    rw [formV_2 (hvk v hv).1]
    exact decide_eq_true (hvk v hv).2
  have ha : ((vsP q).all fun v => decide (v.k = ((vsP q).getD 0 v0).k)) = true := by
    rw [List.all_eq_true]
    intro v hv
    rw [h0]
    exact decide_eq_true (hvk v hv).1
  have hc : (encC (vsP q)).2 = 0 := by
    rw [encC_ok (by rw [hv]; omega) hf ha, h0, if_neg (by decide), if_pos rfl]
  rw [encP_ok ht (show encC (vsP q) = ((encC (vsP q)).1, 0) by rw [← hc])]
theorem foldP_some (M : Nat) : ∀ (qs : List (List Pn)) (o x : List UInt8), (∀ q ∈ qs, (encP q).2 = 0 ∧ (encP q).1.length ≤ M) → o.length + qs.length * M < 1073741824 →
    ∃ o' x', qs.foldl stP (some (o, x)) = some (o', x') ∧ o'.length ≤ o.length + qs.length * M ∧ x'.length = x.length + 24 * qs.length
  | [], o, x, _, _ => ⟨o, x, rfl, by simp, by simp⟩
  | q :: qs, o, x, h, hl => by
    obtain ⟨h1, h2⟩ := h q (List.mem_cons_self ..)
    rw [List.length_cons, Nat.add_mul, Nat.one_mul] at hl
    have hs : stP (some (o, x)) q = some (o ++ (encP q).1, x ++ entP o q) := by
      unfold stP
      dsimp only
      rw [if_neg (by omega)]
    obtain ⟨o', x', h3, h4, h5⟩ := foldP_some M qs (o ++ (encP q).1) (x ++ entP o q) (fun q' hq => h q' (List.mem_cons_of_mem _ hq)) (by rw [List.length_append]; omega)
    rw [List.length_append] at h4 h5
    rw [entP_len] at h5
    refine ⟨o', x', by rw [List.foldl_cons, hs]; exact h3, ?_, ?_⟩
    · rw [List.length_cons, Nat.add_mul, Nat.one_mul]; omega
    · rw [List.length_cons]; omega
theorem bk_mem {F D : Int} {n : Nat} {p : Pn} (h : p ∈ bkL F D n) : ∃ i, i < n ∧ p = bkP F D i := by
  unfold bkL upto at h
  obtain ⟨i, hi, rfl⟩ := List.mem_map.1 h
  exact ⟨i, List.mem_range.1 hi, rfl⟩
theorem bk_ok {F D : Int} (hF : -2305843009213693952 ≤ F ∧ F ≤ 2305843009213693951) (hD : 1 ≤ D ∧ D ≤ 256) {n : Nat} (hn : n ≤ 2500) : ∀ p ∈ bkL F D n, p.ok := by
  intro p hp
  obtain ⟨i, hi, rfl⟩ := bk_mem hp
  have h1 : (i : Int) * D ≤ 2500 * 256 := Int.mul_le_mul (by omega) hD.2 (by omega) (by omega)
  have h2 : 0 ≤ (i : Int) * D := Int.mul_nonneg (by omega) (by omega)
  unfold bkP
  generalize (i : Int) * D = z at *
  refine ⟨?_, ?_, ?_⟩
  · unfold i64ok; dsimp only; omega
  · unfold i64ok; dsimp only; omega
  · dsimp only; omega
theorem bk_rise {F D : Int} (hD : 1 ≤ D) (i : Nat) : (bkP F D i).t < (bkP F D (i + 1)).t := by
  unfold bkP
  dsimp only
  have : ((i + 1 : Nat) : Int) * D = (i : Int) * D + D := by rw [show ((i + 1 : Nat) : Int) = (i : Int) + 1 by omega, Int.add_mul, Int.one_mul]
  rw [this]
  generalize (i : Int) * D = z at *
  omega
theorem bk_frm {F D : Int} (hD : 1 ≤ D) {s f : ByteArray} (hs : s.size ≤ 4000) (hf : f.size ≤ 4000) {n : Nat} (h1 : 1 ≤ n) (h2 : n ≤ 2500) : frmC [⟨s, f, bkL F D n⟩] = true := by
  have hp : ptF (bkL F D n) n = true := by
    unfold ptF
    rw [List.all_eq_true]
    intro k hk
    have hk2 := List.mem_range.1 hk
    unfold pkF
    rw [bkL_at F D n k hk2, bkL_at F D n 0 (by omega)]
    have e1 : formV (bkP F D k).v = true := by rw [formV_2 rfl]; rfl
    rw [e1, decide_eq_true (show (bkP F D k).v.k = (bkP F D 0).v.k from rfl)]
    by_cases h0 : k = 0
    · rw [decide_eq_true h0]; rfl
    · obtain ⟨m, rfl⟩ : ∃ m, k = m + 1 := ⟨k - 1, by omega⟩
      rw [show m + 1 - 1 = m from rfl, bkL_at F D n m (by omega), decide_eq_true (bk_rise hD m)]
      simp
  have hh : hdF [⟨s, f, bkL F D n⟩] 0 = true := by
    unfold hdF
    show ((decide (0 = 0) || ltC ([(⟨s, f, bkL F D n⟩ : Cn)].getD (0 - 1) c0) ([(⟨s, f, bkL F D n⟩ : Cn)].getD 0 c0)) && (decide (s.size ≤ 4000) && (decide (f.size ≤ 4000) && (decide (1 ≤ (bkL F D n).length) && decide ((bkL F D n).length ≤ 1000000))))) = true
    rw [bkL_len, decide_eq_true hs, decide_eq_true hf, decide_eq_true h1, decide_eq_true (show n ≤ 1000000 by omega)]
    rfl
  have hc : colF [⟨s, f, bkL F D n⟩] 0 = true := by
    unfold colF
    rw [hh]
    show ptF (bkL F D n) (bkL F D n).length = true
    rw [bkL_len]
    exact hp
  unfold frmC colsF
  show ((List.range 1).all (colF [⟨s, f, bkL F D n⟩]) && decide (1 ≤ 1048576)) = true
  rw [show List.range 1 = [0] from rfl, List.all_cons, hc]
  rfl
theorem bk_enc {F D : Int} (hF : -2305843009213693952 ≤ F ∧ F ≤ 2305843009213693951) (hD : 1 ≤ D ∧ D ≤ 256) {s f : ByteArray} (hs : s.size ≤ 4000) (hf : f.size ≤ 4000) {n : Nat} (h1 : 1 ≤ n) (h2 : n ≤ 2500) :
    ∃ b, encL [⟨s, f, bkL F D n⟩] = (b, 0) := by
  have hok := bk_ok hF hD h2
  have hqs : ∀ q ∈ partsP (bkL F D n), (encP q).2 = 0 ∧ (encP q).1.length ≤ 10010000 := by
    intro q hq
    unfold partsP upto at hq
    obtain ⟨j, hj, rfl⟩ := List.mem_map.1 hq
    have hj2 := List.mem_range.1 hj
    rw [bkL_len] at hj2
    have hlt := nParts_lt hj2
    have hl := partP_len (bkL F D n) j
    rw [bkL_len] at hl
    refine ⟨encP_int (by omega) (by omega) (fun p hp => ?_) (fun i hi => ?_), encP_bound (fun p hp => hok p (partP_mem hp))⟩
    · obtain ⟨i, _, rfl⟩ := bk_mem (partP_mem hp)
      exact ⟨rfl, rfl⟩
    · rw [partP_get _ j i (by omega), partP_get _ j (i + 1) hi, bkL_at F D n _ (by omega), bkL_at F D n _ (by omega)]
      exact bk_rise hD.1 _
  have hnp : (partsP (bkL F D n)).length ≤ 3 := by rw [partsP_len, bkL_len]; unfold nParts; omega
  obtain ⟨o', x', h3, h4, h5⟩ := foldP_some 10010000 (partsP (bkL F D n)) magB ([] ++ hdC ⟨s, f, bkL F D n⟩) hqs (by have : magB.length = 5 := rfl; omega)
  refine ⟨fin o' x', encL_ok (bk_frm hD.1 hs hf h1 h2) ?_⟩
  show stC (some (magB, [])) ⟨s, f, bkL F D n⟩ = some (o', x')
  unfold stC
  dsimp only
  rw [h3]
  dsimp only
  rw [if_neg]
  rw [List.length_append, hdC_len, toList_len, toList_len] at h5
  have : magB.length = 5 := rfl
  dsimp only at h5
  simp only [List.length_nil] at h5
  omega
end Go.Proofs.YthcgalpabjjkoaaDoor

/- XBlocks12: FileBlocks' walk. -/
namespace Go.Proofs.YthcgalpabjjkoaaDoor
open Go.RowKit Go.ChangeShapes Go.WideShapes Go.ChangeAt
set_option linter.unusedVariables false
set_option maxRecDepth 100000

set_option maxHeartbeats 4000000 in
theorem fileBlocks_run (n : Nat) (hn : n < 65536) (f : Int) (hf : i64ok f) (y : Nat) (hy : y ≤ 255) (w : World) (ht : Tab w) :
    Calls Tryd.prog 3 #[.int .u16 (n : Int), .int .i64 f, .int .u8 (y : Int)] w fun e w' => e = .returned (.bool true) ∧ Below w.heap.size w w' := by
  have HTB := Lib.hid ht
  unfold i64ok at hf
  obtain ⟨c1, hc⟩ : ∃ c, c = n % 2500 := ⟨_, rfl⟩
  have hcI : (n : Int) % 2500 = (c1 : Int) := by omega
  have hcl : c1 < 2500 := by omega
  obtain ⟨c, hcc⟩ : ∃ c, c = 1 + c1 := ⟨_, rfl⟩
  have hccI : 1 + (c1 : Int) = (c : Int) := by omega
  have hccw : IntKind.i64.wrap (1 + (c1 : Int)) = (c : Int) := by rw [hccI]; exact IntWalk.i64_in _ (by omega)
  obtain ⟨F, hF⟩ : ∃ F, F = f.tdiv 4 := ⟨_, rfl⟩
  have hFr : -2305843009213693952 ≤ F ∧ F ≤ 2305843009213693951 := by
    rw [hF]
    rcases Int.le_total 0 f with h | h
    · rw [Int.tdiv_eq_ediv_of_nonneg h]; omega
    · obtain ⟨g, rfl⟩ : ∃ g, f = -g := ⟨-f, by omega⟩
      rw [Int.neg_tdiv, Int.tdiv_eq_ediv_of_nonneg (by omega)]
      omega
  have hFq : f.tdiv 4 = F := hF.symm
  obtain ⟨D, hD⟩ : ∃ D : Int, D = 1 + (y : Int) := ⟨_, rfl⟩
  have hDr : 1 ≤ D ∧ D ≤ 256 := by omega
  have hDI : 1 + (y : Int) = D := hD.symm
  have hDw : IntKind.i64.wrap (1 + (y : Int)) = D := by rw [hDI]; exact IntWalk.i64_in _ (by omega)
  have hcw : IntKind.i64.wrap (c1 : Int) = (c1 : Int) := IntWalk.i64_in _ (by omega)
  have hyw : IntKind.i64.wrap (y : Int) = (y : Int) := IntWalk.i64_in _ (by omega)
  have hc12 : 1 ≤ c ∧ c ≤ 2500 := by omega
  have HC12 := Lib.hid hc12
  clear ht hc hF hcc hD
  go_enter Tryd.func3, Tryd.ntmps3
  go_wp2_with (go_at_call 5; refine (awake12_any w HTB.out).mono ?_; rintro e w1 ⟨rfl, hb1⟩; have HB1 := Lib.hid hb1; clear hb1)
  have HT1 := Lib.hid (HTB.out.below HB1.out)
  go_loopg [7, 24] c (fun m s7 s24 wr => ∃ (j : Nat) (ao : Option Addr) (cap : Nat), j + m = c ∧ s24 = .int .i64 (j : Int) ∧ s7 = .slice ao j cap ∧ Hid (OwnP wr w.heap.size (.slice ao j cap) (bkL F D j)) ∧ Hid (Below w.heap.size w wr))
  case atStart => exact ⟨0, none, 0, by omega, rfl, rfl, Lib.hid (OwnP.nil _ _), HB1⟩
  case round =>
    obtain ⟨j, ao, cap, hj, rfl, rfl, HO, HB⟩ := hrel
    clear hcI hccI hccw hFq
    by_cases h0 : gk = 0
    · obtain rfl : j = c := by omega
      clear hj h0 hDI hDw
      go_upto_region 11 with fail
      have hbl : Below wr.heap.size wr (wr.alloc (.cells #[.string ⟨#[115]⟩, .string ⟨#[102]⟩, .slice ao j cap] 31)) := (Below.refl _ _).alloc (Nat.le_refl _) _
      have hcb : Cols (wr.alloc (.cells #[.string ⟨#[115]⟩, .string ⟨#[102]⟩, .slice ao j cap] 31)) (.slice (some ⟨wr.heap.size, 0, none⟩) 1 1) [⟨⟨⟨#[115]⟩, ⟨#[102]⟩, bkL F D j⟩, .slice ao j cap⟩] :=
        ⟨RdV.lit wr #[.string ⟨#[115]⟩, .string ⟨#[102]⟩, .slice ao j cap] 31 1 3 (by decide) rfl, fun c hc => by
          simp only [List.mem_singleton] at hc
          subst hc
          exact RdV.below HO.out.pns hbl⟩
      have HB0 := Lib.hid (HB.out.trans (hbl.mono HB.out.size))
      have HCB := Lib.hid hcb
      obtain ⟨b, hb⟩ := bk_enc hFr hDr (s := ⟨#[115]⟩) (f := ⟨#[102]⟩) (by decide) (by decide) hc12.1 hc12.2
      have HE : Hid (encL (cnS [⟨⟨⟨#[115]⟩, ⟨#[102]⟩, bkL F D j⟩, .slice ao j cap⟩]) = (b, 0)) := Lib.hid hb
      have HOK : Hid (∀ c ∈ ([⟨⟨⟨#[115]⟩, ⟨#[102]⟩, bkL F D j⟩, .slice ao j cap⟩] : List Cb), c.c.ok) := Lib.hid (fun c hc => by
        simp only [List.mem_singleton] at hc
        subst hc
        exact bk_ok hFr hDr hc12.2)
      have HOKC : Hid (∀ c ∈ cnS [⟨⟨⟨#[115]⟩, ⟨#[102]⟩, bkL F D j⟩, .slice ao j cap⟩], c.ok) := Lib.hid (fun c hc => by
        obtain ⟨d, hd, rfl⟩ := List.mem_map.1 hc
        exact HOK.out d hd)
      have HPL : Hid (∀ c ∈ ([⟨⟨⟨#[115]⟩, ⟨#[102]⟩, bkL F D j⟩, .slice ao j cap⟩] : List Cb), c.c.p.length * 40 ≤ 140737488351232) := Lib.hid (fun c hc => by
        simp only [List.mem_singleton] at hc
        subst hc
        show (bkL F D j).length * 40 ≤ _
        rw [bkL_len]
        omega)
      have HLN : Hid (([⟨⟨⟨#[115]⟩, ⟨#[102]⟩, bkL F D j⟩, .slice ao j cap⟩] : List Cb).length * 56 ≤ 140737488351232) := Lib.hid (by show 1 * 56 ≤ _; omega)
      clear hb hbl hcb HO HB
      generalize ([⟨⟨⟨#[115]⟩, ⟨#[102]⟩, bkL F D j⟩, .slice ao j cap⟩] : List Cb) = L at *
      generalize wr.alloc (.cells #[.string ⟨#[115]⟩, .string ⟨#[102]⟩, .slice ao j cap] 31) = w2 at *
      generalize wr.heap.size = g at *
      have hE1 := fencode_any L (.slice (some ⟨g, 0, none⟩) 1 1) w2 HLN.out HPL.out HOK.out (HTB.out.below HB0.out) HCB.out
      unfold FeEnd at hE1
      rw [HE.out] at hE1
      dsimp only at hE1
      go_upto_region 12 with (go_at_call 6; refine hE1.mono ?_; rintro _ w3 ⟨hb3, ao3, cap3, rfl, ho3⟩; have HB3 := Lib.hid (HB0.out.trans (hb3.mono HB0.out.size)); have HO3 := Lib.hid ho3.rd; have HC3 := Lib.hid (HCB.out.below hb3); clear hb3 ho3 hE1)
      have hE2 := rfencode_any L (.slice (some ⟨g, 0, none⟩) 1 1) w3 HLN.out HPL.out HOK.out HC3.out
      unfold FeEnd at hE2
      rw [HE.out] at hE2
      dsimp only at hE2
      go_upto_region 13 with (go_at_call 7; refine hE2.mono ?_; rintro _ w4 ⟨hb4, ao4, cap4, rfl, ho4⟩; have HB4 := Lib.hid (HB3.out.trans (hb4.mono HB3.out.size)); have HO4 := Lib.hid ho4.rd; have HO34 := Lib.hid (RdV.below HO3.out hb4); have HC4 := Lib.hid (HC3.out.below hb4); clear hb4 ho4 hE2)
      have hD := fdecode_any (cnS L) b HE.out HOKC.out (.slice ao3 b.length cap3) w4 (HTB.out.below HB4.out) HO34.out
      go_upto_region 14 with (go_at_call 8; refine hD.mono ?_; rintro _ w5 ⟨hb5, cs, ao5, cap5, rfl, hcs, hcc, _⟩; have HB5 := Lib.hid (HB4.out.trans (hb5.mono HB4.out.size)); have HS5 := Lib.hid hcs; have HC5 := Lib.hid hcc; have HO35 := Lib.hid (RdV.below HO34.out hb5); have HO45 := Lib.hid (RdV.below HO4.out hb5); have HL5 := Lib.hid (HC4.out.below hb5); clear hb5 hcs hcc hD)
      have hv1 := run_str (P := Tryd.prog) HO35.out 33 5 9 Tryd.underlying33 Tryd.underlying5 Tryd.underlying9
      have hv2 := run_str (P := Tryd.prog) HO45.out 33 5 9 Tryd.underlying33 Tryd.underlying5 Tryd.underlying9
      have hSC := sameColumns_any cs L (.slice ao5 cs.length cap5) (.slice (some ⟨g, 0, none⟩) 1 1) w5 HC5.out HL5.out HS5.out
      go_wp2_with (go_at_call 9; refine hSC.mono ?_; rintro _ _ ⟨rfl, q5, rfl⟩)
      go_ret
      exact ⟨by simp, below_dr HB5.out _⟩
    · have hjc : j < c := by omega
      obtain ⟨z, hz⟩ : ∃ z, z = (j : Int) * D := ⟨_, rfl⟩
      have hz1 : z ≤ 2500 * 256 := by rw [hz]; exact Int.mul_le_mul (by omega) hDr.2 (by omega) (by omega)
      have hz2 : 0 ≤ z := by rw [hz]; exact Int.mul_nonneg (by omega) (by omega)
      have hzI : (j : Int) * D = z := hz.symm
      have hzw : IntKind.i64.wrap ((j : Int) * D) = z := by rw [hzI]; exact IntWalk.i64_in _ (by omega)
      have hzu : IntKind.u64.wrap (j : Int) = (j : Int) := IntWalk.u64_in _ (by omega)
      have hFz : IntKind.i64.wrap (F + z) = F + z := IntWalk.i64_in _ (by omega)
      have HNX : Hid (bkL F D (j + 1) = bkL F D j ++ [⟨F + z, ⟨2, j, ⟨#[]⟩⟩⟩]) := Lib.hid (by rw [bkL_next, hz]; rfl)
      have HLL : Hid ((bkL F D j).length = j) := Lib.hid (bkL_len _ _ _)
      clear hz
      generalize bkL F D j = X at *
      go_upto_region 9 with (at_builtin; refine wpList_append_pn _ rfl (.tmp 27) (.tmp 39) rfl w.heap.size (.slice ao j cap) X ⟨F + z, ⟨2, j, ⟨#[]⟩⟩⟩ rfl HO.out rfl (by rw [HLL.out]; omega) HB.out.size ?_; intro ao4 cap4 w4 ho4 hc4; rw [HLL.out] at ho4 ⊢; rw [← HNX.out] at ho4; have HO4 := Lib.hid ho4; have HB4 := Lib.hid (HB.out.trans (hc4.below HB.out.size (fun _ h => h))); clear ho4 hc4)
      go_wp2_with fail
      go_roundg (gk - 1)
      case measure => go_light; omega
      case rel =>
        go_light
        exact ⟨j + 1, ao4, cap4, by omega, by go_num, rfl, HO4, HB4⟩
theorem fileBlocks_walk {H : Type} (enc : TypeId × Value → H) (W : World) (base : Nat) (v0 v1 v2 : Value) (d0 d1 d2 : DataW H) (p0 p1 p2 : List MemPlace)
    (o0 : Value.okWide Tryd.prog W .any base 22 v0) (o1 : Value.okWide Tryd.prog W .any base 2 v1) (o2 : Value.okWide Tryd.prog W .any base 5 v2)
    (t0 : DataW.Trod enc Tryd.prog W 0 (fun _ => true) true 22 v0 d0 p0) (t1 : DataW.Trod enc Tryd.prog W 0 (fun _ => true) true 2 v1 d1 p1) (t2 : DataW.Trod enc Tryd.prog W 0 (fun _ => true) true 5 v2 d2 p2)
    (hsz : (DataW.weightsEach Tryd.prog [22, 2, 5] [d0, d1, d2]).all (· ≤ reachBytes) = true) (ht : Tab W) :
    Calls Tryd.prog 3 #[v0, v1, v2] W fun e W' => e = .returned (.bool true) ∧ Below W.heap.size W W' := by
  obtain ⟨a0, rfl, rfl, rfl, w0⟩ := open_int Tryd.underlying22 o0 t0
  obtain ⟨a1, rfl, rfl, rfl, w1⟩ := open_int Tryd.underlying2 o1 t1
  obtain ⟨a2, rfl, rfl, rfl, w2⟩ := open_int Tryd.underlying5 o2 t2
  have hy := wf_u8 w2
  have h0 := wf_u16' w0
  obtain ⟨m, rfl⟩ := Int.eq_ofNat_of_zero_le hy.1
  obtain ⟨n, rfl⟩ := Int.eq_ofNat_of_zero_le h0.1
  exact fileBlocks_run n (by omega) a1 (wf_i64' w1) m (by omega) W ht
end Go.Proofs.YthcgalpabjjkoaaDoor

/- XLawFileBlocks: The statement 'FileBlocksCardSaid', out of its walk 'fileBlocks_walk': the frame of a tied card: the table of math/bits reads as it is laid. Conditions: none beyond the form's own reach. -/
namespace Go.Proofs.YthcgalpabjjkoaaDoor.lawFileBlocks
open Go.ChangeShapes Go.WideShapes Go.ChangeAt Go.RowKit
set_option linter.unusedVariables false
theorem own : ownKnob Tryd.prog.godebug = none := by kernel_rfl
theorem laidOut : laidOutB Tryd.prog = true := by kernel_rfl
theorem laid_met (os : Os) : laidMet Tryd.prog Rows.fileBlocksRow.laid ((laidWorld os).forCall (fun _ _ => 0) ⟨#[], #[.int .u16 0, .int .i64 0, .int .u8 0], []⟩).memory :=
  laidMet_of_run' 8 (by kernel_rfl) (by kernel_rfl)
theorem reads (os : Os) {H : Type} (enc : TypeId × Value → H) : ∃ places, DataW.whole enc Tryd.prog ((laidWorld os).forCall (fun _ _ => 0) ⟨#[], #[.int .u16 0, .int .i64 0, .int .u8 0], []⟩).memory Tryd.f3.params.toList Rows.fileBlocksSpec.vars false (#[.int .u16 0, .int .i64 0, .int .u8 0] : Array Value).toList 8 = some ([.lit (.int .u16 0), .lit (.int .i64 0), .lit (.int .u8 0)], [], places) :=
  ⟨[], by kernel_rfl⟩
set_option maxRecDepth 100000 in
theorem lifted (os : Os) (started : os.Started) (H : Type) (enc : TypeId × Value → H) (F : Stop.Interp) :
    ReturnsInHanded {} Tryd.checked os 3 .any ((OpenSpec.ofChange Rows.fileBlocksSpec).preRow enc Tryd.prog Tryd.f3 Rows.fileBlocksRow.domain false Rows.fileBlocksRow.laid) (((OpenSpec.ofChange Rows.fileBlocksSpec).at F).post enc Tryd.prog Tryd.f3 false true false false) := by
  obtain ⟨places, hx⟩ := reads os enc
  refine returnsInHanded_of_row (C := Tryd.checked) (s := OpenSpec.ofChange Rows.fileBlocksSpec) own started (by kernel_rfl) Tryd.func3
    (witness_row_at (enc := enc) (C := Tryd.checked) false (laidWorld os) #[.int .u16 0, .int .i64 0, .int .u8 0] rfl (by kernel_rfl) (by kernel_rfl) (by kernel_rfl)
      (OpenSpec.preRow_of_cond 8 hx (by kernel_rfl) (fun k hk => by cases hk) (by kernel_rfl) (laid_met os))) ?_
  intro W base args ds gs before hval0 hW _ hcnd hsz0 hL _ _
  have hval : ∀ (j : Nat) t v, Tryd.f3.params[j]? = some t → args[j]? = some v → Value.okWide Tryd.prog W .any base t v := hval0
  have hsz : (DataW.weightsEach Tryd.prog (Tryd.f3.params.toList ++ (OpenSpec.ofChange Rows.fileBlocksSpec).bare.plain.varTypes Tryd.prog) (ds ++ gs)).all (· ≤ reachBytes) = true := hsz0
  have hW' := hW
  obtain ⟨p, q, hA0, hV, rfl, hfz, hnd⟩ := hW
  have hA : DataW.TrodAll enc Tryd.prog W 0 (fun _ => true) true Tryd.f3.params.toList args.toList ds p := hA0
  rw [Tryd.params3] at hA hval hsz
  obtain ⟨v0, vs0, d0, ds0, p0, q0, hargs, rfl, rfl, t0, r0⟩ := trodAll_cons hA
  obtain ⟨v1, vs1, d1, ds1, p1, q1, rfl, rfl, rfl, t1, r1⟩ := trodAll_cons r0
  obtain ⟨v2, vs2, d2, ds2, p2, q2, rfl, rfl, rfl, t2, r2⟩ := trodAll_cons r1
  obtain ⟨rfl, rfl, rfl⟩ := trodAll_nil r2
  obtain rfl : args = #[v0, v1, v2] := by cases args; simp_all
  obtain ⟨rfl, rfl⟩ := trodVars_none hV
  have lt0 : ∀ x ∈ p0, x.block < W.heap.size := by obtain ⟨m, hm⟩ := t0; exact DataW.trod_lt m _ _ _ hm
  have lt1 : ∀ x ∈ p1, x.block < W.heap.size := by obtain ⟨m, hm⟩ := t1; exact DataW.trod_lt m _ _ _ hm
  have lt2 : ∀ x ∈ p2, x.block < W.heap.size := by obtain ⟨m, hm⟩ := t2; exact DataW.trod_lt m _ _ _ hm
  have hsz2 : (DataW.weightsEach Tryd.prog [22, 2, 5] [d0, d1, d2]).all (· ≤ reachBytes) = true := hsz
  refine (fileBlocks_walk enc W base v0 v1 v2 d0 d1 d2 p0 p1 p2 (hval 0 22 v0 rfl rfl) (hval 1 2 v1 rfl rfl) (hval 2 5 v2 rfl rfl) t0 t1 t2 hsz2 (tab_of hL)).mono fun e W' ⟨he, bel⟩ => ?_
  subst he
  exact ⟨_, rfl, _, _, _, [], _, [], hW', trodAll_mk1 (shut_bool Tryd.underlying4 _), (trodAll_cons_mk (Below.trod laidOut (by kernel_rfl) (of_decide_eq_true (by kernel_rfl)) t0 bel lt0) (trodAll_cons_mk (Below.trod laidOut (by kernel_rfl) (of_decide_eq_true (by kernel_rfl)) t1 bel lt1) (trodAll_cons_mk (Below.trod laidOut (by kernel_rfl) (of_decide_eq_true (by kernel_rfl)) t2 bel lt2) trodAll_mk0))), rfl, bel.frame _, fun h => by cases h⟩
theorem said : Rows.FileBlocksSaid :=
  OpenClaim.holds_of_cond 3 Tryd.f3 rfl rfl rfl rfl rfl rfl rfl ⟨rfl, rfl, rfl, rfl, rfl⟩ rfl rfl rfl rfl rfl (by kernel_rfl) Tryd.func3 (by kernel_rfl)
    (of_decide_eq_true (by kernel_rfl)) (by unfold Func.isWrapper; first | (rw [if_pos (by decide +kernel)]; kernel_rfl) | (rw [if_neg (by decide +kernel)]; exact ⟨rfl, rfl⟩))
    (fun os started H enc _ F => by rw [OpenClaim.pre_eq_preRow]; exact lifted os started H enc F)
theorem plain (f : FuncId) (fn : Func) (hf : Tryd.pinned.checked.prog.funcNamed "grist/gristlaw12.FileBlocks" = some f) (hfn : Tryd.pinned.checked.prog.funcs[f]? = some fn) :
    false = Tryd.pinned.checked.prog.looks [] ∧ ∀ (j : Nat) t, fn.params[j]? = some t → Tryd.pinned.checked.prog.wantsStandIn t = false := by
  obtain rfl : f = 3 := Option.some.inj ((show Tryd.prog.funcNamed "grist/gristlaw12.FileBlocks" = some 3 by kernel_rfl).symm.trans hf) |>.symm
  obtain rfl : fn = Tryd.f3 := (Option.some.inj (Tryd.func3.symm.trans hfn)).symm
  refine ⟨by kernel_rfl, fun j t ht => ?_⟩
  rw [Tryd.params3] at ht
  have hm : t ∈ [22, 2, 5] := by simpa using Array.mem_of_getElem? ht
  have hall : ([22, 2, 5].all fun u => !Tryd.prog.wantsStandIn u) = true := by kernel_rfl
  exact (show Tryd.prog.wantsStandIn t = false by simpa using List.all_eq_true.1 hall t hm)
theorem proved : Rows.FileBlocksCardSaid :=
  Claim7.holds_tied_plain_at .later [] _ _ _ _ said (fun _ h => by cases h) (by kernel_rfl) (fun _ h => by cases h) fileBlocks_row_tie rfl ⟨rfl, rfl⟩ (by kernel_rfl) rfl plain (by kernel_rfl)
#print axioms proved
end Go.Proofs.YthcgalpabjjkoaaDoor.lawFileBlocks
