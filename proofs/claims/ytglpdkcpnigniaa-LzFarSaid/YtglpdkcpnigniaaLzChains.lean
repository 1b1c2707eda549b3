/- The contracts of gristref06.chains and place. -/
import Derived.Test.YtglpdkcpnigniaaLzFlush
import Derived.Test.YtglpdkcpnigniaaLzRefPlain
import Derived.OwnWalk
import Derived.Laws.BitsAllLaws
namespace Go.Proofs.Ytglpdkcpnigniaa
open Go.RowKit
set_option linter.unusedVariables false

def iV (x : Int) : Value := .int .i64 x
/-- The table of the latest places, when the places below s are known; the chains of the places below s. -/
def tab (b : List UInt8) (s : Nat) : List Value := (List.range 65536).map fun x => iV (lst b x s)
def chn (b : List UInt8) (n s : Nat) : List Value := (List.range n).map fun j => iV (if j < s then (lst b (pv b j) j : Int) - 1 else 0)

theorem infoInt : (Try.prog.info? 3).map (fun i => (i.zero, i.size, i.bytes)) = some (some (.int .i64 0), 1, 8) := by kernel_rfl

theorem int_zeros (n : Nat) : (madeCells (Value.int .i64 0).cells (n * 1)).toList = (List.range n).map fun _ => iV 0 := by
  apply List.ext_getElem?
  intro i
  simp [madeCells, Value.cells, iV, Nat.mod_one]

theorem rowAt {w : World} {base e : TypeId} {v : Value} {n : Nat} {xs : List Value} (h : w.ownsRow base e 1 v n xs) (k : Nat) (hk : k < n) :
    ∃ g cap, v = .slice (some ⟨g, 0, none⟩) n cap ∧ base ≤ g ∧ g < w.heap.size ∧ w.cell? ⟨g, k, none⟩ = xs[k]? ∧ w.frozen? ⟨g, k, none⟩ = false ∧ ∀ z : Value, (w.setCell ⟨g, k, none⟩ z).ownsRow base e 1 v n (xs.set k z) := by
  have h0 := h
  rcases h.2 with ⟨_, h'⟩ | ⟨g, cap, cur, rfl, hb, _⟩
  · omega
  · refine ⟨g, cap, rfl, hb, (h.lt g rfl).2, ?_, h.frozenAt k, fun z => ?_⟩
    · rw [h.cellAt k (by omega)]
    · exact (h.stored k z).1

theorem tab_set (b : List UInt8) (s : Nat) : (tab b s).set (pv b s) (iV ((s : Int) + 1)) = tab b (s + 1) := by
  apply List.ext_getElem?
  intro i
  simp only [tab, List.getElem?_set, List.getElem?_map, List.length_map, List.length_range]
  have hp := pv_lt b s
  by_cases h1 : pv b s = i
  · subst h1
    rw [if_pos rfl, if_pos hp, List.getElem?_range hp]
    simp [lst, iV]
  · rw [if_neg h1]
    by_cases h2 : i < 65536
    · rw [List.getElem?_range h2]
      simp [lst, h1]
    · simp [List.getElem?_eq_none (show (List.range 65536).length ≤ i by simp; omega)]

theorem tab_at (b : List UInt8) (s x : Nat) (hx : x < 65536) : (tab b s)[x]? = some (iV (lst b x s)) := by
  simp [tab, List.getElem?_range hx]

theorem chn_at (b : List UInt8) (n s j : Nat) (hj : j < n) : (chn b n s)[j]? = some (iV (if j < s then (lst b (pv b j) j : Int) - 1 else 0)) := by
  simp [chn, List.getElem?_range hj]

theorem chn_set (b : List UInt8) (n s : Nat) (hs : s < n) : (chn b n s).set s (iV ((lst b (pv b s) s : Int) - 1)) = chn b n (s + 1) := by
  apply List.ext_getElem?
  intro i
  simp only [chn, List.getElem?_set, List.getElem?_map, List.length_map, List.length_range]
  by_cases h1 : s = i
  · subst h1
    rw [if_pos rfl, if_pos hs, List.getElem?_range hs]
    simp
  · rw [if_neg h1]
    by_cases h2 : i < n
    · rw [List.getElem?_range h2]
      have : (i < s + 1) = (i < s) := by apply propext; omega
      simp [this]
    · simp [List.getElem?_eq_none (show (List.range n).length ≤ i by simp; omega)]

theorem i64_pair (x y : Nat) (hx : x < 256) (hy : y < 256) : bits .or .i64 ((x : Int) * 256) (y : Int) = ((x * 256 + y : Nat) : Int) := by
  have hor : x * 256 ||| y = x * 256 + y := by
    have := Nat.two_pow_add_eq_or_of_lt (show y < 2 ^ 8 by omega) x
    rw [show x * 256 = 2 ^ 8 * x by omega]
    exact this.symm
  have e : ((x : Int) * 256) = ((x * 256 : Nat) : Int) := by simp
  show IntKind.i64.wrap ((BitVec.ofInt 64 ((x : Int) * 256) ||| BitVec.ofInt 64 (y : Int)).toNat : Int) = _
  rw [e, BitVec.toNat_or, ofInt_u64 _ (by omega), ofInt_u64 _ (by omega), hor]
  exact IntWalk.i64_in _ (by omega)

set_option maxHeartbeats 2000000 in
set_option maxRecDepth 100000 in
theorem chains_any (bs : List UInt8) (v : Value) (w : World) (hn : bs.length ≤ 1000000) (hr : Rd w v bs) :
    Calls Try.prog 11 #[v] w fun e w' => ∃ ao cap, e = .returned (.slice ao bs.length cap) ∧ RdV w' 1 (.slice ao bs.length cap) bs.length (chn bs bs.length (bs.length - 1)) ∧ Below w.heap.size w w' := by
  obtain ⟨i0, hi0, hz0, hz1, hz2⟩ := info_parts infoInt
  obtain ⟨ao0, cap0, rfl, hnc, hcm⟩ := RdV.shape hr
  unfold maxLen at hcm
  go_enter Try.func11, Try.ntmps11
  go_upto_region 2 with (at_make; refine wpList_make_full _ rfl _ _ 38 rfl w.heap.size 3 i0 (.int .i64 0) 1 Try.underlying38 hi0 hz0 hz1 _ _ _ _ 65536 rfl rfl rfl rfl (by rw [hz2]; omega) (by unfold maxLen; omega) (Nat.le_refl _) ?_; intro w2 hown2 hgrow2; rw [int_zeros] at hown2; have HO2 := Lib.hid hown2; have HG2 := Lib.hid hgrow2; clear hown2 hgrow2)
  go_wp2_with (at_make; refine wpList_make_full _ rfl _ _ 38 rfl w2.heap.size 3 i0 (.int .i64 0) 1 Try.underlying38 hi0 hz0 hz1 _ _ _ _ bs.length rfl rfl rfl rfl (by rw [hz2]; omega) (by unfold maxLen; omega) (Nat.le_refl _) ?_; intro w3 hown3 hgrow3; rw [int_zeros] at hown3; have HO3 := Lib.hid hown3; have HG3 := Lib.hid hgrow3; clear hown3 hgrow3)
  have hc3 : Chg (fun _ => False) w2 w3 := (Chg.refl (fun _ => False) w2).grown HG3.out (fun k _ h => by cases h)
  have hc2 : Chg (fun _ => False) w w2 := (Chg.refl (fun _ => False) w).grown HG2.out (fun k _ h => by cases h)
  have HL3 := Lib.hid (hc3.owns HO2.out (fun _ _ h => h))
  have HB3 := Lib.hid ((hc2.trans hc3).below (Nat.le_refl _) (fun _ h => h.elim))
  have hg1 : w.heap.size < w2.heap.size := (HO2.out.lt w.heap.size rfl).2
  obtain ⟨B2, hB2⟩ : ∃ B2, B2 = w2.heap.size := ⟨_, rfl⟩
  rw [← hB2] at HO3 hg1 ⊢
  clear HO2 HG2 HG3 hc3 hc2 hi0 hz0 hz1 hz2 hB2
  go_loopg [5] bs.length (fun m s5 wr => ∃ i : Nat, i + m = bs.length ∧ i ≤ bs.length - 1 ∧ s5 = .int .i64 (i : Int) ∧ Hid (wr.ownsRow w.heap.size 3 1 (.slice (some ⟨w.heap.size, 0, none⟩) 65536 65536) 65536 (tab bs i)) ∧
    Hid (wr.ownsRow B2 3 1 (.slice (some ⟨B2, 0, none⟩) bs.length bs.length) bs.length (chn bs bs.length i)) ∧ Hid (Below w.heap.size w wr))
  case atStart => exact ⟨0, by omega, by omega, rfl, Lib.hid (by have := HL3.out; unfold tab; simpa [lst] using this), Lib.hid (by have := HO3.out; unfold chn; simpa using this), HB3⟩
  case round =>
    clear HL3 HO3 HB3
    obtain ⟨i, hm, hi, rfl, hL, hO, hB⟩ := hrel
    by_cases h0 : i + 1 < bs.length
    · have hrd : Rd wr (.slice ao0 bs.length cap0) bs := RdV.below hr.v hB.out
      obtain ⟨b, off, bcap, hbv, hbn, hbm, hbl, hcell⟩ := RdV.some hrd.v (by omega) (by decide)
      simp only [Value.slice.injEq, true_and] at hbv
      obtain ⟨rfl, rfl⟩ := hbv
      have hbw : b < w.heap.size := Rd.blk hr (by omega) b rfl
      have e0 : wr.cell? ⟨b, off + i, none⟩ = some (.int .u8 (bs[i].toNat : Int)) := hcell i _ (by simp [show i < bs.length by omega, bV])
      have e1 : wr.cell? ⟨b, off + (i + 1), none⟩ = some (.int .u8 (bs[i + 1].toNat : Int)) := hcell (i + 1) _ (by simp [h0, bV])
      have hpv : pv bs i = bs[i].toNat * 256 + bs[i + 1].toNat := by simp [pv, show i < bs.length by omega, h0]
      have hw1 : IntKind.i64.wrap ((i : Int) + 1) = (i : Int) + 1 := IntWalk.i64_in _ (by omega)
      have t1 : ((i : Int) + 1).toNat = i + 1 := by omega
      have t2 : (0 : Int) ≤ (i : Int) + 1 := by omega
      have t3 : (i : Int) + 1 < (bs.length : Int) := by omega
      have hx := bs[i].toNat_lt
      have hy := bs[i + 1].toNat_lt
      have HPV := Lib.hid hpv
      generalize bs[i].toNat = x at *
      generalize bs[i + 1].toNat = y at *
      clear hpv hcell hrd
      go_upto_region 6 with fail
      go_quiet (fail)
      rw [i64_pair x y hx hy, ← HPV.out]
      have hL1 : Hid ((wr.drewN nq).ownsRow w.heap.size 3 1 (.slice (some ⟨w.heap.size, 0, none⟩) 65536 65536) 65536 (tab bs i)) := hL
      have hO1 : Hid ((wr.drewN nq).ownsRow B2 3 1 (.slice (some ⟨B2, 0, none⟩) bs.length bs.length) bs.length (chn bs bs.length i)) := hO
      have hB1 : Hid (Below w.heap.size w (wr.drewN nq)) := Lib.hid ⟨hB.out.os, hB.out.tape, hB.out.output, hB.out.size, hB.out.block⟩
      clear hL hO hB e0 e1 HPV hw1 t1 t2 t3
      generalize wr.drewN nq = w1 at *
      have hpl := pv_lt bs i
      obtain ⟨g, gc, he, hg1', hg2, hc, hf, hset⟩ := rowAt hL1.out (pv bs i) hpl
      simp only [Value.slice.injEq, Option.some.injEq, Addr.mk.injEq, true_and, and_true] at he
      obtain ⟨he1, he2⟩ := he
      subst he1
      clear he2
      rw [tab_at bs i _ hpl] at hc
      obtain ⟨g2, gc2, he, hg3', hg4, hc2, hf2, hset2⟩ := rowAt hO1.out i (by omega)
      simp only [Value.slice.injEq, Option.some.injEq, Addr.mk.injEq, true_and, and_true] at he
      obtain ⟨he1, he2⟩ := he
      subst he1
      clear he2
      have hs2 := hset2 (iV ((lst bs (pv bs i) i : Int) - 1))
      rw [chn_set bs _ i (by omega)] at hs2
      rw [chn_at bs _ i i (by omega)] at hc2
      have hll := lst_le bs (pv bs i) i
      unfold iV at hc hs2
      obtain ⟨u2, hu2⟩ : ∃ u, w1.cell? ⟨B2, i, none⟩ = some u := ⟨_, hc2⟩
      have HS2 := Lib.hid hs2
      have hne : w.heap.size ≠ B2 := by omega
      have HT := Lib.hid (tab_set bs i)
      have HPL := Lib.hid hpl
      clear hset hset2 hs2 hO1 hc2
      generalize pv bs i = P at *
      generalize lst bs P i = L at *
      go_wp2_with fail
      go_roundg (gk - 1)
      case measure => go_light; omega
      case rel =>
        go_light
        have hL' := ((Chg.refl (fun k => k = B2) w1).setCell (p := ⟨B2, i, none⟩) (fun _ => rfl) (.int .i64 ((L : Int) - 1))).owns hL1.out (fun k hk h => by simp [Value.ownBlock] at hk; omega)
        obtain ⟨g, gc, he, _, _, _, _, hset⟩ := rowAt hL' P HPL.out
        simp only [Value.slice.injEq, Option.some.injEq, Addr.mk.injEq, true_and, and_true] at he
        obtain ⟨he1, he2⟩ := he
        subst he1
        have hs := hset (iV ((i : Int) + 1))
        rw [HT.out] at hs
        have hO' := ((Chg.refl (fun k => k = w.heap.size) (w1.setCell ⟨B2, i, none⟩ (.int .i64 ((L : Int) - 1)))).setCell (p := ⟨w.heap.size, P, none⟩) (fun _ => rfl) (.int .i64 ((i : Int) + 1))).owns HS2.out (fun k hk h => by simp [Value.ownBlock] at hk; omega)
        exact ⟨i + 1, by omega, by omega, by go_num, Lib.hid hs, Lib.hid hO', Lib.hid ((hB1.out.setCell (by simp; omega) _).setCell (by simp) _)⟩
    · have he : Hid (chn bs bs.length i = chn bs bs.length (bs.length - 1)) := Lib.hid (by rw [show i = bs.length - 1 by omega])
      go_wp2_with fail
      go_ret
      exact ⟨_, _, rfl, by rw [← he.out]; exact RdV.ofOwns hO.out, hB.out⟩

end Go.Proofs.Ytglpdkcpnigniaa
