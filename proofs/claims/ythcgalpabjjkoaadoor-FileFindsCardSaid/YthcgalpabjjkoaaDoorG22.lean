/- Texts of ours, behind one another: Find12. No conditions but those that each states. -/
import Derived.Test.YthcgalpabjjkoaaDoorG19
import Derived.Test.YthcgalpabjjkoaaDoorG20
import Derived.Test.YthcgalpabjjkoaaDoorG21
/- XFind12: file.Find of what Encode wrote; of one byte. -/
namespace Go.Proofs.YthcgalpabjjkoaaDoor
open Go.RowKit
set_option linter.unusedVariables false
set_option maxRecDepth 100000

/-- The points that a Find is to give. -/
def fnd (l : List Cn) (s f : ByteArray) (a b : Int) : List Pn := l.flatMap (fun c => if c.s = s ∧ c.f = f then c.p.filter (inR a b) else [])
theorem fnd_none {l : List Cn} {s f : ByteArray} {a b : Int} (h : ∀ k, k < l.length → ¬ ((l.getD k c0).s = s ∧ (l.getD k c0).f = f)) : fnd l s f a b = [] := by
  unfold fnd
  rw [List.flatMap_eq_nil_iff]
  intro c hc
  obtain ⟨k, hk, rfl⟩ := List.getElem_of_mem hc
  have := h k hk
  rw [getD_get l k c0 hk] at this
  rw [if_neg this]
theorem fnd_append (l m : List Cn) (s f : ByteArray) (a b : Int) : fnd (l ++ m) s f a b = fnd l s f a b ++ fnd m s f a b := List.flatMap_append
theorem fnd_at {l : List Cn} (hf : frmC l = true) {s f : ByteArray} {a b : Int} {k : Nat} (hk : k < l.length) (hs : (l.getD k c0).s = s ∧ (l.getD k c0).f = f) : fnd l s f a b = (l.getD k c0).p.filter (inR a b) := by
  have hsplit : l = l.take k ++ ([l.getD k c0] ++ l.drop (k + 1)) := by
    rw [getD_get l k c0 hk]
    conv => lhs; rw [← List.take_append_drop k l, List.drop_eq_getElem_cons hk]
    rfl
  have h1 : fnd (l.take k) s f a b = [] := fnd_none (fun j hj e => by
    rw [List.length_take] at hj
    have hjl : j < l.length := by omega
    have hg : (l.take k).getD j c0 = l.getD j c0 := by
      rw [List.getD_eq_getElem?_getD, List.getD_eq_getElem?_getD, List.getElem?_take, if_pos (by omega)]
    rw [hg] at e
    exact ltC_ne (frmC_lt hf (show j < k by omega) hk) ⟨e.1.trans hs.1.symm, e.2.trans hs.2.symm⟩)
  have h2 : fnd (l.drop (k + 1)) s f a b = [] := fnd_none (fun j hj e => by
    rw [List.length_drop] at hj
    have hg : (l.drop (k + 1)).getD j c0 = l.getD (k + 1 + j) c0 := by
      rw [List.getD_eq_getElem?_getD, List.getD_eq_getElem?_getD, List.getElem?_drop]
    rw [hg] at e
    exact ltC_ne (frmC_lt hf (show k < k + 1 + j by omega) (by omega)) ⟨hs.1.trans e.1.symm, hs.2.trans e.2.symm⟩)
  have h3 : fnd [l.getD k c0] s f a b = (l.getD k c0).p.filter (inR a b) := by
    unfold fnd
    rw [List.flatMap_cons, List.flatMap_nil, if_pos hs, List.append_nil]
  conv => lhs; rw [hsplit]
  rw [fnd_append, fnd_append, h1, h2, h3]
  simp

set_option maxHeartbeats 4000000 in
theorem find_any (l : List Cn) (bs : List UInt8) (hE : encL l = (bs, 0)) (hok : ∀ c ∈ l, c.ok) (s f : ByteArray) (a b : Int) (v : Value) (w : World) (ht : Tab w) (hr : Rd w v bs) :
    Calls Tryd.prog 10 #[v, .string s, .string f, .int .i64 a, .int .i64 b] w fun e w' => ∃ ao cap, e = .returned (.tuple #[.slice ao (fnd l s f a b).length cap, .int .i64 0]) ∧ Below w.heap.size w w' ∧ Pns w' (.slice ao (fnd l s f a b).length cap) (fnd l s f a b) := by
  obtain ⟨hfr, _⟩ := encL_zero hE
  have HFR := Lib.hid hfr
  have hc1 := frmC_count hfr
  have hbl : Below w.heap.size w ((w.alloc (.cells #[.int .i64 a] 2)).alloc (.cells #[.int .i64 b] 2)) := ((Below.refl _ _).alloc (Nat.le_refl _) _).alloc (by simp) _
  have HG : Hid (Rg ((w.alloc (.cells #[.int .i64 a] 2)).alloc (.cells #[.int .i64 b] 2)) w.heap.size (w.heap.size + 1) a b) := Lib.hid ⟨by simp [go_sem], by simp [go_sem], by simp; omega, by simp⟩
  have hD := fdecode_any l bs hE hok v ((w.alloc (.cells #[.int .i64 a] 2)).alloc (.cells #[.int .i64 b] 2)) (ht.below hbl) (RdV.below hr hbl)
  have hsz : ((w.alloc (.cells #[.int .i64 a] 2)).alloc (.cells #[.int .i64 b] 2)).heap.size = w.heap.size + 2 := by simp
  have HB0 := Lib.hid hbl
  have HSZ := Lib.hid hsz
  obtain ⟨ao, cap, rfl, _, _⟩ := hr.v.shape
  clear hE hok ht hr hfr hbl hsz
  go_enter Tryd.func10, Tryd.ntmps10
  go_upto_region 1 with fail
  have hg0 : w.heap.size < w.heap.size + 2 := by omega
  generalize (w.alloc (.cells #[.int .i64 a] 2)).alloc (.cells #[.int .i64 b] 2) = w0 at *
  have HW0 := Lib.hid (Nat.le_refl w.heap.size)
  obtain ⟨bf, hbf⟩ : ∃ k, k = w.heap.size := ⟨_, rfl⟩
  obtain ⟨bt, hbt⟩ : ∃ k, k = w.heap.size + 1 := ⟨_, rfl⟩
  rw [← hbt] at HG ⊢
  rw [← hbf] at HG
  have HBF := Lib.hid (And.intro hbf hbt)
  rw [show Value.pointer (some (⟨w.heap.size, 0, none⟩ : Addr)) = .pointer (some ⟨bf, 0, none⟩) by rw [hbf]]
  clear hbf hbt hg0
  go_upto_region 4 with (go_at_call 8; refine hD.mono ?_; rintro _ w2 ⟨hb2, cs, ao2, cap2, rfl, hcs, hcc, hcp⟩; have HB2 := Lib.hid (HB0.out.trans (hb2.mono HB0.out.size)); have HG2 := Lib.hid (HG.out.below hb2); have HS2 := Lib.hid hcs; have HC2 := Lib.hid hcc; have HP2 := Lib.hid hcp; clear hb2 hcs hcc hcp hD)
  have HCL : Hid (cs.length = l.length) := Lib.hid (by rw [← HS2.out, cnS_len])
  have hBS := bsearch_any cs ⟨s, f, []⟩ (.slice none 0 0) (.slice ao2 cs.length cap2) w2 (by rw [HCL.out]; exact hc1) (by rw [HS2.out]; exact HFR.out) HC2.out
  dsimp only at hBS
  go_upto_region 5 with (go_at_call 28; refine hBS.mono ?_; rintro _ w3 ⟨k, ok, rfl, hb3, hyes, hno⟩; have HB3 := Lib.hid (HB2.out.trans (hb3.mono HB2.out.size)); have HBX := Lib.hid hb3; have HYES := Lib.hid hyes; have HNO := Lib.hid hno; clear hb3 hyes hno hBS)
  cases ok with
  | false =>
    have hno := HNO.out rfl
    have hf0 : fnd l s f a b = [] := fnd_none (fun j hj => by
      rw [← HS2.out, cnS_get cs j (by rw [HCL.out]; exact hj)]
      exact hno j (by rw [HCL.out]; exact hj))
    have HF0 := Lib.hid hf0
    clear hno hf0 HNO HYES
    go_wp2_with fail
    go_ret2
    rw [HF0.out]
    exact ⟨none, 0, rfl, HB3.out, RdV.nil _ _⟩
  | true =>
    obtain ⟨hk, hn1, hn2⟩ := HYES.out rfl
    clear HNO HYES
    have hkl : k < l.length := by rw [← HCL.out]; exact hk
    have hce := cnS_get cs k hk
    rw [HS2.out] at hce
    have hf0 : fnd l s f a b = ((cs.getD k b0).c.p.filter (inR a b)) := by rw [fnd_at HFR.out hkl (by rw [hce]; exact ⟨hn1, hn2⟩), hce]
    obtain ⟨hz1, hz2, hz3, hz4⟩ := frmC_at HFR.out hkl
    rw [hce] at hz3 hz4
    have HF0 := Lib.hid hf0
    obtain ⟨lb, lo, lc, he, hlb, _, _, f2, _⟩ := col_at HC2.out k hk
    simp only [Value.slice.injEq, true_and] at he
    obtain ⟨rfl, rfl⟩ := he
    have hop := HP2.out (cs.getD k b0) (getD_mem cs k b0 hk)
    have g2 := (HBX.out.cell (p := ⟨lb, lo + k * 3 + 2, none⟩) hlb).trans f2
    have HO3 := Lib.hid (OwnP.below hop HBX.out)
    clear hop f2 hce hf0 hn1 hn2 hz1 hz2
    generalize (cs.getD k b0).c = c at *
    generalize (cs.getD k b0).pv = pv at *
    rcases HO3.out.2 with ⟨_, h0⟩ | ⟨g, gc, cur, rfl, hgb, _⟩
    · omega
    have HGB : Hid (w.heap.size + 2 ≤ g) := Lib.hid (by rw [← HSZ.out]; exact hgb)
    have hDel := deleteF_any c.p g gc bf bt a b w0.heap.size w3 hz3 hz4 HO3.out (HG2.out.below HBX.out) (by have := HBF.out.1; have := HGB.out; omega) (by have := HBF.out.2; have := HGB.out; omega)
    have hmf : ∀ (fn : Fn) (first cap : Array Value) (w : World), (Instr.makeFunc fn first cap).run Tryd.prog w = .ok (.func fn first cap) w := fun _ _ _ _ => rfl
    clear hgb
    generalize c.p.length = pn at *
    have hkI : (k : Int) < (cs.length : Int) := by omega
    have hcs : cs.length ≤ 1048576 := by rw [HCL.out]; exact hc1
    go_wp2_with (go_at_call 30; refine hDel.mono ?_; rintro _ w4 ⟨rfl, hc4, hp4⟩; have HC4 := Lib.hid hc4; have HP4 := Lib.hid hp4; clear hc4 hp4 hDel)
    go_ret2
    rw [HF0.out]
    exact ⟨some ⟨g, 0, none⟩, gc, rfl, HB3.out.trans (HC4.out.below HB3.out.size (fun q e => by have := HGB.out; omega)), HP4.out⟩
end Go.Proofs.YthcgalpabjjkoaaDoor
