/- tomb.Decode. (printed by gen_tdec.py) -/
import Derived.Test.YtmhmmnleijadnaaTombInj
import Derived.Test.YtmhmmnleijadnaaTheirs13
import Derived.Test.YtmhmmnleijadnaaGet
import Derived.Test.YtmhmmnleijadnaaTakes
namespace Go.Proofs.Ytmhmmnleijadnaa
open Go.RowKit Go.ChangeShapes Go.WideShapes Go.ChangeAt
set_option linter.unusedVariables false

theorem Rdr.lo {w : World} {blk lo hi pos : Nat} {bs : List UInt8} {bad : Bool} (h : Rdr w blk lo hi bs pos bad) : lo ≤ blk := by
  obtain ⟨sv, c0, c1, c2, f1, f2, hr, hb, h1, h2, h3, h4, h5⟩ := h
  exact h1
theorem Rdr.hi {w : World} {blk lo hi pos : Nat} {bs : List UInt8} {bad : Bool} (h : Rdr w blk lo hi bs pos bad) : blk < hi ∧ hi ≤ w.heap.size := by
  obtain ⟨sv, c0, c1, c2, f1, f2, hr, hb, h1, h2, h3, h4, h5⟩ := h
  exact ⟨h2, h3⟩

/-- What is left behind i names; the names. -/
def rI (r : List UInt8) : Nat → List UInt8
  | 0 => r
  | i + 1 => nameR (rI r i)
def nI (r : List UInt8) (i j : Nat) : ByteArray := if j < i then nameS (rI r j) else ⟨#[]⟩
def TBi (w : World) (B : Nat) (r : List UInt8) (i : Nat) : Prop :=
  w.cell? ⟨B, 0, none⟩ = some (.string (nI r i 0)) ∧ w.cell? ⟨B, 1, none⟩ = some (.string (nI r i 1)) ∧ w.cell? ⟨B, 2, none⟩ = some (.int .i64 0) ∧ w.cell? ⟨B, 3, none⟩ = some (.int .i64 0) ∧ (∀ j, j < 4 → w.frozen? ⟨B, j, none⟩ = false)
theorem TBi.start (w : World) (r : List UInt8) : TBi (w.alloc (.cells #[.string ⟨#[]⟩, .string ⟨#[]⟩, .int .i64 0, .int .i64 0] 45)) w.heap.size r 0 :=
  ⟨by simp [World.cell?_alloc_new, nI], by simp [World.cell?_alloc_new, nI], by simp [World.cell?_alloc_new], by simp [World.cell?_alloc_new], fun j hj => by simp [go_sem]⟩
theorem TBi.chg {w w' : World} {B : Nat} {r : List UInt8} {i : Nat} {S : Nat → Prop} (h : TBi w B r i) (hl : B < w.heap.size) (hb : Chg S w w') (hs : ¬ S B) : TBi w' B r i :=
  ⟨(hb.cell (p := ⟨B, 0, none⟩) hl hs).trans h.1, (hb.cell (p := ⟨B, 1, none⟩) hl hs).trans h.2.1, (hb.cell (p := ⟨B, 2, none⟩) hl hs).trans h.2.2.1, (hb.cell (p := ⟨B, 3, none⟩) hl hs).trans h.2.2.2.1, fun j hj => (hb.frozen (p := ⟨B, j, none⟩) hl hs).trans (h.2.2.2.2 j hj)⟩
theorem TBi.below {w w' : World} {B : Nat} {r : List UInt8} {i : Nat} (h : TBi w B r i) (hl : B < w.heap.size) (hb : Below w.heap.size w w') : TBi w' B r i :=
  h.chg (S := fun _ => False) hl (Chg.ofBelowAny hb) (fun h => h)
theorem TBi.at {w : World} {B : Nat} {r : List UInt8} {i : Nat} (h : TBi w B r i) (hi : i < 2) : (∃ u, w.cell? ⟨B, i, none⟩ = some (.string u)) ∧ w.frozen? ⟨B, i, none⟩ = false := by
  rcases (show i = 0 ∨ i = 1 by omega) with rfl | rfl
  · exact ⟨⟨_, h.1⟩, h.2.2.2.2 0 (by omega)⟩
  · exact ⟨⟨_, h.2.1⟩, h.2.2.2.2 1 (by omega)⟩
theorem TBi.step {w : World} {B : Nat} {r : List UInt8} {i : Nat} (h : TBi w B r i) (hi : i < 2) : TBi (w.setCell ⟨B, i, none⟩ (.string (nameS (rI r i)))) B r (i + 1) := by
  obtain ⟨h0, h1, h2, h3, hf⟩ := h
  rcases (show i = 0 ∨ i = 1 by omega) with rfl | rfl
  · refine ⟨?_, ?_, ?_, ?_, fun j hj => ?_⟩
    · simp [go_sem, h0, nI]
    · simp [go_sem, h1, nI]
    · simp [go_sem, h2]
    · simp [go_sem, h3]
    · simp [go_sem, hf j hj]
  · refine ⟨?_, ?_, ?_, ?_, fun j hj => ?_⟩
    · simp [go_sem, h0, nI]
    · simp [go_sem, h1, nI]
    · simp [go_sem, h2]
    · simp [go_sem, h3]
    · simp [go_sem, hf j hj]

set_option maxHeartbeats 4000000 in
set_option maxRecDepth 100000 in
theorem tdecode_any (bs : List UInt8) (v : Value) (w : World) (hl : bs.length ≤ 100000000) (hr : Rd w v bs) :
    Calls Try.prog 18 #[v] w fun e w' => TdEnd bs w e w' := by
  obtain ⟨ao0, cap0, rfl, hnc, hcm⟩ := RdV.shape hr
  unfold maxLen at hcm
  have HR0 := Lib.hid hr
  have HL := Lib.hid hl
  clear hr hl
  go_enter Try.func18, Try.ntmps18
  go_wp2_with fail
  go_loopg [0, 4] bs.length (fun m s0 s4 wr => ∃ (r : List UInt8) (bo : Option Addr) (bc : Nat) (l : List Tm) (ao : Option Addr) (cap : Nat), r.length = m ∧ s0 = .slice bo r.length bc ∧ s4 = .slice ao l.length cap ∧ Hid (TdSo bs l r) ∧ Hid (Rd w (.slice bo r.length bc) r) ∧ Hid (wr.ownsRow w.heap.size 45 4 (.slice ao l.length cap) l.length (l.flatMap Tm.cells)) ∧ Hid (Below w.heap.size w wr))
  case atStart => exact ⟨bs, ao0, cap0, [], none, 0, rfl, rfl, rfl, Lib.hid (TdSo.start bs), HR0, Lib.hid (World.ownsRow_nil _ _ _ _), Lib.hid (Below.refl _ _)⟩
  case round =>
    obtain ⟨r, bo, bc, l, ao, cap, hm, rfl, rfl, HS, HR, HO, HB⟩ := hrel
    subst hm
    have HLr : Hid (20 * l.length + r.length ≤ bs.length) := Lib.hid (by
      have h1 := HS.out.1
      have h2 := encTs_len_le l
      rw [h1, List.length_append]
      omega)
    by_cases h0 : r = []
    · subst h0
      have hgood := HS.out.done
      have HG := Lib.hid hgood
      clear hgood
      go_wp2_with fail
      go_ret2
      exact ⟨HB.out, .inr ⟨l, ao, cap, HG.out, by go_light; rfl, RdV.ofOwns HO.out⟩⟩
    · have HNE := Lib.hid h0
      have hpos : (0 : Int) < (r.length : Int) := by have := List.length_pos_iff.2 h0; omega
      have hrl : r.length ≤ 100000000 := by have := HLr.out; have := HL.out; omega
      clear h0
      have HTB := Lib.hid (TBi.start wr r)
      have HB1 := Lib.hid (HB.out.alloc HB.out.size (.cells #[.string ⟨#[]⟩, .string ⟨#[]⟩, .int .i64 0, .int .i64 0] 45))
      have HO1 := Lib.hid (HO.out.alloc (.cells #[.string ⟨#[]⟩, .string ⟨#[]⟩, .int .i64 0, .int .i64 0] 45))
      have HKb : Hid (∀ j, (Value.slice ao l.length cap).ownBlock = some j → j ≠ wr.heap.size) := Lib.hid (fun j hj e => by have := (World.ownsRow.lt HO.out j hj).2; omega)
      have HBl : Hid (wr.heap.size < (wr.alloc (.cells #[.string ⟨#[]⟩, .string ⟨#[]⟩, .int .i64 0, .int .i64 0] 45)).heap.size) := Lib.hid (by simp)
      have HBw := Lib.hid HB.out.size
      obtain ⟨RL, hRL⟩ : ∃ RL, RL = r.length := ⟨_, rfl⟩
      rw [← hRL] at hpos ⊢
      have HRL := Lib.hid hRL
      clear hRL
      go_wp2_with fail
      rw [HRL.out]
      generalize wr.alloc (.cells #[.string ⟨#[]⟩, .string ⟨#[]⟩, .int .i64 0, .int .i64 0] 45) = wt at *
      clear HB HO
      generalize wr.heap.size = B at *
      clear hpos
      go_loopg [0, 16] 2 (fun m s0 s16 wx => ∃ (i : Nat) (q : List UInt8) (bo2 : Option Addr) (bc2 : Nat), i + m = 2 ∧ s16 = .int .i64 (i : Int) ∧ q.length ≤ 100000000 ∧ s0 = .slice bo2 q.length bc2 ∧ Hid (q = rI r i) ∧ Hid (∀ j, j < i → nameOk (rI r j)) ∧ Hid (Rd w (.slice bo2 q.length bc2) q) ∧ Hid (TBi wx B r i) ∧ Hid (wx.ownsRow w.heap.size 45 4 (.slice ao l.length cap) l.length (l.flatMap Tm.cells)) ∧ Hid (Below w.heap.size w wx) ∧ Hid (B < wx.heap.size))
      case atStart => exact ⟨0, r, bo, bc, by omega, rfl, hrl, rfl, Lib.hid rfl, Lib.hid (fun j hj => by omega), HR, HTB, HO1, HB1, HBl⟩
      case round =>
        clear HTB HO1 HB1 HBl HR
        obtain ⟨i, q, bo2, bc2, hi, rfl, hql, rfl, HQ, HN, HR, HTB, HO, HB, HBl⟩ := hrel
        by_cases h1 : gk = 0
        · obtain rfl : i = 2 := by omega
          clear hi
          have HN0 : Hid (nameOk r) := Lib.hid (HN.out 0 (by omega))
          have HN1 : Hid (nameOk (nameR r)) := Lib.hid (HN.out 1 (by omega))
          by_cases h16 : q.length < 16
          · have HBAD := Lib.hid (HS.out.bad2 HN0.out HN1.out (by have := HQ.out; rw [this] at h16; exact h16))
            have h16I : (q.length : Int) < 16 := by omega
            clear h16
            go_wp2_with fail
            go_ret2
            exact ⟨HB.out, .inl ⟨HBAD.out, by go_light; rfl⟩⟩
          · have h16I : ¬ (q.length : Int) < 16 := by omega
            have hNR := newReader_any _ q _ (by omega) (RdV.below HR.out HB.out)
            have hn16 : 16 ≤ q.length := by omega
            have HD16 := Lib.hid (Rd.cutR HR.out 16 hn16)
            have HV1 := Lib.hid (gV_bytes q 0 8 (by omega))
            have HV2 := Lib.hid (gV_bytes q 8 8 (by omega))
            have hi1 := i64_wrap (rdN 8 q : Int)
            have hi2 := i64_wrap (rdN 8 (q.drop 8) : Int)
            have HOK : Hid (i64ok (sI (rdN 8 q : Int)) ∧ i64ok (sI (rdN 8 (q.drop 8) : Int))) := Lib.hid ⟨sI_ok _, sI_ok _⟩
            have HT : Hid (TdSo bs (l ++ [⟨nameS r, nameS (nameR r), sI (rdN 8 q : Int), sI (rdN 8 (q.drop 8) : Int)⟩]) (q.drop 16)) := Lib.hid (by
              have hq : q = nameR (nameR r) := HQ.out
              subst hq
              exact HS.out.next (tomb_eq HN0.out HN1.out hn16) (tomb_fit HN0.out HN1.out _ _) HOK.out)
            clear h16
            obtain ⟨ns, hns⟩ : ∃ ns, ns = nameS r := ⟨_, rfl⟩
            obtain ⟨nf, hnf⟩ : ∃ nf, nf = nameS (nameR r) := ⟨_, rfl⟩
            rw [← hns, ← hnf] at HT
            have HNS := Lib.hid hns
            have HNF := Lib.hid hnf
            clear hns hnf
            generalize sI (rdN 8 q : Int) = ta at *
            generalize sI (rdN 8 (q.drop 8) : Int) = tb at *
            go_upto_region 15 with (go_at_call 32; refine hNR.mono ?_; rintro _ w4 ⟨blk, rfl, hrd, hb4⟩; have HRD := Lib.hid hrd; have HB4 := Lib.hid hb4; clear hrd hb4 hNR)
            have hG1 := get_all blk _ _ 0 q false 64 (by omega) (by omega) w4 HRD.out
            rw [show gV q 0 false 64 = rdN 8 q from HV1.out.1, show gP q 0 false 64 = 64 from HV1.out.2.1, show gB q 0 false 64 = false from HV1.out.2.2] at hG1
            go_wp2_with fail
            refine hG1.mono ?_
            rintro _ w5 ⟨rfl, hr5, hc5⟩
            have hG2 := get_all blk _ _ 64 q false 64 (by omega) (by omega) w5 hr5
            rw [show gV q 64 false 64 = rdN 8 (q.drop 8) from HV2.out.1, show gP q 64 false 64 = 128 from HV2.out.2.1, show gB q 64 false 64 = false from HV2.out.2.2] at hG2
            have hlo := HRD.out.lo
            have hbsz := HRD.out.hi
            have hlt5 := hc5.size
            have hb5 : Below wr.heap.size wr w5 := HB4.out.trans (hc5.below HB4.out.size (fun k hk => by omega))
            have HB5 := Lib.hid hb5
            clear hG1 hr5 hc5
            go_wp2_with fail
            refine hG2.mono ?_
            rintro _ w6 ⟨rfl, hr6, hc6⟩
            have hb6 : Below wr.heap.size wr w6 := HB5.out.trans (hc6.below HB5.out.size (fun k hk => by omega))
            obtain ⟨c0, c1, c2, c3, hf⟩ := HTB.out.below HBl.out hb6
            have f2 := hf 2 (by omega)
            have f3 := hf 3 (by omega)
            have HB6 := Lib.hid (HB.out.trans (hb6.mono HB.out.size))
            have HO6 := Lib.hid ((Chg.ofBelowAny (S := fun _ => False) hb6).owns HO.out (fun _ _ h => h))
            have hbl6 : Hid (B < w6.heap.size) := Lib.hid (Nat.lt_of_lt_of_le HBl.out hb6.size)
            have d0 : Hid (((w6.setCell ⟨B, 2, none⟩ (.int .i64 ta)).setCell ⟨B, 3, none⟩ (.int .i64 tb)).cell? ⟨B, 0, none⟩ = some (.string ns)) := Lib.hid (by simp [go_sem, c0, nI, rI, HNS.out])
            have d1 : Hid (((w6.setCell ⟨B, 2, none⟩ (.int .i64 ta)).setCell ⟨B, 3, none⟩ (.int .i64 tb)).cell? ⟨B, 1, none⟩ = some (.string nf)) := Lib.hid (by simp [go_sem, c1, nI, rI, HNF.out])
            have d2 : Hid (((w6.setCell ⟨B, 2, none⟩ (.int .i64 ta)).setCell ⟨B, 3, none⟩ (.int .i64 tb)).cell? ⟨B, 2, none⟩ = some (.int .i64 ta)) := Lib.hid (by simp [go_sem, c2])
            have d3 : Hid (((w6.setCell ⟨B, 2, none⟩ (.int .i64 ta)).setCell ⟨B, 3, none⟩ (.int .i64 tb)).cell? ⟨B, 3, none⟩ = some (.int .i64 tb)) := Lib.hid (by simp [go_sem, c3])
            have HB7 : Hid (Below w.heap.size w ((w6.setCell ⟨B, 2, none⟩ (.int .i64 ta)).setCell ⟨B, 3, none⟩ (.int .i64 tb))) := Lib.hid ((HB6.out.setCell (p := ⟨B, 2, none⟩) HBw.out _).setCell (p := ⟨B, 3, none⟩) HBw.out _)
            have HC7 : Hid (Chg (fun k => k = B) w6 ((w6.setCell ⟨B, 2, none⟩ (.int .i64 ta)).setCell ⟨B, 3, none⟩ (.int .i64 tb))) := Lib.hid (((Chg.refl (fun k => k = B) w6).setCell (p := ⟨B, 2, none⟩) (fun _ => rfl) _).setCell (p := ⟨B, 3, none⟩) (fun _ => rfl) _)
            have HO7 := Lib.hid (HC7.out.owns HO6.out (fun k hk e => HKb.out k hk e))
            have HBl7 := Lib.hid (Nat.lt_of_lt_of_le hbl6.out HC7.out.size)
            clear hr6 hc6 hb6 hb5 hf hG2 hlo hbsz hlt5
            go_upto_region 16 with fail
            generalize (w6.setCell ⟨B, 2, none⟩ (.int .i64 ta)).setCell ⟨B, 3, none⟩ (.int .i64 tb) = w7 at *
            clear c0 c1 c2 c3 f2 f3 hi1 hi2
            obtain ⟨ao2, c2, he2, hr2⟩ := HD16.out
            have HR2 := Lib.hid hr2
            have hS7 : TS B ns nf ta tb w7 := ⟨d0.out, d1.out, d2.out, d3.out⟩
            have hS := hS7.below HBl7.out (Below.refl _ _).drew
            clear hS7
            have hnk : ∀ k, (Value.slice ao l.length cap).ownBlock = some k → k ≠ B := HKb.out
            have hba : w.heap.size ≤ (w7.drew.alloc (.cells #[.string ns, .string nf, .int .i64 ta, .int .i64 tb] 45)).heap.size := by have := HB7.out.size; have e := (Below.refl w7.heap.size w7).drew.size; simp only [World.size_alloc]; omega
            have HBD := Lib.hid HB7.out.drew
            have hlt := Nat.lt_of_lt_of_le HBl7.out (Below.refl w7.heap.size w7).drew.size
            have HBd := Lib.hid HB7.out.drew
            have HOd : Hid (w7.drew.ownsRow w.heap.size 45 4 (.slice ao l.length cap) l.length (l.flatMap Tm.cells)) := Lib.hid ((Chg.ofBelowAny (S := fun _ => False) (Below.refl w7.heap.size w7).drew).owns HO7.out (fun _ _ h => h))
            have HLL : Hid (l.length ≤ 100000000) := Lib.hid (by have := HLr.out; have := HL.out; omega)
            have HQ16 : Hid ((q.drop 16).length < r.length) := Lib.hid (by
              have h1 := HQ.out
              have h2 := HN0.out.1
              have h3 : q.length ≤ r.length := by
                rw [h1]
                show (nameR (nameR r)).length ≤ _
                unfold nameR
                rw [List.length_drop, List.length_drop]
                omega
              simp
              omega)
            clear hr2 HD16 d0 d1 d2 d3 HV1 HV2 HS HN HTB HO HB HC7 HB7 HO7 HBl7 HB6 HO6 hbl6 HRD HB4 HB5 HBl HN0 HN1 HNE HQ
            refine wp_region_held_drew (S := fun w' => w'.cell? ⟨B, 0, none⟩ = some (.string ns) ∧ w'.cell? ⟨B, 1, none⟩ = some (.string nf) ∧ w'.cell? ⟨B, 2, none⟩ = some (.int .i64 ta) ∧ w'.cell? ⟨B, 3, none⟩ = some (.int .i64 tb)) (by kernel_rfl) hS (fun hh => ?_)
            clear hh
            generalize w7.drew = x0 at *
            refine wpAnyH_take (i := 0) (oi := { dst := some 57, op := Op.move (Operand.tmp 4), type := 27, pos := "tomb.go:57", after := #[], guard := none }) (v := ?_) rfl (by kernel_rfl) (by kernel_rfl) (by kernel_rfl) (fun _ _ _ h => h) (Or.inl ⟨by rfl, ?_⟩) hS ?_
            rotate_left
            · intro w hSw; (try dsimp only at hSw); go_simp; try with_reducible rfl
            try simp only [Act.put, List.setIfInBounds_toArray, List.set_cons_zero, List.set_cons_succ]
            refine wpAnyH_take (i := 1) (oi := { dst := some 58, op := Op.load 45 (Operand.tmp 5), type := 45, pos := "tomb.go:57", after := #[], guard := none }) (v := ?_) rfl (by kernel_rfl) (by kernel_rfl) (by kernel_rfl) (fun _ _ _ h => h) (Or.inl ⟨by rfl, ?_⟩) hS ?_
            rotate_left
            · intro w hSw; (try dsimp only at hSw); go_simp; try with_reducible rfl
            try simp only [Act.put, List.setIfInBounds_toArray, List.set_cons_zero, List.set_cons_succ]
            refine wpAnyH_take (i := 4) (oi := { dst := some 61, op := Op.move (Operand.tmp 0), type := 47, pos := "tomb.go:57", after := #[], guard := none }) (v := ?_) rfl (by kernel_rfl) (by kernel_rfl) (by kernel_rfl) (fun _ _ _ h => h) (Or.inl ⟨by rfl, ?_⟩) hS ?_
            rotate_left
            · intro w hSw; (try dsimp only at hSw); go_simp; try with_reducible rfl
            try simp only [Act.put, List.setIfInBounds_toArray, List.set_cons_zero, List.set_cons_succ]
            refine wpAnyH_take (i := 5) (oi := { dst := some 62, op := Op.slice 47 (Operand.tmp 61) (some (Operand.const (Value.int IntKind.i64 16))) none none, type := 47, pos := "tomb.go:57", after := #[{ on := 4, ground := Ground.data }], guard := none }) (v := .slice ao2 (q.drop 16).length c2) rfl (by kernel_rfl) (by kernel_rfl) (by kernel_rfl) (fun _ _ _ h => h) (yields_slice (by rfl) (.tmp 61) (some (.const (.int .i64 16))) none 47 rfl 5 1 (.int .u8 0) 1 Try.underlying47 infoU8 bo2 q.length bc2 rfl 16 q.length (fun w => bounds_lo _ _ .i64 16 hn16) _ he2.symm) hS ?_
            try simp only [Act.put, List.setIfInBounds_toArray, List.set_cons_zero, List.set_cons_succ]
            refine wpAnyH_ready (rs := [2]) (by kernel_rfl) (by simp) (AllReadyH.cons (o := { dst := some 59, op := Op.buildSlice 27 1 #[(0, Operand.tmp 58)], type := 27, pos := "tomb.go:57", after := #[{ on := 1, ground := Ground.data }], guard := none }) rfl (fun K hK => ?_) AllReadyH.nil)
            go_simp
            refine hK.out _ _ (TS.below hS hlt ((Below.refl _ _).alloc (Nat.le_refl _) _)) (fun hh => ?_)
            replace hS := hh
            clear hK K hh
            try simp only [Act.put, List.setIfInBounds_toArray, List.set_cons_zero, List.set_cons_succ]
            refine wpAnyH_ready (rs := [3]) (by kernel_rfl) (by simp) (AllReadyH.cons (o := { dst := some 60, op := Op.call { callee := Callee.builtin Builtin.append, args := #[Operand.tmp 57, Operand.tmp 59], argTypes := #[27, 27] }, type := 27, pos := "tomb.go:57", after := #[{ on := 0, ground := Ground.data }, { on := 2, ground := Ground.data }], guard := none }) rfl (fun K hK => ?_) AllReadyH.nil)
            refine step_append_rd (x0.alloc (.cells #[.string ns, .string nf, .int .i64 ta, .int .i64 tb] 45)) rfl (.tmp 57) (.tmp 59) 27 rfl w.heap.size 45 (.agg #[.string .empty, .string .empty, .int .i64 0, .int .i64 0]) 4 48 Try.underlying27 infoTomb rfl (by decide) (.slice ao l.length cap) l.length (l.flatMap Tm.cells) rfl (HOd.out.alloc _) (.slice (some ⟨x0.heap.size, 0, none⟩) 1 1) 1 [.string ns, .string nf, .int .i64 ta, .int .i64 tb] rfl (RdV.lit _ _ _ 1 4 (by decide) rfl) (tm_one _ _ _ _) (by have := HLL.out; unfold maxLen; omega) (by have := HLL.out; omega) hba ?_
            intro ao6 cap6 w8 hg6
            have HG := Lib.hid hg6.ofAlloc
            have hS8 : TS B ns nf ta tb w8 := by
              have hn : ¬ (Value.slice ao l.length cap).ownBlock = some B := fun e => hnk B e rfl
              have hc := hg6.chg
              have hlt2 : B < (x0.alloc (.cells #[.string ns, .string nf, .int .i64 ta, .int .i64 tb] 45)).heap.size := by simp; omega
              exact ⟨(hc.cell (p := ⟨B, 0, none⟩) hlt2 hn).trans hS.1, (hc.cell (p := ⟨B, 1, none⟩) hlt2 hn).trans hS.2.1, (hc.cell (p := ⟨B, 2, none⟩) hlt2 hn).trans hS.2.2.1, (hc.cell (p := ⟨B, 3, none⟩) hlt2 hn).trans hS.2.2.2⟩
            clear hg6
            refine hK.out _ _ hS8 (fun hh => ?_)
            replace hS := hS8
            clear hK K hh hS8
            try simp only [Act.put, List.setIfInBounds_toArray, List.set_cons_zero, List.set_cons_succ]
            refine wpAnyH_take (i := 6) (oi := { dst := some 4, op := Op.assign (Operand.tmp 60), type := 27, pos := "tomb.go:57", after := #[{ on := 3, ground := Ground.data }, { on := 3, ground := Ground.chain }, { on := 0, ground := Ground.phase }, { on := 1, ground := Ground.phase }, { on := 2, ground := Ground.phase }, { on := 3, ground := Ground.phase }, { on := 4, ground := Ground.textOnly Departure.lateStores }, { on := 5, ground := Ground.textOnly Departure.lateStoresUnsure }], guard := none }) (v := ?_) rfl (by kernel_rfl) (by kernel_rfl) (by kernel_rfl) (fun _ _ _ h => h) (Or.inl ⟨by rfl, ?_⟩) hS ?_
            rotate_left
            · intro w hSw; (try dsimp only at hSw); go_simp; try with_reducible rfl
            try simp only [Act.put, List.setIfInBounds_toArray, List.set_cons_zero, List.set_cons_succ]
            refine wpAnyH_take (i := 7) (oi := { dst := some 0, op := Op.assign (Operand.tmp 62), type := 47, pos := "tomb.go:57", after := #[{ on := 5, ground := Ground.data }, { on := 6, ground := Ground.chain }, { on := 0, ground := Ground.phase }, { on := 1, ground := Ground.phase }, { on := 2, ground := Ground.phase }, { on := 3, ground := Ground.phase }, { on := 4, ground := Ground.phase }, { on := 5, ground := Ground.phase }, { on := 6, ground := Ground.phase }], guard := none }) (v := ?_) rfl (by kernel_rfl) (by kernel_rfl) (by kernel_rfl) (fun _ _ _ h => h) (Or.inl ⟨by rfl, ?_⟩) hS ?_
            rotate_left
            · intro w hSw; (try dsimp only at hSw); go_simp; try with_reducible rfl
            try simp only [Act.put, List.setIfInBounds_toArray, List.set_cons_zero]
            refine wpAnyH_done (by kernel_rfl) ?_ _
            go_wp2_with fail
            go_roundg (q.drop 16).length
            case measure => exact HQ16.out
            case rel =>
              go_light
              refine ⟨q.drop 16, ao2, c2, l ++ [⟨ns, nf, ta, tb⟩], ao6, cap6, rfl, by simp, by simp, HT, HR2, Lib.hid ?_, Lib.hid (HBD.out.trans (HG.out.below HBD.out.size (fun j hj => (World.ownsRow.lt HOd.out j hj).1)))⟩
              have := HG.out.owns
              rw [List.length_append, List.flatMap_append]
              exact this
        · have hi2 : i < 2 := by omega
          have hidx : ∀ w, (Instr.index 72 (.agg #[.pointer (some ⟨B, 0, none⟩), .pointer (some ⟨B, 1, none⟩)]) (.int .i64 (i : Int))).run Try.prog w = .ok (.pointer (some ⟨B, i, none⟩)) w := by
            intro w
            rcases (show i = 0 ∨ i = 1 by omega) with rfl | rfl
            · kernel_rfl
            · kernel_rfl
          have hNR := newReader_any _ q _ (by omega) (RdV.below HR.out HB.out)
          have HBADN : Hid (¬ nameOk q → ∀ l', ¬ TdGood bs l') := Lib.hid (fun hnq => by
            have hq := HQ.out
            rcases (show i = 0 ∨ i = 1 by omega) with rfl | rfl
            · exact HS.out.bad0 HNE.out (by rw [hq] at hnq; exact hnq)
            · exact HS.out.bad1 (HN.out 0 (by omega)) (by rw [hq] at hnq; exact hnq))
          go_upto_region 7 with fail
          by_cases h2 : q.length < 2
          · go_wp2_with fail
            refine hNR.mono ?_
            rintro _ w4 ⟨blk, rfl, hrd, hb4⟩
            have hG1 := get_all blk _ _ 0 q false 16 (by omega) (by omega) w4 hrd
            have hz : gV q 0 false 16 = 0 := by unfold gV; rw [if_neg (by simp), if_neg (by omega)]
            rw [hz] at hG1
            have HB4 := Lib.hid hb4
            have hlo := hrd.lo
            have HBAD : Hid (∀ l', ¬ TdGood bs l') := Lib.hid (HBADN.out (fun h => by have := h.1; omega))
            clear hrd hb4 hNR hz hidx
            go_wp2_with fail
            refine hG1.mono ?_
            rintro _ w5 ⟨rfl, hr5, hc5⟩
            have HB5 := Lib.hid (HB.out.trans ((HB4.out.trans (hc5.below HB4.out.size (fun k hk => by omega))).mono HB.out.size))
            have h2I : (q.length : Int) < 2 := by omega
            clear hr5 hc5 hG1 h2
            go_wp2_with fail
            go_ret2
            exact ⟨HB5.out, .inl ⟨HBAD.out, by go_light; rfl⟩⟩
          · have HV1 := Lib.hid (gV_bytes q 0 2 (by omega))
            have HNL := Lib.hid (rdN_lt 2 q)
            go_wp2_with fail
            refine hNR.mono ?_
            rintro _ w4 ⟨blk, rfl, hrd, hb4⟩
            have hG1 := get_all blk _ _ 0 q false 16 (by omega) (by omega) w4 hrd
            rw [show gV q 0 false 16 = rdN 2 q from HV1.out.1] at hG1
            have HB4 := Lib.hid hb4
            have hlo := hrd.lo
            have HNK : Hid (nameOk q ↔ 2 + rdN 2 q ≤ q.length ∧ rdN 2 q ≤ 4000) := Lib.hid Iff.rfl
            have HSN : Hid (nameS q = strOf ((q.drop 2).take (rdN 2 q)) ∧ nameR q = q.drop (2 + rdN 2 q)) := Lib.hid ⟨rfl, rfl⟩
            have hn16 : rdN 2 q < 65536 := HNL.out
            clear hrd hb4 hNR hidx HV1 HNL h2
            generalize rdN 2 q = n at *
            go_wp2_with fail
            refine hG1.mono ?_
            rintro _ w5 ⟨rfl, hr5, hc5⟩
            have hb5 := HB4.out.trans (hc5.below HB4.out.size (fun k hk => by omega))
            have HB5 := Lib.hid (HB.out.trans (hb5.mono HB.out.size))
            have HTB5 := Lib.hid (HTB.out.below HBl.out hb5)
            have HO5 := Lib.hid ((Chg.ofBelowAny (S := fun _ => False) hb5).owns HO.out (fun _ _ h => h))
            have HBl5 := Lib.hid (Nat.lt_of_lt_of_le HBl.out hb5.size)
            clear hr5 hc5 hG1 hb5 hlo
            by_cases hno : nameOk q
            · obtain ⟨hn1, hn2⟩ := HNK.out.1 hno
              have hn1I : ¬ (q.length : Int) < 2 + (n : Int) := by omega
              have hn2I : ¬ (4000 : Int) < (n : Int) := by omega
              have hwr : IntKind.i64.wrap (2 + (n : Int)) = 2 + (n : Int) := IntWalk.i64_in _ (by omega)
              have HNO := Lib.hid hno
              clear hno
              go_upto_region 10 with fail
              obtain ⟨⟨u0, c0⟩, f0⟩ := HTB5.out.at hi2
              obtain ⟨ao1, c1, he1, hr1⟩ := Rd.cutN HR.out 2 (2 + n) (by omega) hn1
              rw [show 2 + n - 2 = n by omega] at he1 hr1
              obtain ⟨ao2, c2, he2, hr2⟩ := Rd.cutR HR.out (2 + n) hn1
              rw [← HSN.out.2] at he2 hr2
              have hS : Rd w5.drew (.slice ao1 ((q.drop 2).take n).length c1) ((q.drop 2).take n) := RdV.below hr1.v HB5.out.drew
              have hlt : B < w5.drew.heap.size := HBl5.out
              have HNS : Hid (strOf ((q.drop 2).take n) = nameS q) := Lib.hid HSN.out.1.symm
              have HR2 := Lib.hid hr2
              have HR1 := Lib.hid hr1
              have HSTEP : Hid (TBi (w5.drew.setCell ⟨B, i, none⟩ (.string (nameS q))) B r (i + 1)) := Lib.hid (by rw [HQ.out]; exact TBi.step (w := w5.drew) HTB5.out hi2)
              have HCH : Hid (Chg (fun k => k = B) w5.drew (w5.drew.setCell ⟨B, i, none⟩ (.string (nameS q)))) := Lib.hid ((Chg.refl (fun k => k = B) w5.drew).setCell (p := ⟨B, i, none⟩) (fun _ => rfl) _)
              have HBN : Hid (Below w.heap.size w (w5.drew.setCell ⟨B, i, none⟩ (.string (nameS q)))) := Lib.hid (HB5.out.drew.setCell (p := ⟨B, i, none⟩) HBw.out _)
              have HON : Hid ((w5.drew.setCell ⟨B, i, none⟩ (.string (nameS q))).ownsRow w.heap.size 45 4 (.slice ao l.length cap) l.length (l.flatMap Tm.cells)) := Lib.hid (HCH.out.owns (show w5.drew.ownsRow _ _ _ _ _ _ from HO5.out) (fun k hk e => HKb.out k hk e))
              have HBLN : Hid (B < (w5.drew.setCell ⟨B, i, none⟩ (.string (nameS q))).heap.size) := Lib.hid (Nat.lt_of_lt_of_le HBl5.out HCH.out.size)
              have HQN : Hid (nameR q = rI r (i + 1)) := Lib.hid (by rw [HQ.out]; rfl)
              have HNN : Hid (∀ j, j < i + 1 → nameOk (rI r j)) := Lib.hid (fun j hj => by
                by_cases e : j = i
                · subst e; rw [← HQ.out]; exact HNO.out
                · exact HN.out j (by omega))
              have hqn : (nameR q).length ≤ 100000000 := by
                show (List.drop _ q).length ≤ _
                rw [List.length_drop]
                omega
              have cw : w5.drew.cell? ⟨B, i, none⟩ = some (.string u0) := c0
              have fw : w5.drew.frozen? ⟨B, i, none⟩ = false := f0
              clear hr1 hr2 c0 f0 HTB5 HTB HN HQ HO5 HO HB5 HB HBl5 HBl HCH HBADN HNK HSN HNO hn1I hn2I HNE
              have hb1 : ∀ w, (Instr.sliceBounds true q.length bc2 (some (.int .i64 2)) (some (.int .i64 (2 + (n : Int)))) none).run Try.prog w = .ok (2, 2 + n, bc2) w := fun w => by
                have h7 := bounds_both (P := Try.prog) (w := w) q.length bc2 .i64 .i64 2 (2 + n) (by omega) (by have := RdV.shape HR.out.v; obtain ⟨_, _, h8, h9, _⟩ := this; simp only [Value.slice.injEq, true_and] at h8; omega)
                simpa using h7
              have hb2 : ∀ w, (Instr.sliceBounds true q.length bc2 (some (.int .i64 (2 + (n : Int)))) none none).run Try.prog w = .ok (2 + n, q.length, bc2) w := fun w => by
                have h7 := bounds_lo (P := Try.prog) (w := w) q.length bc2 .i64 (2 + n) hn1
                simpa using h7
              have hS2 : Rd (w5.drew.setCell ⟨B, i, none⟩ (.string (nameS q))) (.slice ao1 ((q.drop 2).take n).length c1) ((q.drop 2).take n) := RdV.below HR1.out.v HBN.out
              refine wp_region_held_drew (S := fun w' => Rd w' (.slice ao1 ((q.drop 2).take n).length c1) ((q.drop 2).take n)) (by kernel_rfl) hS (fun hh => ?_)
              clear hh HR
              refine wpAnyH_take (i := 0) (oi := { dst := some 32, op := Op.move (Operand.tmp 7), type := 71, pos := "tomb.go:50", after := #[], guard := none }) (v := ?_) rfl (by kernel_rfl) (by kernel_rfl) (by kernel_rfl) (fun _ _ _ h => h) (Or.inl ⟨by rfl, ?_⟩) hS ?_
              rotate_left
              · intro w hSw; (try dsimp only at hSw); go_simp; try with_reducible rfl
              try simp only [Act.put, List.setIfInBounds_toArray, List.set_cons_zero, List.set_cons_succ]
              refine wpAnyH_take (i := 1) (oi := { dst := some 33, op := Op.move (Operand.tmp 0), type := 47, pos := "tomb.go:50", after := #[], guard := none }) (v := ?_) rfl (by kernel_rfl) (by kernel_rfl) (by kernel_rfl) (fun _ _ _ h => h) (Or.inl ⟨by rfl, ?_⟩) hS ?_
              rotate_left
              · intro w hSw; (try dsimp only at hSw); go_simp; try with_reducible rfl
              try simp only [Act.put, List.setIfInBounds_toArray, List.set_cons_zero, List.set_cons_succ]
              refine wpAnyH_take (i := 2) (oi := { dst := some 34, op := Op.move (Operand.tmp 8), type := 3, pos := "tomb.go:50", after := #[], guard := none }) (v := ?_) rfl (by kernel_rfl) (by kernel_rfl) (by kernel_rfl) (fun _ _ _ h => h) (Or.inl ⟨by rfl, ?_⟩) hS ?_
              rotate_left
              · intro w hSw; (try dsimp only at hSw); go_simp; try with_reducible rfl
              try simp only [Act.put, List.setIfInBounds_toArray, List.set_cons_zero, List.set_cons_succ]
              refine wpAnyH_take (i := 3) (oi := { dst := some 35, op := Op.binOp BinOp.add 3 (Operand.const (Value.int IntKind.i64 2)) (Operand.tmp 34) 3, type := 3, pos := "tomb.go:50", after := #[{ on := 2, ground := Ground.data }], guard := none }) (v := ?_) rfl (by kernel_rfl) (by kernel_rfl) (by kernel_rfl) (fun _ _ _ h => h) (Or.inl ⟨by rfl, ?_⟩) hS ?_
              rotate_left
              · intro w hSw; (try dsimp only at hSw); go_simp; try with_reducible rfl
              try simp only [Act.put, List.setIfInBounds_toArray, List.set_cons_zero, List.set_cons_succ]
              refine wpAnyH_take (i := 4) (oi := { dst := some 36, op := Op.slice 47 (Operand.tmp 33) (some (Operand.const (Value.int IntKind.i64 2))) (some (Operand.tmp 35)) none, type := 47, pos := "tomb.go:50", after := #[{ on := 1, ground := Ground.data }, { on := 3, ground := Ground.data }], guard := none }) (v := .slice ao1 ((q.drop 2).take n).length c1) rfl (by kernel_rfl) (by kernel_rfl) (by kernel_rfl) (fun _ _ _ h => h) (yields_slice (by rfl) (.tmp 33) (some (.const (.int .i64 2))) (some (.tmp 35)) 47 rfl 5 1 (.int .u8 0) 1 Try.underlying47 infoU8 bo2 q.length bc2 rfl 2 (2 + n) (by exact hb1) _ (by rw [show 2 + n - 2 = n by omega]; exact he1.symm)) hS ?_
              try simp only [Act.put, List.setIfInBounds_toArray, List.set_cons_zero, List.set_cons_succ]
              refine wpAnyH_take (i := 5) (oi := { dst := some 37, op := Op.convert 47 9 (Operand.tmp 36), type := 9, pos := "tomb.go:50", after := #[{ on := 4, ground := Ground.data }], guard := none }) (v := .string (nameS q)) rfl (by kernel_rfl) (by kernel_rfl) (by kernel_rfl) (fun _ _ _ h => h) (yields_convert (by rfl) (.tmp 36) 47 9 rfl _ _ rfl (fun w hs => by rw [← HNS.out]; exact run_str hs _ _ _ Try.underlying47 Try.underlying5 Try.underlying9)) hS ?_
              try simp only [Act.put, List.setIfInBounds_toArray, List.set_cons_zero, List.set_cons_succ]
              refine wpAnyH_take (i := 6) (oi := { dst := some 38, op := Op.move (Operand.tmp 0), type := 47, pos := "tomb.go:50", after := #[], guard := none }) (v := ?_) rfl (by kernel_rfl) (by kernel_rfl) (by kernel_rfl) (fun _ _ _ h => h) (Or.inl ⟨by rfl, ?_⟩) hS ?_
              rotate_left
              · intro w hSw; (try dsimp only at hSw); go_simp; try with_reducible rfl
              try simp only [Act.put, List.setIfInBounds_toArray, List.set_cons_zero, List.set_cons_succ]
              refine wpAnyH_take (i := 7) (oi := { dst := some 39, op := Op.move (Operand.tmp 8), type := 3, pos := "tomb.go:50", after := #[], guard := none }) (v := ?_) rfl (by kernel_rfl) (by kernel_rfl) (by kernel_rfl) (fun _ _ _ h => h) (Or.inl ⟨by rfl, ?_⟩) hS ?_
              rotate_left
              · intro w hSw; (try dsimp only at hSw); go_simp; try with_reducible rfl
              try simp only [Act.put, List.setIfInBounds_toArray, List.set_cons_zero, List.set_cons_succ]
              refine wpAnyH_take (i := 8) (oi := { dst := some 40, op := Op.binOp BinOp.add 3 (Operand.const (Value.int IntKind.i64 2)) (Operand.tmp 39) 3, type := 3, pos := "tomb.go:50", after := #[{ on := 7, ground := Ground.data }], guard := none }) (v := ?_) rfl (by kernel_rfl) (by kernel_rfl) (by kernel_rfl) (fun _ _ _ h => h) (Or.inl ⟨by rfl, ?_⟩) hS ?_
              rotate_left
              · intro w hSw; (try dsimp only at hSw); go_simp; try with_reducible rfl
              try simp only [Act.put, List.setIfInBounds_toArray, List.set_cons_zero, List.set_cons_succ]
              refine wpAnyH_take (i := 9) (oi := { dst := some 41, op := Op.slice 47 (Operand.tmp 38) (some (Operand.tmp 40)) none none, type := 47, pos := "tomb.go:50", after := #[{ on := 6, ground := Ground.data }, { on := 8, ground := Ground.data }], guard := none }) (v := .slice ao2 (nameR q).length c2) rfl (by kernel_rfl) (by kernel_rfl) (by kernel_rfl) (fun _ _ _ h => h) (yields_slice (by rfl) (.tmp 38) (some (.tmp 40)) none 47 rfl 5 1 (.int .u8 0) 1 Try.underlying47 infoU8 bo2 q.length bc2 rfl (2 + n) q.length (by exact hb2) _ he2.symm) hS ?_
              try simp only [Act.put, List.setIfInBounds_toArray, List.set_cons_zero, List.set_cons_succ]
              refine wpAnyH_take (i := 10) (oi := { dst := some 42, op := Op.nilCheck (Operand.tmp 32), type := 0, pos := "tomb.go:50", after := #[{ on := 0, ground := Ground.data }, { on := 0, ground := Ground.phase }, { on := 1, ground := Ground.phase }, { on := 2, ground := Ground.phase }, { on := 3, ground := Ground.phase }, { on := 4, ground := Ground.phase }, { on := 5, ground := Ground.phase }, { on := 6, ground := Ground.textOnly Departure.lateStores }, { on := 7, ground := Ground.textOnly Departure.lateStores }, { on := 8, ground := Ground.textOnly Departure.lateStores }, { on := 9, ground := Ground.textOnly Departure.lateStoresUnsure }], guard := none }) (v := ?_) rfl (by kernel_rfl) (by kernel_rfl) (by kernel_rfl) (fun _ _ _ h => h) (Or.inl ⟨by rfl, ?_⟩) hS ?_
              rotate_left
              · intro w hSw; (try dsimp only at hSw); go_simp; try with_reducible rfl
              try simp only [Act.put, List.setIfInBounds_toArray, List.set_cons_zero, List.set_cons_succ]
              refine wpAnyH_ready (rs := [11]) (by kernel_rfl) (by simp) (AllReadyH.cons (o := { dst := none, op := Op.store 9 (Operand.tmp 42) (Operand.tmp 37), type := 0, pos := "tomb.go:50", after := #[{ on := 10, ground := Ground.data }, { on := 5, ground := Ground.data }, { on := 0, ground := Ground.phase }, { on := 1, ground := Ground.phase }, { on := 2, ground := Ground.phase }, { on := 3, ground := Ground.phase }, { on := 4, ground := Ground.phase }, { on := 5, ground := Ground.phase }, { on := 6, ground := Ground.textOnly Departure.lateStores }, { on := 7, ground := Ground.textOnly Departure.lateStores }, { on := 8, ground := Ground.textOnly Departure.lateStores }, { on := 9, ground := Ground.textOnly Departure.lateStoresUnsure }], guard := none }) rfl (fun K hK => ?_) AllReadyH.nil)
              go_simp
              refine hK.out _ _ hS2 (fun hh => ?_)
              clear hK K hh hS
              have hS := hS2
              try simp only [Act.put, List.setIfInBounds_toArray, List.set_cons_zero, List.set_cons_succ]
              refine wpAnyH_take (i := 12) (oi := { dst := some 0, op := Op.assign (Operand.tmp 41), type := 47, pos := "tomb.go:50", after := #[{ on := 9, ground := Ground.data }, { on := 11, ground := Ground.chain }, { on := 0, ground := Ground.phase }, { on := 1, ground := Ground.phase }, { on := 2, ground := Ground.phase }, { on := 3, ground := Ground.phase }, { on := 4, ground := Ground.phase }, { on := 5, ground := Ground.phase }, { on := 6, ground := Ground.phase }, { on := 7, ground := Ground.phase }, { on := 8, ground := Ground.phase }, { on := 9, ground := Ground.phase }, { on := 10, ground := Ground.phase }, { on := 11, ground := Ground.phase }], guard := none }) (v := ?_) rfl (by kernel_rfl) (by kernel_rfl) (by kernel_rfl) (fun _ _ _ h => h) (Or.inl ⟨by rfl, ?_⟩) hS ?_
              rotate_left
              · intro w hSw; (try dsimp only at hSw); go_simp; try with_reducible rfl
              try simp only [Act.put, List.setIfInBounds_toArray, List.set_cons_zero]
              refine wpAnyH_done (by kernel_rfl) ?_ _
              go_wp2_with fail
              go_roundg (gk - 1)
              case measure => go_light; omega
              case rel =>
                go_light
                exact ⟨i + 1, nameR q, ao2, c2, by omega, by go_num, hqn, by first | rfl | simp, HQN, HNN, HR2, HSTEP, HON, HBN, HBLN⟩
            · have HBAD := Lib.hid (HBADN.out hno)
              by_cases hn1 : q.length < 2 + n
              · have hn1I : (q.length : Int) < 2 + (n : Int) := by omega
                clear hno hn1 HNK
                go_wp2_with fail
                go_ret2
                exact ⟨HB5.out, .inl ⟨HBAD.out, by go_light; rfl⟩⟩
              · have hn1I : ¬ (q.length : Int) < 2 + (n : Int) := by omega
                have hn2I : (4000 : Int) < (n : Int) := by
                  have := HNK.out
                  by_cases h4 : n ≤ 4000
                  · exact absurd (this.2 ⟨by omega, h4⟩) hno
                  · omega
                clear hno hn1 HNK
                go_wp2_with fail
                go_ret2
                exact ⟨HB5.out, .inl ⟨HBAD.out, by go_light; rfl⟩⟩
end Go.Proofs.Ytmhmmnleijadnaa

