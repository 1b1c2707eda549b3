/- Texts of ours, behind one another: FDec12. No conditions but those that each states. -/
import Derived.Test.YthcgalpabjjkoaaDoorG18
import Derived.Test.YthcgalpabjjkoaaDoorG13
import Derived.Test.YthcgalpabjjkoaaDoorG16
/- XFDec12: file.Decode of what Encode wrote. -/
namespace Go.Proofs.YthcgalpabjjkoaaDoor
open Go.RowKit
set_option linter.unusedVariables false
set_option maxRecDepth 100000

theorem encL_zero {l : List Cn} {bs : List UInt8} (h : encL l = (bs, 0)) : frmC l = true ∧ ∃ o x, l.foldl stC (some (magB, [])) = some (o, x) ∧ bs = fin o x := by
  unfold encL at h
  split at h
  · rename_i hf
    refine ⟨hf, ?_⟩
    split at h
    · simp at h
    · rename_i o x he
      simp only [Prod.mk.injEq] at h
      exact ⟨o, x, he, h.1.symm⟩
  · simp at h
theorem col_place {l : List Cn} {o x : List UInt8} (h : l.foldl stC (some (magB, [])) = some (o, x)) {i : Nat} (hi : i < l.length) {o0 x0 : List UInt8} (hk : (l.take i).foldl stC (some (magB, [])) = some (o0, x0)) :
    ∃ o1 x1 or_ xr, (l.take (i + 1)).foldl stC (some (magB, [])) = some (o1, x1) ∧ stC (some (o0, x0)) (l.getD i c0) = some (o1, x1) ∧ o = o1 ++ or_ ∧ x = x1 ++ xr ∧ x0.length < x1.length := by
  obtain ⟨o1, x1, ra, rb, h1, h2, h3⟩ := foldC_split (j := i + 1) h
  have h4 := foldC_next hi hk
  rw [h1] at h4
  refine ⟨o1, x1, ra, rb, h1, h4.symm, h2, h3, ?_⟩
  obtain ⟨_, _, e, h5, _⟩ := stC_some h4.symm
  simp only [Option.some.injEq, Prod.mk.injEq] at e
  obtain ⟨rfl, rfl⟩ := e
  obtain ⟨_, rb2, _, h6⟩ := foldP_pre h5
  rw [h6, List.length_append, List.length_append, hdC_len]
  omega
theorem fin_parts (o x : List UInt8) : (fin o x).length = o.length + x.length + 8 ∧ ((fin o x).drop 0).take (o.length - 0) = o ∧ ((fin o x).drop o.length).take (o.length + x.length - o.length) = x ∧
    ((fin o x).drop (o.length + x.length)).take (o.length + x.length + 4 - (o.length + x.length)) = beN 4 o.length := by
  refine ⟨?_, ?_, ?_, ?_⟩
  · unfold fin
    simp only [List.length_append, beN_len]
    omega
  · exact seg (a := []) (b := o) (c := x ++ (beN 4 o.length ++ beN 4 (crc x))) rfl _ (by omega)
  · exact seg (a := o) (b := x) (c := beN 4 o.length ++ beN 4 (crc x)) rfl _ (by omega)
  · have h := seg (X := fin o x) (a := o ++ x) (b := beN 4 o.length) (c := beN 4 (crc x)) (by unfold fin; simp only [List.append_assoc]) (o.length + x.length + 4 - (o.length + x.length)) (by rw [beN_len]; omega)
    rw [List.length_append] at h
    exact h

set_option maxHeartbeats 20000000 in
theorem fdecode_any (l : List Cn) (bs : List UInt8) (hE : encL l = (bs, 0)) (hok : ∀ c ∈ l, c.ok) (v : Value) (w : World) (ht : Tab w) (hr : Rd w v bs) :
    Calls Tryd.prog 8 #[v] w fun e w' => Below w.heap.size w w' ∧ ∃ (cs : List Cb) (ao : Option Addr) (cap : Nat), e = .returned (.tuple #[.slice ao cs.length cap, .int .i64 0]) ∧ cnS cs = l ∧ Cols w' (.slice ao cs.length cap) cs ∧ ∀ c ∈ cs, OwnP w' w.heap.size c.pv c.c.p := by
  obtain ⟨hfr, o, x, hfo, hbs⟩ := encL_zero hE
  have hn1 := frmC_count hfr
  have hsm := foldC_small (k := l.length) (Nat.le_refl _) (by rw [List.take_length]; exact hfo)
  obtain ⟨hpl, hp1, hp2, hp3⟩ := fin_parts o x
  rw [← hbs] at hpl hp1 hp2 hp3
  obtain ⟨bk, bo, cap, rfl, hcn, hcm, hbk, _⟩ := RdV.some hr.v (by omega) (by decide)
  have hm5 : 5 ≤ o.length := by
    obtain ⟨ra, _, h, _⟩ := foldC_pre hfo
    rw [h, List.length_append]
    show 5 ≤ 5 + _
    omega
  have HRB := Lib.hid hr
  have HRO : Hid (Rd w (.slice (some ⟨bk, bo, none⟩) o.length cap) o) := Lib.hid (by
    have h := cut_at hr 0 o.length (Nat.zero_le _) (by omega) (by omega) (c := o) (by rw [hp1])
    simpa using h)
  have HRX : Hid (Rd w (.slice (some ⟨bk, bo + o.length, none⟩) x.length (cap - o.length)) x) := Lib.hid (cut_at hr o.length (o.length + x.length) (by omega) (by omega) (by omega) (c := x) (by rw [hp2]))
  have HRN : Hid (Rd w (.slice (some ⟨bk, bo + (o.length + x.length), none⟩) 4 (cap - (o.length + x.length))) (beN 4 o.length)) := Lib.hid (by
    have h := cut_at hr (o.length + x.length) (o.length + x.length + 4) (by omega) (by omega) (by omega) (c := beN 4 o.length) (by rw [hp3])
    rw [beN_len] at h
    exact h)
  have HE := Lib.hid hE
  have HOK := Lib.hid hok
  have HFR := Lib.hid hfr
  have HFO := Lib.hid hfo
  have HTB := Lib.hid ht
  have HTL := Lib.hid ht.lt
  obtain ⟨n, hn⟩ : ∃ n, n = l.length := ⟨_, rfl⟩
  rw [← hn] at hn1
  have HN := Lib.hid hn
  obtain ⟨bl, hbl⟩ : ∃ k, k = bs.length := ⟨_, rfl⟩
  rw [← hbl] at hpl hcn ⊢
  have HBL := Lib.hid hbl
  obtain ⟨ol, hol⟩ : ∃ k, k = o.length := ⟨_, rfl⟩
  obtain ⟨xl, hxl⟩ : ∃ k, k = x.length := ⟨_, rfl⟩
  rw [← hol, ← hxl] at hpl hsm HRX HRN
  rw [← hol] at hm5 HRO
  have HOL := Lib.hid hol
  have HXL := Lib.hid hxl
  obtain ⟨nn, hnn⟩ : ∃ k, k = ol + xl := ⟨_, rfl⟩
  rw [← hnn] at hpl HRN hsm
  have hnx : nn - ol = xl := by omega
  have hnol : ol ≤ nn := by omega
  have HNX0 := Lib.hid hnx
  have HNN := Lib.hid hnn
  have hblI : (bl : Int) - 8 = (nn : Int) := by omega
  have hblw : IntKind.i64.wrap ((bl : Int) - 8) = (nn : Int) := by rw [hblI]; exact IntWalk.i64_in _ (by omega)
  have HXS := Lib.hid (show xl ≤ 1073741824 ∧ ol ≤ 1073741824 by omega)
  have HOX := Lib.hid (show xl + 1 ≤ cap - ol by omega)
  clear hE hok hfr hfo ht hn hbl hol hxl hp1 hp2 hp3 hbs hr hnx hnn
  unfold maxLen at hcm
  have HCM : Hid (cap - ol ≤ maxLen) := Lib.hid (by unfold maxLen; omega)
  have hR := fun (w' : World) (hb : Below w.heap.size w w') => readN_any 4 ol (.slice (some ⟨bk, bo + nn, none⟩) 4 (cap - nn)) w' (by decide) (by decide) (by omega) (RdV.below HRN.out hb)
  have HRF := Lib.hid hR
  clear hR
  have hnc : nn + 8 ≤ cap := by omega
  go_enter Tryd.func8, Tryd.ntmps8
  go_upto_region 8 with (go_at_call 25; refine (HRF.out _ (Below.refl _ _)).mono ?_; rintro _ w1 ⟨rfl, hb1⟩; have HB1 := Lib.hid hb1; clear hb1)
  clear hblI hblw
  go_upto_region 10 with fail
  rw [HNX0.out]
  rw [show decide (nn < ol) = false by simp; omega]
  have HD0 : Hid (Dst w ((w1.alloc (.cells #[.int .i64 5] 3)).alloc (.cells #[.slice (some ⟨bk, bo + ol, none⟩) xl (cap - ol)] 33)) w1.heap.size (w1.heap.size + 1) (ixV bk (bo + ol) xl (cap - ol) 0) 5 none 0 []) := Lib.hid
    ⟨⟨by simp [go_sem, ixV], by rw [World.frozen?_alloc_at _ _ _ _ (by simp)], by simp⟩, ⟨by simp [go_sem], by rw [World.frozen?_alloc_past _ _ _ (by simp), World.frozen?_alloc_at _ _ _ _ (by simp)], by simp; omega⟩, by omega, HB1.out.size, World.ownsRow_nil _ _ _ _, fun k e => by simp [Value.ownBlock] at e, fun c hc => by simp at hc, (HB1.out.alloc HB1.out.size _).alloc (by have := HB1.out.size; simp; omega) _⟩
  have hpb := HB1.out.size
  generalize (w1.alloc (.cells #[.int .i64 5] 3)).alloc (.cells #[.slice (some ⟨bk, bo + ol, none⟩) xl (cap - ol)] 33) = w2 at *
  generalize w1.heap.size = pn at *
  obtain ⟨pi0, hpi0⟩ : ∃ k, k = pn + 1 := ⟨_, rfl⟩
  rw [← hpi0] at HD0 ⊢
  clear hpi0
  have HPB := Lib.hid hpb
  clear hpb HB1 HRF
  go_loopg [6, 8] n (fun m s6 s8 wz => ∃ (i : Nat) (cs : List Cb) (o0 x0 : List UInt8) (la : Option Addr) (lc pi : Nat), i + m = n ∧ s6 = .slice la cs.length lc ∧ s8 = .pointer (some ⟨pi, 0, none⟩) ∧ Hid (cnS cs = l.take i) ∧ Hid ((l.take i).foldl stC (some (magB, [])) = some (o0, x0)) ∧ Hid (Dst w wz pn pi (ixV bk (bo + ol) xl (cap - ol) x0.length) (o0.length : Int) la lc cs))
  case atStart => exact ⟨0, [], magB, [], none, 0, pi0, by omega, rfl, rfl, Lib.hid rfl, Lib.hid rfl, HD0⟩
  case round =>
    clear HD0
    obtain ⟨i, cs, o0, x0, la, lc, pi, hi, rfl, rfl, HCS, HF, HD⟩ := hrel
    have hin' : i ≤ n := by omega
    have hcl : cs.length = i := by rw [← cnS_len, HCS.out, List.length_take, ← HN.out]; omega
    have HCL := Lib.hid hcl
    have q0 := HD.out.ix.c
    unfold ixV at q0
    obtain ⟨k0, hk0⟩ : ∃ k, k = x0.length := ⟨_, rfl⟩
    rw [← hk0] at q0
    by_cases h0 : gk = 0
    · obtain rfl : i = n := by omega
      have hx0 : x0 = x := by
        have h := HF.out
        rw [List.take_of_length_le (by rw [HN.out]; exact Nat.le_refl _), HFO.out] at h
        simp only [Option.some.injEq, Prod.mk.injEq] at h
        exact h.2.symm
      have hrm : xl - k0 = 0 := by rw [HXL.out, hk0, hx0, Nat.sub_self]
      rw [hrm] at q0
      have HCL2 : Hid (cnS cs = l) := Lib.hid (by rw [HCS.out, List.take_of_length_le (by rw [HN.out]; exact Nat.le_refl _)])
      have hmem : ∀ c ∈ cs, c.c ∈ l := fun c hc => by rw [← HCL2.out]; exact List.mem_map_of_mem hc
      have hcp : ∀ c ∈ cs, c.c.p.length ≤ 1000000 := fun c hc => by
        obtain ⟨j, hj, e⟩ := List.getElem_of_mem (hmem c hc)
        have h := (frmC_at HFR.out hj).2.2.2
        rwa [getD_get l j c0 hj, e] at h
      have hEN := fencode_any cs (.slice la cs.length lc) wr (by rw [hcl]; omega) (fun c hc => by have := hcp c hc; omega) (fun c hc => HOK.out _ (hmem c hc)) (HTB.out.below HD.out.below) HD.out.cols
      unfold FeEnd at hEN
      rw [HCL2.out, HE.out] at hEN
      dsimp only at hEN
      have HPS : Hid (∀ c ∈ cs, OwnP wr w.heap.size c.pv c.c.p) := Lib.hid (fun c hc => (HD.out.ps c hc).1.mono (by have := HPB.out; omega))
      have HRB1 := HRB.out
      rw [← HBL.out, hpl] at HRB1
      have HRB2 := Lib.hid HRB1
      have hEQ := fun (w9 : World) (a9 : Value) (h1 : Rd w9 (.slice (some ⟨bk, bo, none⟩) (nn + 8) cap) bs) (h2 : Rd w9 a9 bs) => bytesEqual_any bs bs (.slice (some ⟨bk, bo, none⟩) (nn + 8) cap) a9 w9 h1 h2
      have HEQ := Lib.hid hEQ
      clear hEQ hmem hcp HRB1 hrm hx0 hk0 hi hin' h0 hcl
      go_wp2_with (first
        | (go_at_call 6; refine hEN.mono ?_; rintro _ w8 ⟨hb8, ao8, cap8, rfl, ho8⟩; have HB8 := Lib.hid hb8; have HO8 := Lib.hid ho8; clear hb8 ho8 hEN)
        | (go_at_call 27; refine (HEQ.out _ _ (RdV.below HRB2.out (HD.out.below.trans (HB8.out.mono HD.out.below.size))) HO8.out.rd).mono ?_; rintro _ w9 ⟨rfl, hb9⟩; have HB9 := Lib.hid hb9; clear hb9))
      go_ret2
      rw [HB9.out]
      exact ⟨HD.out.below.trans (HB8.out.mono HD.out.below.size), cs, la, lc, rfl, HCL2.out, HD.out.cols.below HB8.out, fun c hc => OwnP.below (HPS.out c hc) HB8.out⟩
    · have hin : i < n := by omega
      have hil : i < l.length := by rw [← HN.out]; exact hin
      obtain ⟨o1, x1, or_, xr, h1, h2, h3, h4, h5⟩ := col_place HFO.out hil HF.out
      obtain ⟨hz1, hz2, hz3, hz4⟩ := frmC_at HFR.out hil
      have hcok := HOK.out _ (show l.getD i c0 ∈ l by rw [getD_get l i c0 hil]; exact List.getElem_mem hil)
      have hxle : x1.length ≤ xl := by rw [HXL.out, h4, List.length_append]; omega
      have hk0l : k0 < xl := by omega
      have hbase := HD.out.base
      have hlt := HD.out.lt
      have htl := HTL.out
      have hws := HD.out.below.size
      have hpil := HD.out.ix.l
      dsimp only at hpil
      have hCO := column_any (l.getD i c0) o0 x0 o1 x1 o x or_ xr h2 h3 h4 hcok hz1 hz2 hz3 hz4 pi pn bk bo cap (bo + ol) (cap - ol) wr (by omega) (by omega) (by omega) (by omega) (by omega) (by omega) (by rw [← HXL.out]; exact HOX.out) HCM.out (by rw [← HOL.out]; exact HXS.out.2) (by rw [← HXL.out]; exact HXS.out.1)
        (HTB.out.below HD.out.below) (by rw [← HOL.out]; exact RdV.below HRO.out HD.out.below) (by rw [← HXL.out]; exact RdV.below HRX.out HD.out.below) (by rw [← HXL.out]; exact HD.out.ix) HD.out.nx
      rw [← HOL.out, ← HXL.out] at hCO
      have HNXT : Hid (cnS cs ++ [l.getD i c0] = l.take (i + 1)) := Lib.hid (by rw [HCS.out, List.take_add_one, List.getElem?_eq_getElem hil, getD_get l i c0 hil]; rfl)
      have HROW : Hid (∀ k, (Value.slice la cs.length lc).ownBlock = some k → k < wr.heap.size) := Lib.hid (fun k hk => (World.ownsRow.lt HD.out.ls k hk).2)
      have HF1 := Lib.hid h1
      have HPN4 := Lib.hid hz4
      generalize l.getD i c0 = c at *
      obtain ⟨PN, hPN⟩ : ∃ k, k = c.p.length := ⟨_, rfl⟩
      rw [← hPN] at hCO
      have HPN := Lib.hid hPN
      have HPIL := Lib.hid hpil
      have hclI : ¬ ((i : Int) = 1048576) := by omega
      have hclB : ((i : Int) == 1048576) = false := by simp; omega
      obtain ⟨rm, hrm⟩ : ∃ k, k = xl - k0 := ⟨_, rfl⟩
      have hrm0 : 0 < rm := by omega
      have hrmI : (0 : Int) < (rm : Int) := by omega
      rw [← hrm] at q0
      have hocap : ol ≤ cap := by omega
      clear hrm hk0l hxle hPN h1 h2 h3 h4 h5 hz1 hz2 hz3 hz4 hcok hk0 hbase hlt htl hws hpil hil hin'
      rw [hcl]
      go_upto_region 12 with (go_at_call 26; refine hCO.mono ?_; rintro _ w5 ⟨ao5, cap5, rfl, hp5, hc5, hi5, hn5⟩; have HD5 := Lib.hid (HD.out.col hc5 hi5 hn5); have HP5 := Lib.hid hp5; have HSZ5 := Lib.hid hc5.size; clear hp5 hc5 hi5 hn5 hCO)
      have g0 : (w5.alloc (.cells #[.string c.s, .string c.f, .slice ao5 PN cap5] 31)).cell? ⟨w5.heap.size, 0, none⟩ = some (.string c.s) := by simp [go_sem]
      have g1 : (w5.alloc (.cells #[.string c.s, .string c.f, .slice ao5 PN cap5] 31)).cell? ⟨w5.heap.size, 1, none⟩ = some (.string c.f) := by simp [go_sem]
      have g2 : (w5.alloc (.cells #[.string c.s, .string c.f, .slice ao5 PN cap5] 31)).cell? ⟨w5.heap.size, 2, none⟩ = some (.slice ao5 PN cap5) := by simp [go_sem]
      have hb6 : Below w5.heap.size w5 (w5.alloc (.cells #[.string c.s, .string c.f, .slice ao5 PN cap5] 31)) := (Below.refl _ _).alloc (Nat.le_refl _) _
      have HD6 := Lib.hid (HD5.out.below' hb6)
      have HP6 := Lib.hid (OwnP.below (by have h := HP5.out; rw [HPN.out] at h; exact h : OwnP w5 wr.heap.size (.slice ao5 c.p.length cap5) c.p) hb6)
      clear hb6 HD5 HP5 q0
      generalize w5.alloc (.cells #[.string c.s, .string c.f, .slice ao5 PN cap5] 31) = w6 at *
      generalize w5.heap.size = gc at *
      have HPL : Hid (∀ k, (Value.slice ao5 c.p.length cap5).ownBlock = some k → (Value.slice la cs.length lc).ownBlock ≠ some k) := Lib.hid (fun k hk e => by have h1 := (World.ownsRow.lt HP6.out k hk).1; have h2 := HROW.out k e; omega)
      have HL6 : Hid (w6.ownsRow (pn + 1) 31 3 (.slice la i lc) i (cs.flatMap Cb.cells)) := Lib.hid (by have h := HD6.out.ls; rw [HCL.out] at h; exact h)
      have h63 : i + 1 ≤ maxLen := by unfold maxLen; omega
      have hby : (i + 1) * 56 ≤ 140737488355328 := by omega
      have hbs : ∀ o, pn + 1 ≤ (w6.alloc o).heap.size := fun o => by have := HD6.out.nx.l; simp at this ⊢; omega
      have hone : ∀ u ∈ [Value.string c.s, .string c.f, .slice ao5 PN cap5], u.oneCell' = true := by
        intro u hu
        simp only [List.mem_cons, List.not_mem_nil, or_false] at hu
        rcases hu with rfl | rfl | rfl <;> rfl
      go_upto_region 15 with (at_builtin; refine wpList_append_rd (w6.alloc _) rfl _ _ 32 rfl (pn + 1) 31 (.agg #[.string .empty, .string .empty, .slice none 0 0]) 3 56 Tryd.underlying32 infoCol rfl (by decide) (.slice la i lc) i (cs.flatMap Cb.cells) rfl (World.ownsRow.alloc HL6.out _) (.slice (some ⟨w6.heap.size, 0, none⟩) 1 1) 1 [.string c.s, .string c.f, .slice ao5 PN cap5] rfl (RdV.lit w6 #[.string c.s, .string c.f, .slice ao5 PN cap5] 31 1 3 (by decide) rfl) hone h63 hby (hbs _) ?_; intro ao7 cap7 w7 hg7; have HG7 := Lib.hid hg7.ofAlloc; clear hg7)
      have HG8 : Hid (Grew w6 w7 (pn + 1) 31 3 (.slice la cs.length lc) (.slice ao7 (cs.length + 1) cap7) (cs.length + 1) (cs.flatMap Cb.cells ++ Cb.cells ⟨c, .slice ao5 c.p.length cap5⟩)) := Lib.hid (by
        have h := HG7.out
        rw [HPN.out] at h
        rw [HCL.out]
        exact h)
      have HD7 := Lib.hid (HD6.out.snoc (c := ⟨c, .slice ao5 c.p.length cap5⟩) (OwnP.mono HP6.out (by have := HPIL.out; omega)) HPL.out HG8.out)
      have q1 := HD7.out.ix.c
      unfold ixV at q1
      have HD8 := Lib.hid (HD7.out.next 33)
      unfold ixV at HD8
      clear HD6 HD7 HG7 HG8 g0 g1 g2 h63 hby hbs hone hclI hclB
      go_wp2_with fail
      go_roundg (gk - 1)
      case measure => go_light; omega
      case rel =>
        go_light
        refine ⟨i + 1, cs ++ [⟨c, .slice ao5 c.p.length cap5⟩], o1, x1, ao7, cap7, w7.heap.size, by omega, by rw [List.length_append, HCL.out]; rfl, rfl, Lib.hid ?_, HF1, Lib.hid (by have h := HD8.out; exact h)⟩
        rw [← HNXT.out]
        unfold cnS
        rw [List.map_append]
        rfl
end Go.Proofs.YthcgalpabjjkoaaDoor
