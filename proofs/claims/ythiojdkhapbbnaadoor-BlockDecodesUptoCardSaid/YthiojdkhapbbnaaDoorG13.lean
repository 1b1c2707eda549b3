/- Texts of ours, behind one another: RLzUn, RRead1, RRead2, RRead3, RRead4, RDec07. No conditions but those that each states. -/
import Derived.Test.YthiojdkhapbbnaaDoorG7
import Derived.Test.YthiojdkhapbbnaaDoorG6
import Derived.Test.YthiojdkhapbbnaaDoorG1
import Derived.Test.YthiojdkhapbbnaaDoorG4
import Derived.Test.YthiojdkhapbbnaaDoorG3
import Derived.Test.YthiojdkhapbbnaaDoorG8
/- XRLzUn: gristref06.Unpack of any bytes. -/
namespace Go.Proofs.YthiojdkhapbbnaaDoor
open Go.RowKit
set_option linter.unusedVariables false

set_option maxHeartbeats 2000000 in
set_option maxRecDepth 100000 in
theorem runlz_any (P : List UInt8) (lim : Nat) (hlim : lim ≤ 100000000) (v : Value) (w : World) (hP : P.length ≤ 140737488355328) (hr : Rd w v P) :
    Calls Tryd.prog 83 #[v, .int .i64 (lim : Int)] w fun e w' => LzEnd lim P w e w' := by
  obtain ⟨ao0, cap0, rfl, hnc, hcm⟩ := RdV.shape hr
  unfold maxLen at hcm
  obtain ⟨n, hn⟩ : ∃ n, n = P.length := ⟨_, rfl⟩
  have HN := Lib.hid hn
  have HR := Lib.hid hr
  rw [← hn] at hnc hP ⊢
  have HRB := Lib.hid (fun (h : 0 < n) k (hk : (Value.slice ao0 n cap0).ownBlock = some k) => Rd.blk hr (by omega) k (by rw [← hn]; exact hk))
  clear hr hn
  go_enter Tryd.func83, Tryd.ntmps83
  go_wp2_with fail
  go_loopg [6, 7] n (fun m s6 s7 wr => ∃ (at0 : Nat) (os : List UInt8) (ao : Option Addr) (cap : Nat), at0 + m = n ∧ s7 = .int .i64 (at0 : Int) ∧ s6 = .slice ao os.length cap ∧ os.length ≤ lim ∧ Hid (LzI lim P os (P.drop at0)) ∧ Hid (Own wr w.heap.size (.slice ao os.length cap) os) ∧ Hid (Below w.heap.size w wr))
  case atStart => exact ⟨0, [], none, 0, by omega, rfl, rfl, Nat.zero_le _, Lib.hid (LzI.start _ _), Lib.hid (Own.nil _ _), Lib.hid (Below.refl _ _)⟩
  case round =>
    obtain ⟨at0, os, ao, cap, hm, rfl, rfl, hol, HI, hO, hB⟩ := hrel
    have hba := hB.out.size
    by_cases hend : gk = 0
    · obtain rfl : at0 = n := by omega
      have HD := Lib.hid (show LzOut lim P os from by have := HI.out; rw [HN.out, List.drop_length] at this; exact this.done)
      clear hm hend
      go_wp2_with fail
      go_ret2
      exact ⟨hB.out, os, ao, cap, 0, rfl, hO.out, hol, HD.out⟩
    · have hatn : at0 < n := by omega
      have hatP : Hid (at0 < P.length) := Lib.hid (by rw [← HN.out]; exact hatn)
      obtain ⟨x, R, hxR⟩ : ∃ x R, P.drop at0 = x :: R := ⟨P[at0]'hatP.out, P.drop (at0 + 1), List.drop_eq_getElem_cons hatP.out⟩
      have HXR := Lib.hid hxR
      obtain ⟨q, hq⟩ : ∃ q, q = R.length := ⟨_, rfl⟩
      have hqn : at0 + 1 + q = n := by
        have := congrArg List.length hxR
        rw [List.length_drop, List.length_cons, ← hq, ← HN.out] at this
        omega
      have HQ := Lib.hid hq
      have hget : ∀ i y, (x :: R)[i]? = some y → P[at0 + i]? = some y := fun i y h => by rw [← hxR, List.getElem?_drop] at h; exact h
      have HRD := Lib.hid (show Rd wr (.slice ao0 P.length cap0) P from RdV.below HR.out hB.out)
      obtain ⟨b, off, bcap, hbv, hbn, hbm, hbl, _⟩ := RdV.some HRD.out.v (by have := hatP.out; omega) (by decide)
      simp only [Value.slice.injEq, true_and] at hbv
      obtain ⟨rfl, rfl⟩ := hbv
      have e0 : wr.cell? ⟨b, off + at0, none⟩ = some (.int .u8 (x.toNat : Int)) := rd_cells HRD.out at0 x (by have := hget 0 x rfl; simpa using this)
      have hRb := HRB.out (by omega) b rfl
      have HNE := Lib.hid (show (Value.slice ao os.length cap).ownBlock ≠ some b from fun h => by have := (hO.out.lt b h).1; omega)
      obtain ⟨N, hN⟩ : ∃ N, N = x.toNat := ⟨_, rfl⟩
      have hN255 : N < 256 := by rw [hN]; exact x.toNat_lt
      rw [← hN] at e0
      have HNX := Lib.hid hN
      have HI1 := Lib.hid (show LzI lim P os (x :: R) from by have := HI.out; rw [hxR] at this; exact this)
      have HM := Lib.hid hm
      have HQN := Lib.hid hqn
      have HG := Lib.hid hget
      have hqle : at0 + 1 ≤ n := by omega
      unfold maxLen at hbm
      clear hm hxR hq hN HI hget
      by_cases h0 : N = 0
      · subst h0
        have HNO := Lib.hid (HI1.out.bad (.inl HNX.out.symm))
        clear hqn
        go_wp2_with fail
        go_ret2
        exact LzEnd.no hB.out HNO.out _
      · have hn0 : ((N : Int) == 0) = false := by simp; omega
        by_cases h128 : N < 128
        · by_cases hsh : q < N
          · have HNO := Lib.hid (HI1.out.bad (.inr (.inl ⟨by rw [← HNX.out]; exact h128, by rw [← HNX.out, ← HQ.out]; exact hsh⟩)))
            have hle : (n : Int) < (at0 : Int) + 1 + (N : Int) := by omega
            clear hqn
            go_wp2_with fail
            go_ret2
            exact LzEnd.no hB.out HNO.out _
          · have hgt : ¬ (n : Int) < (at0 : Int) + 1 + (N : Int) := by omega
            have HL := Lib.hid (HI1.out.lit (by rw [← HNX.out]; omega) (by rw [← HNX.out]; exact h128) (by rw [← HNX.out, ← HQ.out]; omega))
            obtain ⟨c, hc⟩ : ∃ c, c = R.take N := ⟨_, rfl⟩
            have hRe : R = P.drop (at0 + 1) := by
              have := congrArg (List.drop 1) HXR.out
              rw [List.drop_drop] at this
              exact this.symm
            have HL2 : Hid ((lim < os.length + N → LzNo lim P) ∧ LzI lim P (os ++ c) (P.drop (at0 + 1 + N))) := Lib.hid (by have := HL.out; rw [← HNX.out, ← hc, hRe, List.drop_drop] at this; exact this)
            have hcl : c.length = N := by rw [hc, List.length_take, ← HQ.out]; omega
            have HC : Hid (c = (P.drop (at0 + 1)).take (at0 + 1 + N - (at0 + 1))) := Lib.hid (by rw [hc, hRe, Nat.add_sub_cancel_left])
            obtain ⟨o2, ho2⟩ : ∃ o2, o2 = os ++ c := ⟨_, rfl⟩
            have ho2l : o2.length = os.length + N := by rw [ho2, List.length_append, hcl]
            have HO2 := Lib.hid ho2
            rw [← ho2] at HL2
            have hsum : Hid (os.length + c.length ≤ 140737488355328) := Lib.hid (by omega)
            have HO2L := Lib.hid ho2l
            have hhi : Hid (at0 + 1 + N ≤ P.length) := Lib.hid (by rw [← HN.out]; omega)
            have hle0 : at0 + 1 ≤ at0 + 1 + N := by omega
            have hnN : at0 + 1 + N ≤ n := by omega
            clear HL hc ho2 hcl ho2l hqn hRe
            go_upto_region 11 with (first
              | (with_reducible refine wpList_cut_both wr rfl (.tmp 31) (.tmp 33) (.tmp 37) 24 rfl Tryd.underlying24 (some ⟨b, off, none⟩) cap0 P n HN.out rfl .i64 .i64 ((at0 : Int) + 1) ((at0 : Int) + 1 + (N : Int)) rfl rfl HRD.out (at0 + 1) (at0 + 1 + N) rfl rfl hle0 hhi.out c HC.out ?_; intro ao5 cap5 hr5 hk5; have HR5 := Lib.hid hr5; clear hr5 hk5)
              | (at_builtin; refine wpList_append_bs _ rfl (.tmp 30) (.tmp 38) rfl w.heap.size (.slice ao os.length cap) os rfl hO.out (.slice ao5 c.length cap5) c rfl HR5.out hsum.out hba ?_; intro ao6 cap6 w6 hg6; rw [← HO2.out] at hg6 ⊢; have HG6 := Lib.hid hg6; clear hg6))
            have HB6 := Lib.hid (hB.out.trans (HG6.out.below hba (fun k hk => (hO.out.lt k hk).1)))
            by_cases hbig : lim < o2.length
            · have HNO := Lib.hid (HL2.out.1 (by have := HO2L.out; omega))
              go_wp2_with fail
              go_ret2
              exact LzEnd.no HB6.out HNO.out _
            · go_wp2_with fail
              go_roundg (n - (at0 + 1 + N))
              case measure => go_light; have := HM.out; omega
              case rel =>
                go_light
                exact ⟨at0 + 1 + N, o2, ao6, cap6, by omega, by congr 1, rfl, by omega, Lib.hid HL2.out.2, Lib.hid HG6.out.owns, HB6⟩
        · have hnI : ¬ (N : Int) < 128 := by omega
          have hnJ : (128 : Int) ≤ (N : Int) := by omega
          by_cases hsh : q < 2
          · have HNO := Lib.hid (HI1.out.bad (.inr (.inr ⟨by rw [← HNX.out]; omega, by rw [← HQ.out]; exact hsh⟩)))
            have hle : (n : Int) < (at0 : Int) + 3 := by omega
            clear hqn
            go_wp2_with fail
            go_ret2
            exact LzEnd.no hB.out HNO.out _
          · have hgt : ¬ (n : Int) < (at0 : Int) + 3 := by omega
            have h3n : at0 + 3 ≤ n := by omega
            have i1 : (at0 : Int) + 1 < (n : Int) := by omega
            have i2 : (at0 : Int) + 2 < (n : Int) := by omega
            have i3 : (0 : Int) ≤ (at0 : Int) + 1 := by omega
            have i4 : (0 : Int) ≤ (at0 : Int) + 2 := by omega
            have i5 : ((at0 : Int) + 1).toNat = at0 + 1 := by omega
            have i6 : ((at0 : Int) + 2).toNat = at0 + 2 := by omega
            have i7 : IntKind.i64.wrap ((at0 : Int) + 1) = (at0 : Int) + 1 := IntWalk.i64_in _ (by omega)
            have i8 : IntKind.i64.wrap ((at0 : Int) + 2) = (at0 : Int) + 2 := IntWalk.i64_in _ (by omega)
            obtain ⟨a, c, R2, hRe⟩ : ∃ a c R2, R = a :: c :: R2 := by
              match R, HQ.out with
              | [], h => simp at h; omega
              | [a], h => simp at h; omega
              | a :: c :: R2, h => exact ⟨a, c, R2, rfl⟩
            have e1 : wr.cell? ⟨b, off + (at0 + 1), none⟩ = some (.int .u8 (a.toNat : Int)) := rd_cells HRD.out (at0 + 1) a (HG.out 1 a (by rw [hRe]; rfl))
            have e2 : wr.cell? ⟨b, off + (at0 + 2), none⟩ = some (.int .u8 (c.toNat : Int)) := rd_cells HRD.out (at0 + 2) c (HG.out 2 c (by rw [hRe]; rfl))
            have HI2 : Hid (LzI lim P os (x :: a :: c :: R2)) := Lib.hid (by have := HI1.out; rw [hRe] at this; exact this)
            have HR2 : Hid (P.drop (at0 + 3) = R2) := Lib.hid (by
              have := congrArg (List.drop 3) HXR.out
              rw [List.drop_drop, hRe] at this
              exact this)
            have h128x : Hid (128 ≤ x.toNat) := Lib.hid (by rw [← HNX.out]; omega)
            obtain ⟨f1, hf1⟩ : ∃ f, f = a.toNat := ⟨_, rfl⟩
            obtain ⟨f2, hf2⟩ : ∃ f, f = c.toNat := ⟨_, rfl⟩
            have hfa : f1 < 256 := by rw [hf1]; exact a.toNat_lt
            have hfb : f2 < 256 := by rw [hf2]; exact c.toNat_lt
            rw [← hf1] at e1
            rw [← hf2] at e2
            obtain ⟨far, hfar⟩ : ∃ far, far = f1 * 256 + f2 := ⟨_, rfl⟩
            have HFAR : Hid (far = a.toNat * 256 + c.toNat) := Lib.hid (by rw [hfar, hf1, hf2])
            have HF12 := Lib.hid hfar
            have hf65 : far < 65536 := by omega
            clear hRe hf1 hf2 hfar hqn
            go_upto_region 14 with fail
            go_quiet (fail)
            rw [i64_pair f1 f2 hfa hfb, ← HF12.out]
            have hRq : Hid (Rd (wr.drewN nq) (.slice (some ⟨b, off, none⟩) P.length cap0) P) := HRD
            have hOq : Hid (Own (wr.drewN nq) w.heap.size (.slice ao os.length cap) os) := hO
            have hBq : Hid (Below w.heap.size w (wr.drewN nq)) := Lib.hid ⟨hB.out.os, hB.out.tape, hB.out.output, hB.out.size, hB.out.block⟩
            clear e0 e1 e2 HRD hO hB i1 i2 i3 i4 i5 i6 i7 i8
            generalize wr.drewN nq = wd at *
            by_cases hbad : far = 0 ∨ os.length < far
            · have HNO := Lib.hid (HI2.out.far h128x.out (by rw [← HFAR.out]; exact hbad))
              rcases hbad with rfl | hbad
              · go_wp2_with fail
                go_ret2
                exact LzEnd.no hBq.out HNO.out _
              · have hz : ¬ ((far : Int) < 1) := by omega
                have hfd : os.length < far := hbad
                go_wp2_with fail
                go_ret2
                exact LzEnd.no hBq.out HNO.out _
            · have hfar1 : 1 ≤ far := by omega
              have hfaro : far ≤ os.length := by omega
              have hz : ¬ ((far : Int) < 1) := by omega
              have hfd2 : ¬ os.length < far := by omega
              obtain ⟨C, hC⟩ : ∃ C, C = N - 124 := ⟨_, rfl⟩
              have hC1 : C ≤ 131 := by omega
              have hCI : (N : Int) - 128 + 4 = (C : Int) := by omega
              have HJ := Lib.hid (HI2.out.rep h128x.out far HFAR.out hfar1 hfaro C (by rw [hC, HNX.out]))
              obtain ⟨t, ht⟩ : ∃ t, t = os.length := ⟨_, rfl⟩
              have HTT := Lib.hid ht
              rw [← ht] at HJ
              have htl : t ≤ lim := by omega
              obtain ⟨g0, hg0⟩ : ∃ g, g = gk := ⟨gk, rfl⟩
              have HG0 := Lib.hid hg0
              clear ht hC hbad hg0
              go_wp2_with fail
              go_loopg [6, 74] C (fun m s6 s74 wr => ∃ (i : Nat) (os' : List UInt8) (ao : Option Addr) (cap : Nat), i + m = C ∧ s74 = .int .i64 (i : Int) ∧ s6 = .slice ao os'.length cap ∧ Hid (LzJ lim P os' R2 t far C i) ∧
                Hid (Own wr w.heap.size (.slice ao os'.length cap) os') ∧ Hid (Below w.heap.size w wr))
              case atStart => exact ⟨0, os, ao, cap, by omega, rfl, rfl, HJ, hOq, hBq⟩
              case round =>
                obtain ⟨i, os', ao1, cap1, hi, rfl, rfl, HJ, hO1, hB1⟩ := hrel
                have hl1 : Hid (os'.length = t + i) := Lib.hid HJ.out.1
                have hob : os'.length ≤ 200000000 := by have := hl1.out; omega
                by_cases h0 : gk = 0
                · obtain rfl : i = C := by omega
                  clear hi h0
                  have HDN := Lib.hid HJ.out.done
                  by_cases hbig : lim < os'.length
                  · have HNO := Lib.hid (HDN.out.1 hbig)
                    go_wp2_with fail
                    go_ret2
                    exact LzEnd.no hB1.out HNO.out _
                  · go_wp2_with fail
                    go_roundg (n - (at0 + 3))
                    case measure => go_light; have := HM.out; have := HG0.out; omega
                    case rel =>
                      go_light
                      exact ⟨at0 + 3, os', ao1, cap1, by omega, by congr 1, rfl, by omega, Lib.hid (by rw [HR2.out]; exact HDN.out.2), hO1, hB1⟩
                · have hiC : i < C := by omega
                  have hle : far ≤ os'.length := by have := hl1.out; have := HTT.out; omega
                  obtain ⟨g, gc, he, hg1, hg2, hc, hf, _⟩ := rowAt hO1.out (os'.length - far) (by omega)
                  obtain ⟨y, hy⟩ : ∃ y, os'[os'.length - far]? = some y := ⟨os'[os'.length - far]'(by omega), List.getElem?_eq_getElem (by omega)⟩
                  rw [List.getElem?_map, hy] at hc
                  simp only [Value.slice.injEq, true_and] at he
                  obtain ⟨rfl, rfl⟩ := he
                  have hc' : wr.cell? ⟨g, os'.length - far, none⟩ = some (.int .u8 (y.toNat : Int)) := hc
                  have t1 : ((os'.length : Int) - (far : Int)).toNat = os'.length - far := by omega
                  have t2 : (0 : Int) ≤ (os'.length : Int) - (far : Int) := by omega
                  have t3 : (os'.length : Int) - (far : Int) < (os'.length : Int) := by omega
                  have h63 : os'.length + 1 ≤ maxLen := by unfold maxLen; omega
                  have hby1 : (os'.length + 1) * 1 ≤ 140737488355328 := by omega
                  have hba : ∀ o, w.heap.size ≤ (wr.alloc o).heap.size := fun o => by have := hB1.out.size; simp; omega
                  have HJ2 := Lib.hid (HJ.out.next hiC y hy)
                  have HI3 := Lib.hid hi
                  clear hc hy hi
                  go_wp2_with (at_builtin; refine wpList_append_rd _ rfl (.tmp 76) (.tmp 84) 24 rfl w.heap.size 5 (.int .u8 0) 1 1 Tryd.underlying24 infoU8 rfl (by decide) (.slice (some ⟨g, 0, none⟩) os'.length cap1) os'.length (os'.map bV) rfl (World.ownsRow.alloc hO1.out _) (.slice (some ⟨wr.heap.size, 0, none⟩) 1 1) 1 [.int .u8 (y.toNat : Int)] rfl (RdV.one _ _ _) (one_one _ rfl) h63 hby1 (hba _) ?_; intro ao6 cap6 w6 hg6; have HG6 := Lib.hid hg6.ofAlloc; clear hg6)
                  go_roundg (gk - 1)
                  case measure => go_light; omega
                  case rel =>
                    go_light
                    have hg := HG6.out
                    rw [show os'.map bV ++ [.int .u8 (y.toNat : Int)] = (os' ++ [y]).map bV by simp [bV], show os'.length + 1 = (os' ++ [y]).length by simp] at hg
                    rw [show os'.length + 1 = (os' ++ [y]).length by simp]
                    exact ⟨i + 1, os' ++ [y], ao6, cap6, by have := HI3.out; omega, by congr 1, rfl, HJ2, Lib.hid hg.owns, Lib.hid (hB1.out.trans (hg.below hB1.out.size (fun k hk => (World.ownsRow.lt hO1.out k hk).1)))⟩
end Go.Proofs.YthiojdkhapbbnaaDoor

/- XRRead1: gristref07.read: floats. -/
namespace Go.Proofs.YthiojdkhapbbnaaDoor
open Go.RowKit
set_option linter.unusedVariables false

/-- The bits that are left. -/
def RestB (w : World) (H : Nat) (ap : Option Addr) (cp : Nat) (L : List Bool) : Prop := Rd w (.slice ap L.length cp) (bits01 L) ∧ ∀ k, (Value.slice ap L.length cp).ownBlock = some k → k < H
theorem RestB.chg {w w' : World} {H : Nat} {ap : Option Addr} {cp : Nat} {L : List Bool} (h : RestB w H ap cp L) (hc : Chg (fun k => H ≤ k) w w') : RestB w' H ap cp L :=
  ⟨RdV.chg h.1.v hc (fun k hk h9 => by have := h.2 k hk; omega), h.2⟩
theorem bits01_drop (L : List Bool) (l : Nat) : (bits01 L).drop l = bits01 (L.drop l) := by unfold bits01; rw [List.map_drop]
theorem rget_same (v : Value) (l : List Bool) (n : Nat) (hn : n ≤ l.length) (h64 : n ≤ 64) (w : World) (hr : Rd w v (bits01 l)) :
    Calls Tryd.prog 82 #[v, .int .i64 n] w fun e w' => e = .returned (.int .u64 (num (l.take n) : Nat)) ∧ w' = w :=
  (rget_any v l n hn h64 w hr).mono fun e w' ⟨h1, h2⟩ => ⟨h1, h2.symm⟩
theorem bits_cut {w : World} {b off cap : Nat} {L : List Bool} (h : Rd w (.slice (some ⟨b, off, none⟩) L.length cap) (bits01 L)) (l : Nat) (hl : l < L.length) (hlc : L.length ≤ cap) : Rd w (.slice (some ⟨b, off + l, none⟩) (L.length - l) (cap - l)) (bits01 (L.drop l)) := by
  have h2 : RdV w 1 (.slice (some ⟨b, off, none⟩) L.length cap) L.length ((bits01 L).map bV) := by have := h.v; rw [bits01_len] at this; exact this
  have h3 := h2.cut l L.length (by omega) (Nat.le_refl _)
  rw [if_neg (by omega), Nat.mul_one, Nat.mul_one] at h3
  simp only [Option.map_some, Addr.add_lit] at h3
  unfold Rd
  rw [bits01_len, List.length_drop]
  have e : ((bits01 L).map bV).drop l = (bits01 (L.drop l)).map bV := by rw [← bits01_drop, List.map_drop]
  rw [e, List.take_of_length_le (by rw [List.length_map, bits01_len, List.length_drop]; exact Nat.le_refl _)] at h3
  exact h3

theorem bit_cell {w : World} {b off cap : Nat} {L : List Bool} (h : Rd w (.slice (some ⟨b, off, none⟩) L.length cap) (bits01 L)) (k : Nat) (x : Bool) (hx : L[k]? = some x) : w.cell? ⟨b, off + k, none⟩ = some (.int .u8 ((b01 x).toNat : Int)) := by
  have h2 : Rd w (.slice (some ⟨b, off, none⟩) (bits01 L).length cap) (bits01 L) := by rw [bits01_len]; exact h
  refine rd_cells h2 k (b01 x) ?_
  unfold bits01
  rw [List.getElem?_map, hx]
  rfl

set_option maxHeartbeats 4000000 in
set_option maxRecDepth 100000 in
theorem rread1_any (n : Nat) (b : List UInt8) (v : Value) (w : World) (h1 : 1 ≤ n) (h2 : n ≤ 1000) (hl : b.length ≤ 17592186044400) (hr : Rd w v b) :
    Calls Tryd.prog 61 #[.int .i64 1, .int .i64 (n : Int), v] w fun e w' => RvEnd 1 n b w e w' := by
  obtain ⟨ao0, cap0, rfl, hnc, hcm⟩ := RdV.shape hr
  unfold maxLen at hcm
  by_cases h8 : b.length < 8
  · have HD := Lib.hid (good_noneN (k := 1) (n := n) (b := b) (.inl rfl) (FrI.few8 n b h8))
    have h8I : (b.length : Int) < 8 := by omega
    clear hr
    go_enter Tryd.func61, Tryd.ntmps61
    go_wp2_with fail
    go_ret
    exact RvEnd.nil (Below.refl _ _) HD.out
  · have h8b : 8 ≤ b.length := by omega
    have h8I : ¬ (b.length : Int) < 8 := by omega
    have HR := Lib.hid hr
    have hRA : Calls Tryd.prog 29 #[.slice ao0 b.length cap0, .int .i64 0, .int .i64 8] w _ := readAt_any b 0 8 (by decide) (by omega) (by omega) (.slice ao0 b.length cap0) w hr
    rw [List.drop_zero] at hRA
    have hxl : rdN 8 b < 18446744073709551616 := by have := rdN_lt 8 b; simpa using this
    have HI := Lib.hid (FrI.start n b h1 h8b)
    generalize rdN 8 b = x0 at *
    have HB8 := Lib.hid h8b
    obtain ⟨c, hc⟩ : ∃ c, c = b.drop 8 := ⟨_, rfl⟩
    have hcl : c.length ≤ 17592186044400 := by rw [hc, List.length_drop]; omega
    rw [← hc] at HI
    have HC := Lib.hid hc
    have hOF := fun ao1 cap1 w' (h : Rd w' (.slice ao1 c.length cap1) c) => rof_any (.slice ao1 c.length cap1) c w' hcl h
    clear hr hc h8 h8b
    go_enter Tryd.func61, Tryd.ntmps61
    go_upto_region 7 with (go_at_call 29; refine hRA.mono ?_; rintro _ w1 ⟨rfl, q1, hw1⟩; have HB1 := Lib.hid (show Below w.heap.size w w1 by rw [hw1]; exact below_drewN _); have HR1 := Lib.hid (show Rd w1 (.slice ao0 b.length cap0) b from RdV.below HR.out HB1.out); clear hw1 hRA)
    obtain ⟨Lb, hLb⟩ : ∃ Lb, Lb = bits8 c := ⟨_, rfl⟩
    rw [← hLb] at HI
    simp only [← hLb] at hOF
    clear hLb
    go_upto_region 8 with (first
      | (with_reducible refine wpList_cut_lo w1 rfl (.tmp 30) (.const (.int .i64 8)) 24 rfl Tryd.underlying24 ao0 cap0 b b.length rfl rfl .i64 8 rfl HR1.out 8 rfl HB8.out c HC.out ?_; intro ao2 cap2 hr2 hk2; have hOF1 := hOF _ _ _ hr2; clear hr2 hk2 hOF)
      | (go_at_call 81; refine hOF1.mono ?_; rintro _ w2 ⟨ao3, cap3, rfl, ho3, hb3⟩; rw [bits01_len] at ho3 ⊢; have HO3 := Lib.hid ho3; have HB3 := Lib.hid (HB1.out.trans (hb3.mono HB1.out.size)); clear ho3 hb3 hOF1))
    have hRB0 := Lib.hid (show RestB w2 w2.heap.size ao3 cap3 Lb from ⟨Own.rd (show Own w2 w1.heap.size (.slice ao3 Lb.length cap3) (bits01 Lb) from HO3.out), fun k hk => (World.ownsRow.lt HO3.out k hk).2⟩)
    obtain ⟨H, hH⟩ : ∃ H, H = w2.heap.size := ⟨_, rfl⟩
    rw [← hH] at hRB0
    have hHw : w.heap.size ≤ H := by rw [hH]; exact HB3.out.size
    have HH := Lib.hid hH
    clear hH HO3
    have hHle : Hid (H ≤ w2.heap.size) := Lib.hid (by rw [HH.out]; exact Nat.le_refl _)
    go_upto_region 9 with (at_builtin; refine wpList_append_val w2 rfl (.tmp 33) (.tmp 36) rfl H (.slice none 0 0) [] (vaN 1 x0) rfl (OwnV.nil _ _) rfl (by simp) hHle.out ?_; intro ao8 cap8 w8 ho8 hc8; have HO8 := Lib.hid (show OwnV w8 H (.slice ao8 1 cap8) ([x0].map (vaN 1)) from ho8); have HC8 := Lib.hid hc8; clear ho8 hc8)
    go_loopg [7, 8, 9] (n - 1) (fun m s7 s8 s9 wr => ∃ (k : Nat) (xs : List Nat) (L : List Bool) (lo : Option Addr) (lc : Nat) (x : Nat) (ao : Option Addr) (cap : Nat), k + 1 + m = n ∧ s8 = .int .u64 (x : Int) ∧ x < 18446744073709551616 ∧ Hid (xs.getD k 0 = x) ∧ s7 = .slice ao (k + 1) cap ∧ s9 = .slice lo L.length lc ∧ Hid (FrI n b k xs L) ∧ Hid (RestB wr H lo lc L) ∧ Hid (OwnV wr H (.slice ao (k + 1) cap) (xs.map (vaN 1))) ∧ Hid (Chg (fun k => H ≤ k) w2 wr))
    case atStart => exact ⟨0, [x0], Lb, ao3, cap3, x0, ao8, cap8, by omega, rfl, hxl, Lib.hid rfl, rfl, rfl, HI, Lib.hid (hRB0.out.chg HC8.out), HO8, HC8⟩
    case round =>
      obtain ⟨k, xs, L, lo, lc, x, ao, cap, hk, rfl, hxl, HX, rfl, rfl, HI, HRB, HO, HC2⟩ := hrel
      have HBw := Lib.hid (HB3.out.trans (HC2.out.below HB3.out.size (fun k h => Nat.le_trans hHw h)))
      by_cases h0 : gk = 0
      · have hkn : k + 1 = n := by omega
        have hkn2 : ¬ ((k : Int) + 1 < (n : Int)) := by omega
        have hkn3 : ¬ (k + 1 < n) := by omega
        have HD := Lib.hid (HI.out.done hkn)
        clear hkn
        go_wp2_with fail
        go_ret
        exact RvEnd.num (.inl rfl) HBw.out HI.out.1 HO.out HI.out.2.1 HD.out
      · have hkn : k + 1 < n := by omega
        have hkn2 : (k : Int) + 1 < (n : Int) := by omega
        have hLl : L.length ≤ 140737488355328 := by have := HI.out.2.2.1; omega
        have HLEN : Hid ((xs.map (vaN 1)).length = k + 1) := Lib.hid (by rw [List.length_map]; exact HI.out.1)
        have hap : Hid (∀ z, xs.map (vaN 1) ++ [vaN 1 z] = (xs ++ [z]).map (vaN 1)) := Lib.hid (fun z => by rw [List.map_append]; rfl)
        have hXS : Hid (∀ y, (xs ++ [y]).getD (k + 1) 0 = y) := Lib.hid (fun y => by have := HI.out.1; rw [List.getD_eq_getElem?_getD, List.getElem?_append_right (by omega)]; simp [this])
        have hHs : Hid (H ≤ wr.heap.size) := Lib.hid (by rw [HH.out]; exact HC2.out.size)
        have hxk : xs.getD k 0 = x := HX.out
        match L, HI, HRB with
        | [], HI, HRB =>
          have HD := Lib.hid (HI.out.empty hkn)
          clear hxk
          go_wp2_with fail
          go_ret
          exact RvEnd.num (.inl rfl) HBw.out HI.out.1 HO.out HI.out.2.1 (fun ys hy => absurd hy (HD.out ys))
        | false :: R, HI, HRB =>
          have HI2 := HI.out.same hkn
          rw [hxk] at HI2
          have HI3 := Lib.hid HI2
          obtain ⟨L, hL⟩ : ∃ L, L = false :: R := ⟨_, rfl⟩
          rw [← hL] at HRB hLl ⊢
          obtain ⟨g, goff, gcap, hge, hgn, hgm, hgb, _⟩ := RdV.some HRB.out.1.v (by rw [bits01_len, hL]; simp) (by decide)
          rw [bits01_len] at hge hgn
          simp only [Value.slice.injEq, true_and] at hge
          obtain ⟨rfl, rfl⟩ := hge
          have e0 : wr.cell? ⟨g, goff, none⟩ = some (.int .u8 0) := bit_cell HRB.out.1 0 false (by rw [hL]; rfl)
          have hpos : 0 < L.length := by rw [hL]; simp
          have HRd := Lib.hid (show Rd wr (.slice (some ⟨g, goff, none⟩) (bits01 L).length lc) (bits01 L) by rw [bits01_len]; exact HRB.out.1)
          have hle1 : Hid (1 ≤ (bits01 L).length) := Lib.hid (by rw [bits01_len]; exact hpos)
          have HL2 : Hid (bits01 R = (bits01 L).drop 1) := Lib.hid (by rw [hL]; rfl)
          have HLn : Hid (L.length = (bits01 L).length) := Lib.hid (bits01_len L).symm
          clear hL HI2 HI hxk
          go_upto_region 12 with (with_reducible refine wpList_cut_lo _ rfl (.tmp 51) (.const (.int .i64 1)) 69 rfl Tryd.underlying69 (some ⟨g, goff, none⟩) lc (bits01 L) L.length HLn.out rfl .i64 1 rfl HRd.out 1 rfl hle1.out (bits01 R) HL2.out ?_; intro ao7 cap7 hr7 hk7; rw [bits01_len] at hr7 hk7 ⊢; have HR7 := Lib.hid hr7; have HK7 := Lib.hid hk7; clear hr7 hk7)
          go_wp2_with (at_builtin; refine wpList_append_val _ rfl (.tmp 53) (.tmp 56) rfl H (.slice ao (k + 1) cap) (xs.map (vaN 1)) (vaN 1 x) rfl HO.out rfl (by rw [HLEN.out]; omega) hHs.out ?_; intro ao8 cap8 w9 ho8 hc8; rw [HLEN.out] at ho8 ⊢; rw [hap.out] at ho8; have HO8 := Lib.hid ho8; have HC9 := Lib.hid hc8; clear ho8 hc8)
          go_roundg (gk - 1)
          case measure => go_light; omega
          case rel =>
            go_light
            exact ⟨k + 1, xs ++ [x], R, ao7, cap7, x, ao8, cap8, by omega, rfl, hxl, Lib.hid (hXS.out x), rfl, rfl, HI3, Lib.hid (RestB.chg ⟨HR7.out, fun j hj => HRB.out.2 j (HK7.out j hj)⟩ HC9.out), HO8, Lib.hid (HC2.out.trans HC9.out)⟩
        | true :: R, HI, HRB =>
          have HST := HI.out.step hkn
          rw [hxk] at HST
          obtain ⟨L, hL⟩ : ∃ L, L = true :: R := ⟨_, rfl⟩
          rw [← hL] at HRB hLl ⊢
          obtain ⟨g, goff, gcap, hge, hgn, hgm, hgb, _⟩ := RdV.some HRB.out.1.v (by rw [bits01_len, hL]; simp) (by decide)
          rw [bits01_len] at hge hgn
          simp only [Value.slice.injEq, true_and] at hge
          obtain ⟨rfl, rfl⟩ := hge
          have e0 : wr.cell? ⟨g, goff, none⟩ = some (.int .u8 1) := bit_cell HRB.out.1 0 true (by rw [hL]; rfl)
          have hLR : L.length = R.length + 1 := by rw [hL]; rfl
          have hpos : 0 < L.length := by omega
          have HLR := Lib.hid hLR
          by_cases h13 : R.length < 12
          · have HD := Lib.hid (HST.1 h13)
            have hlt : (L.length : Int) < 13 := by omega
            clear HST hxk hL hLR
            go_wp2_with fail
            go_ret
            exact RvEnd.nil HBw.out (good_noneN (.inl rfl) HD.out)
          · have hlt : ¬ (L.length : Int) < 13 := by omega
            have h13L : 13 ≤ L.length := by omega
            have hD1 : L.drop 1 = R := by rw [hL]; rfl
            have hD7 : L.drop 7 = R.drop 6 := by rw [hL]; rfl
            obtain ⟨z, hz⟩ : ∃ z, z = num (R.take 6) := ⟨_, rfl⟩
            obtain ⟨s0, hs0⟩ : ∃ s0, s0 = num ((R.drop 6).take 6) := ⟨_, rfl⟩
            obtain ⟨s, hs⟩ : ∃ s, s = s0 + 1 := ⟨_, rfl⟩
            have HST2 := Lib.hid (HST.2 z s hz (by rw [hs, hs0]))
            have hz64 : z < 64 := by rw [hz]; exact Nat.lt_of_lt_of_le (num_lt _) (Nat.pow_le_pow_right (by omega) (List.length_take_le 6 R))
            have hs64 : s0 < 64 := by rw [hs0]; exact Nat.lt_of_lt_of_le (num_lt _) (Nat.pow_le_pow_right (by omega) (List.length_take_le 6 _))
            have hG1 := fun w' (h : Rd w' (.slice (some ⟨g, goff + 1, none⟩) (L.length - 1) (lc - 1)) (bits01 (L.drop 1))) => rget_same (.slice (some ⟨g, goff + 1, none⟩) (L.length - 1) (lc - 1)) (L.drop 1) 6 (by rw [List.length_drop]; omega) (by decide) w' h
            have hG7 := fun w' (h : Rd w' (.slice (some ⟨g, goff + 7, none⟩) (L.length - 7) (lc - 7)) (bits01 (L.drop 7))) => rget_same (.slice (some ⟨g, goff + 7, none⟩) (L.length - 7) (lc - 7)) (L.drop 7) 6 (by rw [List.length_drop]; omega) (by decide) w' h
            have r1 := bits_cut HRB.out.1 1 (by omega) hgn
            have r7 := bits_cut HRB.out.1 7 (by omega) hgn
            have hG1' : ∀ q, Calls Tryd.prog 82 #[.slice (some ⟨g, goff + 1, none⟩) (L.length - 1) (lc - 1), .int .i64 6] (wr.drewN q) fun e w' => e = .returned (.int .u64 (z : Int)) ∧ w' = wr.drewN q := fun q => by
              have := hG1 (wr.drewN q) r1
              rw [hD1, ← hz] at this
              exact this
            have hG7' : ∀ q, Calls Tryd.prog 82 #[.slice (some ⟨g, goff + 7, none⟩) (L.length - 7) (lc - 7), .int .i64 6] (wr.drewN q) fun e w' => e = .returned (.int .u64 (s0 : Int)) ∧ w' = wr.drewN q := fun q => by
              have := hG7 (wr.drewN q) r7
              rw [hD7, ← hs0] at this
              exact this
            have c1 : ¬ lc = 1 := by omega
            have c7 : ¬ lc = 7 := by omega
            have i1 : (1 : Int) ≤ (L.length : Int) := by omega
            have i7 : (7 : Int) ≤ (L.length : Int) := by omega
            have e1 : (s0 : Int) + 1 = (s : Int) := by omega
            have HSS := Lib.hid hs
            have HLd := Lib.hid hL
            clear HST hG1 hG7 r1 r7 hD1 hD7 hz hs0 hs hL hLR
            go_upto_region 15 with fail
            go_quiet (first
              | (go_at_call 82; with_reducible exact Calls.quiet_of_same (hG1' _))
              | (go_at_call 82; with_reducible exact Calls.quiet_of_same (hG7' _)))
            generalize hW : wr.drewN _ = wB
            have hbl : Below wr.heap.size wr wB := by rw [← hW]; exact below_drewN _
            have HCB := Lib.hid (HC2.out.trans (Chg.ofBelowAny hbl))
            have HBB := Lib.hid (HBw.out.trans (hbl.mono HBw.out.size))
            have HOB := Lib.hid (HO.out.below hbl)
            have HRBB := Lib.hid (HRB.out.chg (Chg.ofBelowAny hbl))
            have hHsB : Hid (H ≤ wB.heap.size) := Lib.hid (Nat.le_trans hHs.out hbl.size)
            obtain ⟨L2, hL2⟩ : ∃ L2, L2 = R.drop 12 := ⟨_, rfl⟩
            have HL2 := Lib.hid hL2
            have HX2 : Hid (bits01 L2 = (bits01 L).drop 13) := Lib.hid (by rw [bits01_drop, HLd.out, hL2]; rfl)
            have hL2l : L2.length ≤ 140737488355328 := by rw [hL2, List.length_drop]; have := HLR.out; omega
            have HRd := Lib.hid (show Rd wB (.slice (some ⟨g, goff, none⟩) (bits01 L).length lc) (bits01 L) by rw [bits01_len]; exact HRBB.out.1)
            have hle13 : Hid (13 ≤ (bits01 L).length) := Lib.hid (by rw [bits01_len]; exact h13L)
            have HLn : Hid (L.length = (bits01 L).length) := Lib.hid (bits01_len L).symm
            rw [← hL2] at HST2
            clear hW hbl hG1' hG7' c1 c7 i1 i7 hL2 e0 HO HRB hHs HBw
            go_upto_region 17 with (with_reducible refine wpList_cut_lo _ rfl (.tmp 70) (.const (.int .i64 13)) 69 rfl Tryd.underlying69 (some ⟨g, goff, none⟩) lc (bits01 L) L.length HLn.out rfl .i64 13 rfl HRd.out 13 rfl hle13.out (bits01 L2) HX2.out ?_; intro ao7 cap7 hr7 hk7; rw [bits01_len] at hr7 hk7 ⊢; have HR7 := Lib.hid hr7; have HK7 := Lib.hid hk7; clear hr7 hk7)
            have hs1 : 1 ≤ s := by have := HSS.out; omega
            by_cases hbad : L2.length < s ∨ 64 < z + s
            · have HD := Lib.hid (HST2.out.1 hbad)
              rcases hbad with hb1 | hb1
              · have hb2 : (L2.length : Int) < (s : Int) := by omega
                go_wp2_with fail
                go_ret
                exact RvEnd.nil HBB.out (good_noneN (.inl rfl) HD.out)
              · by_cases hb3 : L2.length < s
                · go_wp2_with fail
                  go_ret
                  exact RvEnd.nil HBB.out (good_noneN (.inl rfl) HD.out)
                · have hb2 : (64 : Int) < (z : Int) + (s : Int) := by omega
                  go_wp2_with fail
                  go_ret
                  exact RvEnd.nil HBB.out (good_noneN (.inl rfl) HD.out)
            · have hb3 : ¬ L2.length < s := by omega
              have hb4 : ¬ (64 : Int) < (z : Int) + (s : Int) := by omega
              have hzs : z + s ≤ 64 := by omega
              have HYES := Lib.hid (HST2.out.2 (by omega) hzs)
              have hG8 := rget_any (.slice ao7 L2.length cap7) L2 s (by omega) (by omega) wB HR7.out
              have hdl : num (L2.take s) < 2 ^ s := Nat.lt_of_lt_of_le (num_lt _) (Nat.pow_le_pow_right (by omega) (List.length_take_le _ _))
              obtain ⟨t, ht⟩ : ∃ t, t = 64 - z - s := ⟨_, rfl⟩
              have hdt : num (L2.take s) * 2 ^ t < 18446744073709551616 := by
                have h3 : num (L2.take s) * 2 ^ t < 2 ^ s * 2 ^ t := (Nat.mul_lt_mul_right (Nat.two_pow_pos _)).2 hdl
                rw [← Nat.pow_add] at h3
                exact Nat.lt_of_lt_of_le h3 (Nat.pow_le_pow_right (by omega) (show s + t ≤ 64 by omega))
              rw [← ht] at HYES
              have e2 : (64 : Int) - (z : Int) - (s : Int) = (t : Int) := by omega
              have ht64 : t < 64 := by omega
              have u3 : IntKind.u64.wrap (t : Int) = (t : Int) := IntWalk.u64_in _ (by omega)
              clear hdl hbad HST2
              generalize num (L2.take s) = d at *
              have hsl := shl_num d t hdt
              have hxo := u64_xor x (d * 2 ^ t) hxl hdt
              have hyl := xor_lt64 hxl hdt
              generalize x ^^^ (d * 2 ^ t) = y at *
              generalize d * 2 ^ t = D at *
              obtain ⟨L3, hL3⟩ : ∃ L3, L3 = L2.drop s := ⟨_, rfl⟩
              rw [← hL3] at HYES
              have HX3 : Hid (bits01 L3 = (bits01 L2).drop s) := Lib.hid (by rw [bits01_drop, hL3])
              have HRd7 := Lib.hid (show Rd wB (.slice ao7 (bits01 L2).length cap7) (bits01 L2) by rw [bits01_len]; exact HR7.out)
              have hles : Hid (s ≤ (bits01 L2).length) := Lib.hid (by rw [bits01_len]; omega)
              have HLn2 : Hid (L2.length = (bits01 L2).length) := Lib.hid (bits01_len L2).symm
              clear ht hdt hL3 hxk
              go_upto_region 20 with (go_at_call 82; refine hG8.mono ?_; rintro _ _ ⟨rfl, rfl⟩; clear hG8)
              go_upto_region 21 with (with_reducible refine wpList_cut_lo _ rfl (.tmp 93) (.tmp 94) 69 rfl Tryd.underlying69 ao7 cap7 (bits01 L2) L2.length HLn2.out rfl .i64 (s : Int) rfl HRd7.out s rfl hles.out (bits01 L3) HX3.out ?_; intro ao9 cap9 hr9 hk9; rw [bits01_len] at hr9 hk9 ⊢; have HR9 := Lib.hid hr9; have HK9 := Lib.hid hk9; clear hr9 hk9)
              go_wp2_with (at_builtin; refine wpList_append_val _ rfl (.tmp 96) (.tmp 99) rfl H (.slice ao (k + 1) cap) (xs.map (vaN 1)) (vaN 1 y) rfl HOB.out rfl (by rw [HLEN.out]; omega) hHsB.out ?_; intro ao8 cap8 w9 ho8 hc8; rw [HLEN.out] at ho8 ⊢; rw [hap.out] at ho8; have HO8 := Lib.hid ho8; have HC9 := Lib.hid hc8; clear ho8 hc8)
              go_roundg (gk - 1)
              case measure => go_light; omega
              case rel =>
                go_light
                exact ⟨k + 1, xs ++ [y], L3, ao9, cap9, y, ao8, cap8, by omega, rfl, hyl, Lib.hid (hXS.out y), rfl, rfl, HYES, Lib.hid (RestB.chg ⟨HR9.out, fun j hj => HRBB.out.2 j (HK7.out j (HK9.out j hj))⟩ HC9.out), HO8, Lib.hid (HCB.out.trans HC9.out)⟩
end Go.Proofs.YthiojdkhapbbnaaDoor

/- XRRead2: gristref07.read: integers, booleans, other kinds. -/
namespace Go.Proofs.YthiojdkhapbbnaaDoor
open Go.RowKit
set_option linter.unusedVariables false

def rdA (b : List UInt8) (i : Nat) : Nat := rdN 8 (b.drop (1 + 8 * i))
def rdAs (b : List UInt8) (k : Nat) : List Nat := upto (rdA b) k
theorem rdA_lt (b : List UInt8) (i : Nat) : rdA b i < 18446744073709551616 := by have := rdN_lt 8 (b.drop (1 + 8 * i)); simpa [rdA] using this
theorem rdAs_next (b : List UInt8) (k : Nat) : rdAs b (k + 1) = rdAs b k ++ [rdA b k] := upto_next _ _
theorem rdAs_len (b : List UInt8) (k : Nat) : (rdAs b k).length = k := upto_len _ _
theorem rdAs_lt (b : List UInt8) (k : Nat) : ∀ x ∈ rdAs b k, x < 18446744073709551616 := by
  intro x hx
  unfold rdAs upto at hx
  obtain ⟨i, _, rfl⟩ := List.mem_map.1 hx
  exact rdA_lt b i

set_option maxHeartbeats 4000000 in
set_option maxRecDepth 100000 in
theorem rread0_any (k n : Int) (b : List UInt8) (v : Value) (w : World) (hk : ¬ (k = 1 ∨ k = 2 ∨ k = 3 ∨ k = 4)) (N : Nat) (hr : Rd w v b) :
    Calls Tryd.prog 61 #[.int .i64 k, .int .i64 n, v] w fun e w' => RvEnd k N b w e w' := by
  obtain ⟨ao0, cap0, rfl, hnc, hcm⟩ := RdV.shape hr
  have e1 : (k == 1) = false := by simp; omega
  have e2 : (k == 2) = false := by simp; omega
  have e3 : (k == 3) = false := by simp; omega
  have e4 : (k == 4) = false := by simp; omega
  have HD := Lib.hid (rdEnd_none (n := N) (b := b) hk)
  clear hr hk
  go_enter Tryd.func61, Tryd.ntmps61
  go_wp2_with fail
  go_ret
  exact ⟨Below.refl _ _, [], none, 0, rfl, RdV.nil _ _, HD.out⟩

set_option maxHeartbeats 4000000 in
set_option maxRecDepth 100000 in
theorem rread2_any (n : Nat) (b : List UInt8) (v : Value) (w : World) (h1 : 1 ≤ n) (h2 : n ≤ 1000) (hl : b.length ≤ 17592186044400) (hr : Rd w v b) :
    Calls Tryd.prog 61 #[.int .i64 2, .int .i64 (n : Int), v] w fun e w' => RvEnd 2 n b w e w' := by
  obtain ⟨ao0, cap0, rfl, hnc, hcm⟩ := RdV.shape hr
  unfold maxLen at hcm
  by_cases hb0 : b = []
  · subst hb0
    have HD := Lib.hid (good_noneN (k := 2) (n := n) (b := []) (.inr (.inl rfl)) (fun ys hy => (int_good hy).1 rfl))
    clear hr
    go_enter Tryd.func61, Tryd.ntmps61
    go_wp2_with fail
    go_ret
    exact RvEnd.nil (Below.refl _ _) HD.out
  · have hpos : 0 < b.length := List.length_pos_iff.2 hb0
    obtain ⟨m, hm⟩ : ∃ m, m = b.length := ⟨_, rfl⟩
    have HM := Lib.hid hm
    obtain ⟨c, hc⟩ : ∃ c, c = b.drop 1 := ⟨_, rfl⟩
    have hcl : c.length ≤ 140737488355328 := by rw [hc, List.length_drop]; omega
    have HC := Lib.hid hc
    obtain ⟨bb, off, bcap, hbe, _, _, hbb, hcc⟩ := RdV.some hr.v hpos (by decide)
    simp only [Value.slice.injEq, true_and] at hbe
    obtain ⟨rfl, rfl⟩ := hbe
    obtain ⟨y, hy⟩ : ∃ y : UInt8, b[0]? = some y := ⟨b[0], List.getElem?_eq_getElem hpos⟩
    have hc0 : w.cell? ⟨bb, off, none⟩ = some (.int .u8 (y.toNat : Int)) := by
      have := hcc 0 (bV y) (by rw [List.getElem?_map, hy]; rfl)
      simpa [bV] using this
    have HY : Hid (b.getD 0 0 = y) := Lib.hid (by rw [List.getD_eq_getElem?_getD, hy]; rfl)
    have HR := Lib.hid hr
    rw [← hm] at hl hnc ⊢
    have hm1 : ¬ (m : Int) < 1 := by omega
    have hm0 : 0 < m := by omega
    have h1m : Hid (1 ≤ b.length) := Lib.hid hpos
    clear hr hm hc hb0 hpos hcc hy
    by_cases hy0 : y = 0
    · subst hy0
      have hc1 : w.cell? ⟨bb, off, none⟩ = some (.int .u8 0) := hc0
      obtain ⟨K, hK⟩ : ∃ K, K = min n ((m - 1) / 8) := ⟨_, rfl⟩
      have hKn : K ≤ n := by omega
      have hKm : 1 + 8 * K ≤ m := by omega
      have HRAW : Hid (∀ ys, IntG n b ys → ys = rdAs b K) := Lib.hid (fun ys hy => by
        obtain ⟨_, e2, e3⟩ := raw_ys hy HY.out
        have : K = n := by have := HM.out; omega
        rw [this]
        exact e2)
      have HKE := Lib.hid hK
      clear hc0 hK
      go_enter Tryd.func61, Tryd.ntmps61
      go_wp2_with fail
      go_loopg [7, 12] K (fun m s7 s12 wr => ∃ (k : Nat) (ao : Option Addr) (cap : Nat), k + m = K ∧ s12 = .int .i64 (1 + 8 * (k : Int)) ∧ s7 = .slice ao k cap ∧ Hid (OwnV wr w.heap.size (.slice ao k cap) ((rdAs b k).map (vaN 2))) ∧ Hid (Below w.heap.size w wr))
      case atStart => exact ⟨0, none, 0, by omega, rfl, rfl, Lib.hid (OwnV.nil _ _), Lib.hid (Below.refl _ _)⟩
      case round =>
        obtain ⟨k, ao, cap, hk, rfl, rfl, HO, HB⟩ := hrel
        by_cases h0 : gk = 0
        · obtain rfl : k = K := by omega
          by_cases hend : (m : Int) < 1 + 8 * (k : Int) + 8
          · have hend2 : ¬ (1 + 8 * (k : Int) + 8 ≤ (m : Int)) := by omega
            clear hend
            go_wp2_with fail
            go_ret
            exact RvEnd.num (.inr (.inl rfl)) HB.out (rdAs_len _ _) HO.out (rdAs_lt _ _) HRAW.out
          · have hend2 : 1 + 8 * (k : Int) + 8 ≤ (m : Int) := by omega
            have hkn : ¬ (k : Int) < (n : Int) := by have := HKE.out; omega
            have hkn2 : ¬ k < n := by omega
            clear hend
            go_wp2_with fail
            go_ret
            exact RvEnd.num (.inr (.inl rfl)) HB.out (rdAs_len _ _) HO.out (rdAs_lt _ _) HRAW.out
        · have hkK : k < K := by omega
          have hend2 : 1 + 8 * (k : Int) + 8 ≤ (m : Int) := by omega
          have hkn2 : k < n := by omega
          have hkn : (k : Int) < (n : Int) := by omega
          have HRw := Lib.hid (show Rd wr (.slice (some ⟨bb, off, none⟩) b.length cap0) b from RdV.below HR.out HB.out)
          have hRA0 := readAt_any b (1 + 8 * k) 8 (by decide) (by have := HM.out; omega) (by have := HM.out; omega) (.slice (some ⟨bb, off, none⟩) b.length cap0) wr HRw.out
          have e1 : (((1 + 8 * k : Nat)) : Int) = 1 + 8 * (k : Int) := by omega
          rw [e1, show rdN 8 (b.drop (1 + 8 * k)) = rdA b k from rfl] at hRA0
          have hRA : Calls Tryd.prog 29 #[.slice (some ⟨bb, off, none⟩) m cap0, .int .i64 (1 + 8 * (k : Int)), .int .i64 8] wr (fun e w' => e = .returned (.int .u64 ((rdA b k : Nat) : Int)) ∧ ∃ m, w' = wr.drewN m) := by rw [HM.out]; exact hRA0
          have hlen : ((rdAs b k).map (vaN 2)).length = k := by rw [List.length_map, rdAs_len]
          have HLEN := Lib.hid hlen
          have hnx := Lib.hid (show (rdAs b (k + 1)).map (vaN 2) = (rdAs b k).map (vaN 2) ++ [vaN 2 (rdA b k)] from by rw [rdAs_next, map_va])
          have hBS := HB.out.size
          clear hlen hRA0 e1
          generalize rdA b k = x at *
          go_wp2_with (first
            | (with_reducible refine hRA.mono ?_; rintro _ w7 ⟨rfl, q7, hw7⟩; have HO7 := Lib.hid (show OwnV w7 w.heap.size (.slice ao k cap) ((rdAs b k).map (vaN 2)) by rw [hw7]; exact HO.out.below (below_drewN _)); have HB7 := Lib.hid (show Below w.heap.size w w7 by rw [hw7]; exact HB.out.trans ((below_drewN _).mono hBS)); clear hw7 hRA)
            | (at_builtin; refine wpList_append_val _ rfl (.tmp 123) (.tmp 128) rfl w.heap.size (.slice ao k cap) ((rdAs b k).map (vaN 2)) (vaN 2 x) rfl HO7.out rfl (by rw [HLEN.out]; omega) HB7.out.size ?_; intro ao8 cap8 w8 ho8 hc8; rw [HLEN.out] at ho8 ⊢; rw [← hnx.out] at ho8; have HO8 := Lib.hid ho8; have HB8 := Lib.hid (HB7.out.trans (hc8.below HB7.out.size (fun _ h => h))); clear ho8 hc8))
          go_roundg (gk - 1)
          case measure => go_light; omega
          case rel =>
            go_light
            exact ⟨k + 1, ao8, cap8, by omega, by congr 1, rfl, HO8, HB8⟩
    · have hy1 : ((y.toNat : Int) == 0) = false := by
        rw [beq_eq_false_iff_ne]
        intro h
        apply hy0
        apply UInt8.toNat_inj.1
        simpa using h
      have HY0 : Hid (b.getD 0 0 ≠ 0) := Lib.hid (by rw [HY.out]; exact hy0)
      have HU0 : Hid (∀ ys, IntG n b ys → ∃ z, unA c n = some z ∧ itL z = ys) := Lib.hid (fun ys hyy => by rw [HC.out]; exact pk_ys hyy HY0.out)
      clear hy0
      have hU := fun ao1 cap1 (h : Rd w (.slice ao1 c.length cap1) c) => runpack_any c (n : Int) (by omega) (by omega) (.slice ao1 c.length cap1) w (by omega) ⟨1000, by omega, .inl (by omega)⟩ h
      go_enter Tryd.func61, Tryd.ntmps61
      go_upto_region 32 with (first
        | (with_reducible refine wpList_cut_lo w rfl (.tmp 132) (.const (.int .i64 1)) 24 rfl Tryd.underlying24 (some ⟨bb, off, none⟩) cap0 b m HM.out rfl .i64 1 rfl HR.out 1 rfl h1m.out c HC.out ?_; intro ao1 cap1 hr1 hk1; have hU1 := hU _ _ hr1; clear hr1 hk1 hU)
        | (go_at_call 79; refine hU1.mono ?_; intro e w2 h2; obtain ⟨zs, ao2, cap2, er, rfl, ho2, hb2, hzl, hzu, hzlt⟩ := unEnd_one h2; have HZL := Lib.hid hzlt; have HO2 := Lib.hid ho2; have HB2 := Lib.hid hb2; have HZU := Lib.hid hzu; clear ho2 hb2 h2 hU1 hzu hzlt))
      have HN2 := Lib.hid HO2.out.nums
      have HRAW : Hid (∀ ys, IntG n b ys → ys = itL zs) := Lib.hid (fun ys hy => by
        obtain ⟨z, hz, rfl⟩ := HU0.out ys hy
        rw [HZU.out z hz])
      have h2B := HB2.out.size
      obtain ⟨q, hq⟩ : ∃ q, q = zs.length := ⟨_, rfl⟩
      rw [← hq] at hzl HN2 ⊢
      have HQ := Lib.hid hq
      clear hq HZU HO2
      obtain ⟨H, hH⟩ : ∃ H, H = w2.heap.size := ⟨_, rfl⟩
      have HH := Lib.hid hH
      have hH1 : w.heap.size ≤ H := by omega
      clear hH
      go_wp2_with fail
      go_loopg [7, 15, 140] q (fun m s7 s15 s140 wr => ∃ (k : Nat) (ao : Option Addr) (cap : Nat), k + m = q ∧ s140 = .int .i64 (k : Int) ∧ s15 = .int .u64 ((itA zs k : Nat) : Int) ∧ s7 = .slice ao k cap ∧ Hid (OwnV wr H (.slice ao k cap) ((itP zs k).map (vaN 2))) ∧ Hid (Chg (fun k => H ≤ k) w2 wr))
      case atStart => exact ⟨0, none, 0, by omega, rfl, rfl, rfl, Lib.hid (OwnV.nil _ _), Lib.hid (Chg.refl _ _)⟩
      case round =>
        obtain ⟨k, ao, cap, hk, rfl, rfl, rfl, HO, HC2⟩ := hrel
        have HBw := Lib.hid (HB2.out.trans (HC2.out.below HB2.out.size (fun k h => Nat.le_trans hH1 h)))
        by_cases h0 : gk = 0
        · obtain rfl : k = q := by omega
          have HALL : Hid (itP zs k = itL zs) := Lib.hid (by rw [HQ.out]; exact itP_all zs)
          go_wp2_with fail
          go_ret
          exact RvEnd.num (.inr (.inl rfl)) HBw.out (itP_len _ _) HO.out (itP_lt _ _) (by rw [HALL.out]; exact HRAW.out)
        · have hkn : k < q := by omega
          obtain ⟨b3, off3, c3, he3, hb3, hc3⟩ := num_at HN2.out k (by rw [← HQ.out]; exact hkn)
          rw [← HQ.out] at he3
          simp only [Value.slice.injEq, true_and] at he3
          obtain ⟨rfl, rfl⟩ := he3
          have hcz := (HC2.out.cell (p := ⟨b3, off3 + k, none⟩) hb3 (fun h => by have h9 : H ≤ b3 := h; rw [HH.out] at h9; omega)).trans hc3
          have hzl2 : zs.getD k 0 < 18446744073709551616 := HZL.out k
          have hzg := fun w => rzag_any (zs.getD k 0) hzl2 w
          have hu1 := u64_wrap (zagZ (zs.getD k 0))
          have hu2 := u64_wrap ((itA zs k : Int) + (uT (zagZ (zs.getD k 0)) : Int))
          have hnA := itA_next zs k
          rw [← hnA] at hu2
          have hlen : ((itP zs k).map (vaN 2)).length = k := by rw [List.length_map, itP_len]
          have HLEN := Lib.hid hlen
          have hnx := Lib.hid (show (itP zs (k + 1)).map (vaN 2) = (itP zs k).map (vaN 2) ++ [vaN 2 (itA zs (k + 1))] from by rw [itP_next, map_va])
          have hHs : Hid (H ≤ wr.heap.size) := Lib.hid (by rw [HH.out]; exact HC2.out.size)
          clear hnA hlen hc3 hb3
          generalize zagZ (zs.getD k 0) = Z at *
          generalize uT Z = U at *
          generalize zs.getD k 0 = x at *
          generalize hA2 : itA zs (k + 1) = A2 at *
          have HA2 := Lib.hid hA2
          clear hA2
          generalize itA zs k = A at *
          go_wp2_with (first
            | (go_at_call 80; refine (hzg _).mono ?_; rintro _ _ ⟨rfl, rfl⟩)
            | (at_builtin; refine wpList_append_val _ rfl (.tmp 151) (.tmp 154) rfl H (.slice ao k cap) ((itP zs k).map (vaN 2)) (vaN 2 A2) rfl HO.out rfl (by rw [HLEN.out]; omega) hHs.out ?_; intro ao8 cap8 w8 ho8 hc8; rw [HLEN.out] at ho8 ⊢; rw [← hnx.out] at ho8; have HO8 := Lib.hid ho8; have HC8 := Lib.hid (HC2.out.trans hc8); clear ho8 hc8))
          go_roundg (gk - 1)
          case measure => go_light; omega
          case rel =>
            go_light
            exact ⟨k + 1, ao8, cap8, by omega, by congr 1, by rw [HA2.out], rfl, HO8, HC8⟩
end Go.Proofs.YthiojdkhapbbnaaDoor

/- XRRead3: gristref07.read: booleans. -/
namespace Go.Proofs.YthiojdkhapbbnaaDoor
open Go.RowKit
set_option linter.unusedVariables false

def boA (b : List UInt8) (i : Nat) : Nat := ((bits8 b).getD i false).toNat
def boAs (b : List UInt8) (k : Nat) : List Nat := upto (boA b) k
theorem boA_lt (b : List UInt8) (i : Nat) : boA b i < 18446744073709551616 := by
  unfold boA
  cases (bits8 b).getD i false <;> decide
theorem boAs_next (b : List UInt8) (k : Nat) : boAs b (k + 1) = boAs b k ++ [boA b k] := upto_next _ _
theorem boAs_len (b : List UInt8) (k : Nat) : (boAs b k).length = k := upto_len _ _
theorem rdEnd_boA {n K : Nat} {b : List UInt8} (hK : n ≤ 8 * b.length → K = n) : RdEnd 3 n b ((boAs b K).map (vaN 3)) := by
  refine ⟨fun v hv => ?_, fun l' hl' => ?_⟩
  · obtain ⟨x, hx2, rfl⟩ := List.mem_map.1 hv
    refine ⟨rfl, ?_⟩
    unfold boAs upto at hx2
    obtain ⟨i, _, rfl⟩ := List.mem_map.1 hx2
    unfold Va.ok i64ok vaN
    dsimp only
    exact ⟨by omega, boA_lt b i⟩
  · obtain ⟨h1, h2⟩ := good_num (.inr (.inr rfl)) hl'
    rw [if_neg (by decide), if_neg (by decide)] at h2
    have h3 : ∀ y ∈ bitsV l', y < 2 := by
      intro y hy
      obtain ⟨v, hv, rfl⟩ := List.mem_map.1 hy
      have hf := (good_head hl').2.2.2.1 v hv
      rw [formV_3 (hl'.2.2.1 v hv), Bool.and_eq_true, decide_eq_true_eq, decide_eq_true_eq] at hf
      exact hf.2
    obtain ⟨g1, _, g3⟩ := boo_ys h2 h3
    rw [hK g1, ← h1]
    show _ = List.map (vaN 3) (upto (boA b) n)
    unfold boA
    rw [← g3]

set_option maxHeartbeats 4000000 in
set_option maxRecDepth 100000 in
theorem rread3_any (n : Nat) (b : List UInt8) (v : Value) (w : World) (h1 : 1 ≤ n) (h2 : n ≤ 1000) (hl : b.length ≤ 17592186044400) (hr : Rd w v b) :
    Calls Tryd.prog 61 #[.int .i64 3, .int .i64 (n : Int), v] w fun e w' => RvEnd 3 n b w e w' := by
  have hOF := rof_any v b w hl hr
  obtain ⟨L, hL⟩ : ∃ L, L = bits8 b := ⟨_, rfl⟩
  have hLl : L.length ≤ 140737488355328 := by rw [hL, length_bits8]; omega
  rw [← hL] at hOF
  obtain ⟨K, hK⟩ : ∃ K, K = min n L.length := ⟨_, rfl⟩
  have HD := Lib.hid (rdEnd_boA (n := n) (K := K) (b := b) (fun h => by rw [hK, hL, length_bits8]; omega))
  have HBO : Hid (∀ i, boA b i = (L.getD i false).toNat) := Lib.hid (fun i => by unfold boA; rw [hL])
  have hKn : K ≤ n := by omega
  have hKL : K ≤ L.length := by omega
  have HK := Lib.hid hK
  obtain ⟨ao0, cap0, rfl, hnc, hcm⟩ := RdV.shape hr
  clear hr hL hK hnc hcm
  go_enter Tryd.func61, Tryd.ntmps61
  go_upto_region 41 with (go_at_call 81; refine hOF.mono ?_; rintro _ w2 ⟨ao3, cap3, rfl, ho3, hb3⟩; rw [bits01_len] at ho3 ⊢; have HO3 := Lib.hid ho3; have HB3 := Lib.hid hb3; clear ho3 hb3 hOF)
  have hRB0 := Lib.hid (show RestB w2 w2.heap.size ao3 cap3 L from ⟨Own.rd (show Own w2 w.heap.size (.slice ao3 L.length cap3) (bits01 L) from HO3.out), fun k hk => (World.ownsRow.lt HO3.out k hk).2⟩)
  obtain ⟨H, hH⟩ : ∃ H, H = w2.heap.size := ⟨_, rfl⟩
  rw [← hH] at hRB0
  have hHw : w.heap.size ≤ H := by rw [hH]; exact HB3.out.size
  have HH := Lib.hid hH
  clear hH HO3
  go_wp2_with fail
  go_loopg [7, 18] K (fun m s7 s18 wr => ∃ (k : Nat) (ao : Option Addr) (cap : Nat), k + m = K ∧ s18 = .int .i64 (k : Int) ∧ s7 = .slice ao k cap ∧ Hid (OwnV wr H (.slice ao k cap) ((boAs b k).map (vaN 3))) ∧ Hid (Chg (fun k => H ≤ k) w2 wr))
  case atStart => exact ⟨0, none, 0, by omega, rfl, rfl, Lib.hid (OwnV.nil _ _), Lib.hid (Chg.refl _ _)⟩
  case round =>
    obtain ⟨k, ao, cap, hk, rfl, rfl, HO, HC2⟩ := hrel
    have HBw := Lib.hid (HB3.out.trans (HC2.out.below HB3.out.size (fun k h => Nat.le_trans hHw h)))
    by_cases h0 : gk = 0
    · obtain rfl : k = K := by omega
      have hfin : RvEnd 3 n b w (.returned (.slice ao k cap)) wr := by
        have e : ((boAs b k).map (vaN 3)).length = k := by rw [List.length_map, boAs_len]
        refine ⟨HBw.out, (boAs b k).map (vaN 3), ao, cap, by rw [e], ?_, HD.out⟩
        rw [e]
        exact HO.out.vals
      have HFIN := Lib.hid hfin
      clear hfin
      by_cases hend : k < L.length
      · have hkn : ¬ (k : Int) < (n : Int) := by have := HK.out; omega
        have hkn2 : ¬ k < n := by omega
        go_wp2_with fail
        go_ret
        exact HFIN.out
      · go_wp2_with fail
        go_ret
        exact HFIN.out
    · have hkK : k < K := by omega
      have hkL : k < L.length := by omega
      have hkn2 : k < n := by omega
      have HRB := Lib.hid (hRB0.out.chg HC2.out)
      obtain ⟨g, goff, gcap, hge, hgn, hgm, hgb, _⟩ := RdV.some HRB.out.1.v (by rw [bits01_len]; omega) (by decide)
      rw [bits01_len] at hge hgn
      simp only [Value.slice.injEq, true_and] at hge
      obtain ⟨rfl, rfl⟩ := hge
      have e0 := bit_cell HRB.out.1 k (L[k]'hkL) (List.getElem?_eq_getElem hkL)
      have ex : boA b k = (L[k]'hkL).toNat := by rw [HBO.out, List.getD_eq_getElem?_getD, List.getElem?_eq_getElem hkL]; rfl
      have e1 : ((b01 (L[k]'hkL)).toNat : Int) = ((boA b k : Nat) : Int) := by rw [ex]; cases L[k]'hkL <;> rfl
      rw [e1] at e0
      have hxs : boA b k < 256 := by rw [ex]; cases L[k]'hkL <;> decide
      have hlen : ((boAs b k).map (vaN 3)).length = k := by rw [List.length_map, boAs_len]
      have HLEN := Lib.hid hlen
      have hnx := Lib.hid (show (boAs b (k + 1)).map (vaN 3) = (boAs b k).map (vaN 3) ++ [vaN 3 (boA b k)] from by rw [boAs_next, map_va])
      have hHs : Hid (H ≤ wr.heap.size) := Lib.hid (by rw [HH.out]; exact HC2.out.size)
      clear hlen e1 ex
      generalize boA b k = x at *
      go_wp2_with (at_builtin; refine wpList_append_val _ rfl (.tmp 172) (.tmp 179) rfl H (.slice ao k cap) ((boAs b k).map (vaN 3)) (vaN 3 x) rfl HO.out rfl (by rw [HLEN.out]; omega) hHs.out ?_; intro ao8 cap8 w8 ho8 hc8; rw [HLEN.out] at ho8 ⊢; rw [← hnx.out] at ho8; have HO8 := Lib.hid ho8; have HC8 := Lib.hid (HC2.out.trans hc8); clear ho8 hc8)
      go_roundg (gk - 1)
      case measure => go_light; omega
      case rel =>
        go_light
        exact ⟨k + 1, ao8, cap8, by omega, by congr 1, rfl, HO8, HC8⟩
end Go.Proofs.YthiojdkhapbbnaaDoor

/- XRRead4: gristref07.read: texts. -/
namespace Go.Proofs.YthiojdkhapbbnaaDoor
open Go.RowKit
set_option linter.unusedVariables false

theorem txt_body1 {n : Nat} {b c : List UInt8} (hc : c = b.drop 1) (hb : b.getD 0 0 ≠ 1) : ∀ ys, TxtG n b ys → txt ys = c := by
  intro ys hy
  rcases (txt_good hy).2 with ⟨h1, _⟩ | ⟨_, hr⟩
  · exact absurd h1 hb
  · rw [hc, hr]

set_option maxHeartbeats 4000000 in
set_option maxRecDepth 100000 in
theorem rread4_any (n : Nat) (b : List UInt8) (v : Value) (w : World) (h1 : 1 ≤ n) (h2 : n ≤ 1000) (hl : b.length ≤ 140737488355328) (hr : Rd w v b) :
    Calls Tryd.prog 61 #[.int .i64 4, .int .i64 (n : Int), v] w fun e w' => RvEnd 4 n b w e w' := by
  obtain ⟨ao0, cap0, rfl, hnc, hcm⟩ := RdV.shape hr
  unfold maxLen at hcm
  by_cases hb0 : b = []
  · subst hb0
    have HD := Lib.hid (fun l (hl : CdGood 4 n [] l) => (txt_good (good_txt hl).2).1 rfl)
    clear hr
    go_enter Tryd.func61, Tryd.ntmps61
    go_wp2_with fail
    go_ret
    exact RvEnd.nil (Below.refl _ _) HD.out
  · have hpos : 0 < b.length := List.length_pos_iff.2 hb0
    obtain ⟨m, hm⟩ : ∃ m, m = b.length := ⟨_, rfl⟩
    have HM := Lib.hid hm
    obtain ⟨c, hc⟩ : ∃ c, c = b.drop 1 := ⟨_, rfl⟩
    have hcl : c.length ≤ 140737488355328 := by rw [hc, List.length_drop]; omega
    have HC := Lib.hid hc
    obtain ⟨bb, off, bcap, hbe, _, _, hbb, hcc⟩ := RdV.some hr.v hpos (by decide)
    simp only [Value.slice.injEq, true_and] at hbe
    obtain ⟨rfl, rfl⟩ := hbe
    obtain ⟨y, hy⟩ : ∃ y : UInt8, b[0]? = some y := ⟨b[0], List.getElem?_eq_getElem hpos⟩
    have hc0 : w.cell? ⟨bb, off, none⟩ = some (.int .u8 (y.toNat : Int)) := by
      have := hcc 0 (bV y) (by rw [List.getElem?_map, hy]; rfl)
      simpa [bV] using this
    have HY : Hid (b.getD 0 0 = y) := Lib.hid (by rw [List.getD_eq_getElem?_getD, hy]; rfl)
    have HR := Lib.hid hr
    rw [← hm] at hl hnc ⊢
    have hm0 : ¬ (m : Int) < 1 := by omega
    have h1m : Hid (1 ≤ b.length) := Lib.hid hpos
    have hm1 : 0 < m := by omega
    clear hr hm hc hb0 hpos hcc hy
    go_enter Tryd.func61, Tryd.ntmps61
    go_upto_if 191 with (with_reducible refine wpList_cut_lo w rfl (.tmp 186) (.const (.int .i64 1)) 24 rfl Tryd.underlying24 (some ⟨bb, off, none⟩) cap0 b m HM.out rfl .i64 1 rfl HR.out 1 rfl h1m.out c HC.out ?_; intro ao1 cap1 hr1 hk1; have HR1 := Lib.hid hr1; have HK1 := Lib.hid hk1; clear hr1 hk1)
    go_cut [19] (fun s19 wx => ∃ (body : List UInt8) (ap : Option Addr) (cp : Nat), s19 = .slice ap body.length cp ∧ body.length ≤ 140737488355328 ∧ Hid (∀ ys, TxtG n b ys → txt ys = body) ∧ Hid (Rest wx wx.heap.size ap cp body) ∧ Hid (Below w.heap.size w wx))
    case first =>
      by_cases hy0 : y = 1
      · subst hy0
        have HY0 : Hid (b.getD 0 0 ≠ 0) := Lib.hid (by rw [HY.out]; decide)
        have hK : Calls Tryd.prog 83 #[.slice ao1 c.length cap1, .int .i64 4194304] w _ := runlz_any c 4194304 (by decide) (.slice ao1 c.length cap1) w hcl HR1.out
        go_wp2_with (go_at_call 83; refine hK.mono ?_; rintro _ w2 ⟨hb2, out, ao2, cap2, er, rfl, ho2, hl2, hout⟩; have HB2 := Lib.hid hb2; have HO2 := Lib.hid ho2; have HU2 := Lib.hid hout; clear hb2 ho2 hout hK)
        go_meet
        go_light
        exact ⟨out, ao2, cap2, rfl, by omega, Lib.hid (txt_body HC.out HY0.out HU2.out), Lib.hid ⟨HO2.out.rd, fun k hk => (World.ownsRow.lt HO2.out k hk).2⟩, HB2⟩
      · have HY1 : Hid (b.getD 0 0 ≠ 1) := Lib.hid (by rw [HY.out]; exact hy0)
        obtain ⟨N, hN⟩ : ∃ N, N = y.toNat := ⟨_, rfl⟩
        have hNe : N ≠ 1 := by
          intro h
          apply hy0
          apply UInt8.toNat_inj.1
          rw [← hN, h]
          rfl
        have hy2 : ((N : Int) == 1) = false := by simp; omega
        clear hy0
        generalize y.toNat = N2 at *
        subst hN
        go_wp2_with fail
        go_meet
        go_light
        exact ⟨c, ao1, cap1, rfl, hcl, Lib.hid (txt_body1 HC.out HY1.out), Lib.hid ⟨HR1.out, fun k hk => by have := HK1.out k hk; cases this; exact hbb⟩, Lib.hid (Below.refl _ _)⟩
    case rest =>
    obtain ⟨body, ap, cp, rfl, hbl, HBD, HRS, HB⟩ := hcut
    obtain ⟨H, hH⟩ : ∃ H, H = wc.heap.size := ⟨_, rfl⟩
    rw [← hH] at HRS
    have hHw : w.heap.size ≤ H := by rw [hH]; exact HB.out.size
    have HH := Lib.hid hH
    clear hc0 hm0 hH
    generalize wc = w5 at *
    go_wp2_with fail
    go_loopg [7, 19] n (fun m s7 s19 wr => ∃ (k : Nat) (ts : List ByteArray) (R : List UInt8) (ap : Option Addr) (cp : Nat) (ao : Option Addr) (cap : Nat), k + m = n ∧ Hid (ts.length = k) ∧ s19 = .slice ap R.length cp ∧ s7 = .slice ao k cap ∧ R.length ≤ 140737488355328 ∧ Hid (TxI n body ts R) ∧ Hid (Rest wr H ap cp R) ∧ Hid (OwnV wr H (.slice ao k cap) (ts.map vaT)) ∧ Hid (Chg (fun k => H ≤ k) w5 wr))
    case atStart => exact ⟨0, [], body, ap, cp, none, 0, by omega, Lib.hid rfl, rfl, rfl, hbl, Lib.hid (TxI.start _ _), HRS, Lib.hid (OwnV.nil _ _), Lib.hid (Chg.refl _ _)⟩
    case round =>
      obtain ⟨k, ts, R, ap, cp, ao, cap, hk, HTL, rfl, rfl, hRl, HI, HRS, HO, HC2⟩ := hrel
      have HBw := Lib.hid (HB.out.trans (HC2.out.below HB.out.size (fun k h => Nat.le_trans hHw h)))
      by_cases h0 : gk = 0
      · obtain rfl : k = n := by omega
        have HD := Lib.hid (HI.out.done HTL.out)
        clear hk h0
        by_cases hR0 : 0 < R.length
        · have hkk : ¬ (k : Int) < (k : Int) := by omega
          go_wp2_with fail
          go_ret
          exact RvEnd.txt HBw.out HTL.out HO.out HBD.out HD.out
        · go_wp2_with fail
          go_ret
          exact RvEnd.txt HBw.out HTL.out HO.out HBD.out HD.out
      · have hkn : k < n := by omega
        by_cases hR0 : R = []
        · subst hR0
          have HN := Lib.hid (HI.out.empty (by rw [HTL.out]; exact hkn))
          go_wp2_with fail
          go_ret
          exact RvEnd.txt HBw.out HTL.out HO.out HBD.out (fun ys a1 a2 a3 => absurd a3 (HN.out ys a1 a2))
        · have hRpos : 0 < R.length := List.length_pos_iff.2 hR0
          have hRS := rreadShort_any (.slice ap R.length cp) R wr hRl HRS.out.1
          have hle := rs_le R 0 0
          rw [Nat.zero_add] at hle
          have HNO := Lib.hid (HI.out.none (by rw [HTL.out]; exact hkn))
          have HNX := Lib.hid (HI.out.next (by rw [HTL.out]; exact hkn) (rs R 0 0).1 (rs R 0 0).2 rfl rfl)
          generalize (rs R 0 0).1 = q at *
          generalize (rs R 0 0).2 = z at *
          have hHs : Hid (H ≤ wr.heap.size) := Lib.hid (by rw [HH.out]; exact HC2.out.size)
          clear hR0
          by_cases hz : z = 0
          · have HN := Lib.hid (good_noneT HBD.out (HNO.out (.inl hz)))
            subst hz
            go_wp2_with (go_at_call 84; refine hRS.mono ?_; rintro _ w6 ⟨rfl, hb6⟩; have HB6 := Lib.hid (HBw.out.trans (hb6.mono HBw.out.size)); clear hb6 hRS)
            go_ret
            exact RvEnd.nil HB6.out HN.out
          · have hz0 : ((z : Int) == 0) = false := by simp; omega
            have hu : IntKind.u64.wrap ((R.length : Int) - (z : Int)) = ((R.length - z : Nat) : Int) := by rw [IntWalk.u64_in _ (by omega)]; omega
            by_cases hbig : R.length - z < q
            · have HN := Lib.hid (good_noneT HBD.out (HNO.out (.inr hbig)))
              go_wp2_with (go_at_call 84; refine hRS.mono ?_; rintro _ w6 ⟨rfl, hb6⟩; have HB6 := Lib.hid (HBw.out.trans (hb6.mono HBw.out.size)); clear hb6 hRS)
              go_ret
              exact RvEnd.nil HB6.out HN.out
            · have hu2 : IntKind.i64.wrap (q : Int) = (q : Int) := IntWalk.i64_in _ (by omega)
              obtain ⟨T, hT⟩ : ∃ T, T = (R.drop z).take q := ⟨_, rfl⟩
              obtain ⟨R2, hR2⟩ : ∃ R2, R2 = R.drop (z + q) := ⟨_, rfl⟩
              rw [← hT, ← hR2] at HNX
              have HT : Hid (T = (R.drop z).take (z + q - z)) := Lib.hid (by rw [Nat.add_sub_cancel_left]; exact hT)
              have HR2 := Lib.hid hR2
              have hR2l : R2.length ≤ 140737488355328 := by rw [hR2, List.length_drop]; omega
              have hzq : z + q ≤ R.length := by omega
              have hzz : z ≤ z + q := by omega
              have HLEN : Hid ((ts.map vaT).length = k) := Lib.hid (by rw [List.length_map, HTL.out])
              have HSN : Hid (ts.map vaT ++ [vaT (strOf T)] = (ts ++ [strOf T]).map vaT) := Lib.hid (by rw [List.map_append]; rfl)
              have HTL2 : Hid ((ts ++ [strOf T]).length = k + 1) := Lib.hid (by rw [List.length_append, HTL.out]; rfl)
              have hkb : k ≤ 1000 := by omega
              clear hT hR2 HNO hle
              go_upto_region 55 with (go_at_call 84; refine hRS.mono ?_; rintro _ w6 ⟨rfl, hb6⟩; have HB6 := Lib.hid hb6; clear hb6 hRS)
              have HC6 := Lib.hid (HC2.out.trans (Chg.ofBelowAny HB6.out))
              have HRS6 := Lib.hid (HRS.out.chg (Chg.ofBelowAny HB6.out))
              have HO6 := Lib.hid (HO.out.below HB6.out)
              have hHs6 : Hid (H ≤ w6.heap.size) := Lib.hid (Nat.le_trans hHs.out HB6.out.size)
              have HRd := Lib.hid HRS6.out.1
              have hstr := fun ao1 cap1 (h : Rd w6 (.slice ao1 T.length cap1) T) => run_str h 24 5 9 Tryd.underlying24 Tryd.underlying5 Tryd.underlying9
              clear HO HRS hHs HC2
              go_upto_region 56 with (first
                | (with_reducible refine wpList_cut_both _ rfl (.tmp 223) (.tmp 224) (.tmp 228) 24 rfl Tryd.underlying24 ap cp R R.length rfl rfl .i64 .i64 (z : Int) ((z : Int) + (q : Int)) rfl rfl HRd.out z (z + q) rfl rfl hzz hzq T HT.out ?_; intro ao7 cap7 hr7 hk7; have hst := hstr _ _ hr7; clear hr7 hk7 hstr)
                | (at_builtin; refine wpList_append_val _ rfl (.tmp 222) (.tmp 232) rfl H (.slice ao k cap) (ts.map vaT) (vaT (strOf T)) rfl HO6.out rfl (by rw [HLEN.out]; omega) hHs6.out ?_; intro ao8 cap8 w8 ho8 hc8; rw [HLEN.out] at ho8 ⊢; rw [HSN.out] at ho8; have HO8 := Lib.hid ho8; have HC8 := Lib.hid hc8; clear ho8 hc8))
              have HRS8 := Lib.hid (HRS6.out.chg HC8.out)
              have HRd8 := Lib.hid HRS8.out.1
              go_wp2_with (with_reducible refine wpList_cut_lo _ rfl (.tmp 234) (.tmp 238) 24 rfl Tryd.underlying24 ap cp R R.length rfl rfl .i64 ((z : Int) + (q : Int)) rfl HRd8.out (z + q) rfl hzq R2 HR2.out ?_; intro ao7 cap7 hr7 hk7; have HR7 := Lib.hid hr7; have HK7 := Lib.hid hk7; clear hr7 hk7)
              go_roundg (gk - 1)
              case measure => go_light; omega
              case rel =>
                go_light
                exact ⟨k + 1, ts ++ [strOf T], R2, ao7, cap7, ao8, cap8, by omega, HTL2, rfl, rfl, hR2l, HNX, Lib.hid ⟨HR7.out, fun j hj => HRS6.out.2 j (HK7.out j hj)⟩, HO8, Lib.hid (HC6.out.trans HC8.out)⟩
end Go.Proofs.YthiojdkhapbbnaaDoor

/- XRDec07: gristref07.Decode. -/
namespace Go.Proofs.YthiojdkhapbbnaaDoor
open Go.RowKit
set_option linter.unusedVariables false

theorem rread_any (k : Int) (n : Nat) (b : List UInt8) (v : Value) (w : World) (h1 : 1 ≤ n) (h2 : n ≤ 1000) (hl : b.length ≤ 17592186044400) (hr : Rd w v b) :
    Calls Tryd.prog 61 #[.int .i64 k, .int .i64 (n : Int), v] w fun e w' => RvEnd k n b w e w' := by
  by_cases k1 : k = 1
  · subst k1; exact rread1_any n b v w h1 h2 hl hr
  · by_cases k2 : k = 2
    · subst k2; exact rread2_any n b v w h1 h2 hl hr
    · by_cases k3 : k = 3
      · subst k3; exact rread3_any n b v w h1 h2 hl hr
      · by_cases k4 : k = 4
        · subst k4; exact rread4_any n b v w h1 h2 (by omega) hr
        · exact rread0_any k n b v w (by omega) n hr

set_option maxHeartbeats 2000000 in
set_option maxRecDepth 100000 in
theorem rdecodeC_any (k n : Int) (b : List UInt8) (v : Value) (w : World) (hk : i64ok k) (hn : i64ok n) (hl : b.length ≤ 17592186044400) (hr : Rd w v b) :
    Calls Tryd.prog 31 #[.int .i64 k, .int .i64 n, v] w fun e w' => DcEnd k n b w e w' := by
  obtain ⟨ao0, cap0, rfl, hnc, hcm⟩ := RdV.shape hr
  unfold maxLen at hcm
  by_cases hrange : n < 1 ∨ 1000 < n
  · have HD := Lib.hid (fun l (h : CdG k n b l) => show False by have := h.range; omega)
    go_enter Tryd.func31, Tryd.ntmps31
    rcases hrange with h | h
    · go_wp2_with fail
      go_ret2
      exact DcEnd.bad (Below.refl _ _) HD.out
    · have h2 : ¬ n < 1 := by omega
      go_wp2_with fail
      go_ret2
      exact DcEnd.bad (Below.refl _ _) HD.out
  · obtain ⟨N, rfl⟩ := Int.eq_ofNat_of_zero_le (show 0 ≤ n by omega)
    have h1 : 1 ≤ N := by omega
    have h2 : N ≤ 1000 := by omega
    have HR := Lib.hid hr
    have hz1 : ¬ (N : Int) < 1 := by omega
    have hz2 : ¬ (1000 : Int) < (N : Int) := by omega
    have hK0 := rread_any k N b (.slice ao0 b.length cap0) w h1 h2 hl hr
    clear hr hrange
    go_enter Tryd.func31, Tryd.ntmps31
    go_upto_region 4 with (go_at_call 61; refine hK0.mono ?_; rintro _ w2 ⟨hb2, l, ao, cap, rfl, hv2, hd2⟩; have HB := Lib.hid hb2; have HV := Lib.hid hv2; have HD := Lib.hid hd2; clear hb2 hv2 hd2 hK0)
    have HRc := Lib.hid (show Rd w2 (.slice ao0 b.length cap0) b from RdV.below HR.out HB.out)
    have HOK : Hid (∀ v ∈ l, v.ok) := Lib.hid (fun v hv => (HD.out.1 v hv).2)
    have hK := rencodeC_any l (.slice ao l.length cap) w2 HOK.out HV.out
    obtain ⟨p, hp⟩ : ∃ p, p = encC l := ⟨_, rfl⟩
    have HP := Lib.hid hp
    clear hp
    go_upto_region 5 with (go_at_call 18; refine hK.mono ?_; rintro e w3 ⟨hb3, ao3, cap3, rfl, hr3⟩; rw [← HP.out] at hr3 ⊢; have HB3 := Lib.hid (HB.out.trans (hb3.mono HB.out.size)); have HR3 := Lib.hid hr3.rd; have HR4 := Lib.hid (show Rd w3 (.slice ao0 b.length cap0) b from RdV.below HRc.out hb3); have HV3 := Lib.hid (HV.out.below hb3); clear hb3 hr3 hK)
    obtain ⟨c, m⟩ := p
    try dsimp only at *
    have HU := Lib.hid (fun l' (h : CdG k (N : Int) b l') => HD.out.2 l' h.nat)
    by_cases hln : l.length = N
    · have hlnI : ((l.length : Int) != (N : Int)) = false := by simp [hln]
      have HLN := Lib.hid hln
      clear hln
      by_cases hm : m = 0
      · subst hm
        have c4 := run_str HR3.out 24 5 9 Tryd.underlying24 Tryd.underlying5 Tryd.underlying9
        have c5 := run_str HR4.out 24 5 9 Tryd.underlying24 Tryd.underlying5 Tryd.underlying9
        by_cases hbc : b = c
        · subst hbc
          have HGD : Hid (CdG k (N : Int) b l) := Lib.hid ⟨by rw [← HP.out], by rw [HLN.out], fun v hv => (HD.out.1 v hv).1, HOK.out⟩
          go_wp2_with fail
          go_ret2
          exact DcEnd.good HB3.out HGD.out HU.out HV3.out
        · have hcb : (c == b) = false := by rw [beq_eq_false_iff_ne]; exact fun h => hbc h.symm
          have HNO := Lib.hid (fun l' (h : CdG k (N : Int) b l') => show False by
            have e := HU.out l' h
            subst e
            have := h.1
            rw [← HP.out] at this
            simp at this
            exact hbc this.symm)
          go_wp2_with fail
          go_ret2
          exact DcEnd.bad HB3.out HNO.out
      · have hmI : ((m : Int) != 0) = true := by simp; omega
        have HNO := Lib.hid (fun l' (h : CdG k (N : Int) b l') => show False by
          have e := HU.out l' h
          subst e
          have := h.1
          rw [← HP.out] at this
          simp at this
          exact hm this.2)
        go_wp2_with fail
        go_ret2
        exact DcEnd.bad HB3.out HNO.out
    · have hlnI : ((l.length : Int) != (N : Int)) = true := by simp; omega
      have HNO := Lib.hid (fun l' (h : CdG k (N : Int) b l') => show False by
        have e := HU.out l' h
        subst e
        have := h.2.1
        omega)
      clear hln
      go_wp2_with fail
      go_ret2
      exact DcEnd.bad HB3.out HNO.out
end Go.Proofs.YthiojdkhapbbnaaDoor
