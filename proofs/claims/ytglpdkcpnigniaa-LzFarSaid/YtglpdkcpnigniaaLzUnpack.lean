/- The contract of lz.Unpack, of what can be read back. -/
import Derived.Test.YtglpdkcpnigniaaLzDec
import Derived.Test.YtglpdkcpnigniaaLzChains
namespace Go.Proofs.Ytglpdkcpnigniaa
open Go.RowKit
set_option linter.unusedVariables false

theorem take_sub (bs : List UInt8) (t n : Nat) (h : t + n ≤ bs.length) : bs.take (t + n) = bs.take t ++ sub bs t (t + n) := by
  unfold sub
  rw [Nat.add_sub_cancel_left, List.take_add]

theorem dec_cases {bs : List UInt8} {t : Nat} {R : List UInt8} (h : Dec bs t R) : (R = [] ∧ t = bs.length) ∨
    (∃ n R', 1 ≤ n ∧ n ≤ 127 ∧ t + n ≤ bs.length ∧ R = UInt8.ofNat n :: (sub bs t (t + n) ++ R') ∧ Dec bs (t + n) R') ∨
    (∃ r far R', r ≤ 127 ∧ 1 ≤ far ∧ far ≤ 65535 ∧ far ≤ t ∧ t + (4 + r) ≤ bs.length ∧ (∀ i, i < 4 + r → bs[t - far + i]? = bs[t + i]?) ∧ R = piece r far ++ R' ∧ Dec bs (t + (4 + r)) R') := by
  cases h with
  | nil => exact .inl ⟨rfl, rfl⟩
  | lit _ n R' h1 h2 h3 h => exact .inr (.inl ⟨n, R', h1, h2, h3, rfl, h⟩)
  | rep _ r far R' h1 h2 h3 h4 h5 h6 h => exact .inr (.inr ⟨r, far, R', h1, h2, h3, h4, h5, h6, rfl, h⟩)

theorem rd_cells {w : World} {b off cap : Nat} {R : List UInt8} (h : Rd w (.slice (some ⟨b, off, none⟩) R.length cap) R) (k : Nat) (x : UInt8) (hx : R[k]? = some x) : w.cell? ⟨b, off + k, none⟩ = some (.int .u8 (x.toNat : Int)) := by
  have hk : k < R.length := (List.getElem?_eq_some_iff.1 hx).1
  obtain ⟨b', off', cap', he, _, _, _, hcc⟩ := RdV.some h.v (by omega) (by decide)
  simp only [Value.slice.injEq, Option.some.injEq, Addr.mk.injEq, true_and, and_true] at he
  obtain ⟨⟨rfl, rfl⟩, rfl⟩ := he
  exact hcc k (bV x) (by rw [List.getElem?_map, hx]; rfl)

set_option maxHeartbeats 1000000 in
set_option maxRecDepth 100000 in
theorem unpack_any (bs P : List UInt8) (v : Value) (w : World) (hn : bs.length ≤ 1000000) (hP : P.length ≤ 4000000) (hr : Rd w v P) (hd : Dec bs 0 P) :
    Calls Try.prog 9 #[v, .int .i64 (bs.length : Int)] w fun e w' => ∃ ao cap, e = .returned (.tuple #[.slice ao bs.length cap, .int .i64 0]) ∧ Own w' w.heap.size (.slice ao bs.length cap) bs ∧ Below w.heap.size w w' := by
  obtain ⟨ao0, cap0, rfl, hnc, hcm⟩ := RdV.shape hr
  unfold maxLen at hcm
  go_enter Try.func9, Try.ntmps9
  go_wp2_with fail
  go_loopg [0, 6] P.length (fun m s0 s6 wr => ∃ (t : Nat) (R os : List UInt8) (ao : Option Addr) (cap : Nat) (ap : Option Addr) (cp : Nat), R.length = m ∧ s0 = .slice ap R.length cp ∧ s6 = .slice ao os.length cap ∧ Hid (os = bs.take t) ∧ Hid (Dec bs t R) ∧ R.length ≤ P.length ∧ t ≤ bs.length ∧
    Hid (Rd wr (.slice ap R.length cp) R) ∧ Hid (∀ k, (Value.slice ap R.length cp).ownBlock = some k → (Value.slice ao0 P.length cap0).ownBlock = some k) ∧ Hid (Own wr w.heap.size (.slice ao os.length cap) os) ∧ Hid (Below w.heap.size w wr))
  case atStart => exact ⟨0, P, [], none, 0, ao0, cap0, rfl, rfl, rfl, Lib.hid rfl, Lib.hid hd, Nat.le_refl _, by omega, Lib.hid hr, Lib.hid (fun k h => h), Lib.hid (Own.nil _ _), Lib.hid (Below.refl _ _)⟩
  case round =>
    clear hd
    obtain ⟨t, R, os, ao, cap, ap, cp, hm, rfl, rfl, hos, hdec, hRP, htb, hR, hblk, hO, hB⟩ := hrel
    have hol : os.length ≤ 1000000 := by rw [hos.out]; simp; omega
    have HRB := Lib.hid (fun (h : 0 < R.length) k (hk : (Value.slice ap R.length cp).ownBlock = some k) => Rd.blk hr (by omega) k (hblk.out k hk))
    rcases dec_cases hdec.out with ⟨rfl, rfl⟩ | ⟨n, R', h1, h2, h3, hRe, hD'⟩ | ⟨r, far, R', h1, h2, h3, h4, h5, h6, hRe, hD'⟩
    · have hos2 : Hid (os = bs) := Lib.hid (by rw [hos.out, List.take_length])
      clear hos hdec htb hm
      go_wp2_with fail
      go_ret2
      have := hos2.out
      subst this
      exact ⟨ao, cap, rfl, hO.out, hB.out⟩
    · have hRl : R.length = 1 + n + R'.length := by rw [hRe, List.length_cons, List.length_append, sub_len _ _ _ h3]; omega
      have hR0 : R[0]? = some (UInt8.ofNat n) := by rw [hRe]; rfl
      have hRt : (R.drop 1).take n = sub bs t (t + n) := by rw [hRe, List.drop_succ_cons, List.drop_zero]; exact List.take_left' (by rw [sub_len _ _ _ h3]; omega)
      have hRd : R.drop (n + 1) = R' := by rw [hRe, List.drop_succ_cons]; exact List.drop_left' (by rw [sub_len _ _ _ h3]; omega)
      obtain ⟨b, off, bcap, hbv, hbn, hbm, hbl, _⟩ := RdV.some hR.out.v (by omega) (by decide)
      simp only [Value.slice.injEq, true_and] at hbv
      obtain ⟨rfl, rfl⟩ := hbv
      have e0 : wr.cell? ⟨b, off, none⟩ = some (.int .u8 (n : Int)) := by
        have := rd_cells hR.out 0 _ hR0
        rw [mem_ofNat n (by omega)] at this
        exact this
      unfold maxLen at hbm
      have hE := Lib.hid (⟨hm, hRl, hRe⟩ : R.length = gk ∧ R.length = 1 + n + R'.length ∧ R = UInt8.ofNat n :: (sub bs t (t + n) ++ R'))
      have hRb := HRB.out (by omega) b rfl
      have hgt : n + 1 ≤ R.length := by omega
      have hne : (Value.slice ao os.length cap).ownBlock ≠ some b := fun h => by have := (hO.out.lt b h).1; omega
      have hcut := Lib.hid (show RdV wr 1 (.slice (some ⟨b, off + 1, none⟩) n (cp - 1)) n ((sub bs t (t + n)).map bV) by
        have h := RdV.cut hR.out.v 1 (n + 1) (by omega) hgt
        rw [if_neg (by omega), Nat.mul_one, Nat.mul_one, Nat.add_sub_cancel] at h
        simp only [Option.map_some, Addr.add_lit] at h
        rw [← List.map_drop, ← List.map_take, hRt] at h
        exact h)
      have HRd := Lib.hid hRd
      have hcl1 : ¬ cp = 1 := by omega
      have i1 : ((n : Int) + 1).toNat = n + 1 := by omega
      have i2 : (n : Int) + 1 ≤ (cp : Int) := by omega
      have h63 : os.length + n ≤ maxLen := by unfold maxLen; omega
      have hby : (os.length + n) * 1 ≤ 140737488355328 := by omega
      have hba := hB.out.size
      have hlt : (n : Int) < (R.length : Int) := by omega
      have hos' : Hid (os.length = t) := Lib.hid (by rw [hos.out]; simp; omega)
      clear hm hRl hR0 hRt hRd hRe
      go_upto_region 18 with (at_builtin; refine wpList_append_rd _ rfl (.tmp 73) (.tmp 77) 22 rfl w.heap.size 5 (.int .u8 0) 1 1 Try.underlying22 infoU8 rfl (by decide) (.slice ao os.length cap) os.length (os.map bV) rfl hO.out (.slice (some ⟨b, off + 1, none⟩) n (cp - 1)) n ((sub bs t (t + n)).map bV) rfl hcut.out (bV_one _) h63 hby hba ?_; intro ao6 cap6 w6 hg6; have HG6 := Lib.hid hg6; have HR6 := Lib.hid (show Rd w6 (.slice (some ⟨b, off, none⟩) R.length cp) R from RdV.chg hR.out.v hg6.chg (fun k hk h => by cases hk; exact hne h)); clear hg6)
      have hlim : os.length + n ≤ bs.length := by have := hos'.out; omega
      have hcells := Lib.hid (show ((R.map bV).drop (n + 1)).take (R.length - (n + 1)) = R'.map bV by rw [List.take_of_length_le (by simp), ← List.map_drop, HRd.out])
      have hRn := Lib.hid (show R.length - (n + 1) = R'.length by have := hE.out.2.1; omega)
      go_wp2_with (with_reducible refine wpList_slice_rd _ rfl (.tmp 79) (some (.tmp 81)) none 22 rfl 5 1 (.int .u8 0) 1 Try.underlying22 infoU8 _ _ _ _ rfl HR6.out.v (n + 1) _ ?hb hgt (Nat.le_refl _) ?hk)
      case hb => first | exact bounds_lo _ _ _ _ hgt | (intro hx; exfalso; have := hx (by omega); omega)
      case hk =>
        intro ao5 cap5 hr5 hb5
        rw [hcells.out, hRn.out] at hr5
        rw [hRn.out] at hb5 ⊢
        have HR5 := Lib.hid hr5
        have HB5 := Lib.hid hb5
        clear hr5 hb5
        go_wp2_with fail
        go_roundg R'.length
        case measure => go_light; have := hE.out; omega
        case rel =>
          go_light
          have e1 : os.map bV ++ (sub bs t (t + n)).map bV = (os ++ sub bs t (t + n)).map bV := by rw [List.map_append]
          have hsl : (sub bs t (t + n)).length = n := by rw [sub_len _ _ _ h3]; omega
          have e2 : os.length + n = (os ++ sub bs t (t + n)).length := by rw [List.length_append, hsl]
          have hg := HG6.out
          rw [e1, e2] at hg
          rw [e2]
          exact ⟨t + n, R', os ++ sub bs t (t + n), ao6, cap6, ao5, cap5, rfl, rfl, rfl, Lib.hid (by rw [hos.out, ← take_sub _ _ _ h3]), Lib.hid hD', by have := hE.out; omega, h3, HR5, Lib.hid (fun k hk => hblk.out k (HB5.out k hk)), Lib.hid hg.owns,
            Lib.hid (hB.out.trans (hg.below hba (fun k hk => (hO.out.lt k hk).1)))⟩
    · have hpl : (piece r far).length = 3 := rfl
      have hRl : R.length = 3 + R'.length := by rw [hRe, List.length_append, hpl]
      have hR0 : R[0]? = some (UInt8.ofNat (128 + r)) := by rw [hRe]; rfl
      have hR1 : R[1]? = some (UInt8.ofNat (far / 256)) := by rw [hRe]; rfl
      have hR2 : R[2]? = some (UInt8.ofNat far) := by rw [hRe]; rfl
      have hRd : R.drop 3 = R' := by rw [hRe]; rfl
      obtain ⟨b, off, bcap, hbv, hbn, hbm, hbl, _⟩ := RdV.some hR.out.v (by omega) (by decide)
      simp only [Value.slice.injEq, true_and] at hbv
      obtain ⟨rfl, rfl⟩ := hbv
      have e0 : wr.cell? ⟨b, off, none⟩ = some (.int .u8 ((128 + r : Nat) : Int)) := by
        have := rd_cells hR.out 0 _ hR0
        rw [mem_ofNat _ (by omega)] at this
        exact this
      have e1 : wr.cell? ⟨b, off + 1, none⟩ = some (.int .u8 ((far / 256 : Nat) : Int)) := by
        have := rd_cells hR.out 1 _ hR1
        rw [mem_ofNat _ (by omega)] at this
        exact this
      have e2 : wr.cell? ⟨b, off + 2, none⟩ = some (.int .u8 ((far % 256 : Nat) : Int)) := by
        have := rd_cells hR.out 2 _ hR2
        rw [show (UInt8.ofNat far).toNat = far % 256 by rw [UInt8.toNat_ofNat']] at this
        exact this
      unfold maxLen at hbm
      have hE := Lib.hid (⟨hm, hRl, hRe⟩ : R.length = gk ∧ R.length = 3 + R'.length ∧ R = piece r far ++ R')
      have hRb := HRB.out (by omega) b rfl
      have hgt : 3 ≤ R.length := by omega
      have hgI : (3 : Int) ≤ (R.length : Int) := by omega
      have hne : (Value.slice ao os.length cap).ownBlock ≠ some b := fun h => by have := (hO.out.lt b h).1; omega
      have HRd := Lib.hid hRd
      have HH := Lib.hid h6
      obtain ⟨N, hN⟩ : ∃ N, N = 128 + r := ⟨_, rfl⟩
      obtain ⟨f1, hf1⟩ : ∃ f, f = far / 256 := ⟨_, rfl⟩
      obtain ⟨f2, hf2⟩ : ∃ f, f = far % 256 := ⟨_, rfl⟩
      rw [← hN] at e0
      rw [← hf1] at e1
      rw [← hf2] at e2
      have HNN := Lib.hid (⟨hN, hf1, hf2⟩ : N = 128 + r ∧ f1 = far / 256 ∧ f2 = far % 256)
      have hN1 : 128 ≤ N := by omega
      have hN2 : N ≤ 255 := by omega
      have hfa : f1 < 256 := by omega
      have hfb : f2 < 256 := by omega
      have hos' : Hid (os.length = t) := Lib.hid (by rw [hos.out]; simp; omega)
      have hfo : far ≤ os.length := by rw [hos'.out]; omega
      clear hm hRl hR0 hR1 hR2 hRd hRe hN hf1 hf2 h6 hpl
      go_upto_region 4 with fail
      go_quiet (fail)
      rw [i64_pair f1 f2 hfa hfb, show f1 * 256 + f2 = far by have := HNN.out; omega]
      have hRq : Hid (Rd (wr.drewN nq) (.slice (some ⟨b, off, none⟩) R.length cp) R) := hR
      have hOq : Hid (Own (wr.drewN nq) w.heap.size (.slice ao os.length cap) os) := hO
      have hBq : Hid (Below w.heap.size w (wr.drewN nq)) := Lib.hid ⟨hB.out.os, hB.out.tape, hB.out.output, hB.out.size, hB.out.block⟩
      clear e0 e1 e2 hR hO hB
      generalize wr.drewN nq = wd at *
      have hNN : IntKind.i64.wrap ((N : Int) - 128) = ((r : Nat) : Int) := by rw [IntWalk.i64_in _ (by omega)]; have := HNN.out; omega
      have hz : ((far : Int) == 0) = false := by simp; omega
      have hfd : decide (os.length < far) = false := decide_eq_false (by omega)
      have hfd2 : ¬ os.length < far := by omega
      have HF := Lib.hid (⟨h1, h2, h3, h4, h5⟩ : r ≤ 127 ∧ 1 ≤ far ∧ far ≤ 65535 ∧ far ≤ t ∧ t + (4 + r) ≤ bs.length)
      obtain ⟨g0, hg0⟩ : ∃ g, g = gk := ⟨gk, rfl⟩
      have HG0 := Lib.hid hg0
      clear hg0
      go_wp2_with fail
      go_loopg [6, 37] (r + 4) (fun m s6 s37 wr => ∃ (i : Nat) (os' : List UInt8) (ao : Option Addr) (cap : Nat), i + m = r + 4 ∧ s37 = .int .i64 (i : Int) ∧ s6 = .slice ao os'.length cap ∧ Hid (os' = bs.take (t + i)) ∧
        Hid (Rd wr (.slice (some ⟨b, off, none⟩) R.length cp) R) ∧ Hid (Own wr w.heap.size (.slice ao os'.length cap) os') ∧ Hid (Below w.heap.size w wr))
      case atStart => exact ⟨0, os, ao, cap, by omega, rfl, rfl, hos, hRq, hOq, hBq⟩
      case round =>
        obtain ⟨i, os', ao1, cap1, hi, rfl, rfl, hos1, hR1, hO1, hB1⟩ := hrel
        have hl1 : Hid (os'.length = t + i) := Lib.hid (by rw [hos1.out]; simp; omega)
        have hob : os'.length ≤ 1000000 := by have := hl1.out; omega
        by_cases h0 : gk = 0
        · have hieq := Lib.hid (show i = r + 4 by omega)
          have hfin : decide ((i : Int) < (r : Int) + 4) = false := decide_eq_false (by omega)
          have hlim : os'.length ≤ bs.length := by have := hl1.out; omega
          have hlim2 : ¬ bs.length < os'.length := by omega
          have hlimd : decide (bs.length < os'.length) = false := decide_eq_false hlim2
          have hcells := Lib.hid (show ((R.map bV).drop 3).take (R.length - 3) = R'.map bV by rw [List.take_of_length_le (by simp), ← List.map_drop, HRd.out])
          have hRn := Lib.hid (show R.length - 3 = R'.length by have := hE.out.2.1; omega)
          clear hz hfd hfd2 hNN hi h0
          go_upto_region 11 with fail
          go_wp2_with (with_reducible refine wpList_slice_rd _ rfl (.tmp 50) (some (.const (.int .i64 3))) none 22 rfl 5 1 (.int .u8 0) 1 Try.underlying22 infoU8 _ _ _ _ rfl hR1.out.v 3 _ ?hb2 hgt (Nat.le_refl _) ?hk2)
          case hb2 => first | exact bounds_lo _ _ _ _ hgt | (intro hx; exfalso; have := hx (by omega); omega) | (intro hx; exfalso; omega)
          case hk2 =>
            intro ao5 cap5 hr5 hb5
            rw [hcells.out, hRn.out] at hr5
            rw [hRn.out] at hb5 ⊢
            have HR5 := Lib.hid hr5
            have HB5 := Lib.hid hb5
            clear hr5 hb5
            go_wp2_with fail
            go_roundg R'.length
            case measure => go_light; have := hE.out; have := HG0.out; omega
            case rel =>
              go_light
              exact ⟨t + (4 + r), R', os', ao1, cap1, ao5, cap5, rfl, rfl, rfl, Lib.hid (by rw [hos1.out, hieq.out, Nat.add_comm r 4]), Lib.hid hD', by have := hE.out; omega, HF.out.2.2.2.2, HR5, Lib.hid (fun k hk => hblk.out k (HB5.out k hk)), hO1, hB1⟩
        · have hle : far ≤ os'.length := by have := hl1.out; omega
          obtain ⟨g, gc, he, hg1, hg2, hc, hf, _⟩ := rowAt hO1.out (os'.length - far) (by omega)
          obtain ⟨x, hx⟩ : ∃ x, bs[t + i]? = some x := ⟨bs[t + i]'(by omega), List.getElem?_eq_getElem (by omega)⟩
          have hxo : os'[os'.length - far]? = some x := by
            have hh := HH.out i (by omega)
            rw [hx] at hh
            rw [hos1.out, List.getElem?_take, if_pos (by have := hl1.out; rw [← hos1.out]; omega), ← hos1.out, hl1.out, show t + i - far = t - far + i by omega]
            exact hh
          rw [List.getElem?_map, hxo] at hc
          simp only [Value.slice.injEq, true_and] at he
          obtain ⟨rfl, rfl⟩ := he
          have hc' : wr.cell? ⟨g, os'.length - far, none⟩ = some (.int .u8 (x.toNat : Int)) := hc
          have t1 : ((os'.length : Int) - (far : Int)).toNat = os'.length - far := by omega
          have t2 : (0 : Int) ≤ (os'.length : Int) - (far : Int) := by omega
          have t3 : (os'.length : Int) - (far : Int) < (os'.length : Int) := by omega
          have h63 : os'.length + 1 ≤ maxLen := by unfold maxLen; omega
          have hby1 : (os'.length + 1) * 1 ≤ 140737488355328 := by omega
          have hba : ∀ o, w.heap.size ≤ (wr.alloc o).heap.size := fun o => by have := hB1.out.size; simp; omega
          have hXX := Lib.hid hx
          have hI := Lib.hid hi
          have hilt : (i : Int) < (r : Int) + 4 := by omega
          clear hc hx hxo hi
          go_wp2_with (at_builtin; refine wpList_append_rd _ rfl (.tmp 39) (.tmp 47) 22 rfl w.heap.size 5 (.int .u8 0) 1 1 Try.underlying22 infoU8 rfl (by decide) (.slice (some ⟨g, 0, none⟩) os'.length cap1) os'.length (os'.map bV) rfl (hO1.out.alloc _) (.slice (some ⟨wr.heap.size, 0, none⟩) 1 1) 1 [.int .u8 (x.toNat : Int)] rfl (RdV.one _ _ _) (one_one _ rfl) h63 hby1 (hba _) ?_; intro ao6 cap6 w6 hg6; have HG6 := Lib.hid hg6.ofAlloc; clear hg6)
          go_roundg (gk - 1)
          case measure => go_light; omega
          case rel =>
            go_light
            have hg := HG6.out
            rw [show os'.map bV ++ [.int .u8 (x.toNat : Int)] = (os' ++ [x]).map bV by simp [bV], show os'.length + 1 = (os' ++ [x]).length by simp] at hg
            rw [show os'.length + 1 = (os' ++ [x]).length by simp]
            refine ⟨i + 1, os' ++ [x], ao6, cap6, by have := hI.out; omega, by go_num, rfl, Lib.hid ?_, Lib.hid (RdV.chg hR1.out.v hg.chg (fun k hk h => ?_)), Lib.hid hg.owns, Lib.hid (hB1.out.trans (hg.below hB1.out.size (fun k hk => (hO1.out.lt k hk).1)))⟩
            · have hb := (List.getElem?_eq_some_iff.1 hXX.out).1
              rw [hos1.out, show t + (i + 1) = (t + i) + 1 by omega, List.take_add_one, hXX.out]; rfl
            · have k1 : b = k := Option.some.inj hk
              have k2 : g = k := Option.some.inj h
              rw [← k1] at k2
              exact absurd (k2 ▸ hg1) (Nat.not_le.2 hRb)
end Go.Proofs.Ytglpdkcpnigniaa
