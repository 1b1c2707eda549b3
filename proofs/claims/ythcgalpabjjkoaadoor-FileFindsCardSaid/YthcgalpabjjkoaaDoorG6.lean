/- Texts of ours, behind one another: RFlo07, RInts07, REnc07, Laid07. No conditions but those that each states. -/
import Derived.Test.YthcgalpabjjkoaaDoorG5
import Derived.Test.YthcgalpabjjkoaaDoorG2
import Derived.Test.YthcgalpabjjkoaaDoorG3
import Derived.Test.YthcgalpabjjkoaaDoorG1
import Derived.Test.YthcgalpabjjkoaaDoorG4
import Derived.Test.YthcgalpabjjkoaaDoorCards
import Derived.Test.YthcgalpabjjkoaaDoorTie
import Derived.Deep.QuietTactic
import Derived.BigQuiet
import Derived.Lib.LaidTab
import Derived.Deep.DeepHandedRow
/- XRFlo07: gristref07.floats. -/
namespace Go.Proofs.YthcgalpabjjkoaaDoor
open Go.RowKit
set_option linter.unusedVariables false

/-- Bits of the call's own, a byte each. -/
def OwnB (w : World) (base : Nat) (ao : Option Addr) (cap : Nat) (L : List Bool) : Prop := Own w base (.slice ao L.length cap) (bits01 L)
theorem OwnB.rd {w : World} {base : Nat} {ao : Option Addr} {cap : Nat} {L : List Bool} (h : OwnB w base ao cap L) : Rd w (.slice ao L.length cap) (bits01 L) := Own.rd h
theorem OwnB.nil (w : World) (base : Nat) : OwnB w base none 0 [] := Own.nil w base
theorem OwnB.below {w w' : World} {base : Nat} {ao : Option Addr} {cap : Nat} {L : List Bool} (h : OwnB w base ao cap L) (hb : Below w.heap.size w w') : OwnB w' base ao cap L :=
  (Chg.ofBelowAny (S := fun _ => False) hb).owns h (fun _ _ h => h)
theorem rputL_any (x : Nat) (hx : x < 18446744073709551616) (n : Int) (N : Nat) (hn : n = (N : Int)) (h64 : N ≤ 64) (base : Nat) (ao : Option Addr) (cap : Nat) (L L' : List Bool) (hL : L' = L ++ bitsOf x N) (w : World) (hb : base ≤ w.heap.size) (hl : L.length ≤ 140737488355200) (hown : OwnB w base ao cap L) :
    Calls Tryd.prog 65 #[.slice ao L.length cap, .int .u64 (x : Int), .int .i64 n] w fun e w' => ∃ ao' cap', e = .returned (.slice ao' L'.length cap') ∧ OwnB w' base ao' cap' L' ∧ Below base w w' := by
  have e2 : (bits01 L ++ (bitsOf x N).map b01) = bits01 L' := by subst hL; unfold bits01; rw [List.map_append]
  have hr := rput_any x hx n (by omega) N (by omega) base (.slice ao L.length cap) (bits01 L) w hb (by rw [bits01_len]; exact hl) hown
  refine hr.mono ?_
  rw [e2, bits01_len]
  rintro e w' ⟨ao', cap', rfl, hg⟩
  refine ⟨ao', cap', rfl, ?_, hg.below hb (fun k hk => (World.ownsRow.lt hown k hk).1)⟩
  unfold OwnB Own
  rw [bits01_len]
  exact hg.owns

set_option maxHeartbeats 2000000 in
theorem rfloats_any (l : List Va) (v : Value) (w : World) (h1 : 1 ≤ l.length) (h2 : l.length ≤ 1000) (hok : ∀ x ∈ l, x.ok) (hr : Vals w v l) :
    Calls Tryd.prog 63 #[v] w fun e w' => ∃ ao cap, e = .returned (.slice ao (encF (bitsV l)).length cap) ∧ Own w' w.heap.size (.slice ao (encF (bitsV l)).length cap) (encF (bitsV l)) ∧ Below w.heap.size w w' := by
  obtain ⟨b, off, cap, rfl, hb, _, _, _⟩ := val_at hr 0 (by omega)
  have HLT := Lib.hid (bitsV_lt hok)
  obtain ⟨n, hn⟩ : ∃ n, n = l.length := ⟨_, rfl⟩
  have HN := Lib.hid hn
  have HBL : Hid ((bitsV l).length = n) := Lib.hid (by rw [bitsV_len, hn])
  have HR := Lib.hid hr
  rw [← hn] at h1 h2 ⊢
  clear hr hn hok
  go_enter Tryd.func63, Tryd.ntmps63
  go_wp2_with fail
  go_loopg [3, 4] (n - 1) (fun m s3 s4 wr => ∃ (k : Nat) (L : List Bool) (ao : Option Addr) (c : Nat), k + 1 + m = n ∧ s4 = .int .i64 ((k : Int) + 1) ∧ s3 = .slice ao L.length c ∧ Hid (L = fbT (bitsV l) k) ∧ L.length ≤ 77 * k ∧ Hid (OwnB wr w.heap.size ao c L) ∧ Hid (Below w.heap.size w wr))
  case atStart => exact ⟨0, [], none, 0, by omega, by simp, rfl, Lib.hid (fbT_zero _).symm, by simp, Lib.hid (OwnB.nil _ _), Lib.hid (Below.refl _ _)⟩
  case round =>
    obtain ⟨k, L, ao, c, hk, rfl, rfl, HL, hLl, HO, HB⟩ := hrel
    by_cases h0 : gk = 0
    · have hkn : (k : Int) + 1 = (n : Int) := by omega
      obtain ⟨b0, off0, c0, he0, hb0, _, hx0, _⟩ := val_at (HR.out.below HB.out) 0 (by rw [← HN.out]; omega)
      rw [← HN.out] at he0
      simp only [Value.slice.injEq, Option.some.injEq, Addr.mk.injEq, and_true, true_and] at he0
      obtain ⟨⟨rfl, rfl⟩, rfl⟩ := he0
      rw [← bitsV_get] at hx0
      simp only [Nat.zero_mul, Nat.add_zero] at hx0
      have hyl := getD_lt HLT.out 0
      have HE := Lib.hid (encF_ref (bitsV l))
      have HLE : Hid (L = fbT (bitsV l) ((bitsV l).length - 1)) := Lib.hid (by rw [HL.out, HBL.out]; congr 1; omega)
      have h8 := fun w => eight_any ((bitsV l).getD 0 0) hyl w
      generalize (bitsV l).getD 0 0 = x0 at *
      obtain ⟨A8, hA8⟩ : ∃ A8, A8 = be8 x0 := ⟨_, rfl⟩
      have hA8l : A8.length = 8 := by rw [hA8, be8_len]
      rw [← hA8] at h8 HE
      obtain ⟨PB, hPB⟩ : ∃ PB, PB = pack8 L := ⟨_, rfl⟩
      have hPBl : PB.length ≤ 10 * k + 8 := by rw [hPB, length_pack8]; omega
      have hby := fun w h => rbytes_any (.slice ao L.length c) L w (by omega) h
      rw [← hPB] at hby
      have HE2 : Hid (encF (bitsV l) = A8 ++ PB) := Lib.hid (by rw [HE.out, hPB, HLE.out])
      have HA8 := Lib.hid hA8l
      have hfl : Hid (([A8, PB] : List (List UInt8)).flatten.length ≤ 140737488355328) := Lib.hid (by simp; omega)
      clear hA8 hPB HE HLE hA8l
      go_wp2_with (first
        | (go_at_call 22; refine (h8 _).mono ?_; rintro _ w3 ⟨ao3, cap3, rfl, ho3, hb3⟩; have HO3 := Lib.hid ho3; have HB3 := Lib.hid (HB.out.trans (hb3.mono HB.out.size)); have HOB := Lib.hid (HO.out.below hb3); clear ho3 hb3 h8)
        | (go_at_call 66; refine (hby _ HOB.out.rd).mono ?_; rintro _ w4 ⟨ao4, cap4, rfl, ho4, hb4⟩; have HO4 := Lib.hid ho4; have HB4 := Lib.hid (HB3.out.trans (hb4.mono HB3.out.size)); have HR3 := Lib.hid (show Rd w4 (.slice ao3 A8.length cap3) A8 from RdV.below HO3.out.rd.v hb4); clear ho4 hb4 hby)
        | (go_at_call 23; refine (joinN_any [.slice ao3 A8.length cap3, .slice ao4 PB.length cap4] [A8, PB] 2 _ w4 rfl (by decide) (Pcs.cons HR3.out (Pcs.cons HO4.out.rd Pcs.nil)) hfl.out).mono ?_; rintro _ w5 ⟨ao5, cap5, rfl, ho5, hb5⟩; have HO5 := Lib.hid ho5; have HB5 := Lib.hid (HB4.out.trans (hb5.mono HB4.out.size)); clear ho5 hb5))
      go_ret
      have e : ([A8, PB] : List (List UInt8)).flatten = A8 ++ PB := by simp
      have ho := HO5.out
      rw [e] at ho
      rw [HE2.out]
      exact ⟨ao5, cap5, by simp, ho.mono HB4.out.size, HB5.out⟩
    · have hkn : k + 1 < n := by omega
      obtain ⟨b1, off1, c1, he1, hb1, _, hx1, _⟩ := val_at (HR.out.below HB.out) (k + 1) (by rw [← HN.out]; omega)
      obtain ⟨b0, off0, c0, he0, hb0, _, hx0, _⟩ := val_at (HR.out.below HB.out) k (by rw [← HN.out]; omega)
      rw [← HN.out] at he0 he1
      simp only [Value.slice.injEq, Option.some.injEq, Addr.mk.injEq, and_true, true_and] at he0 he1
      obtain ⟨⟨rfl, rfl⟩, rfl⟩ := he0
      obtain ⟨⟨rfl, rfl⟩, hcc⟩ := he1
      clear hcc
      rw [← bitsV_get] at hx0 hx1
      have hya := u64_xor ((bitsV l).getD (k + 1) 0) ((bitsV l).getD k 0) (getD_lt HLT.out _) (getD_lt HLT.out _)
      have hxl := xAt_lt HLT.out k
      have HNX := Lib.hid (fbT_next (bitsV l) k)
      rw [show (bitsV l).getD (k + 1) 0 ^^^ (bitsV l).getD k 0 = xAt (bitsV l) k from rfl] at hya
      generalize (bitsV l).getD (k + 1) 0 = y1 at *
      generalize (bitsV l).getD k 0 = y0 at *
      generalize xAt (bitsV l) k = x at *
      have i1 : IntKind.i64.wrap ((k : Int) + 1 - 1) = (k : Int) := IntWalk.i64_in _ (by omega) |>.trans (by omega)
      have i2 : (k : Int) + 1 - 1 = (k : Int) := by omega
      have i3 : ((k : Int) + 1).toNat = k + 1 := by omega
      have i4 : (k : Int) + 1 < (n : Int) := by omega
      have i5 : (0 : Int) ≤ (k : Int) := by omega
      have i6 : (k : Int) < (n : Int) := by omega
      go_upto_region 5 with fail
      go_quiet (fail)
      generalize hW : wr.drewN _ = wB
      have hbl : Below wr.heap.size wr wB := by rw [← hW]; exact below_drewN _
      have HO1 := Lib.hid (HO.out.below hbl)
      have HB1 := Lib.hid (HB.out.trans (hbl.mono HB.out.size))
      have HBS := HB1.out.size
      clear hbl hW hx0 hx1 hb0 hb1 hya i1 HO HB
      by_cases hx0 : x = 0
      · subst hx0
        obtain ⟨L1, hL1⟩ : ∃ L1, L1 = L ++ bitsOf 0 1 := ⟨_, rfl⟩
        have HP := rputL_any 0 (by decide) 1 1 rfl (by decide) w.heap.size ao c L L1 hL1 wB HBS (by omega) HO1.out
        have hl1 : L1.length ≤ 77 * (k + 1) := by rw [hL1, List.length_append, length_bitsOf]; omega
        have HL1 : Hid (L1 = fbT (bitsV l) (k + 1)) := Lib.hid (by rw [HNX.out, hL1, HL.out]; rfl)
        clear hL1
        go_wp2_with (go_at_call 65; refine HP.mono ?_; rintro _ w3 ⟨ao3, cap3, rfl, ho3, hb3⟩; have HO3 := Lib.hid ho3; have HB3 := Lib.hid (HB1.out.trans hb3); clear ho3 hb3 HP)
        go_roundg (gk - 1)
        case measure => go_light; omega
        case rel =>
          go_light
          exact ⟨k + 1, L1, ao3, cap3, by omega, by congr 1, rfl, HL1, hl1, HO3, HB3⟩
      · have hz0 : ((x : Int) == 0) = false := by simp; omega
        obtain ⟨z1, z2, z3, z4, z5, _⟩ := zz_facts hx0 hxl
        have HST := Lib.hid (fstep_some hx0)
        have hHI := fun w => rhigh_any x hx0 hxl w
        have hLO := fun w => rlow_any x hx0 hxl w
        generalize hiZ x = z at *
        generalize loZ x = t at *
        generalize szZ x = s at *
        obtain ⟨m, hm⟩ : ∃ m, m = s - 1 := ⟨_, rfl⟩
        obtain ⟨q, hq⟩ : ∃ q, q = x / 2 ^ t := ⟨_, rfl⟩
        have e1 : (64 : Int) - (z : Int) - (t : Int) = (s : Int) := by omega
        have e2 : (s : Int) - 1 = (m : Int) := by omega
        have e3 : (x : Int) / 2 ^ t = (q : Int) := by rw [hq]; simp
        have hql : q < 18446744073709551616 := by rw [hq]; exact Nat.lt_of_le_of_lt (Nat.div_le_self _ _) hxl
        have u1 : IntKind.u64.wrap (z : Int) = (z : Int) := IntWalk.u64_in _ (by omega)
        have u2 : IntKind.u64.wrap (m : Int) = (m : Int) := IntWalk.u64_in _ (by omega)
        have u3 : IntKind.u64.wrap (t : Int) = (t : Int) := IntWalk.u64_in _ (by omega)
        rw [← hm, ← hq] at HST
        have hm64 : m < 64 := by omega
        clear hm hq z5
        obtain ⟨L1, hL1⟩ : ∃ L1, L1 = L ++ bitsOf 1 1 := ⟨_, rfl⟩
        obtain ⟨L2, hL2⟩ : ∃ L2, L2 = L1 ++ bitsOf z 6 := ⟨_, rfl⟩
        obtain ⟨L3, hL3⟩ : ∃ L3, L3 = L2 ++ bitsOf m 6 := ⟨_, rfl⟩
        obtain ⟨L4, hL4⟩ : ∃ L4, L4 = L3 ++ bitsOf q s := ⟨_, rfl⟩
        have l1 : L1.length = L.length + 1 := by rw [hL1, List.length_append, length_bitsOf]
        have l2 : L2.length = L1.length + 6 := by rw [hL2, List.length_append, length_bitsOf]
        have l3 : L3.length = L2.length + 6 := by rw [hL3, List.length_append, length_bitsOf]
        have l4 : L4.length = L3.length + s := by rw [hL4, List.length_append, length_bitsOf]
        have HP1 : Calls Tryd.prog 65 #[.slice ao L.length c, .int .u64 1, .int .i64 1] wB _ := rputL_any 1 (by decide) 1 1 rfl (by decide) w.heap.size ao c L L1 hL1 wB HBS (by omega) HO1.out
        have HP2 := fun ao c w' hb h => rputL_any z (by omega) 6 6 rfl (by decide) w.heap.size ao c L1 L2 hL2 w' hb (by omega) h
        have HP3 := fun ao c w' hb h => rputL_any m (by omega) 6 6 rfl (by decide) w.heap.size ao c L2 L3 hL3 w' hb (by omega) h
        have HP4 := fun ao c w' hb h => rputL_any q hql (s : Int) s rfl (by omega) w.heap.size ao c L3 L4 hL4 w' hb (by omega) h
        have hl4 : Hid (L4.length ≤ 77 * (k + 1)) := Lib.hid (by omega)
        have HL4 : Hid (L4 = fbT (bitsV l) (k + 1)) := Lib.hid (by rw [HNX.out, HST.out, hL4, hL3, hL2, hL1, HL.out]; simp [List.append_assoc, bitsOf])
        clear hL1 hL2 hL3 hL4 l1 l2 l3 l4
        go_upto_region 10 with (first
          | (go_at_call 82; refine (hHI _).mono ?_; rintro _ _ ⟨rfl, rfl⟩)
          | (go_at_call 83; refine (hLO _).mono ?_; rintro _ _ ⟨rfl, rfl⟩))
        go_wp2_with (first
          | (with_reducible refine HP1.mono ?_; rintro _ w3 ⟨ao3, cap3, rfl, ho3, hb3⟩; have HO3 := Lib.hid ho3; have HB3 := Lib.hid (HB1.out.trans hb3); clear ho3 hb3 HP1)
          | (with_reducible refine (HP2 ao3 cap3 w3 HB3.out.size HO3.out).mono ?_; rintro _ w4 ⟨ao4, cap4, rfl, ho4, hb4⟩; have HO4 := Lib.hid ho4; have HB4 := Lib.hid (HB3.out.trans hb4); clear ho4 hb4 HP2)
          | (with_reducible refine (HP3 ao4 cap4 w4 HB4.out.size HO4.out).mono ?_; rintro _ w5 ⟨ao5, cap5, rfl, ho5, hb5⟩; have HO5 := Lib.hid ho5; have HB5 := Lib.hid (HB4.out.trans hb5); clear ho5 hb5 HP3)
          | (with_reducible refine (HP4 ao5 cap5 w5 HB5.out.size HO5.out).mono ?_; rintro _ w6 ⟨ao6, cap6, rfl, ho6, hb6⟩; have HO6 := Lib.hid ho6; have HB6 := Lib.hid (HB5.out.trans hb6); clear ho6 hb6 HP4))
        go_roundg (gk - 1)
        case measure => go_light; omega
        case rel =>
          go_light
          exact ⟨k + 1, L4, ao6, cap6, by omega, by congr 1, rfl, HL4, hl4.out, HO6, HB6⟩
end Go.Proofs.YthcgalpabjjkoaaDoor

/- XRInts07: gristref07.integers. -/
namespace Go.Proofs.YthcgalpabjjkoaaDoor
open Go.RowKit
set_option linter.unusedVariables false

/-- Two slices lie in blocks of their own. -/
def Apart (a b : Value) : Prop := ∀ j, a.ownBlock = some j → b.ownBlock = some j → False

set_option maxHeartbeats 2000000 in
theorem rintegers_any (l : List Va) (v : Value) (w : World) (h1 : 1 ≤ l.length) (h2 : l.length ≤ 1000) (hok : ∀ x ∈ l, x.ok) (hr : Vals w v l) :
    Calls Tryd.prog 64 #[v] w fun e w' => ∃ ao cap, e = .returned (.slice ao (encI (bitsV l)).length cap) ∧ Own w' w.heap.size (.slice ao (encI (bitsV l)).length cap) (encI (bitsV l)) ∧ Below w.heap.size w w' := by
  obtain ⟨b, off, cap, rfl, hb, _, _, _⟩ := val_at hr 0 (by omega)
  have HLT := Lib.hid (bitsV_lt hok)
  obtain ⟨n, hn⟩ : ∃ n, n = l.length := ⟨_, rfl⟩
  have HN := Lib.hid hn
  have HBL : Hid ((bitsV l).length = n) := Lib.hid (by rw [bitsV_len, hn])
  have HR := Lib.hid hr
  rw [← hn] at h1 h2 ⊢
  clear hr hn hok
  have hO1 : Hid (Own (w.alloc (.cells #[.int .u8 0] 5)) w.heap.size (.slice (some ⟨w.heap.size, 0, none⟩) 1 1) [0]) := Lib.hid (World.ownsRow_lit w #[.int .u8 0] 1 (Nat.le_refl _) (by decide) rfl)
  have HBa := Lib.hid ((Below.refl w.heap.size w).alloc (Nat.le_refl _) (.cells #[.int .u8 0] 5))
  go_enter Tryd.func64, Tryd.ntmps64
  go_wp2_with fail
  generalize w.alloc (.cells #[.int .u8 0] 5) = wA at *
  go_loopg [3, 4, 5, 12] n (fun m s3 s4 s5 s12 wr => ∃ (k : Nat) (zo : Option Addr) (zc : Nat) (cs : List UInt8) (co : Option Addr) (cc : Nat), k + m = n ∧ s12 = .int .i64 (k : Int) ∧ s5 = .int .u64 ((pvI (bitsV l) k : Nat) : Int) ∧ s3 = .slice zo k zc ∧ s4 = .slice co cs.length cc ∧ Hid (cs = 0 :: rawI ((bitsV l).take k)) ∧ Hid (Own wr w.heap.size (.slice co cs.length cc) cs) ∧ Hid (OwnN wr w.heap.size (.slice zo k zc) (zgs (bitsV l) k)) ∧ Hid (Apart (.slice zo k zc) (.slice co cs.length cc)) ∧ Hid (Below w.heap.size w wr))
  case atStart => exact ⟨0, none, 0, [0], _, 1, by omega, rfl, rfl, rfl, rfl, Lib.hid rfl, hO1, Lib.hid (World.ownsRow_nil _ _ _ _), Lib.hid (fun j h _ => by cases h), HBa⟩
  case round =>
    obtain ⟨k, zo, zc, cs, co, cc, hk, rfl, rfl, rfl, rfl, HC, HO, HZ, HA, HB⟩ := hrel
    have hcl : cs.length ≤ 8 * k + 1 := by rw [HC.out, List.length_cons]; have := rawI_size (bitsV l) k; omega
    by_cases h0 : gk = 0
    · obtain rfl : k = n := by omega
      clear hk h0
      have hnums : Nums wr (.slice zo k zc) (zgs (bitsV l) k) := by have := HZ.out.nums; unfold Nums at this; rw [zgs_len] at this; unfold Nums; rw [zgs_len]; exact this
      have HPK := rpack_any (zgs (bitsV l) k) _ wr (by rw [zgs_len]; omega) (zgs_lt _ _) hnums
      have HL10 : Hid ((zgs (bitsV l) k).length = k) := Lib.hid (zgs_len _ _)
      obtain ⟨pm, hpm⟩ : ∃ pm, pm = pkO (zgs (bitsV l) k) := ⟨_, rfl⟩
      have HPM := Lib.hid hpm
      clear hpm hnums
      go_upto_region 12 with (go_at_call 62; refine HPK.mono ?_; intro e w10 h; obtain ⟨hb10, po, pc, rfl, hr10, hl10⟩ := pkO_one h; rw [← HPM.out] at hr10 hl10 ⊢; have HR10 := Lib.hid hr10; have HLL := Lib.hid (show pm.1.length ≤ 8000 by have := HL10.out; rw [this] at hl10; omega); have HB10 := Lib.hid (HB.out.trans (hb10.mono HB.out.size)); have HOC := Lib.hid (show Own w10 w.heap.size (.slice co cs.length cc) cs from (Chg.ofBelowAny (S := fun _ => False) hb10).owns HO.out (fun _ _ h => h)); clear h hb10 hr10 hl10 HPK)
      obtain ⟨p, m⟩ := pm
      dsimp only at *
      rcases pkO_ok HPM.out with ⟨rfl, hp⟩ | ⟨rfl, hp⟩
      · have HE : Hid (encI (bitsV l) = [1] ++ p) := Lib.hid (encI_pk (by rw [HBL.out]; exact hp))
        have hO1 : Hid (Own (w10.alloc (.cells #[.int .u8 1] 5)) w10.heap.size (.slice (some ⟨w10.heap.size, 0, none⟩) 1 1) [1]) := Lib.hid (World.ownsRow_lit w10 #[.int .u8 1] 1 (Nat.le_refl _) (by decide) rfl)
        have hP1 : Hid (Rd (w10.alloc (.cells #[.int .u8 1] 5)) (.slice po p.length pc) p) := Lib.hid (RdV.alloc HR10.out.rd.v _)
        have hsum : Hid (([1] : List UInt8).length + p.length ≤ 140737488355328) := Lib.hid (by have := HLL.out; simp; omega)
        have hbs : Hid (w10.heap.size ≤ (w10.alloc (.cells #[.int .u8 1] 5)).heap.size) := Lib.hid (by simp)
        have HBb := Lib.hid (HB10.out.alloc HB10.out.size (.cells #[.int .u8 1] 5))
        have HBS := HB10.out.size
        clear hp HPM
        go_wp2_with (at_builtin; refine wpList_append_bs _ rfl (.tmp 44) (.tmp 45) rfl w10.heap.size (.slice (some ⟨w10.heap.size, 0, none⟩) 1 1) [1] rfl hO1.out (.slice po p.length pc) p rfl hP1.out hsum.out hbs.out ?_; intro ao9 cap9 w12 hg9; have HO12 := Lib.hid hg9.owns; have HB12 := Lib.hid (hg9.below hbs.out (fun j hj => (World.ownsRow.lt hO1.out j hj).1)); clear hg9)
        go_ret
        rw [HE.out]
        exact ⟨ao9, cap9, rfl, ownsRow_mono HO12.out HBS, HBb.out.trans (HB12.out.mono HBS)⟩
      · have HE : Hid (encI (bitsV l) = cs) := Lib.hid (by rw [HC.out, ← HBL.out]; exact encI_raw (by rw [HBL.out]; exact hp))
        clear hp HPM HR10 HLL
        go_wp2_with fail
        go_ret
        rw [HE.out]
        exact ⟨co, cc, rfl, HOC.out, HB10.out⟩
    · have hkn : k < n := by omega
      obtain ⟨b1, off1, c1, he1, hb1, _, hv1, _⟩ := val_at (HR.out.below HB.out) k (by rw [← HN.out]; omega)
      rw [← HN.out] at he1
      simp only [Value.slice.injEq, Option.some.injEq, Addr.mk.injEq, and_true, true_and] at he1
      obtain ⟨⟨rfl, rfl⟩, rfl⟩ := he1
      rw [← bitsV_get] at hv1
      have hyl := getD_lt HLT.out k
      have hpl := pvI_lt HLT.out k
      have hnx := Lib.hid (zgs_next (bitsV l) k)
      have hny := Lib.hid (rawI_next (bitsV l) k (by rw [HBL.out]; exact hkn))
      have HPN := Lib.hid (pvI_next (bitsV l) k)
      have hzz := zgAt_eq (bitsV l) k
      have hq := sub_sI ((bitsV l).getD k 0) (pvI (bitsV l) k)
      have hqok := sI_ok (((bitsV l).getD k 0 : Int) - (pvI (bitsV l) k : Int))
      have hzc := fun (w : World) => rzig_any _ hqok w
      rw [← hzz] at hzc
      have hul := zgs_len (bitsV l) k
      have h8 := fun w => eight_any ((bitsV l).getD k 0) hyl w
      generalize sI (((bitsV l).getD k 0 : Int) - (pvI (bitsV l) k : Int)) = q at *
      generalize zgAt (bitsV l) k = ZA at *
      generalize (bitsV l).getD k 0 = y1 at *
      generalize pvI (bitsV l) k = y0 at *
      have hO1 : Hid (wr.ownsRow w.heap.size 25 1 (.slice zo k zc) k ((zgs (bitsV l) k).map uV)) := Lib.hid (by have h := HZ.out; unfold OwnN at h; rw [hul] at h; exact h)
      have h63 : Hid (k + 1 ≤ maxLen) := Lib.hid (by unfold maxLen; omega)
      have hby : Hid ((k + 1) * 8 ≤ 140737488355328) := Lib.hid (by omega)
      have hba : Hid (∀ o, w.heap.size ≤ (wr.alloc o).heap.size) := Lib.hid (fun o => by have h6 := HB.out.size; have e2 : (wr.alloc o).heap.size = wr.heap.size + 1 := (by simp); omega)
      have hsum : Hid (cs.length + (be8 y1).length ≤ 140737488355328) := Lib.hid (by rw [be8_len]; omega)
      have HBc := hb1
      clear hul HZ hzz hqok
      go_upto_region 8 with (first
        | (go_at_call 61; refine (hzc _).mono ?_; rintro _ _ ⟨rfl, rfl⟩)
        | (at_builtin; refine wpList_append_rd _ rfl (.tmp 15) (.tmp 25) 101 rfl w.heap.size 25 (.int .u64 0) 1 8 Tryd.underlying101 infoU64 rfl (by decide) (.slice zo k zc) k ((zgs (bitsV l) k).map uV) rfl (World.ownsRow.alloc hO1.out _) (.slice (some ⟨wr.heap.size, 0, none⟩) 1 1) 1 [uV ZA] rfl (RdV.one wr _ 25) (one_one _ rfl) h63.out hby.out (hba.out _) ?_; intro ao6 cap6 w6 hg6; have HG := Lib.hid hg6.ofAlloc; clear hg6))
      have HB6 := Lib.hid (HB.out.trans (HG.out.below HB.out.size (fun j hj => (World.ownsRow.lt hO1.out j hj).1)))
      have HO6 := Lib.hid (show Own w6 w.heap.size (.slice co cs.length cc) cs from HG.out.chg.owns HO.out (fun j hj e => HA.out j e hj))
      have HA6 := Lib.hid (show Apart (.slice ao6 (k + 1) cap6) (.slice co cs.length cc) from fun j h1 h2 => by
        rcases HG.out.row j h1 with h | h
        · exact HA.out j h h2
        · have := (World.ownsRow.lt HO.out j h2).2; omega)
      have hw6 : w6.cell? ⟨b, off + k * 3 + 1, none⟩ = some (.int .u64 (y1 : Int)) := (HG.out.chg.cell (p := ⟨b, off + k * 3 + 1, none⟩) hb1 (fun h => by have h9 : w.heap.size ≤ b := (World.ownsRow.lt hO1.out _ h).1; omega)).trans hv1
      have hZ6 : Hid (OwnN w6 w.heap.size (.slice ao6 (k + 1) cap6) (zgs (bitsV l) (k + 1))) := Lib.hid (by unfold OwnN; rw [zgs_len, hnx.out, List.map_append]; exact HG.out.owns)
      clear HG HO HA HB hv1 hO1
      go_wp2_with (first
        | (go_at_call 22; refine (h8 _).mono ?_; rintro _ w7 ⟨to7, tc7, rfl, ho7, hb7⟩; have HO7 := Lib.hid ho7; have HO8 := Lib.hid (show Own w7 w.heap.size (.slice co cs.length cc) cs from (Chg.ofBelowAny (S := fun _ => False) hb7).owns HO6.out (fun _ _ h => h)); have HZ8 := Lib.hid (show OwnN w7 w.heap.size (.slice ao6 (k + 1) cap6) (zgs (bitsV l) (k + 1)) from (Chg.ofBelowAny (S := fun _ => False) hb7).owns hZ6.out (fun _ _ h => h)); have HB7 := Lib.hid (HB6.out.trans (hb7.mono HB6.out.size)); clear ho7 hb7 h8 HO6 hZ6)
        | (at_builtin; refine wpList_append_bs _ rfl (.tmp 32) (.tmp 34) rfl w.heap.size (.slice co cs.length cc) cs rfl HO8.out (.slice to7 (be8 y1).length tc7) (be8 y1) rfl HO7.out.rd hsum.out HB7.out.size ?_; intro ao9 cap9 w12 hg9; have HG := Lib.hid hg9; clear hg9))
      go_roundg (gk - 1)
      case measure => go_light; omega
      case rel =>
        go_light
        exact ⟨k + 1, ao6, cap6, cs ++ be8 y1, ao9, cap9, by omega, by congr 1, by rw [HPN.out], rfl, by rw [List.length_append], Lib.hid (by rw [hny.out, HC.out]; rfl), Lib.hid HG.out.owns, Lib.hid (HG.out.chg.owns HZ8.out (fun j hj e => HA6.out j hj e)),
          Lib.hid (fun j h1 h2 => by
            rcases HG.out.row j h2 with h | h
            · exact HA6.out j h1 h
            · have := (World.ownsRow.lt HZ8.out j h1).2; omega), Lib.hid (HB7.out.trans (HG.out.below HB7.out.size (fun j hj => (World.ownsRow.lt HO8.out j hj).1)))⟩
end Go.Proofs.YthcgalpabjjkoaaDoor

/- XREnc07: gristref07.Encode. -/
namespace Go.Proofs.YthcgalpabjjkoaaDoor
open Go.RowKit
set_option linter.unusedVariables false

theorem alkV_true {l : List Va} {k : Nat} (h : k < l.length) (ha : alkV l k = true) (hk : (l.getD k v0).k = (l.getD 0 v0).k) : alkV l (k + 1) = true := by
  rw [alkV_next l k h, ha, decide_eq_true hk]; rfl
theorem alk_bad {l : List Va} {k : Nat} (h : k < l.length) (hk : (l.getD k v0).k ≠ (l.getD 0 v0).k) : (l.all fun v => decide (v.k = (l.getD 0 v0).k)) = false := by
  cases hh : (l.all fun v => decide (v.k = (l.getD 0 v0).k)) with
  | false => rfl
  | true =>
    have := of_decide_eq_true (List.all_eq_true.1 hh _ (getD_mem l k v0 h))
    exact absurd this hk

set_option maxHeartbeats 4000000 in
set_option maxRecDepth 100000 in
theorem rencodeC_any (l : List Va) (v : Value) (w : World) (hok : ∀ x ∈ l, x.ok) (hr : Vals w v l) :
    Calls Tryd.prog 41 #[v] w fun e w' => CeEnd l w e w' := by
  obtain ⟨ao0, cap0, rfl, hnc, hcm⟩ := RdV.shape hr
  unfold maxLen at hcm
  by_cases hlen : l.length = 0 ∨ 1000 < l.length
  · have HE := Lib.hid (encC_len hlen)
    go_enter Tryd.func41, Tryd.ntmps41
    rcases hlen with h | h
    · go_wp2_with fail
      go_ret2
      unfold CeEnd
      rw [HE.out]
      exact ⟨Below.refl _ _, none, 0, rfl, Own.nil _ _⟩
    · have hz : ¬ ((l.length : Int) < 1) := by omega
      have hz2 : (1000 : Int) < (l.length : Int) := by omega
      go_wp2_with fail
      go_ret2
      unfold CeEnd
      rw [HE.out]
      exact ⟨Below.refl _ _, none, 0, rfl, Own.nil _ _⟩
  · obtain ⟨n, hn⟩ : ∃ n, n = l.length := ⟨_, rfl⟩
    have HN := Lib.hid hn
    have h1 : 1 ≤ n := by omega
    have h2 : n ≤ 1000 := by omega
    have HLEN := Lib.hid hlen
    have HR := Lib.hid hr
    have HOK := Lib.hid hok
    have HBL : Hid ((bitsV l).length = n) := Lib.hid (by rw [bitsV_len, hn])
    rw [← hn] at hnc ⊢
    clear hr hn hok hlen
    have hz : ¬ ((n : Int) < 1) := by omega
    have hz2 : ¬ (1000 : Int) < (n : Int) := by omega
    go_enter Tryd.func41, Tryd.ntmps41
    go_wp2_with fail
    go_loopg [21] n (fun m s21 wr => ∃ (k : Nat), k + m = n ∧ s21 = .int .i64 (k : Int) ∧ Hid (frmV l k) ∧ Hid (Below w.heap.size w wr))
    case atStart => exact ⟨0, by omega, rfl, Lib.hid (frmV_zero l), Lib.hid (Below.refl _ _)⟩
    case round =>
      obtain ⟨k, hk, rfl, HF, HB⟩ := hrel
      by_cases h0 : gk = 0
      · obtain rfl : k = n := by omega
        clear hk h0 hz hz2
        have HFA := Lib.hid (frmV_all HN.out HF.out)
        go_wp2_with fail
        obtain ⟨n, hnk⟩ : ∃ n, n = k := ⟨_, rfl⟩
        subst hnk
        generalize wr = w1 at *
        go_loopg [33] n (fun m s33 wr => ∃ (k : Nat), k + m = n ∧ s33 = .int .i64 (k : Int) ∧ Hid (alkV l k = true) ∧ Hid (Below w1.heap.size w1 wr))
        case atStart => exact ⟨0, by omega, rfl, Lib.hid rfl, Lib.hid (Below.refl _ _)⟩
        case round =>
          obtain ⟨k, hk, rfl, HAL, HB2⟩ := hrel
          have HBB := Lib.hid (HB.out.trans (HB2.out.mono HB.out.size))
          have HRW := Lib.hid (HR.out.below HBB.out)
          have HBS := HBB.out.size
          by_cases h0 : gk = 0
          · obtain rfl : k = n := by omega
            clear hk h0
            have hall := alkV_all HN.out
            rw [HAL.out] at hall
            have HE := Lib.hid (encC_ok HLEN.out HFA.out hall.symm)
            have hkind := formV_kind (List.all_eq_true.1 HFA.out _ (getD_mem l 0 v0 (by rw [← HN.out]; omega)))
            have HT4 : Hid ((l.getD 0 v0).k = 4 → ∀ x ∈ l, x.t.size ≤ 65536) := Lib.hid (fun h4 x hx => by
              have hf := List.all_eq_true.1 HFA.out x hx
              have hkx := of_decide_eq_true (List.all_eq_true.1 hall.symm x hx)
              rw [formV_4 (by rw [hkx, h4]), Bool.and_eq_true, decide_eq_true_eq, decide_eq_true_eq] at hf
              exact hf.2)
            clear hall
            obtain ⟨b1, off1, c1, he1, hb1, hv0, hv1, hv2⟩ := val_at HRW.out 0 (by rw [← HN.out]; omega)
            rw [← HN.out] at he1
            simp only [Value.slice.injEq, true_and] at he1
            obtain ⟨rfl, rfl⟩ := he1
            simp only [Nat.zero_mul, Nat.add_zero] at hv0
            clear hv1 hv2
            generalize hq : (l.getD 0 v0).k = q at *
            have HQ := Lib.hid hq
            clear hq HB HB2
            have hl1 : Hid (1 ≤ l.length) := Lib.hid (by rw [← HN.out]; exact h1)
            have hl2 : Hid (l.length ≤ 1000) := Lib.hid (by rw [← HN.out]; exact h2)
            rcases hkind with rfl | rfl | rfl | rfl
            · have hK := rfloats_any l (.slice (some ⟨b1, off1, none⟩) k cap0) wr hl1.out hl2.out HOK.out (by rw [HN.out]; exact HRW.out)
              rw [if_pos rfl] at HE
              go_wp2_with (go_at_call 63; refine hK.mono ?_; rintro _ w5 ⟨ao5, cap5, rfl, ho5, hb5⟩; have HO5 := Lib.hid ho5; have HB5 := Lib.hid hb5; clear ho5 hb5 hK)
              go_ret2
              unfold CeEnd
              rw [HE.out]
              exact ⟨HBB.out.trans (HB5.out.mono HBS), ao5, cap5, rfl, HO5.out.mono HBS⟩
            · have hK := rintegers_any l (.slice (some ⟨b1, off1, none⟩) k cap0) wr hl1.out hl2.out HOK.out (by rw [HN.out]; exact HRW.out)
              rw [if_neg (by decide), if_pos rfl] at HE
              go_wp2_with (go_at_call 64; refine hK.mono ?_; rintro _ w5 ⟨ao5, cap5, rfl, ho5, hb5⟩; have HO5 := Lib.hid ho5; have HB5 := Lib.hid hb5; clear ho5 hb5 hK)
              go_ret2
              unfold CeEnd
              rw [HE.out]
              exact ⟨HBB.out.trans (HB5.out.mono HBS), ao5, cap5, rfl, HO5.out.mono HBS⟩
            · rw [if_neg (by decide), if_neg (by decide), if_pos rfl] at HE
              go_wp2_with fail
              generalize wr = wo at *
              go_loopg [6, 63] k (fun m s6 s63 wr => ∃ (i : Nat) (L : List Bool) (ao : Option Addr) (c : Nat), i + m = k ∧ s63 = .int .i64 (i : Int) ∧ s6 = .slice ao L.length c ∧ L.length ≤ i ∧ Hid (L = boT (bitsV l) i) ∧ Hid (OwnB wr wo.heap.size ao c L) ∧ Hid (Below wo.heap.size wo wr))
              case atStart => exact ⟨0, [], none, 0, by omega, rfl, rfl, by simp, Lib.hid rfl, Lib.hid (OwnB.nil _ _), Lib.hid (Below.refl _ _)⟩
              case round =>
                obtain ⟨i, L, ao, c, hi, rfl, rfl, hLl, HL, HO, HBx⟩ := hrel
                by_cases h3 : gk = 0
                · obtain rfl : i = k := by omega
                  clear hi h3
                  have hBy := rbytes_any (.slice ao L.length c) L wr (by omega) HO.out.rd
                  obtain ⟨PB, hPB⟩ : ∃ PB, PB = pack8 L := ⟨_, rfl⟩
                  rw [← hPB] at hBy
                  have HEB : Hid (encBo (bitsV l) = PB) := Lib.hid (by rw [encBo_all (l := bitsV l) HBL.out.symm, hPB, HL.out])
                  clear hPB
                  go_wp2_with (go_at_call 66; refine hBy.mono ?_; rintro _ w3 ⟨ao3, cap3, rfl, ho3, hb3⟩; have HO3 := Lib.hid ho3; have HB3 := Lib.hid hb3; clear ho3 hb3 hBy)
                  go_ret2
                  unfold CeEnd
                  rw [HE.out, HEB.out]
                  exact ⟨HBB.out.trans ((HBx.out.trans (HB3.out.mono HBx.out.size)).mono HBS), ao3, cap3, rfl, HO3.out.mono (Nat.le_trans HBS HBx.out.size)⟩
                · have hik : i < k := by omega
                  obtain ⟨b2, off2, c2, he2, hb2, hw0, hw1, hw2⟩ := val_at (HRW.out.below HBx.out) i (by rw [← HN.out]; exact hik)
                  rw [← HN.out] at he2
                  simp only [Value.slice.injEq, Option.some.injEq, Addr.mk.injEq, and_true, true_and] at he2
                  obtain ⟨⟨rfl, rfl⟩, rfl⟩ := he2
                  rw [← bitsV_get] at hw1
                  have hyl := getD_lt (bitsV_lt HOK.out) i
                  have hnx := Lib.hid (boT_next (bitsV l) i (by rw [HBL.out]; exact hik))
                  generalize (bitsV l).getD i 0 = y1 at *
                  obtain ⟨L1, hL1⟩ : ∃ L1, L1 = L ++ bitsOf y1 1 := ⟨_, rfl⟩
                  have hl1' : L1.length ≤ i + 1 := by rw [hL1, List.length_append, length_bitsOf]; omega
                  have HP := rputL_any y1 hyl 1 1 rfl (by decide) wo.heap.size ao c L L1 hL1 wr HBx.out.size (by omega) HO.out
                  have HL1 : Hid (L1 = boT (bitsV l) (i + 1)) := Lib.hid (by rw [hnx.out, hL1, HL.out])
                  clear hL1 hw0 hw2
                  go_wp2_with (go_at_call 65; refine HP.mono ?_; rintro _ w3 ⟨ao3, cap3, rfl, ho3, hb3⟩; have HO3 := Lib.hid ho3; have HB3 := Lib.hid (HBx.out.trans hb3); clear ho3 hb3 HP)
                  go_roundg (gk - 1)
                  case measure => go_light; omega
                  case rel =>
                    go_light
                    exact ⟨i + 1, L1, ao3, cap3, by omega, by congr 1, rfl, hl1', HL1, HO3, HB3⟩
            · rw [if_neg (by decide), if_neg (by decide), if_neg (by decide)] at HE
              have HEP : Hid (encC l = strP l) := Lib.hid (by rw [HE.out]; unfold strP; rfl)
              have HTT := Lib.hid (HT4.out rfl)
              clear HE HT4
              go_wp2_with fail
              generalize wr = wo at *
              go_loopg [8, 78] k (fun m s8 s78 wr => ∃ (i : Nat) (cs : List UInt8) (co : Option Addr) (cc : Nat), i + m = k ∧ s78 = .int .i64 (i : Int) ∧ s8 = .slice co cs.length cc ∧ cs.length ≤ 65546 * i ∧ Hid (cs = txt ((textsV l).take i)) ∧ Hid (Own wr wo.heap.size (.slice co cs.length cc) cs) ∧ Hid (Below wo.heap.size wo wr))
              case atStart => exact ⟨0, [], none, 0, by omega, rfl, rfl, by simp, Lib.hid rfl, Lib.hid (Own.nil _ _), Lib.hid (Below.refl _ _)⟩
              case round =>
                obtain ⟨i, cs, co, cc, hi, rfl, rfl, hcl, HC, HO, HBx⟩ := hrel
                by_cases h3 : gk = 0
                · obtain rfl : i = k := by omega
                  clear hi h3
                  have HCF : Hid (cs = txt (textsV l)) := Lib.hid (by rw [HC.out, List.take_of_length_le (by rw [textsV_len, ← HN.out]; exact Nat.le_refl _)])
                  have HBz := Lib.hid (HBB.out.trans (HBx.out.mono HBS))
                  by_cases hbig : 4194304 < cs.length
                  · have HP : Hid (strP l = ([], 4)) := Lib.hid (by unfold strP; rw [← HCF.out, if_pos hbig])
                    go_wp2_with fail
                    go_ret2
                    unfold CeEnd
                    rw [HEP.out, HP.out]
                    exact ⟨HBz.out, none, 0, rfl, Own.nil _ _⟩
                  · have hsm : cs.length ≤ 4194304 := by omega
                    have HP : Hid (strP l = (encS4 cs, 0)) := Lib.hid (by unfold strP; rw [← HCF.out, if_neg hbig])
                    have hK := lzrpack_any cs _ wr hsm HO.out.rd
                    obtain ⟨P, hP⟩ : ∃ P, P = pk cs 0 0 := ⟨_, rfl⟩
                    have hPl : P.length ≤ 8388608 := by have := pk_len cs 0 0 (Nat.le_refl _) (Nat.zero_le _); rw [hP]; omega
                    rw [← hP] at hK
                    have HPP := Lib.hid hP
                    clear hP
                    go_upto_region 37 with (go_at_call 68; refine hK.mono ?_; rintro e w7 ⟨ao7, cap7, rfl, ho7, hb7⟩; have HO7 := Lib.hid ho7; have HOC := Lib.hid (show Own w7 wo.heap.size (.slice co cs.length cc) cs from (Chg.ofBelowAny (S := fun _ => False) hb7).owns HO.out (fun _ _ h => h)); have HB7 := Lib.hid (HBz.out.trans (hb7.mono HBz.out.size)); clear ho7 hb7 hK)
                    have HBS7 := HB7.out.size
                    by_cases hlt : P.length < cs.length
                    · have HE := Lib.hid (encS4_pk HPP.out hlt)
                      have hO1 : Hid (Own (w7.alloc (.cells #[.int .u8 1] 5)) w7.heap.size (.slice (some ⟨w7.heap.size, 0, none⟩) 1 1) [1]) := Lib.hid (World.ownsRow_lit w7 #[.int .u8 1] 1 (Nat.le_refl _) (by decide) rfl)
                      have hP1 : Hid (Rd (w7.alloc (.cells #[.int .u8 1] 5)) (.slice ao7 P.length cap7) P) := Lib.hid (RdV.alloc HO7.out.rd.v _)
                      have hsum : Hid (([1] : List UInt8).length + P.length ≤ 140737488355328) := Lib.hid (by simp; omega)
                      have hbs : Hid (w7.heap.size ≤ (w7.alloc (.cells #[.int .u8 1] 5)).heap.size) := Lib.hid (by simp)
                      have HBa := Lib.hid (HB7.out.alloc HB7.out.size (.cells #[.int .u8 1] 5))
                      go_wp2_with (at_builtin; refine wpList_append_bs _ rfl (.tmp 108) (.tmp 109) rfl w7.heap.size (.slice (some ⟨w7.heap.size, 0, none⟩) 1 1) [1] rfl hO1.out (.slice ao7 P.length cap7) P rfl hP1.out hsum.out hbs.out ?_; intro ao9 cap9 w12 hg9; have HO12 := Lib.hid hg9.owns; have HB12 := Lib.hid (hg9.below hbs.out (fun j hj => (World.ownsRow.lt hO1.out j hj).1)); clear hg9)
                      go_ret2
                      unfold CeEnd
                      rw [HEP.out, HP.out, HE.out]
                      exact ⟨HBa.out.trans (HB12.out.mono HBS7), ao9, cap9, rfl, ownsRow_mono HO12.out HBS7⟩
                    · have HE := Lib.hid (encS4_raw HPP.out hlt)
                      have hO1 : Hid (Own (w7.alloc (.cells #[.int .u8 0] 5)) w7.heap.size (.slice (some ⟨w7.heap.size, 0, none⟩) 1 1) [0]) := Lib.hid (World.ownsRow_lit w7 #[.int .u8 0] 1 (Nat.le_refl _) (by decide) rfl)
                      have hP1 : Hid (Rd (w7.alloc (.cells #[.int .u8 0] 5)) (.slice co cs.length cc) cs) := Lib.hid (RdV.alloc (Own.rd HOC.out).v _)
                      have hsum : Hid (([0] : List UInt8).length + cs.length ≤ 140737488355328) := Lib.hid (by simp; omega)
                      have hbs : Hid (w7.heap.size ≤ (w7.alloc (.cells #[.int .u8 0] 5)).heap.size) := Lib.hid (by simp)
                      have HBa := Lib.hid (HB7.out.alloc HB7.out.size (.cells #[.int .u8 0] 5))
                      go_wp2_with (at_builtin; refine wpList_append_bs _ rfl (.tmp 111) (.tmp 112) rfl w7.heap.size (.slice (some ⟨w7.heap.size, 0, none⟩) 1 1) [0] rfl hO1.out (.slice co cs.length cc) cs rfl hP1.out hsum.out hbs.out ?_; intro ao9 cap9 w12 hg9; have HO12 := Lib.hid hg9.owns; have HB12 := Lib.hid (hg9.below hbs.out (fun j hj => (World.ownsRow.lt hO1.out j hj).1)); clear hg9)
                      go_ret2
                      unfold CeEnd
                      rw [HEP.out, HP.out, HE.out]
                      exact ⟨HBa.out.trans (HB12.out.mono HBS7), ao9, cap9, rfl, ownsRow_mono HO12.out HBS7⟩
                · have hik : i < k := by omega
                  obtain ⟨b2, off2, c2, he2, hb2, hw0, hw1, hw2⟩ := val_at (HRW.out.below HBx.out) i (by rw [← HN.out]; exact hik)
                  rw [← HN.out] at he2
                  simp only [Value.slice.injEq, Option.some.injEq, Addr.mk.injEq, and_true, true_and] at he2
                  obtain ⟨⟨rfl, rfl⟩, rfl⟩ := he2
                  have htl : (l.getD i v0).t.size ≤ 65536 := HTT.out _ (getD_mem l i v0 (by rw [← HN.out]; exact hik))
                  have hnx := Lib.hid (txt_at l i (by rw [← HN.out]; exact hik))
                  generalize (l.getD i v0).t = tt at *
                  have hsh := fun w => rshort_any tt.size (by omega) w
                  have hsl : (short tt.size).length ≤ 10 := short_le _ (by omega)
                  have hU : IntKind.u64.wrap (tt.size : Int) = (tt.size : Int) := IntWalk.u64_in _ (by omega)
                  obtain ⟨sh, hshe⟩ : ∃ sh, sh = short tt.size := ⟨_, rfl⟩
                  rw [← hshe] at hsh hsl
                  obtain ⟨c2, hc2⟩ : ∃ c2, c2 = cs ++ sh := ⟨_, rfl⟩
                  obtain ⟨c3, hc3⟩ : ∃ c3, c3 = c2 ++ tt.toList := ⟨_, rfl⟩
                  have hc2l : c2.length = cs.length + sh.length := by rw [hc2, List.length_append]
                  have hc3l : Hid (c3.length ≤ 65546 * (i + 1)) := Lib.hid (by rw [hc3, List.length_append, toList_len]; omega)
                  have HC2 := Lib.hid hc2
                  have HC3 := Lib.hid hc3
                  have HX3 : Hid (c3 = txt ((textsV l).take (i + 1))) := Lib.hid (by rw [hnx.out, hc3, hc2, HC.out, hshe, List.append_assoc])
                  have hsum : Hid (cs.length + sh.length ≤ 140737488355328) := Lib.hid (by omega)
                  have hsum2 : Hid (c2.length + tt.size ≤ 140737488355328) := Lib.hid (by omega)
                  have hS0 : wr.drew.cell? ⟨b1, off1 + i * 3 + 2, none⟩ = some (.string tt) := hw2
                  have hlt1 : b1 < wr.drew.heap.size := hb2
                  have HOd := Lib.hid (show Own wr.drew wo.heap.size (.slice co cs.length cc) cs from HO.out)
                  have HBd := Lib.hid (HBx.out.drew)
                  have HBlt : Hid (b1 < wo.heap.size) := Lib.hid hb1
                  clear hshe hc2 hc3 hw0 hw1 hw2 hc2l HO HBx hb1 hb2
                  go_upto_region 32 with fail
                  go_region_held3 (fun w' => w'.cell? ⟨b1, off1 + i * 3 + 2, none⟩ = some (.string tt))
                    (first | exact hS0 | exact hS3 | exact hS6 | exact hS9)
                    (first
                      | (go_at_call 67; refine (hsh _).mono ?_; rintro _ w3 ⟨so, sc, rfl, ho3, hb3⟩; have HO3 := Lib.hid ho3; have hS3 := (hb3.cell (p := ⟨b1, off1 + i * 3 + 2, none⟩) hlt1).trans hS0; have HOC := Lib.hid (show Own w3 wo.heap.size (.slice co cs.length cc) cs from (Chg.ofBelowAny (S := fun _ => False) hb3).owns HOd.out (fun _ _ h => h)); have HB3 := Lib.hid (HBd.out.trans (hb3.mono HBd.out.size)); have hlt3 := Nat.lt_of_lt_of_le hlt1 hb3.size; clear ho3 hb3 hsh)
                      | (refine step_append_bs _ rfl (.tmp 81) (.tmp 89) rfl wo.heap.size (.slice co cs.length cc) cs rfl HOC.out (.slice so sh.length sc) sh rfl HO3.out.rd c2 HC2.out hsum.out HB3.out.size ?_; intro ao6 cap6 w6 ho6 hc6; have HO6 := Lib.hid ho6; have hS6 := (hc6.cell (p := ⟨b1, off1 + i * 3 + 2, none⟩) hlt3 (fun h => absurd HBlt.out (Nat.not_lt.2 h))).trans hS3; have HB6 := Lib.hid (HB3.out.trans (hc6.below HB3.out.size (fun _ h => h))); have hlt6 := Nat.lt_of_lt_of_le hlt3 hc6.size; clear ho6 hc6)
                      | (refine step_append_str _ rfl (.tmp 90) (.tmp 95) rfl wo.heap.size (.slice ao6 c2.length cap6) c2 rfl HO6.out tt rfl c3 HC3.out hsum2.out HB6.out.size ?_; intro ao9 cap9 w9 ho9 hc9; have HO9 := Lib.hid ho9; have hS9 := (hc9.cell (p := ⟨b1, off1 + i * 3 + 2, none⟩) hlt6 (fun h => absurd HBlt.out (Nat.not_lt.2 h))).trans hS6; have HB9 := Lib.hid (HB6.out.trans (hc9.below HB6.out.size (fun _ h => h))); clear ho9 hc9))
                  all_goals go_wp2
                  go_roundg (gk - 1)
                  case measure => go_light; omega
                  case rel =>
                    go_light
                    exact ⟨i + 1, c3, ao9, cap9, by omega, by congr 1, rfl, hc3l.out, HX3, HO9, HB9⟩
          · have hkn : k < n := by omega
            obtain ⟨b1, off1, c1, he1, hb1, hv0, _, _⟩ := val_at HRW.out k (by rw [← HN.out]; omega)
            obtain ⟨b3, off3, c3, he3, hb3, hz0, _, _⟩ := val_at HRW.out 0 (by rw [← HN.out]; omega)
            rw [← HN.out] at he1 he3
            simp only [Value.slice.injEq, true_and] at he1
            obtain ⟨rfl, rfl⟩ := he1
            simp only [Value.slice.injEq, Option.some.injEq, Addr.mk.injEq, and_true, true_and] at he3
            obtain ⟨⟨rfl, rfl⟩, rfl⟩ := he3
            simp only [Nat.zero_mul, Nat.add_zero] at hz0
            have HKL : Hid (k < l.length) := Lib.hid (by rw [← HN.out]; exact hkn)
            have i6 : (k : Int) < (n : Int) := by omega
            have i7 : (0 : Int) < (n : Int) := by omega
            by_cases hkk : (l.getD k v0).k = (l.getD 0 v0).k
            · have HA2 := Lib.hid (alkV_true HKL.out HAL.out hkk)
              rw [hkk] at hv0
              clear hkk
              generalize (l.getD 0 v0).k = k0 at *
              go_upto_region 12 with fail
              go_quiet (fail)
              go_wp2_with fail
              go_roundg (gk - 1)
              case measure => go_light; omega
              case rel =>
                go_light
                exact ⟨k + 1, by omega, by congr 1, HA2, Lib.hid (HB2.out.trans ((below_drewN _).mono HB2.out.size))⟩
            · have HE := Lib.hid (encC_type HLEN.out HFA.out (alk_bad HKL.out hkk))
              generalize (l.getD 0 v0).k = k0 at *
              generalize (l.getD k v0).k = kk at *
              have hne : (kk != k0) = true := by simp [hkk]
              go_upto_region 12 with fail
              go_quiet (fail)
              go_wp2_with fail
              go_ret2
              unfold CeEnd
              rw [HE.out]
              exact ⟨HBB.out.trans ((below_drewN _).mono HBB.out.size), none, 0, rfl, Own.nil _ _⟩
      · have hkn : k < n := by omega
        clear hz hz2
        obtain ⟨b1, off1, c1, he1, hb1, hv0, hv1, hv2⟩ := val_at (HR.out.below HB.out) k (by rw [← HN.out]; omega)
        rw [← HN.out] at he1
        simp only [Value.slice.injEq, true_and] at he1
        obtain ⟨rfl, rfl⟩ := he1
        have hF := rformed_any (l.getD k v0) (HOK.out _ (getD_mem l k v0 (by rw [← HN.out]; exact hkn))).2
        have HKL : Hid (k < l.length) := Lib.hid (by rw [← HN.out]; exact hkn)
        obtain ⟨fm, hfm⟩ : ∃ fm, fm = formV (l.getD k v0) := ⟨_, rfl⟩
        rw [← hfm] at hF
        have HFM := Lib.hid hfm
        clear hfm
        generalize (l.getD k v0).k = kk at *
        generalize (l.getD k v0).t = tt at *
        generalize (l.getD k v0).b = y1 at *
        cases fm with
        | false =>
          have HE := Lib.hid (encC_form (form_bad HKL.out HFM.out.symm))
          go_wp2_with (go_at_call 38; refine (hF _).mono ?_; rintro _ w5 ⟨rfl, hb5⟩; have HB5 := Lib.hid (HB.out.trans (hb5.mono HB.out.size)); clear hb5 hF hv0 hv1 hv2)
          go_ret2
          unfold CeEnd
          rw [HE.out]
          exact ⟨HB5.out, none, 0, rfl, Own.nil _ _⟩
        | true =>
          have HF2 := Lib.hid (frmV_next HKL.out HF.out HFM.out.symm)
          go_wp2_with (go_at_call 38; refine (hF _).mono ?_; rintro _ w5 ⟨rfl, hb5⟩; have HB5 := Lib.hid (HB.out.trans (hb5.mono HB.out.size)); clear hb5 hF hv0 hv1 hv2)
          go_roundg (gk - 1)
          case measure => go_light; omega
          case rel =>
            go_light
            exact ⟨k + 1, by omega, by congr 1, HF2, HB5⟩
end Go.Proofs.YthcgalpabjjkoaaDoor

/- XLaid07: The table of math/bits, as the row lists it: in a world that meets the row's condition it reads so; a world for the witness. -/
namespace Go.Proofs.YthcgalpabjjkoaaDoor
open Go.ChangeShapes Go.WideShapes Go.ChangeAt Go.RowKit
set_option linter.unusedVariables false

def tabL : List Int := [0, 1, 56, 2, 57, 49, 28, 3, 61, 58, 42, 50, 38, 29, 17, 4, 62, 47, 59, 36, 45, 43, 51, 22, 53, 39, 33, 30, 24, 18, 12, 5, 63, 55, 48, 27, 60, 41, 37, 16, 46, 35, 44, 21, 52, 32, 23, 11, 54, 26, 40, 15, 34, 20, 31, 10, 25, 14, 19, 9, 13, 8, 7, 6]
def laidL : List (String × DataW Unit) := [("math/bits.deBruijn64tab", Rows.laid_math_bits_deBruijn64tab)]
theorem gTab : Tryd.prog.globalNamed "math/bits.deBruijn64tab" = some 1 := by kernel_rfl
theorem gTabType : (Tryd.prog.globals[1]?).map (·.type) = some 134 := by kernel_rfl
theorem tab_get : ∀ k, k < 64 → tabL.getD k 0 = ((Lib.deBruijn64tab.getD k 0 : Nat) : Int) := by decide +kernel
theorem tab_of {W : World} (h : laidMetH Tryd.prog laidL W) : Tab W := by
  have h2 : Lib.TabIs Tryd.prog W "math/bits.deBruijn64tab" .u8 tabL :=
    Lib.tabIs_of_head (rest := []) gTab gTabType Tryd.underlying134 Tryd.underlying5 (by kernel_rfl) (by kernel_rfl) h
  intro k hk
  rw [← tab_get k hk]
  exact h2.cell gTab k hk
noncomputable def laidWorld (os : Os) : World :=
  { World.holding Tryd.prog os ⟨#[], #[], []⟩ with heap := (World.holding Tryd.prog os ⟨#[], #[], []⟩).heap.modify 1 fun
      | .cells _ t frozen => .cells #[.int .u8 0, .int .u8 1, .int .u8 56, .int .u8 2, .int .u8 57, .int .u8 49, .int .u8 28, .int .u8 3, .int .u8 61, .int .u8 58, .int .u8 42, .int .u8 50, .int .u8 38, .int .u8 29, .int .u8 17, .int .u8 4, .int .u8 62, .int .u8 47, .int .u8 59, .int .u8 36, .int .u8 45, .int .u8 43, .int .u8 51, .int .u8 22, .int .u8 53, .int .u8 39, .int .u8 33, .int .u8 30, .int .u8 24, .int .u8 18, .int .u8 12, .int .u8 5, .int .u8 63, .int .u8 55, .int .u8 48, .int .u8 27, .int .u8 60, .int .u8 41, .int .u8 37, .int .u8 16, .int .u8 46, .int .u8 35, .int .u8 44, .int .u8 21, .int .u8 52, .int .u8 32, .int .u8 23, .int .u8 11, .int .u8 54, .int .u8 26, .int .u8 40, .int .u8 15, .int .u8 34, .int .u8 20, .int .u8 31, .int .u8 10, .int .u8 25, .int .u8 14, .int .u8 19, .int .u8 9, .int .u8 13, .int .u8 8, .int .u8 7, .int .u8 6] t frozen
      | o => o }
end Go.Proofs.YthcgalpabjjkoaaDoor
