/- The contract of lz.Pack. -/
import Derived.Test.YtglpdkcpnigniaaLzMap
import Derived.Laws.Cover3
namespace Go.Proofs.Ytglpdkcpnigniaa
open Go.RowKit Go.Maps
set_option linter.unusedVariables false

theorem LzC.chg' {S : Nat → Prop} {w w' : World} {pb po px base i : Nat} {sv bv : Value} {bs : List UInt8} (h : LzC w pb po px base i sv bv bs) (hc : Chg S w w') (s0 : ¬ S pb) (s1 : ¬ S po) (s2 : ¬ S px) (s3 : 0 < bs.length → ∀ k, bv.ownBlock = some k → ¬ S k) : LzC w' pb po px base i sv bv bs := by
  obtain ⟨c0, f0, c1, f1, c2, rd, hb, l0, l1, l2, n0, n1, n2, bb⟩ := h
  exact ⟨(hc.cell (p := ⟨pb, 0, none⟩) (Nat.lt_of_lt_of_le l0 hb) s0).trans c0, (hc.frozen (p := ⟨pb, 0, none⟩) (Nat.lt_of_lt_of_le l0 hb) s0).trans f0,
    (hc.cell (p := ⟨po, 0, none⟩) (Nat.lt_of_lt_of_le l1 hb) s1).trans c1, (hc.frozen (p := ⟨po, 0, none⟩) (Nat.lt_of_lt_of_le l1 hb) s1).trans f1,
    (hc.cell (p := ⟨px, 0, none⟩) (Nat.lt_of_lt_of_le l2 hb) s2).trans c2, rd.chg0 hc s3, Nat.le_trans hb hc.size, l0, l1, l2, n0, n1, n2, bb⟩

theorem LzC.make (w : World) (v : Value) (bs : List UInt8) (hr : Rd w v bs) (hb : 0 < bs.length → ∀ k, v.ownBlock = some k → k < w.heap.size) (t0 t1 t2 : TypeId) :
    LzC ((((w.alloc (.cells #[v] t0)).alloc (.map #[] 0)).alloc (.cells #[.slice none 0 0] t1)).alloc (.cells #[.int .i64 0] t2)) (w.heap.size + 1 + 1 + 1) (w.heap.size + 1 + 1) w.heap.size (w.heap.size + 4) 0 (.slice none 0 0) v bs ∧
    MapIs ((((w.alloc (.cells #[v] t0)).alloc (.map #[] 0)).alloc (.cells #[.slice none 0 0] t1)).alloc (.cells #[.int .i64 0] t2)) (w.heap.size + 1) bs 0 := by
  refine ⟨⟨?_, ?_, ?_, ?_, ?_, ?_, by simp, by omega, by omega, by omega, by omega, by omega, by omega, fun h0 k hk => by have := hb h0 k hk; omega⟩, ?_⟩
  · rw [World.cell?_alloc_at _ _ _ _ (by simp)]; rfl
  · rw [World.frozen?_alloc_at _ _ _ _ (by simp)]
  · rw [World.cell?_alloc_past _ _ _ (by simp), World.cell?_alloc_at _ _ _ _ (by simp)]; rfl
  · rw [World.frozen?_alloc_past _ _ _ (by simp), World.frozen?_alloc_at _ _ _ _ (by simp)]
  · rw [World.cell?_alloc_past _ _ _ (by simp; omega), World.cell?_alloc_past _ _ _ (by simp; omega), World.cell?_alloc_past _ _ _ (by simp), World.cell?_alloc_at _ _ _ _ rfl]; rfl
  · exact (((hr.v.alloc _).alloc _).alloc _).alloc _
  · have h1 := MapIs.made (w.alloc (.cells #[v] t0)) bs
    have e : (w.alloc (.cells #[v] t0)).heap.size = w.heap.size + 1 := by simp
    rw [e] at h1
    exact h1.chg (((Chg.refl (fun _ => False) _).alloc _).alloc _) (fun h => h)

theorem mem_ofNat (n : Nat) (h : n < 256) : ((UInt8.ofNat n).toNat : Int) = n := by simp; omega

theorem pk_skip {bs : List UInt8} {a beg : Nat} (h : a + 4 ≤ bs.length) (hn : near bs a = none) : pk bs a beg = pk bs (a + 1) beg := by
  rw [pk, if_pos h, hn]
theorem pk_take {bs : List UInt8} {a beg p : Nat} (h : a + 4 ≤ bs.length) (hn : near bs a = some p) :
    pk bs a beg = flush (sub bs beg a) ++ (piece (ext bs p a 4 127) (a - p) ++ pk bs (a + (4 + ext bs p a 4 127)) (a + (4 + ext bs p a 4 127))) := by
  rw [pk, if_pos h, hn]; rfl
theorem pk_end {bs : List UInt8} {a beg : Nat} (h : ¬ a + 4 ≤ bs.length) : pk bs a beg = flush (bs.drop beg) := by
  rw [pk, if_neg h]

theorem near_none {bs : List UInt8} {a : Nat} (h : lastB bs a a = none) : near bs a = none := by simp [near, h]
theorem near_far {bs : List UInt8} {a p : Nat} (h : lastB bs a a = some p) (hf : ¬ a - p ≤ 65535) : near bs a = none := by simp [near, h]; omega
theorem near_some {bs : List UInt8} {a p : Nat} (h : lastB bs a a = some p) (hf : a - p ≤ 65535) : near bs a = some p := by simp [near, h]; omega

theorem piece_bV (q s p : Nat) (h1 : 4 ≤ q) (h2 : q ≤ 131) (h3 : p < s) (h4 : s - p ≤ 65535) :
    [Value.int .u8 (128 + (q : Int) - 4), .int .u8 (((s : Int) - (p : Int)) / 256), .int .u8 (((s : Int) - (p : Int)) % 256)] = (piece (q - 4) (s - p)).map bV := by
  have e1 : ((UInt8.ofNat (128 + (q - 4))).toNat : Int) = 128 + (q : Int) - 4 := by rw [UInt8.toNat_ofNat']; omega
  have e2 : ((UInt8.ofNat ((s - p) / 256)).toNat : Int) = ((s : Int) - (p : Int)) / 256 := by rw [UInt8.toNat_ofNat']; omega
  have e3 : ((UInt8.ofNat (s - p)).toNat : Int) = ((s : Int) - (p : Int)) % 256 := by rw [UInt8.toNat_ofNat']; omega
  simp only [piece, List.map_cons, List.map_nil, bV, e1, e2, e3]

theorem take_eq {bs cs : List UInt8} {s beg p q : Nat} (h1 : cs ++ pk bs s beg = pk bs 0 0) (h2 : pk bs s beg = flush (sub bs beg s) ++ (piece (ext bs p s 4 127) (s - p) ++ pk bs (s + (4 + ext bs p s 4 127)) (s + (4 + ext bs p s 4 127))))
    (hX : q = 4 + ext bs p s 4 127) : (cs ++ flush (sub bs beg s)) ++ (piece (q - 4) (s - p) ++ pk bs (s + q) (s + q)) = pk bs 0 0 := by
  have : ext bs p s 4 127 = q - 4 := by omega
  rw [← hX, this] at h2
  rw [List.append_assoc, ← h2]
  exact h1

theorem lit_inj {H : Type} {a b : Int} (h : (DataW.lit (H := H) (.int .i64 a)) = .lit (.int .i64 b)) : a = b := by
  injection h with h
  injection h

theorem ext_stop {bs : List UInt8} {p a m f : Nat} (h : ¬ (a + m < bs.length ∧ bs[p + m]? = bs[a + m]?)) : ext bs p a m f = 0 := by
  cases f with
  | zero => rfl
  | succ f => rw [ext, if_neg h]
theorem cs_len {cs bs : List UInt8} {beg s : Nat} (h1 : cs.length ≤ 2 * beg) (h2 : beg ≤ s) (h3 : s ≤ bs.length) : (cs ++ flush (sub bs beg s)).length ≤ 2 * s := by
  have h := flush_len (sub bs beg s)
  rw [sub_len _ _ _ h3] at h
  rw [List.length_append]
  omega

theorem three_one (a b c : Int) : ∀ u ∈ [Value.int .u8 a, Value.int .u8 b, Value.int .u8 c], u.oneCell' = true := by
  intro u hu
  simp at hu
  rcases hu with rfl | rfl | rfl <;> rfl
theorem RdV.lit (w : World) (cs : Array Value) (e : TypeId) (n size : Nat) (hm : n ≤ maxLen) (hs : cs.size = n * size) : RdV (w.alloc (.cells cs e)) size (.slice (Option.some ⟨w.heap.size, 0, none⟩) n n) n cs.toList :=
  RdV.ofOwns (World.ownsRow_lit (base := 0) w cs n (Nat.zero_le _) hm hs)

theorem ext_stop_zero {bs : List UInt8} {p a m : Nat} : ext bs p a m 0 = 0 := rfl
theorem ext_go {bs : List UInt8} {p a m f : Nat} (h : a + m < bs.length ∧ bs[p + m]? = bs[a + m]?) : ext bs p a m (f + 1) = 1 + ext bs p a (m + 1) f := by
  rw [ext, if_pos h]

theorem u8_ne {x y : UInt8} (h : ¬ x = y) : decide ((x.toNat : Int) = (y.toNat : Int)) = false := by
  refine decide_eq_false fun e => h ?_
  have : x.toNat = y.toNat := by omega
  exact UInt8.toNat_inj.1 this

theorem u8_ne2 {x y : UInt8} (h : ¬ x = y) : ((x.toNat : Int) == (y.toNat : Int)) = false := by
  have := u8_ne h
  simpa using this

set_option maxHeartbeats 4000000 in
set_option maxRecDepth 100000 in
theorem pack_any (bs : List UInt8) (v : Value) (w : World) (hn : bs.length ≤ 1000000) (hr : Rd w v bs) :
    Calls Try.prog 7 #[v] w fun e w' => ∃ ao cap, e = .returned (.slice ao (pk bs 0 0).length cap) ∧ Own w' w.heap.size (.slice ao (pk bs 0 0).length cap) (pk bs 0 0) ∧ Below w.heap.size w w' := by
  have hmm := @run_makeMap Try.prog
  obtain ⟨ao0, cap0, rfl, hnc, hcm⟩ := RdV.shape hr
  unfold maxLen at hcm
  go_enter Try.func7, Try.ntmps7
  have hvb : 0 < bs.length → ∀ k, (Value.slice ao0 bs.length cap0).ownBlock = some k → k < w.heap.size := fun h k hk => Rd.blk hr h k hk
  obtain ⟨hC0, hM0⟩ := LzC.make w _ bs hr hvb 22 22 3
  have HC0 := Lib.hid hC0
  have HM0 := Lib.hid hM0
  have HB0 := Lib.hid (((((Below.refl w.heap.size w).alloc (Nat.le_refl _) (.cells #[.slice ao0 bs.length cap0] 22)).alloc (by simp) (.map #[] 0)).alloc (by simp; omega) (.cells #[.slice none 0 0] 22)).alloc (by simp; omega) (.cells #[.int .i64 0] 3))
  clear hC0 hM0
  go_wp2_with fail
  generalize (((w.alloc (.cells #[.slice ao0 bs.length cap0] 22)).alloc (.map #[] 0)).alloc (.cells #[.slice none 0 0] 22)).alloc (.cells #[.int .i64 0] 3) = w0 at *
  obtain ⟨pb, hpb⟩ : ∃ pb, pb = w.heap.size + 1 + 1 + 1 := ⟨_, rfl⟩
  obtain ⟨po, hpo⟩ : ∃ po, po = w.heap.size + 1 + 1 := ⟨_, rfl⟩
  obtain ⟨mb, hmb⟩ : ∃ mb, mb = w.heap.size + 1 := ⟨_, rfl⟩
  obtain ⟨px, hpx⟩ : ∃ px, px = w.heap.size := ⟨_, rfl⟩
  obtain ⟨base, hba⟩ : ∃ base, base = w.heap.size + 4 := ⟨_, rfl⟩
  rw [← hpb, ← hpo, ← hba] at HC0
  rw [← hmb] at HM0
  rw [← hpb, ← hpo, ← hmb]
  have HN := Lib.hid (⟨hpb, hpo, hmb, hpx, hba⟩ : pb = w.heap.size + 1 + 1 + 1 ∧ po = w.heap.size + 1 + 1 ∧ mb = w.heap.size + 1 ∧ px = w.heap.size ∧ base = w.heap.size + 4)
  clear hpb hpo hmb hpx hba hvb
  go_loopg [6, 8] bs.length (fun m s6 s8 wr => ∃ (a beg seen : Nat) (cs : List UInt8) (ao : Option Addr) (cap : Nat), a + m = bs.length ∧ beg ≤ a ∧ seen ≤ a ∧ s6 = .int .i64 (seen : Int) ∧ s8 = .int .i64 (a : Int) ∧ cs.length ≤ 2 * beg ∧ Hid (cs ++ pk bs a beg = pk bs 0 0) ∧
    Hid (LzC wr pb po w.heap.size base beg (.slice ao cs.length cap) (.slice ao0 bs.length cap0) bs) ∧ Hid (Own wr base (.slice ao cs.length cap) cs) ∧ Hid (MapIs wr mb bs seen) ∧ Hid (Below w.heap.size w wr))
  case atStart => exact ⟨0, 0, 0, [], none, 0, by omega, Nat.le_refl _, Nat.le_refl _, rfl, rfl, by simp, Lib.hid rfl, HC0, Lib.hid (Own.nil _ _), HM0, HB0⟩
  case round =>
    clear HC0 HM0 HB0 hmm
    obtain ⟨a, beg, seen, cs, ao, cap, hm, hbeg, hseen, rfl, rfl, hlen, heq, hC, hO, hM, hB⟩ := hrel
    have c0 := hC.out.c0
    have c1 := hC.out.c1
    have c2 := hC.out.c2
    by_cases h4 : a + 4 ≤ bs.length
    · obtain ⟨b, off, bcap, hbv, hbn, hbm, _, _⟩ := RdV.some hr.v (by omega) (by decide)
      simp only [Value.slice.injEq, true_and] at hbv
      obtain ⟨rfl, rfl⟩ := hbv
      have hd4 : decide ((a : Int) + 4 ≤ (bs.length : Int)) = true := decide_eq_true (by omega)
      obtain ⟨g0, hg0⟩ : ∃ g, g = gk := ⟨gk, rfl⟩
      have HH := Lib.hid (⟨hm, hbeg, hseen, hlen, hg0⟩ : a + gk = bs.length ∧ beg ≤ a ∧ seen ≤ a ∧ cs.length ≤ 2 * beg ∧ g0 = gk)
      have HR := Lib.hid hr
      clear hm hbeg hlen hg0 hr
      go_wp2_with fail
      clear c0 c1 c2
      go_loopg [6] (a - seen) (fun m s6 wr => ∃ s : Nat, s + m = a ∧ s6 = .int .i64 (s : Int) ∧
        Hid (LzC wr pb po w.heap.size base beg (.slice ao cs.length cap) (.slice (some ⟨b, off, none⟩) bs.length cap0) bs) ∧ Hid (Own wr base (.slice ao cs.length cap) cs) ∧ Hid (MapIs wr mb bs s) ∧ Hid (Below w.heap.size w wr))
      case atStart => exact ⟨seen, by omega, rfl, hC, hO, hM, hB⟩
      case round =>
        clear hC hO hM hB
        obtain ⟨s, hsa, rfl, hC, hO, hM, hB⟩ := hrel
        have c0 := hC.out.c0
        have c1 := hC.out.c1
        have c2 := hC.out.c2
        have hcell : ∀ (k : Nat) (hk : k < bs.length), wr.cell? ⟨b, off + k, none⟩ = some (.int .u8 (bs[k].toNat : Int)) := fun k hk => by
          obtain ⟨b', off', cap', he, _, _, _, hcc⟩ := RdV.some hC.out.rd.v (by omega) (by decide)
          simp only [Value.slice.injEq, Option.some.injEq, Addr.mk.injEq, true_and, and_true] at he
          obtain ⟨⟨rfl, rfl⟩, rfl⟩ := he
          exact hcc k _ (by simp [hk, bV])
        by_cases h0 : gk = 0
        · obtain rfl : s = a := by omega
          have hkey := key4 bs[s] bs[s + 1] bs[s + 2] bs[s + 3]
          rw [← at4_eq bs s h4] at hkey
          have e0 := hcell s (by omega)
          have e1 : wr.cell? ⟨b, off + s + 1, none⟩ = some (.int .u8 (bs[s + 1].toNat : Int)) := hcell (s + 1) (by omega)
          have e2 : wr.cell? ⟨b, off + s + 2, none⟩ = some (.int .u8 (bs[s + 2].toNat : Int)) := hcell (s + 2) (by omega)
          have e3 : wr.cell? ⟨b, off + s + 3, none⟩ = some (.int .u8 (bs[s + 3].toNat : Int)) := hcell (s + 3) (by omega)
          have hcl : ¬ cap0 = s := by omega
          have hat : ∀ w, (Instr.arrayAt 36 (.slice (some ⟨b, off + s, none⟩) (bs.length - s) (cap0 - s))).run Try.prog w = .ok (.pointer (some ⟨b, off + s, none⟩)) w := fun w => run_arrayAt w 36 _ 4 _ _ _ Try.underlying36 (by omega)
          obtain ⟨D, hD, hq⟩ := hM.out
          obtain ⟨q1, q2⟩ := hq s h4
          clear hq hsa h0 hseen
          cases hl : lastB bs s s with
          | none =>
            rw [hl] at q1 q2
            have HK := Lib.hid (pk_skip (beg := beg) h4 (near_none hl))
            have HQ1 := Lib.hid q1
            have HQ2 := Lib.hid q2
            clear q1 q2 hl hcell
            go_wp2_with (at_lookup; refine wpList_lookup_own_ok_int _ rfl _ _ 34 rfl 36 3 .i64 law4 Try.underlying34 Try.underlying3 (zeroI _) mb s D rfl hD _ _ rfl hkey ?_; intro c hat' hwc; rw [show Maps.has D (.string (at4 bs s)) = false from HQ1.out]; clear hat' hwc)
            go_roundg (g0 - 1)
            case measure => go_light; have := HH.out; omega
            case rel =>
              go_light
              have hh := HH.out
              exact ⟨s + 1, beg, s, cs, ao, cap, by omega, by omega, by omega, rfl, by go_num, hh.2.2.2.1, Lib.hid (by rw [← HK.out]; exact heq.out), hC, hO, hM, hB⟩
          | some p =>
            rw [hl] at q1 q2
            have hps := lastB_lt bs s s p hl
            have HQ1 := Lib.hid q1
            have HQ2 := Lib.hid (show D.atKey (.string (at4 bs s)) (.lit (.int .i64 0)) = .lit (.int .i64 ((p : Nat) : Int)) from q2)
            have hp1 := hps.1
            clear q1 q2 hps
            by_cases hf : s - p ≤ 65535
            · have HK := Lib.hid (pk_take (beg := beg) h4 (near_some hl hf))
              have hfI : decide ((65535 : Int) < (s : Int) - (p : Int)) = false := decide_eq_false (by omega)
              have hP := plain_any pb po w.heap.size base beg s (.slice ao cs.length cap) (.slice (some ⟨b, off, none⟩) bs.length cap0) cs bs wr (by have := HH.out; omega) (by omega) (by have := HH.out; omega) hC.out hO.out
              have HP := Lib.hid hP
              have HI : Hid (∀ k, LzS pb po base k → w.heap.size ≤ k) := Lib.hid (fun k hk => by have := HN.out; unfold LzS at hk; omega)
              clear hl hP
              go_wp2_with (at_lookup; refine wpList_lookup_own_ok_int _ rfl _ _ 34 rfl 36 3 .i64 law4 Try.underlying34 Try.underlying3 (zeroI _) mb s D rfl hD _ _ rfl hkey ?_; intro c hat' hwc; rw [show Maps.has D (.string (at4 bs s)) = true from HQ1.out]; have hcp := Lib.hid (lit_inj (HQ2.out.symm.trans hat')); clear hat' hwc; rw [← hcp.out]; clear hcp)
              refine HP.out.mono ?_
              rintro e w5 ⟨rfl, ao5, cap5, hC5, hO5, hch5⟩
              have HM5 := Lib.hid (hM.out.chg hch5 (fun h => by have := HN.out; unfold LzS at h; omega))
              have HC5 := Lib.hid hC5
              have HO5 := Lib.hid hO5
              have HB5 := Lib.hid (hB.out.trans (hch5.below hB.out.size HI.out))
              clear hC5 hO5 hch5 c0 c1 c2 HP hM hC hO hB hcell e0 e1 e2 e3 hat hkey hD HQ1 HQ2 hd4
              go_wp2_with fail
              have HE := Lib.hid (⟨h4, hp1, hf, hn⟩ : s + 4 ≤ bs.length ∧ p < s ∧ s - p ≤ 65535 ∧ bs.length ≤ 1000000)
              go_loopg [11] 127 (fun m s11 wr => ∃ q : Nat, q + m = 131 ∧ 4 ≤ q ∧ s11 = .int .i64 (q : Int) ∧ s + q ≤ bs.length ∧ Hid (q + ext bs p s q m = 4 + ext bs p s 4 127) ∧ ∃ d, wr = w5.drewN d)
              case atStart => exact ⟨4, rfl, Nat.le_refl _, rfl, h4, Lib.hid rfl, 0, rfl⟩
              case round =>
                obtain ⟨q, hq, hq4, rfl, hqn, hext, d, rfl⟩ := hrel
                have c0 := HC5.out.c0
                have c1 := HC5.out.c1
                have c2 := HC5.out.c2
                have f1 := HC5.out.f1
                have f0 := HC5.out.f0
                have hcell : ∀ (k : Nat) (hk : k < bs.length), w5.cell? ⟨b, off + k, none⟩ = some (.int .u8 (bs[k].toNat : Int)) := fun k hk => by
                  obtain ⟨b', off', cap', he, _, _, _, hcc⟩ := RdV.some HC5.out.rd.v (by omega) (by decide)
                  simp only [Value.slice.injEq, Option.some.injEq, Addr.mk.injEq, true_and, and_true] at he
                  obtain ⟨⟨rfl, rfl⟩, rfl⟩ := he
                  exact hcc k _ (by simp [hk, bV])
                have hw1 : IntKind.i64.wrap ((s : Int) + (q : Int)) = (s : Int) + (q : Int) := IntWalk.i64_in _ (by omega)
                have hw2 : IntKind.i64.wrap ((p : Int) + (q : Int)) = (p : Int) + (q : Int) := IntWalk.i64_in _ (by omega)
                by_cases hA : gk = 0
                case' pos =>
                  have hX : Hid (q = 4 + ext bs p s 4 127) := Lib.hid (by have := hext.out; rw [hA, ext_stop_zero] at this; exact this)
                  have hgA : decide ((q : Int) < 131) = false := decide_eq_false (by omega)
                  clear hext hq hA hcell
                  go_upto_region 15 with fail
                  go_quiet (fail)
                case' neg =>
                  have hgA : decide ((q : Int) < 131) = true := decide_eq_true (by omega)
                  by_cases hBq : s + q < bs.length
                  case' neg =>
                    have hX : Hid (q = 4 + ext bs p s 4 127) := Lib.hid (by have := hext.out; rw [ext_stop (fun h => hBq h.1)] at this; exact this)
                    have hgB : decide ((s : Int) + (q : Int) < (bs.length : Int)) = false := decide_eq_false (by omega)
                    clear hext hq hA hcell
                    go_upto_region 15 with fail
                    go_quiet (fail)
                  case' pos =>
                    have hgB : decide ((s : Int) + (q : Int) < (bs.length : Int)) = true := decide_eq_true (by omega)
                    have e1 := hcell (s + q) hBq
                    have e2 := hcell (p + q) (by omega)
                    have t1 : ((s : Int) + (q : Int)).toNat = s + q := by omega
                    have t2 : ((p : Int) + (q : Int)).toNat = p + q := by omega
                    have t3 : (0 : Int) ≤ (s : Int) + (q : Int) := by omega
                    have t4 : (0 : Int) ≤ (p : Int) + (q : Int) := by omega
                    have t5 : (p : Int) + (q : Int) < (bs.length : Int) := by omega
                    have t6 : (s : Int) + (q : Int) < (bs.length : Int) := by omega
                    by_cases hCq : bs[p + q] = bs[s + q]
                    case' neg =>
                      have hX : Hid (q = 4 + ext bs p s 4 127) := Lib.hid (by have := hext.out; rw [ext_stop (fun h => hCq (by have h2 := h.2; rw [List.getElem?_eq_getElem (by omega), List.getElem?_eq_getElem hBq] at h2; exact Option.some.inj h2))] at this; exact this)
                      have hgC := u8_ne hCq
                      have hgC2 := u8_ne2 hCq
                      generalize bs[p + q] = x at *
                      generalize bs[s + q] = y at *
                      clear hext hq hA hcell
                      go_upto_region 15 with fail
                      go_quiet (fail)
                    case' pos =>
                      have hX : Hid ((q + 1) + ext bs p s (q + 1) (gk - 1) = 4 + ext bs p s 4 127) := Lib.hid (by
                        have := hext.out
                        obtain ⟨g1, rfl⟩ : ∃ g1, gk = g1 + 1 := ⟨gk - 1, by omega⟩
                        rw [ext_go ⟨hBq, by rw [List.getElem?_eq_getElem (by omega), List.getElem?_eq_getElem hBq, hCq]⟩] at this
                        rw [Nat.add_sub_cancel]
                        omega)
                      rw [hCq] at e2
                      generalize bs[s + q] = y at *
                      clear hext hcell
                      go_upto_region 15 with fail
                      go_quiet (fail)
                      go_wp2_with fail
                      go_roundg (gk - 1)
                      case measure => go_light; omega
                      case rel =>
                        go_light
                        exact ⟨q + 1, by omega, by omega, by go_num, by omega, hX, _, rfl⟩
                all_goals clear hw1 hw2 c2
                all_goals (simp only [World.drewN_drewN])
                all_goals (have hq1 : 4 ≤ q := hq4)
                all_goals (have hq2 : q ≤ 131 := by have := hX.out; have := ext_le bs p s 127 4; omega)
                all_goals (have HCd := Lib.hid (show LzC (w5.drewN (d + nq)) pb po w.heap.size base s (.slice ao5 (cs ++ flush (sub bs beg s)).length cap5) (.slice (some ⟨b, off, none⟩) bs.length cap0) bs from HC5.out.chg' (S := fun _ => False) ⟨rfl, rfl, rfl, Nat.le_refl _, fun _ _ _ => rfl⟩ (fun h => h) (fun h => h) (fun h => h) (fun _ _ _ h => h)))
                all_goals (have HOd := Lib.hid (show Own (w5.drewN (d + nq)) base (.slice ao5 (cs ++ flush (sub bs beg s)).length cap5) (cs ++ flush (sub bs beg s)) from HO5.out))
                all_goals (have HMd := Lib.hid (show MapIs (w5.drewN (d + nq)) mb bs s from HM5.out))
                all_goals (have HBd := Lib.hid (show Below w.heap.size w (w5.drewN (d + nq)) from ⟨HB5.out.os, HB5.out.tape, HB5.out.output, HB5.out.size, HB5.out.block⟩))
                all_goals (have hLn := cs_len HH.out.2.2.2.1 HH.out.2.1 (show s ≤ bs.length by omega))
                all_goals (have hss := HE.out.1)
                all_goals (have hspi : s ≤ 1000000 := by have := HE.out; omega)
                all_goals (have d0 := HCd.out.c0)
                all_goals (have d1 := HCd.out.c1)
                all_goals (have k0 := HCd.out.f0)
                all_goals (have k1 := HCd.out.f1)
                all_goals (have hsz5 : base ≤ (w5.drewN (d + nq)).heap.size := HCd.out.hb)
                all_goals (have HEQ := Lib.hid (take_eq heq.out HK.out hX.out))
                all_goals clear c0 c1 f0 f1 HC5 HO5 HM5 HB5
                all_goals (generalize w5.drewN (d + nq) = wd at *)
                all_goals (generalize cs ++ flush (sub bs beg s) = C at *)
                all_goals (have h63 : C.length + 3 ≤ maxLen := by unfold maxLen; omega)
                all_goals (have hby : (C.length + 3) * 1 ≤ 140737488355328 := by omega)
                all_goals (have hba : ∀ o, base ≤ (wd.alloc o).heap.size := fun o => by simp; omega)
                all_goals go_wp2_with (at_builtin; refine wpList_append_rd _ rfl (.tmp 81) (.tmp 95) 22 rfl base 5 (.int .u8 0) 1 1 Try.underlying22 infoU8 rfl (by decide) (.slice ao5 C.length cap5) C.length (C.map bV) rfl (HOd.out.alloc _) (.slice (some ⟨wd.heap.size, 0, none⟩) 3 3) 3 [.int .u8 (128 + (q : Int) - 4), .int .u8 (((s : Int) - (p : Int)) / 256), .int .u8 (((s : Int) - (p : Int)) % 256)] rfl (RdV.lit _ _ _ 3 1 (by decide) rfl) (three_one _ _ _) h63 hby (hba _) ?_; intro ao6 cap6 w6 hg6; have HG6 := Lib.hid hg6.ofAlloc; have HC6 := Lib.hid (HCd.out.chg hg6.ofAlloc.chg (fun k hk h => by have := (HOd.out.lt k h).1; omega)); have m0 := HC6.out.c0; have m1 := HC6.out.c1; have n0 := HC6.out.f0; have n1 := HC6.out.f1; have r0 := HC6.out.n0; clear hg6)
                all_goals go_roundg (g0 - q)
                all_goals (try (case measure => go_light; have := HH.out; omega))
                all_goals (try (case rel =>
                  go_light
                  have hn' := HN.out
                  have hg := HG6.out
                  rw [piece_bV q s p hq1 hq2 HE.out.2.1 HE.out.2.2.1, ← List.map_append] at hg
                  have e2 : C.length + 3 = (C ++ piece (q - 4) (s - p)).length := by rw [List.length_append]; rfl
                  rw [e2] at hg ⊢
                  have hS6 : ¬ LzS pb po base mb := fun h => by unfold LzS at h; omega
                  have k1 : Chg (LzS pb po base) wd w6 := hg.chg.mono (fun i _ h => .inr (.inr (HOd.out.lt i h).1))
                  have k2 : ∀ u u', Chg (LzS pb po base) wd ((w6.setCell ⟨po, 0, none⟩ u).setCell ⟨pb, 0, none⟩ u') := fun u u' => (k1.setCell (fun _ => .inr (.inl rfl)) _).setCell (fun _ => .inl rfl) _
                  rw [show ((s : Int) + (q : Int)) = ((s + q : Nat) : Int) by simp]
                  refine ⟨s + q, s + q, s, C ++ piece (q - 4) (s - p), ao6, cap6, by have := HH.out; omega, Nat.le_refl _, by omega, rfl, rfl, by rw [← e2]; omega, Lib.hid (by rw [List.append_assoc]; exact HEQ.out), Lib.hid ((HC6.out.setOut _).setBeg (s + q)),
                    Lib.hid ((Own.setCell hg.owns _ (by have := HC6.out.l1; exact this) _).setCell _ (by have := HC6.out.l0; exact this) _), Lib.hid (HMd.out.chg (k2 _ _) hS6), Lib.hid (HBd.out.trans ((k2 _ _).below HBd.out.size HI.out))⟩))
            · have HK := Lib.hid (pk_skip (beg := beg) h4 (near_far hl hf))
              have hfI : decide ((65535 : Int) < (s : Int) - (p : Int)) = true := decide_eq_true (by omega)
              clear hl hcell
              go_wp2_with (at_lookup; refine wpList_lookup_own_ok_int _ rfl _ _ 34 rfl 36 3 .i64 law4 Try.underlying34 Try.underlying3 (zeroI _) mb s D rfl hD _ _ rfl hkey ?_; intro c hat' hwc; rw [show Maps.has D (.string (at4 bs s)) = true from HQ1.out]; have hcp := Lib.hid (lit_inj (HQ2.out.symm.trans hat')); clear hat' hwc; rw [← hcp.out]; clear hcp)
              go_roundg (g0 - 1)
              case measure => go_light; have := HH.out; omega
              case rel =>
                go_light
                have hh := HH.out
                exact ⟨s + 1, beg, s, cs, ao, cap, by omega, by omega, by omega, rfl, by go_num, hh.2.2.2.1, Lib.hid (by rw [← HK.out]; exact heq.out), hC, hO, hM, hB⟩
        · have e0 := hcell s (by omega)
          have e1 : wr.cell? ⟨b, off + s + 1, none⟩ = some (.int .u8 (bs[s + 1].toNat : Int)) := hcell (s + 1) (by omega)
          have e2 : wr.cell? ⟨b, off + s + 2, none⟩ = some (.int .u8 (bs[s + 2].toNat : Int)) := hcell (s + 2) (by omega)
          have e3 : wr.cell? ⟨b, off + s + 3, none⟩ = some (.int .u8 (bs[s + 3].toNat : Int)) := hcell (s + 3) (by omega)
          have hcl : ¬ cap0 = s := by omega
          obtain ⟨D, hD, hq⟩ := hM.out
          have HQ := Lib.hid (put_ok hD.isMap (by omega) hq)
          have hkey := key4 bs[s] bs[s + 1] bs[s + 2] bs[s + 3]
          rw [← at4_eq bs s (by omega)] at hkey
          have hwf : (Lit.int .i64 (s : Int)).wf = true := WalkArith.wf_i64 (by omega)
          have h63 : s < maxLen := by unfold maxLen; omega
          have hat : ∀ w, (Instr.arrayAt 36 (.slice (some ⟨b, off + s, none⟩) (bs.length - s) (cap0 - s))).run Try.prog w = .ok (.pointer (some ⟨b, off + s, none⟩)) w := fun w => run_arrayAt w 36 _ 4 _ _ _ Try.underlying36 (by omega)
          clear hq hcell
          go_wp2_with (at_mapUpdate; refine wpList_mapUpdate_own _ rfl _ _ _ 34 rfl 36 3 law4 Try.underlying34 _ mb s _ rfl hD h63 _ _ _ rfl rfl hkey _ [] (plainElem_int Try.underlying3 hwf) ?_; intro w1 hown1 hgrow1; have HO1 := Lib.hid hown1; have HG1 := Lib.hid hgrow1; clear hown1 hgrow1)
          go_roundg (gk - 1)
          case measure => go_light; omega
          case rel =>
            go_light
            have hch : Chg (fun k => k = mb) wr w1 := (Chg.refl (fun k => k = mb) wr).grown HG1.out (fun k _ h => by simpa using h.symm)
            have hn := HN.out
            have hmbb : ∀ k, (Value.slice (some ⟨b, off, none⟩) bs.length cap0).ownBlock = some k → k < w.heap.size := fun k hk => Rd.blk HR.out (by omega) k hk
            refine ⟨s + 1, by omega, by go_num, Lib.hid (hC.out.chg' hch (by omega) (by omega) (by omega) (fun _ k hk => by have := hmbb k hk; omega)), Lib.hid (hch.owns hO.out fun k hk => by have := (hO.out.lt k hk).1; omega), Lib.hid ⟨_, HO1.out, HQ.out⟩,
              Lib.hid (hB.out.trans (hch.below hB.out.size (fun k hk => by omega)))⟩
    · have hdr : sub bs beg bs.length = bs.drop beg := by unfold sub; rw [List.take_of_length_le (by simp)]
      have hP := plain_any pb po w.heap.size base beg bs.length (.slice ao cs.length cap) (.slice ao0 bs.length cap0) cs bs wr (by omega) (Nat.le_refl _) (by omega) hC.out hO.out
      rw [hdr, ← pk_end (a := a) h4, heq.out] at hP
      have HP := Lib.hid hP
      have HI : Hid (∀ k, LzS pb po base k → w.heap.size ≤ k) := Lib.hid (fun k hk => by have := HN.out; unfold LzS at hk; omega)
      clear hP hM hO heq
      go_wp2_with fail
      refine HP.out.mono ?_
      rintro e w5 ⟨rfl, ao5, cap5, hC5, hO5, hch5⟩
      have HO5 := Lib.hid hO5
      have HB5 := Lib.hid (hB.out.trans (hch5.below hB.out.size HI.out))
      have d1 := hC5.c1
      clear hC5 hO5 hch5 c0 c1 c2 HP
      go_wp2_with fail
      go_ret
      exact ⟨ao5, cap5, rfl, HO5.out.mono (by have := HN.out; omega), HB5.out⟩
end Go.Proofs.Ytglpdkcpnigniaa
