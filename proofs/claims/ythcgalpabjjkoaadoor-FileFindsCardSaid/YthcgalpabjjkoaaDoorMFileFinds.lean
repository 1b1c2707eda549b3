/- The statement 'FileFindsCardSaid', out of its walk 'fileFinds_walk': the frame of a tied card: the table of math/bits reads as it is laid. Conditions: none beyond the form's own reach. -/
import Derived.Test.YthcgalpabjjkoaaDoorG22
import Derived.Test.YthcgalpabjjkoaaDoorG17
import Derived.Test.YthcgalpabjjkoaaDoorG16
import Derived.Test.YthcgalpabjjkoaaDoorG6
import Derived.WalkKit
import Derived.ProofKit
import Derived.OpenShut
import Derived.ChangeOld
import Derived.Below
import Derived.SizedLaws
import Derived.JoinedCond
import Derived.Deep.DeepHandedRow
/- XFinds12: FileFinds' walk. -/
namespace Go.Proofs.YthcgalpabjjkoaaDoor
open Go.RowKit Go.ChangeShapes Go.WideShapes Go.ChangeAt
set_option linter.unusedVariables false
set_option maxRecDepth 100000

theorem run_append_zero_at {P : Program} (w : World) (t ty e : TypeId) (i : TypeInfo) (ht : P.underlying t = some (.slice e)) (hi : P.info? e = some i) (a : Addr) (n : Nat) (ao : Option Addr) (k : Nat) :
    (Builtin.append_ #[t, t] ty #[.slice (some a) n n, .slice ao 0 k]).run P w = .ok (.slice (some a) n n) w := by
  cases ao with
  | none => simp [Builtin.append_, run_underlying ht, sizeOf, typeInfo, hi, Builtin.lenOf, Builtin.firstCells, storeCells]
  | some b => simp [Builtin.append_, run_underlying ht, sizeOf, typeInfo, hi, Builtin.lenOf, Builtin.firstCells, storeCells, loadCells, loadCellsFrom]
theorem wpList_append_zero (w : World) {ops : Array Oper} {rest : List Oper} {o : Oper} {a : Act} {Q : Exit → Act → World → Prop} (hgd : o.guard = none) (s x : Operand)
    (ho : o.op = .call { callee := .builtin .append, args := #[s, x], argTypes := #[33, 33] }) (ad : Addr) (n : Nat) (hs : a.eval s = .slice (some ad) n n) (ao : Option Addr) (k : Nat) (hx : a.eval x = .slice ao 0 k)
    (h : wpList Tryd.prog ops Q rest (a.put o.dst (.slice (some ad) n n)) w) : wpList Tryd.prog ops Q (o :: rest) a w := by
  obtain ⟨i, hi, hz, hsize, hby⟩ := info_parts infoU8
  have hrun := run_append_zero_at (P := Tryd.prog) w 33 o.type 5 i Tryd.underlying33 hi ad n ao k
  refine wpList_plain hgd fun K hK => ?_
  unfold Oper.wp execOp
  simp only [ho, resolve, invoke, builtin, Sem.run_bind, Sem.run_pure, Result.andThen_ok, List.map_toArray, List.map_cons, List.map_nil, hs, hx, hrun]
  exact hK _ _ h

set_option maxHeartbeats 400000 in
theorem decodex_any (ao : Option Addr) (cap : Nat) (w : World) :
    Calls Tryd.prog 8 #[.slice ao 1 cap] w fun e w' => e = .returned (.tuple #[.slice none 0 0, .int .i64 2]) ∧ w' = w := by
  go_enter Tryd.func8, Tryd.ntmps8
  go_wp2_with fail
  go_ret2
  exact ⟨rfl, rfl⟩
set_option maxHeartbeats 400000 in
theorem findx_any (ao : Option Addr) (cap : Nat) (s f : ByteArray) (a b : Int) (w : World) :
    Calls Tryd.prog 10 #[.slice ao 1 cap, .string s, .string f, .int .i64 a, .int .i64 b] w fun e w' => e = .returned (.tuple #[.slice none 0 0, .int .i64 2]) ∧ Below w.heap.size w w' := by
  have HB := Lib.hid (show Below w.heap.size w ((w.alloc (.cells #[.int .i64 a] 2)).alloc (.cells #[.int .i64 b] 2)) from ((Below.refl _ _).alloc (Nat.le_refl _) _).alloc (by simp) _)
  go_enter Tryd.func10, Tryd.ntmps10
  go_wp2_with (go_at_call 8; refine (decodex_any _ _ _).mono ?_; rintro _ _ ⟨rfl, rfl⟩)
  go_ret2
  exact ⟨rfl, HB.out⟩

theorem fnd_step {l : List Cn} {s f : ByteArray} {a b : Int} {i : Nat} (h : i < l.length) : fnd (l.take (i + 1)) s f a b = fnd (l.take i) s f a b ++ (if (l.getD i c0).s = s ∧ (l.getD i c0).f = f then (l.getD i c0).p.filter (inR a b) else []) := by
  rw [List.take_add_one, List.getElem?_eq_getElem h, fnd_append, getD_get l i c0 h]
  congr 1
  unfold fnd
  simp only [Option.toList_some, List.flatMap_cons, List.flatMap_nil, List.append_nil]

theorem fnd_le {l : List Cn} (hf : frmC l = true) (s f : ByteArray) (a b : Int) (i : Nat) : (fnd (l.take i) s f a b).length ≤ 1000000 := by
  have h1 : (fnd l s f a b).length = (fnd (l.take i) s f a b).length + (fnd (l.drop i) s f a b).length := by
    conv => lhs; rw [← List.take_append_drop i l, fnd_append, List.length_append]
  have h2 : (fnd l s f a b).length ≤ 1000000 := by
    by_cases hx : ∃ k, k < l.length ∧ ((l.getD k c0).s = s ∧ (l.getD k c0).f = f)
    · obtain ⟨k, hk, hs⟩ := hx
      rw [fnd_at hf hk hs]
      exact Nat.le_trans (List.length_filter_le _ _) (frmC_at hf hk).2.2.2
    · rw [fnd_none (fun k hk e => hx ⟨k, hk, e⟩)]
      exact Nat.zero_le _
  omega
/-- What a column's first k points give. -/
def fndK (c : Cn) (s f : ByteArray) (a b : Int) (k : Nat) : List Pn := if c.s = s ∧ c.f = f then (c.p.take k).filter (inR a b) else []
theorem fndK_next {c : Cn} {s f : ByteArray} {a b : Int} {k : Nat} (hk : k < c.p.length) : fndK c s f a b (k + 1) = fndK c s f a b k ++ (if (c.s = s ∧ c.f = f) ∧ inR a b (c.p.getD k p0) = true then [c.p.getD k p0] else []) := by
  unfold fndK
  by_cases h : c.s = s ∧ c.f = f
  · rw [if_pos h, if_pos h, List.take_add_one, List.getElem?_eq_getElem hk, List.filter_append, getD_get c.p k p0 hk]
    congr 1
    by_cases h2 : inR a b c.p[k] = true
    · rw [if_pos ⟨h, h2⟩]; simp [h2]
    · rw [if_neg (fun e => h2 e.2)]; simp [h2]
  · rw [if_neg h, if_neg h, if_neg (fun e => h e.1)]
    rfl
theorem fndK_all (c : Cn) (s f : ByteArray) (a b : Int) : fndK c s f a b c.p.length = if c.s = s ∧ c.f = f then c.p.filter (inR a b) else [] := by
  unfold fndK
  rw [List.take_length]
theorem fndK_le (c : Cn) (s f : ByteArray) (a b : Int) (k : Nat) : (fndK c s f a b k).length ≤ (fndK c s f a b c.p.length).length := by
  unfold fndK
  split
  · rw [List.take_length]
    exact ((List.take_sublist k c.p).filter _).length_le
  · exact Nat.le_refl _

set_option maxHeartbeats 8000000 in
theorem fileFinds_run (cs : List Cb) (v : Value) (s f : ByteArray) (a b which : Int) (w : World) (hl : cs.length * 56 ≤ 140737488351232) (hps : ∀ c ∈ cs, c.c.p.length * 40 ≤ 140737488351232) (hok : ∀ c ∈ cs, c.c.ok) (hwh : -9223372036854775808 ≤ which ∧ which ≤ 9223372036854775807)
    (ht : Tab w) (hr : Cols w v cs) :
    Calls Tryd.prog 4 #[v, .string s, .string f, .int .i64 a, .int .i64 b, .int .i64 which] w fun e w' => e = .returned (.bool true) ∧ Below w.heap.size w w' := by
  obtain ⟨ao, cap, rfl, hn, hcm⟩ := RdV.shape hr.1
  unfold maxLen at hcm
  have HR := Lib.hid hr
  have HPS := Lib.hid hps
  have HOKS := Lib.hid hok
  have HTB := Lib.hid ht
  have HL := Lib.hid hl
  clear hr hps hok ht
  go_enter Tryd.func4, Tryd.ntmps4
  go_upto_region 3 with (go_at_call 5; refine (awake12_any w HTB.out).mono ?_; rintro e w1 ⟨rfl, hb1⟩; have HB1 := Lib.hid hb1; clear hb1)
  have HR1 := Lib.hid (HR.out.below HB1.out)
  have hE := rfencode_any cs (.slice ao cs.length cap) w1 hl HPS.out HOKS.out HR1.out
  unfold FeEnd at hE
  obtain ⟨n, hnl⟩ : ∃ n, n = cs.length := ⟨_, rfl⟩
  have HN := Lib.hid hnl
  rw [← hnl] at hn hl hE ⊢
  clear hnl
  go_upto_region 4 with (go_at_call 7; refine hE.mono ?_; rintro _ w2 ⟨hb2, ao2, cap2, rfl, ho2⟩; have HB2 := Lib.hid (HB1.out.trans (hb2.mono HB1.out.size)); have HO2 := Lib.hid ho2; clear hb2 ho2 hE)
  obtain ⟨bs, hbs⟩ : ∃ x, x = (encL (cnS cs)).1 := ⟨_, rfl⟩
  obtain ⟨ee, hee⟩ : ∃ x, x = (encL (cnS cs)).2 := ⟨_, rfl⟩
  have HE : Hid (encL (cnS cs) = (bs, ee)) := Lib.hid (by rw [hbs, hee])
  rw [← hbs] at HO2 ⊢
  rw [← hee]
  clear hbs hee
  by_cases h0 : ee = 0
  · subst h0
    go_upto_region 7 with fail
    obtain ⟨wm, hwm⟩ : ∃ m, m = which.tmod 3 := ⟨_, rfl⟩
    have hwI : which.tmod 3 = wm := hwm.symm
    have hwr : -3 < wm ∧ wm < 3 := by
      rw [hwm]
      rcases Int.le_total 0 which with h | h
      · rw [Int.tmod_eq_emod_of_nonneg h]; omega
      · obtain ⟨g, rfl⟩ : ∃ g, which = -g := ⟨-which, by omega⟩
        rw [Int.neg_tmod, Int.tmod_eq_emod_of_nonneg (by omega)]; omega
    have hww : IntKind.i64.wrap wm = wm := IntWalk.i64_in _ (by omega)
    have hww2 : IntKind.i64.wrap (which.tmod 3) = wm := by rw [hwI]; exact hww
    clear hwm
    go_cut [54] (fun s54 wx => ∃ c : Bool, s54 = .bool c ∧ (c = true → 0 < n) ∧ wx = w2)
    case first =>
      by_cases h0 : 0 < n
      · have h0I : (0 : Int) < (n : Int) := by omega
        go_wp2_with fail
        go_meet
        go_light
        exact ⟨_, rfl, fun _ => h0, rfl⟩
      · have h0I : ¬ (0 : Int) < (n : Int) := by omega
        go_wp2_with fail
        go_meet
        go_light
        exact ⟨false, rfl, fun h => by simp at h, rfl⟩
    case rest =>
    obtain ⟨c, rfl, hc, rfl⟩ := hcut
    clear hww hww2 hwI hwr
    generalize wc = w3 at *
    go_upto_if 54 with fail
    go_cut [1, 2] (fun s1 s2 wx => ∃ s' f' : ByteArray, s1 = .string s' ∧ s2 = .string f' ∧ Hid (Below w3.heap.size w3 wx))
    case first =>
      cases c with
      | false =>
        go_wp2_with fail
        go_meet
        go_light
        exact ⟨s, f, rfl, rfl, Lib.hid (Below.refl _ _)⟩
      | true =>
        have h0 := hc rfl
        have hU := uT_lt which
        have hua := u64_wrap which
        obtain ⟨j, hj⟩ : ∃ j, j = uT which % n := ⟨_, rfl⟩
        have hjn : j < n := by rw [hj]; exact Nat.mod_lt _ h0
        have hjI : ((uT which : Nat) : Int) % (n : Int) = (j : Int) := by rw [hj]; exact (Int.natCast_emod _ _).symm
        have hnu : IntKind.u64.wrap (n : Int) = (n : Int) := IntWalk.u64_in _ (by omega)
        have hju : IntKind.u64.wrap (j : Int) = (j : Int) := IntWalk.u64_in _ (by omega)
        have hji : IntKind.i64.wrap (j : Int) = (j : Int) := IntWalk.i64_in _ (by omega)
        have hnz : ((n : Int) == 0) = false := by simp; omega
        have hnz2 : ¬ ((n : Int) = 0) := by omega
        replace hj := Lib.hid hj
        generalize uT which = U at *
        obtain ⟨lb, lo, lc, he, hlb, f0, f1, f2, hp⟩ := col_at HR.out j (by rw [← HN.out]; exact hjn)
        rw [← HN.out] at he
        simp only [Value.slice.injEq, true_and] at he
        obtain ⟨rfl, rfl⟩ := he
        have g0 := (HB2.out.cell (p := ⟨lb, lo + j * 3, none⟩) hlb).trans f0
        have g1 := (HB2.out.cell (p := ⟨lb, lo + j * 3 + 1, none⟩) hlb).trans f1
        have g2 := (HB2.out.cell (p := ⟨lb, lo + j * 3 + 2, none⟩) hlb).trans f2
        obtain ⟨dao, dcap, hdv, _, _⟩ := RdV.shape hp
        rw [hdv] at g2
        clear f0 f1 f2 hp hdv
        generalize (cs.getD j b0).c = d at *
        generalize d.p.length = dn at *
        have hbl := Lib.hid (show Below w3.heap.size w3 (w3.alloc (.cells #[.string d.s, .string d.f, .slice dao dn dcap] 31)) from (Below.refl _ _).alloc (Nat.le_refl _) _)
        go_upto_region 9 with fail
        go_quiet (fail)
        go_wp2_with fail
        go_meet
        go_light
        exact ⟨d.s, d.f, rfl, rfl, Lib.hid (below_dr hbl.out _)⟩
    case rest =>
    obtain ⟨s', f', rfl, rfl, HB34⟩ := hcut
    have HB4 := Lib.hid (HB2.out.trans (HB34.out.mono HB2.out.size))
    have HO4 := Lib.hid ((Chg.ofBelowAny (S := fun _ => False) HB34.out).owns HO2.out (fun _ _ h => h))
    clear HB34 hc HB2 HO2
    generalize wc = w4 at *
    have HCL : Hid ((cnS cs).length = n) := Lib.hid (by rw [cnS_len, HN.out])
    have HFR := Lib.hid (encL_zero HE.out).1
    have hn20 : n ≤ 1048576 := by have := frmC_count HFR.out; rw [HCL.out] at this; exact this
    have hfn : Hid (∀ i, i < n → (cs.getD i b0).c = (cnS cs).getD i c0) := Lib.hid (fun i hi => (cnS_get cs i (by rw [← HN.out]; exact hi)).symm)
    go_upto_region 11 with fail
    go_wp2_with fail
    go_loopg [18, 71] n (fun m s18 s71 wz => ∃ (i : Nat) (q : List Pn) (qa : Option Addr) (qc : Nat), i + m = n ∧ s71 = .int .i64 (i : Int) ∧ s18 = .slice qa q.length qc ∧ Hid (q = fnd ((cnS cs).take i) s' f' a b) ∧ Hid (OwnP wz w4.heap.size (.slice qa q.length qc) q) ∧ Hid (Below w4.heap.size w4 wz) ∧ Hid (Below w.heap.size w wz))
    case atStart => exact ⟨0, [], none, 0, by omega, rfl, rfl, Lib.hid rfl, Lib.hid (OwnP.nil _ _), Lib.hid (Below.refl _ _), HB4⟩
    case round =>
      have HW4 := Lib.hid HB4.out.size
      clear HB4
      obtain ⟨i, q, qa, qc, hi, rfl, rfl, HQ, HO, HBX, HB⟩ := hrel
      by_cases h0 : gk = 0
      · obtain rfl : i = n := by omega
        have HQN : Hid (fnd (cnS cs) s' f' a b = q) := Lib.hid (by rw [HQ.out, List.take_of_length_le (by rw [HCL.out]; exact Nat.le_refl _)])
        have HOKC : Hid (∀ c ∈ cnS cs, c.ok) := Lib.hid (fun c hc => by
          obtain ⟨d, hd, rfl⟩ := List.mem_map.1 hc
          exact HOKS.out d hd)
        have hFD := find_any (cnS cs) bs HE.out HOKC.out s' f' a b (.slice ao2 bs.length cap2) wr (HTB.out.below HB.out) (RdV.below (show Rd w4 _ bs from RdV.ofOwns HO4.out) HBX.out)
        rw [HQN.out] at hFD
        clear hi h0
        go_upto_region 22 with (go_at_call 10; refine hFD.mono ?_; rintro _ w5 ⟨ao5, cap5, rfl, hb5, hp5⟩; have HB5 := Lib.hid (HB.out.trans (hb5.mono HB.out.size)); have hSP := samePn_any q (.slice ao5 q.length cap5) (.slice qa q.length qc) w5 hp5 (OwnP.below HO.out hb5).pns; clear hb5 hp5 hFD)
        go_wp2_with (go_at_call 11; refine hSP.mono ?_; rintro _ _ ⟨rfl, q5, rfl⟩)
        go_ret
        exact ⟨rfl, below_dr HB5.out _⟩
      · have hin : i < n := by omega
        obtain ⟨lb, lo, lc, he, hlb, f0, f1, f2, hp⟩ := col_at HR.out i (by rw [← HN.out]; exact hin)
        rw [← HN.out] at he
        simp only [Value.slice.injEq, true_and] at he
        obtain ⟨rfl, rfl⟩ := he
        have HCI : Hid ((cs.getD i b0).c = (cnS cs).getD i c0) := Lib.hid (hfn.out i hin)
        have HIL : Hid (i < (cnS cs).length) := Lib.hid (by rw [HCL.out]; exact hin)
        obtain ⟨_, _, hz3, hz4⟩ := frmC_at HFR.out HIL.out
        rw [← HCI.out] at hz3 hz4
        obtain ⟨pb, po, pc, hpv, hpc, hpm, hpb, _⟩ := RdV.some hp (by omega) (by decide)
        rw [hpv] at f2 hp
        have HP := Lib.hid hp
        have g2 := (HB.out.cell (p := ⟨lb, lo + i * 3 + 2, none⟩) hlb).trans f2
        have F0 := Lib.hid f0
        have F1 := Lib.hid f1
        clear f0 f1 f2 hp hpv
        have HST : Hid (fnd ((cnS cs).take (i + 1)) s' f' a b = q ++ fndK (cs.getD i b0).c s' f' a b (cs.getD i b0).c.p.length) := Lib.hid (by rw [fnd_step HIL.out, ← HQ.out, fndK_all, ← HCI.out])
        have HLE : Hid ((q ++ fndK (cs.getD i b0).c s' f' a b (cs.getD i b0).c.p.length).length ≤ 1000000) := Lib.hid (by rw [← HST.out]; exact fnd_le HFR.out s' f' a b (i + 1))
        generalize (cs.getD i b0).c = c at *
        obtain ⟨pn, hpn⟩ : ∃ pn, pn = c.p.length := ⟨_, rfl⟩
        have HPN := Lib.hid hpn
        rw [← hpn] at g2 hpc hz3 hz4 HST HLE
        clear hpn
        generalize gk = gO at *
        go_wp2_with fail
        go_loopg [18, 80] pn (fun m s18 s80 wz => ∃ (k : Nat) (q' : List Pn) (qa' : Option Addr) (qc' : Nat), k + m = pn ∧ s80 = .int .i64 (k : Int) ∧ s18 = .slice qa' q'.length qc' ∧ Hid (q' = q ++ fndK c s' f' a b k) ∧ Hid (OwnP wz w4.heap.size (.slice qa' q'.length qc') q') ∧ Hid (Below w4.heap.size w4 wz) ∧ Hid (Below w.heap.size w wz))
        case atStart => exact ⟨0, q, qa, qc, by omega, rfl, rfl, Lib.hid (by unfold fndK; simp), HO, HBX, HB⟩
        case round =>
          clear g2 HO HBX HB
          obtain ⟨k, q', qa', qc', hk, rfl, rfl, HQ', HO, HBX, HB⟩ := hrel
          by_cases h1 : gk = 0
          · obtain rfl : k = pn := by omega
            have HQN : Hid (q' = fnd ((cnS cs).take (i + 1)) s' f' a b) := Lib.hid (by rw [HST.out, HQ'.out])
            clear hk h1
            go_wp2_with fail
            go_roundg (gO - 1)
            case measure => go_light; omega
            case rel =>
              go_light
              exact ⟨i + 1, q', qa', qc', by omega, by go_num, rfl, HQN, HO, HBX, HB⟩
          · have hkn : k < pn := by omega
            have hkp : k < c.p.length := by rw [← HPN.out]; exact hkn
            have HNX := Lib.hid (fndK_next (c := c) (s := s') (f := f') (a := a) (b := b) hkp)
            have hql : q'.length ≤ 1000000 := by
              have h1 := fndK_le c s' f' a b k
              have h2 := HLE.out
              rw [List.length_append] at h2
              rw [HQ'.out, List.length_append]
              rw [HPN.out] at h2
              omega
            obtain ⟨_, _, _, he, hqb, e0, e1, e2, e3⟩ := pn_cells HP.out k hkp
            rw [← HPN.out] at he
            simp only [Value.slice.injEq, Option.some.injEq, Addr.mk.injEq, true_and, and_true] at he
            obtain ⟨⟨rfl, rfl⟩, rfl⟩ := he
            replace e0 := (HB.out.cell (p := ⟨pb, po + k * 4, none⟩) hqb).trans e0
            replace e1 := (HB.out.cell (p := ⟨pb, po + k * 4 + 1, none⟩) hqb).trans e1
            replace e2 := (HB.out.cell (p := ⟨pb, po + k * 4 + 2, none⟩) hqb).trans e2
            replace e3 := (HB.out.cell (p := ⟨pb, po + k * 4 + 3, none⟩) hqb).trans e3
            generalize c.p.getD k p0 = x at *
            obtain ⟨xt, ⟨xk, xb, xx⟩⟩ := x
            dsimp only at e0 e1 e2 e3
            go_upto_region 17 with fail
            have hbl : Below wr.heap.size wr (wr.alloc (.cells #[.int .i64 xt, .int .i64 xk, .int .u64 (xb : Int), .string xx] 29)) := (Below.refl _ _).alloc (Nat.le_refl _) _
            have m0 : (wr.alloc (.cells #[.int .i64 xt, .int .i64 xk, .int .u64 (xb : Int), .string xx] 29)).cell? ⟨wr.heap.size, 0, none⟩ = some (.int .i64 xt) := by simp [go_sem]
            have m1 : (wr.alloc (.cells #[.int .i64 xt, .int .i64 xk, .int .u64 (xb : Int), .string xx] 29)).cell? ⟨wr.heap.size, 1, none⟩ = some (.int .i64 xk) := by simp [go_sem]
            have m2 : (wr.alloc (.cells #[.int .i64 xt, .int .i64 xk, .int .u64 (xb : Int), .string xx] 29)).cell? ⟨wr.heap.size, 2, none⟩ = some (.int .u64 (xb : Int)) := by simp [go_sem]
            have m3 : (wr.alloc (.cells #[.int .i64 xt, .int .i64 xk, .int .u64 (xb : Int), .string xx] 29)).cell? ⟨wr.heap.size, 3, none⟩ = some (.string xx) := by simp [go_sem]
            have HB6 := Lib.hid (HB.out.trans (hbl.mono HB.out.size))
            have HX6 := Lib.hid (HBX.out.trans (hbl.mono HBX.out.size))
            have HO6 := Lib.hid (OwnP.below HO.out hbl)
            have c0 := (HB6.out.cell (p := ⟨lb, lo + i * 3, none⟩) hlb).trans F0.out
            have c1 := (HB6.out.cell (p := ⟨lb, lo + i * 3 + 1, none⟩) hlb).trans F1.out
            clear e0 e1 e2 e3 hbl HO HB HBX
            generalize wr.alloc (.cells #[.int .i64 xt, .int .i64 xk, .int .u64 (xb : Int), .string xx] 29) = w6 at *
            generalize wr.heap.size = gx at *
            by_cases hs : c.s = s'
            · have hsb : (c.s.toList == s'.toList) = true := by rw [hs]; simp
              replace hs := Lib.hid hs
              by_cases hf : c.f = f'
              · have hfb : (c.f.toList == f'.toList) = true := by rw [hf]; simp
                replace hf := Lib.hid hf
                by_cases h1a : a ≤ xt
                · by_cases h1b : xt ≤ b
                  · have HQ6 : Hid (q' ++ [⟨xt, ⟨xk, xb, xx⟩⟩] = q ++ fndK c s' f' a b (k + 1)) := Lib.hid (by
                      rw [HNX.out, if_pos ⟨⟨hs.out, hf.out⟩, by unfold inR; simp [h1a, h1b]⟩, ← List.append_assoc, ← HQ'.out])
                    have hq9 : q'.length ≤ 1000000000 := by omega
                    go_wp2_with (at_builtin; refine wpList_append_pn _ rfl (.tmp 112) (.tmp 114) rfl w4.heap.size (.slice qa' q'.length qc') q' ⟨xt, ⟨xk, xb, xx⟩⟩ rfl HO6.out rfl hq9 HX6.out.size ?_; intro ao7 cap7 w7 ho7 hc7; have HO7 := Lib.hid ho7; have HB7 := Lib.hid (HB6.out.trans (hc7.below HB6.out.size (fun _ h => Nat.le_trans HW4.out h))); have HX7 := Lib.hid (HX6.out.trans (hc7.below HX6.out.size (fun _ h => h))); clear ho7 hc7)
                    go_roundg (gk - 1)
                    case measure => go_light; omega
                    case rel =>
                      go_light
                      exact ⟨k + 1, q' ++ [⟨xt, ⟨xk, xb, xx⟩⟩], ao7, cap7, by omega, by go_num, by rw [List.length_append]; rfl, HQ6, Lib.hid (by rw [List.length_append]; exact HO7.out), HX7, HB7⟩
                  · have HQ6 : Hid (q' = q ++ fndK c s' f' a b (k + 1)) := Lib.hid (by rw [HNX.out, if_neg (fun e => by have h := e.2; unfold inR at h; simp [h1b] at h), List.append_nil, ← HQ'.out])
                    go_wp2_with fail
                    go_roundg (gk - 1)
                    case measure => go_light; omega
                    case rel =>
                      go_light
                      exact ⟨k + 1, q', qa', qc', by omega, by go_num, rfl, HQ6, HO6, HX6, HB6⟩
                · have HQ6 : Hid (q' = q ++ fndK c s' f' a b (k + 1)) := Lib.hid (by rw [HNX.out, if_neg (fun e => by have h := e.2; unfold inR at h; simp [h1a] at h), List.append_nil, ← HQ'.out])
                  go_wp2_with fail
                  go_roundg (gk - 1)
                  case measure => go_light; omega
                  case rel =>
                    go_light
                    exact ⟨k + 1, q', qa', qc', by omega, by go_num, rfl, HQ6, HO6, HX6, HB6⟩
              · have hfb : (c.f.toList == f'.toList) = false := beq_eq_false_iff_ne.2 (fun e => hf (ba_ext e))
                have HQ6 : Hid (q' = q ++ fndK c s' f' a b (k + 1)) := Lib.hid (by rw [HNX.out, if_neg (fun e => hf e.1.2), List.append_nil, ← HQ'.out])
                clear hf
                go_wp2_with fail
                go_roundg (gk - 1)
                case measure => go_light; omega
                case rel =>
                  go_light
                  exact ⟨k + 1, q', qa', qc', by omega, by go_num, rfl, HQ6, HO6, HX6, HB6⟩
            · have hsb : (c.s.toList == s'.toList) = false := beq_eq_false_iff_ne.2 (fun e => hs (ba_ext e))
              have HQ6 : Hid (q' = q ++ fndK c s' f' a b (k + 1)) := Lib.hid (by rw [HNX.out, if_neg (fun e => hs e.1.1), List.append_nil, ← HQ'.out])
              clear hs
              go_wp2_with fail
              go_roundg (gk - 1)
              case measure => go_light; omega
              case rel =>
                go_light
                exact ⟨k + 1, q', qa', qc', by omega, by go_num, rfl, HQ6, HO6, HX6, HB6⟩
  · have hb0 : bs = [] := by
      have h := HE.out
      unfold encL at h
      split at h
      · split at h
        · simp only [Prod.mk.injEq] at h; exact h.1.symm
        · simp only [Prod.mk.injEq] at h; exact absurd h.2.symm h0
      · simp only [Prod.mk.injEq] at h; exact h.1.symm
    subst hb0
    have heI : ((ee : Int) != 0) = true := by simp; omega
    rw [show ([] : List UInt8).length = 0 from rfl]
    have hcv := Lib.run_convert_bytes_const (P := Tryd.prog) w2 33 5 #[.int .u8 120] 1 1 Tryd.underlying33 Tryd.underlying5
    have HB3 := Lib.hid (HB2.out.alloc HB2.out.size (.cells #[.int .u8 120] 5 (1, 2)))
    go_wp2_with (first
      | (at_builtin; refine wpList_append_zero _ rfl _ _ rfl _ 1 rfl ao2 cap2 rfl ?_)
      | (go_at_call 10; refine (findx_any _ _ s f a b _).mono ?_; rintro _ w4 ⟨rfl, hb4⟩; have HB4 := Lib.hid (HB3.out.trans (hb4.mono HB3.out.size)); clear hb4))
    go_ret
    exact ⟨rfl, HB4.out⟩
theorem fileFinds_walk {H : Type} (enc : TypeId × Value → H) (W : World) (base : Nat) (v0 v1 v2 v3 v4 v5 : Value) (d0 d1 d2 d3 d4 d5 : DataW H) (p0 p1 p2 p3 p4 p5 : List MemPlace)
    (o0 : Value.okWide Tryd.prog W .any base 32 v0) (o1 : Value.okWide Tryd.prog W .any base 9 v1) (o2 : Value.okWide Tryd.prog W .any base 9 v2) (o3 : Value.okWide Tryd.prog W .any base 2 v3) (o4 : Value.okWide Tryd.prog W .any base 2 v4) (o5 : Value.okWide Tryd.prog W .any base 3 v5)
    (t0 : DataW.Trod enc Tryd.prog W 0 (fun _ => true) true 32 v0 d0 p0) (t1 : DataW.Trod enc Tryd.prog W 0 (fun _ => true) true 9 v1 d1 p1) (t2 : DataW.Trod enc Tryd.prog W 0 (fun _ => true) true 9 v2 d2 p2) (t3 : DataW.Trod enc Tryd.prog W 0 (fun _ => true) true 2 v3 d3 p3) (t4 : DataW.Trod enc Tryd.prog W 0 (fun _ => true) true 2 v4 d4 p4) (t5 : DataW.Trod enc Tryd.prog W 0 (fun _ => true) true 3 v5 d5 p5)
    (hsz : (DataW.weightsEach Tryd.prog [32, 9, 9, 2, 2, 3] [d0, d1, d2, d3, d4, d5]).all (· ≤ reachBytes) = true) (ht : Tab W) :
    Calls Tryd.prog 4 #[v0, v1, v2, v3, v4, v5] W fun e W' => e = .returned (.bool true) ∧ Below W.heap.size W W' := by
  obtain ⟨s, rfl, rfl, rfl, _⟩ := Go.ChangeMaps.open_string Tryd.underlying9 o1 t1
  obtain ⟨f, rfl, rfl, rfl, _⟩ := Go.ChangeMaps.open_string Tryd.underlying9 o2 t2
  obtain ⟨a3, rfl, rfl, rfl, w3⟩ := open_int Tryd.underlying2 o3 t3
  obtain ⟨a4, rfl, rfl, rfl, w4⟩ := open_int Tryd.underlying2 o4 t4
  obtain ⟨a5, rfl, rfl, rfl, w5⟩ := open_int Tryd.underlying3 o5 t5
  simp only [DataW.weightsEach, List.all_append, Bool.and_eq_true] at hsz
  obtain ⟨cs, hc, hl, hp, hok⟩ := open_cols o0 t0 hsz.1
  exact fileFinds_run cs v0 s f a3 a4 a5 W hl hp hok (wf_i64' w5) ht hc
end Go.Proofs.YthcgalpabjjkoaaDoor

/- XLawFileFinds: The statement 'FileFindsCardSaid', out of its walk 'fileFinds_walk': the frame of a tied card: the table of math/bits reads as it is laid. Conditions: none beyond the form's own reach. -/
namespace Go.Proofs.YthcgalpabjjkoaaDoor.lawFileFinds
open Go.ChangeShapes Go.WideShapes Go.ChangeAt Go.RowKit
set_option linter.unusedVariables false
theorem own : ownKnob Tryd.prog.godebug = none := by kernel_rfl
theorem laidOut : laidOutB Tryd.prog = true := by kernel_rfl
theorem laid_met (os : Os) : laidMet Tryd.prog Rows.fileFindsRow.laid ((laidWorld os).forCall (fun _ _ => 0) ⟨#[], #[.slice none 0 0, .string .empty, .string .empty, .int .i64 0, .int .i64 0, .int .i64 0], []⟩).memory :=
  laidMet_of_run' 8 (by kernel_rfl) (by kernel_rfl)
theorem reads (os : Os) {H : Type} (enc : TypeId × Value → H) : ∃ places, DataW.whole enc Tryd.prog ((laidWorld os).forCall (fun _ _ => 0) ⟨#[], #[.slice none 0 0, .string .empty, .string .empty, .int .i64 0, .int .i64 0, .int .i64 0], []⟩).memory Tryd.f4.params.toList Rows.fileFindsSpec.vars false (#[.slice none 0 0, .string .empty, .string .empty, .int .i64 0, .int .i64 0, .int .i64 0] : Array Value).toList 8 = some ([.nil, .lit (.string []), .lit (.string []), .lit (.int .i64 0), .lit (.int .i64 0), .lit (.int .i64 0)], [], places) :=
  ⟨[], by kernel_rfl⟩
set_option maxRecDepth 100000 in
theorem lifted (os : Os) (started : os.Started) (H : Type) (enc : TypeId × Value → H) (F : Stop.Interp) :
    ReturnsInHanded {} Tryd.checked os 4 .any ((OpenSpec.ofChange Rows.fileFindsSpec).preRow enc Tryd.prog Tryd.f4 Rows.fileFindsRow.domain false Rows.fileFindsRow.laid) (((OpenSpec.ofChange Rows.fileFindsSpec).at F).post enc Tryd.prog Tryd.f4 false true false false) := by
  obtain ⟨places, hx⟩ := reads os enc
  refine returnsInHanded_of_row (C := Tryd.checked) (s := OpenSpec.ofChange Rows.fileFindsSpec) own started (by kernel_rfl) Tryd.func4
    (witness_row_at (enc := enc) (C := Tryd.checked) false (laidWorld os) #[.slice none 0 0, .string .empty, .string .empty, .int .i64 0, .int .i64 0, .int .i64 0] rfl (by kernel_rfl) (by kernel_rfl) (by kernel_rfl)
      (OpenSpec.preRow_of_cond 8 hx (by kernel_rfl) (fun k hk => by cases hk) (by kernel_rfl) (laid_met os))) ?_
  intro W base args ds gs before hval0 hW _ hcnd hsz0 hL _ _
  have hval : ∀ (j : Nat) t v, Tryd.f4.params[j]? = some t → args[j]? = some v → Value.okWide Tryd.prog W .any base t v := hval0
  have hsz : (DataW.weightsEach Tryd.prog (Tryd.f4.params.toList ++ (OpenSpec.ofChange Rows.fileFindsSpec).bare.plain.varTypes Tryd.prog) (ds ++ gs)).all (· ≤ reachBytes) = true := hsz0
  have hW' := hW
  obtain ⟨p, q, hA0, hV, rfl, hfz, hnd⟩ := hW
  have hA : DataW.TrodAll enc Tryd.prog W 0 (fun _ => true) true Tryd.f4.params.toList args.toList ds p := hA0
  rw [Tryd.params4] at hA hval hsz
  obtain ⟨v0, vs0, d0, ds0, p0, q0, hargs, rfl, rfl, t0, r0⟩ := trodAll_cons hA
  obtain ⟨v1, vs1, d1, ds1, p1, q1, rfl, rfl, rfl, t1, r1⟩ := trodAll_cons r0
  obtain ⟨v2, vs2, d2, ds2, p2, q2, rfl, rfl, rfl, t2, r2⟩ := trodAll_cons r1
  obtain ⟨v3, vs3, d3, ds3, p3, q3, rfl, rfl, rfl, t3, r3⟩ := trodAll_cons r2
  obtain ⟨v4, vs4, d4, ds4, p4, q4, rfl, rfl, rfl, t4, r4⟩ := trodAll_cons r3
  obtain ⟨v5, vs5, d5, ds5, p5, q5, rfl, rfl, rfl, t5, r5⟩ := trodAll_cons r4
  obtain ⟨rfl, rfl, rfl⟩ := trodAll_nil r5
  obtain rfl : args = #[v0, v1, v2, v3, v4, v5] := by cases args; simp_all
  obtain ⟨rfl, rfl⟩ := trodVars_none hV
  have lt0 : ∀ x ∈ p0, x.block < W.heap.size := by obtain ⟨m, hm⟩ := t0; exact DataW.trod_lt m _ _ _ hm
  have lt1 : ∀ x ∈ p1, x.block < W.heap.size := by obtain ⟨m, hm⟩ := t1; exact DataW.trod_lt m _ _ _ hm
  have lt2 : ∀ x ∈ p2, x.block < W.heap.size := by obtain ⟨m, hm⟩ := t2; exact DataW.trod_lt m _ _ _ hm
  have lt3 : ∀ x ∈ p3, x.block < W.heap.size := by obtain ⟨m, hm⟩ := t3; exact DataW.trod_lt m _ _ _ hm
  have lt4 : ∀ x ∈ p4, x.block < W.heap.size := by obtain ⟨m, hm⟩ := t4; exact DataW.trod_lt m _ _ _ hm
  have lt5 : ∀ x ∈ p5, x.block < W.heap.size := by obtain ⟨m, hm⟩ := t5; exact DataW.trod_lt m _ _ _ hm
  have hsz2 : (DataW.weightsEach Tryd.prog [32, 9, 9, 2, 2, 3] [d0, d1, d2, d3, d4, d5]).all (· ≤ reachBytes) = true := hsz
  refine (fileFinds_walk enc W base v0 v1 v2 v3 v4 v5 d0 d1 d2 d3 d4 d5 p0 p1 p2 p3 p4 p5 (hval 0 32 v0 rfl rfl) (hval 1 9 v1 rfl rfl) (hval 2 9 v2 rfl rfl) (hval 3 2 v3 rfl rfl) (hval 4 2 v4 rfl rfl) (hval 5 3 v5 rfl rfl) t0 t1 t2 t3 t4 t5 hsz2 (tab_of hL)).mono fun e W' ⟨he, bel⟩ => ?_
  subst he
  exact ⟨_, rfl, _, _, _, [], _, [], hW', trodAll_mk1 (shut_bool Tryd.underlying4 _), (trodAll_cons_mk (Below.trod laidOut (by kernel_rfl) (of_decide_eq_true (by kernel_rfl)) t0 bel lt0) (trodAll_cons_mk (Below.trod laidOut (by kernel_rfl) (of_decide_eq_true (by kernel_rfl)) t1 bel lt1) (trodAll_cons_mk (Below.trod laidOut (by kernel_rfl) (of_decide_eq_true (by kernel_rfl)) t2 bel lt2) (trodAll_cons_mk (Below.trod laidOut (by kernel_rfl) (of_decide_eq_true (by kernel_rfl)) t3 bel lt3) (trodAll_cons_mk (Below.trod laidOut (by kernel_rfl) (of_decide_eq_true (by kernel_rfl)) t4 bel lt4) (trodAll_cons_mk (Below.trod laidOut (by kernel_rfl) (of_decide_eq_true (by kernel_rfl)) t5 bel lt5) trodAll_mk0)))))), rfl, bel.frame _, fun h => by cases h⟩
theorem said : Rows.FileFindsSaid :=
  OpenClaim.holds_of_cond 4 Tryd.f4 rfl rfl rfl rfl rfl rfl rfl ⟨rfl, rfl, rfl, rfl, rfl⟩ rfl rfl rfl rfl rfl (by kernel_rfl) Tryd.func4 (by kernel_rfl)
    (of_decide_eq_true (by kernel_rfl)) (by unfold Func.isWrapper; first | (rw [if_pos (by decide +kernel)]; kernel_rfl) | (rw [if_neg (by decide +kernel)]; exact ⟨rfl, rfl⟩))
    (fun os started H enc _ F => by rw [OpenClaim.pre_eq_preRow]; exact lifted os started H enc F)
theorem plain (f : FuncId) (fn : Func) (hf : Tryd.pinned.checked.prog.funcNamed "grist/gristlaw12.FileFinds" = some f) (hfn : Tryd.pinned.checked.prog.funcs[f]? = some fn) :
    false = Tryd.pinned.checked.prog.looks [] ∧ ∀ (j : Nat) t, fn.params[j]? = some t → Tryd.pinned.checked.prog.wantsStandIn t = false := by
  obtain rfl : f = 4 := Option.some.inj ((show Tryd.prog.funcNamed "grist/gristlaw12.FileFinds" = some 4 by kernel_rfl).symm.trans hf) |>.symm
  obtain rfl : fn = Tryd.f4 := (Option.some.inj (Tryd.func4.symm.trans hfn)).symm
  refine ⟨by kernel_rfl, fun j t ht => ?_⟩
  rw [Tryd.params4] at ht
  have hm : t ∈ [32, 9, 9, 2, 2, 3] := by simpa using Array.mem_of_getElem? ht
  have hall : ([32, 9, 9, 2, 2, 3].all fun u => !Tryd.prog.wantsStandIn u) = true := by kernel_rfl
  exact (show Tryd.prog.wantsStandIn t = false by simpa using List.all_eq_true.1 hall t hm)
theorem proved : Rows.FileFindsCardSaid :=
  Claim7.holds_tied_plain_at .later [] _ _ _ _ said (fun _ h => by cases h) (by kernel_rfl) (fun _ h => by cases h) fileFinds_row_tie rfl ⟨rfl, rfl⟩ (by kernel_rfl) rfl plain (by kernel_rfl)
#print axioms proved
end Go.Proofs.YthcgalpabjjkoaaDoor.lawFileFinds
