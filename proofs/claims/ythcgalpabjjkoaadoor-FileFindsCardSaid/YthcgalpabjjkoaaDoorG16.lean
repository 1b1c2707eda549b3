/- Texts of ours, behind one another: FEnc12, Awake12. No conditions but those that each states. -/
import Derived.Test.YthcgalpabjjkoaaDoorG1
import Derived.Test.YthcgalpabjjkoaaDoorG14
import Derived.Test.YthcgalpabjjkoaaDoorG13
import Derived.Test.YthcgalpabjjkoaaDoorG11
import Derived.Test.YthcgalpabjjkoaaDoorG10
import Derived.Lib.SlBytesConst
import Derived.Laws.Cover1
/- XFEnc12: file.Encode. -/
namespace Go.Proofs.YthcgalpabjjkoaaDoor
open Go.RowKit
set_option linter.unusedVariables false
set_option maxRecDepth 100000

theorem idx0 (a b : ByteArray) (w : World) : (Instr.index 47 (.agg #[.string a, .string b]) (.int .i64 0)).run Tryd.prog w = .ok (.string a) w := by
  simp [Instr.index, run_underlying Tryd.underlying47, asIntOf, go_sem]
theorem idx1 (a b : ByteArray) (w : World) : (Instr.index 47 (.agg #[.string a, .string b]) (.int .i64 1)).run Tryd.prog w = .ok (.string b) w := by
  simp [Instr.index, run_underlying Tryd.underlying47, asIntOf, go_sem]

@[reducible, go_sem] def opFEnc120 : Oper := { dst := some 73, op := Op.move (Operand.tmp 5), type := 33, pos := "file.go:61", after := #[], guard := none }
@[reducible, go_sem] def opFEnc121 : Oper := { dst := some 74, op := Op.move (Operand.tmp 12), type := 24, pos := "file.go:61", after := #[], guard := none }
@[reducible, go_sem] def opFEnc122 : Oper := { dst := some 75, op := Op.indexAddr 24 (Operand.tmp 74) (Operand.const (Value.int IntKind.i64 0)), type := 0, pos := "file.go:61", after := #[{ on := 1, ground := Ground.data }], guard := none }
@[reducible, go_sem] def opFEnc123 : Oper := { dst := some 76, op := Op.fieldAddr 29 (Operand.tmp 75) 0, type := 0, pos := "file.go:61", after := #[{ on := 2, ground := Ground.data }], guard := none }
@[reducible, go_sem] def opFEnc124 : Oper := { dst := some 77, op := Op.load 2 (Operand.tmp 76), type := 2, pos := "file.go:61", after := #[{ on := 3, ground := Ground.data }], guard := none }
@[reducible, go_sem] def opFEnc125 : Oper := { dst := some 78, op := Op.convert 2 25 (Operand.tmp 77), type := 25, pos := "file.go:61", after := #[{ on := 4, ground := Ground.data }], guard := none }
@[reducible, go_sem] def opFEnc126 : Oper := { dst := some 80, op := Op.move (Operand.tmp 12), type := 24, pos := "file.go:61", after := #[], guard := none }
@[reducible, go_sem] def opFEnc127 : Oper := { dst := some 81, op := Op.move (Operand.tmp 12), type := 24, pos := "file.go:61", after := #[], guard := none }
@[reducible, go_sem] def opFEnc128 : Oper := { dst := some 82, op := Op.call { callee := Callee.builtin Builtin.len, args := #[Operand.tmp 81], argTypes := #[24] }, type := 3, pos := "file.go:61", after := #[{ on := 8, ground := Ground.data }], guard := none }
@[reducible, go_sem] def opFEnc129 : Oper := { dst := some 83, op := Op.binOp BinOp.sub 3 (Operand.tmp 82) (Operand.const (Value.int IntKind.i64 1)) 3, type := 3, pos := "file.go:61", after := #[{ on := 9, ground := Ground.data }], guard := none }
@[reducible, go_sem] def opFEnc1210 : Oper := { dst := some 84, op := Op.indexAddr 24 (Operand.tmp 80) (Operand.tmp 83), type := 0, pos := "file.go:61", after := #[{ on := 7, ground := Ground.data }, { on := 10, ground := Ground.data }], guard := none }
@[reducible, go_sem] def opFEnc1211 : Oper := { dst := some 85, op := Op.fieldAddr 29 (Operand.tmp 84) 0, type := 0, pos := "file.go:61", after := #[{ on := 11, ground := Ground.data }], guard := none }
@[reducible, go_sem] def opFEnc1212 : Oper := { dst := some 86, op := Op.load 2 (Operand.tmp 85), type := 2, pos := "file.go:61", after := #[{ on := 12, ground := Ground.data }], guard := none }
@[reducible, go_sem] def opFEnc1213 : Oper := { dst := some 87, op := Op.convert 2 25 (Operand.tmp 86), type := 25, pos := "file.go:61", after := #[{ on := 13, ground := Ground.data }], guard := none }
@[reducible, go_sem] def opFEnc1214 : Oper := { dst := some 79, op := Op.call { callee := Callee.value (Operand.func 13), args := #[Operand.tmp 73, Operand.tmp 78, Operand.const (Value.int IntKind.i64 8)], argTypes := #[33, 25, 3] }, type := 33, pos := "file.go:61", after := #[{ on := 0, ground := Ground.data }, { on := 5, ground := Ground.data }], guard := none }
@[reducible, go_sem] def opFEnc1215 : Oper := { dst := some 88, op := Op.call { callee := Callee.value (Operand.func 13), args := #[Operand.tmp 79, Operand.tmp 87, Operand.const (Value.int IntKind.i64 8)], argTypes := #[33, 25, 3] }, type := 33, pos := "file.go:61", after := #[{ on := 6, ground := Ground.data }, { on := 14, ground := Ground.data }, { on := 6, ground := Ground.chain }], guard := none }
@[reducible, go_sem] def opFEnc1216 : Oper := { dst := some 5, op := Op.assign (Operand.tmp 88), type := 33, pos := "file.go:61", after := #[{ on := 15, ground := Ground.data }, { on := 15, ground := Ground.chain }, { on := 0, ground := Ground.phase }, { on := 1, ground := Ground.phase }, { on := 2, ground := Ground.phase }, { on := 3, ground := Ground.phase }, { on := 4, ground := Ground.phase }, { on := 5, ground := Ground.phase }, { on := 6, ground := Ground.phase }, { on := 7, ground := Ground.phase }, { on := 8, ground := Ground.phase }, { on := 9, ground := Ground.phase }, { on := 10, ground := Ground.phase }, { on := 11, ground := Ground.phase }, { on := 12, ground := Ground.phase }, { on := 13, ground := Ground.phase }, { on := 14, ground := Ground.phase }, { on := 15, ground := Ground.phase }], guard := none }
set_option maxHeartbeats 20000000 in
theorem fencode_any (cs : List Cb) (v : Value) (w : World) (hl : cs.length * 56 ≤ 140737488351232) (hps : ∀ c ∈ cs, c.c.p.length * 40 ≤ 140737488351232) (hok : ∀ c ∈ cs, c.c.ok) (ht : Tab w) (hr : Cols w v cs) :
    Calls Tryd.prog 6 #[v] w fun e w' => FeEnd (cnS cs) w e w' := by
  have hF := fformed_any cs v w hl hps hok hr
  obtain ⟨ao, cap, rfl, hn, hcm⟩ := RdV.shape hr.1
  unfold maxLen at hcm
  have HR := Lib.hid hr
  have HPS := Lib.hid hps
  have HOKS := Lib.hid hok
  have HTB := Lib.hid ht
  clear hr hps hok ht
  obtain ⟨n, hnl⟩ : ∃ n, n = cs.length := ⟨_, rfl⟩
  have HN := Lib.hid hnl
  rw [← hnl] at hn hl hF ⊢
  clear hnl
  cases hfr : frmC (cnS cs) with
  | false =>
    rw [hfr] at hF
    have HE := Lib.hid (encL_bad hfr)
    clear hfr
    go_enter Tryd.func6, Tryd.ntmps6
    go_wp2_with (go_at_call 12; refine hF.mono ?_; rintro _ w1 ⟨rfl, hb1⟩)
    go_ret2
    unfold FeEnd
    rw [HE.out]
    exact ⟨hb1, none, 0, rfl, World.ownsRow_nil _ _ _ _⟩
  | true =>
    rw [hfr] at hF
    have HFR := Lib.hid hfr
    clear hfr
    go_enter Tryd.func6, Tryd.ntmps6
    have HCO := Lib.hid (frmC_count HFR.out)
    go_upto_region 3 with (go_at_call 12; refine hF.mono ?_; rintro _ w1 ⟨rfl, hb1⟩; have HB1 := Lib.hid hb1; clear hb1 hF)
    have hcv := Lib.run_convert_bytes_const (P := Tryd.prog) w1 33 5 #[.int .u8 71, .int .u8 82, .int .u8 83, .int .u8 84, .int .u8 49] 5 5 Tryd.underlying33 Tryd.underlying5
    go_upto_region 4 with fail
    have HM : Hid (Rd (w1.alloc (.cells #[.int .u8 71, .int .u8 82, .int .u8 83, .int .u8 84, .int .u8 49] 5 (5, 6))) (.slice (some ⟨w1.heap.size, 0, none⟩) 5 5) magB) := Lib.hid (RdV.litm w1 #[.int .u8 71, .int .u8 82, .int .u8 83, .int .u8 84, .int .u8 49] 5 (5, 6) 5 1 (by decide) rfl)
    have hgl : w1.heap.size < (w1.alloc (.cells #[.int .u8 71, .int .u8 82, .int .u8 83, .int .u8 84, .int .u8 49] 5 (5, 6))).heap.size := by simp
    have HB2 := Lib.hid (HB1.out.alloc HB1.out.size (.cells #[.int .u8 71, .int .u8 82, .int .u8 83, .int .u8 84, .int .u8 49] 5 (5, 6)))
    have hs1 := HB1.out.size
    clear hcv
    generalize w1.alloc (.cells #[.int .u8 71, .int .u8 82, .int .u8 83, .int .u8 84, .int .u8 49] 5 (5, 6)) = w2 at *
    generalize w1.heap.size = lg at *
    have HD : Hid (Duo w2 w.heap.size (.slice (some ⟨lg, 0, none⟩) magB.length 5) (.slice none 0 0) magB []) := Lib.hid ⟨.inr ⟨lg, rfl, hs1, hgl, HM.out, by decide, by decide⟩, World.ownsRow_nil _ _ _ _, fun k _ e => by cases e⟩
    clear HM hgl hs1 HB1
    go_wp2_with fail
    go_loopg [4, 5, 23] n (fun m s4 s5 s23 wr => ∃ (i : Nat) (o x : List UInt8) (oa : Option Addr) (oc : Nat) (xa : Option Addr) (xc : Nat), i + m = n ∧ s4 = .slice oa o.length oc ∧ s5 = .slice xa x.length xc ∧ s23 = .int .i64 (i : Int) ∧ Hid (((cnS cs).take i).foldl stC (some (magB, [])) = some (o, x)) ∧ Hid (Duo wr w.heap.size (.slice oa o.length oc) (.slice xa x.length xc) o x) ∧ Hid (x = [] → Value.slice xa x.length xc = .slice none 0 0) ∧ Hid (Below w.heap.size w wr))
    case atStart => exact ⟨0, magB, [], _, 5, none, 0, by omega, rfl, rfl, rfl, Lib.hid rfl, HD, Lib.hid (fun _ => rfl), HB2⟩
    case round =>
      obtain ⟨i, o, x, oa, oc, xa, xc, hi, rfl, rfl, rfl, HFO, HDU, HXN, HB⟩ := hrel
      clear HD HB2
      have hin' : i ≤ n := by omega
      have hsm := foldC_small (by rw [cnS_len, ← HN.out]; exact hin') HFO.out
      have hs0 := HB.out.size
      by_cases h0 : gk = 0
      · obtain rfl : i = n := by omega
        have HE : Hid (encL (cnS cs) = (fin o x, 0)) := Lib.hid (encL_ok HFR.out (by have h := HFO.out; rw [List.take_of_length_le (by rw [cnS_len, ← HN.out]; exact Nat.le_refl _)] at h; exact h))
        have hu : IntKind.u64.wrap (o.length : Int) = (o.length : Int) := IntWalk.u64_in _ (by omega)
        clear hi hin' h0
        obtain ⟨E1, hE1⟩ : ∃ E, E = o ++ x := ⟨_, rfl⟩
        obtain ⟨E2, hE2⟩ : ∃ E, E = E1 ++ beN 4 o.length := ⟨_, rfl⟩
        obtain ⟨E3, hE3⟩ : ∃ E, E = E2 ++ beN 4 (crc x) := ⟨_, rfl⟩
        have hl1 : E1.length = o.length + x.length := by rw [hE1, List.length_append]
        have hl2 : E2.length = o.length + x.length + 4 := by rw [hE2, List.length_append, beN_len, hl1]
        have hl3 : E3.length = o.length + x.length + 8 := by rw [hE3, List.length_append, beN_len, hl2]
        have HF3 : Hid (fin o x = E3) := Lib.hid (by rw [hE3, hE2, hE1]; unfold fin; simp only [List.append_assoc])
        replace hE1 := Lib.hid hE1
        replace hE2 := Lib.hid hE2
        replace hE3 := Lib.hid hE3
        replace hl1 := Lib.hid hl1
        replace hl2 := Lib.hid hl2
        replace hl3 := Lib.hid hl3
        have hCR : Hid (crc x < 4294967296) := Lib.hid (crc_lt x)
        have huc : IntKind.u64.wrap (crc x : Int) = (crc x : Int) := IntWalk.u64_in _ (by have := hCR.out; omega)
        go_upto_region 30 with (at_builtin; refine wpList_append_bsE E1 _ rfl _ _ rfl w.heap.size (.slice oa o.length oc) o rfl HDU.out.oo (.slice xa x.length xc) x hE1.out rfl HDU.out.ox.rd HXN.out (by omega) HB.out.size ?_; intro ao5 cap5 w5 hg5; have HD5 := Lib.hid (HDU.out.growO hg5); have HB5 := Lib.hid (HB.out.trans (HDU.out.belowO HB.out.size hg5)); clear hg5)
        have hN5 := numberA_any w.heap.size E1 o.length 4 (by decide) (by decide) (by omega) (by rw [hl1.out]; omega) _ w5 HB5.out.size HD5.out.oo
        have hN6 := fun (v : Value) (w' : World) (h : w.heap.size ≤ w'.heap.size) (h2 : App w' w.heap.size v E2) => numberA_any w.heap.size E2 (crc x) 4 (by decide) (by decide) (by have := hCR.out; omega) (by rw [hl2.out]; omega) v w' h h2
        simp only [show ((4 : Nat) : Int) = 4 from rfl] at hN5 hN6
        simp only [← hE2.out] at hN5
        simp only [← hE3.out] at hN6
        have HSU : Hid (∀ w', Rd w' (.slice xa x.length xc) x → Calls Tryd.prog 17 #[.slice xa x.length xc] w' fun e w'' => e = .returned (.int .u32 (crc x : Int)) ∧ ∃ m, w'' = w'.drewN m) := Lib.hid (fun w' h => sum_any x _ w' h)
        generalize crc x = C at *
        go_wp2_with (first
          | (go_at_call 13; (with_reducible refine hN5.mono ?_); rintro _ w6 ⟨ao6, cap6, rfl, hg6⟩; have HD6 := Lib.hid (HD5.out.growO hg6); have HB6 := Lib.hid (HB5.out.trans (HD5.out.belowO HB5.out.size hg6)); clear hg6 hN5)
          | (go_at_call 17; refine (HSU.out _ HD6.out.ox.rd).mono ?_; rintro _ w7 ⟨rfl, q7, rfl⟩; have HD7 := Lib.hid (show Duo (w6.drewN q7) w.heap.size _ _ _ _ from HD6.out.below (below_dr (Below.refl _ _) q7)); have HB7 := Lib.hid (below_dr HB6.out q7))
          | (go_at_call 13; refine (hN6 _ _ HB7.out.size HD7.out.oo).mono ?_; rintro _ w8 ⟨ao8, cap8, rfl, hg8⟩; have HA8 := Lib.hid hg8.app; have HB8 := Lib.hid (HB7.out.trans (HD7.out.belowO HB7.out.size hg8)); clear hg8))
        go_ret2
        unfold FeEnd
        rw [HE.out]
        dsimp only
        rw [HF3.out]
        refine ⟨HB8.out, ao8, cap8, rfl, ?_⟩
        rcases HA8.out with h | ⟨_, _, _, _, _, h, _⟩
        · exact h
        · have := hl3.out; omega
      · have hin : i < n := by omega
        obtain ⟨lb, lo, lc, he, hlb, f0, f1, f2, hp⟩ := col_at HR.out i (by rw [← HN.out]; exact hin)
        rw [← HN.out] at he
        simp only [Value.slice.injEq, true_and] at he
        obtain ⟨rfl, rfl⟩ := he
        have HCI : Hid ((cs.getD i b0).c = (cnS cs).getD i c0) := Lib.hid (cnS_get cs i (by rw [← HN.out]; exact hin)).symm
        have HIL : Hid (i < (cnS cs).length) := Lib.hid (by rw [cnS_len, ← HN.out]; exact hin)
        obtain ⟨hz1, hz2, hz3, hz4⟩ := frmC_at HFR.out HIL.out
        rw [← HCI.out] at hz1 hz2 hz3 hz4
        have HNX : Hid (((cnS cs).take (i + 1)).foldl stC (some (magB, [])) = stC (some (o, x)) (cs.getD i b0).c) := Lib.hid (by rw [foldC_next HIL.out HFO.out, HCI.out])
        have HOK : Hid (∀ p ∈ (cs.getD i b0).c.p, p.ok) := Lib.hid (HOKS.out _ (getD_mem cs i b0 (by rw [← HN.out]; exact hin)))
        obtain ⟨pb, po, pc, hpv, hpc, hpm, hpb, _⟩ := RdV.some hp (by omega) (by decide)
        rw [hpv] at f2 hp
        have HP := Lib.hid hp
        have g0 := (HB.out.cell (p := ⟨lb, lo + i * 3, none⟩) hlb).trans f0
        have g1 := (HB.out.cell (p := ⟨lb, lo + i * 3 + 1, none⟩) hlb).trans f1
        have g2 := (HB.out.cell (p := ⟨lb, lo + i * 3 + 2, none⟩) hlb).trans f2
        clear f0 f1 f2 hp hpv
        generalize (cs.getD i b0).c = c at *
        obtain ⟨pn, hpn⟩ : ∃ pn, pn = c.p.length := ⟨_, rfl⟩
        have HPN := Lib.hid hpn
        rw [← hpn] at g2 hpc hz3 hz4
        clear hpn
        have HIN := Lib.hid hin
        go_upto_region 8 with fail
        have k0 : (wr.alloc (.cells #[.string c.s, .string c.f, .slice (some ⟨pb, po, none⟩) pn pc] 31)).cell? ⟨wr.heap.size, 0, none⟩ = some (.string c.s) := by simp [go_sem]
        have k1 : (wr.alloc (.cells #[.string c.s, .string c.f, .slice (some ⟨pb, po, none⟩) pn pc] 31)).cell? ⟨wr.heap.size, 1, none⟩ = some (.string c.f) := by simp [go_sem]
        have k2 : (wr.alloc (.cells #[.string c.s, .string c.f, .slice (some ⟨pb, po, none⟩) pn pc] 31)).cell? ⟨wr.heap.size, 2, none⟩ = some (.slice (some ⟨pb, po, none⟩) pn pc) := by simp [go_sem]
        have HB1 := Lib.hid (HB.out.alloc HB.out.size (.cells #[.string c.s, .string c.f, .slice (some ⟨pb, po, none⟩) pn pc] 31))
        have HDQ := Lib.hid (HDU.out.withNew ((Below.refl _ _).alloc (Nat.le_refl _) (.cells #[.string c.s, .string c.f, .slice (some ⟨pb, po, none⟩) pn pc] 31)) (Nat.le_refl _) (by simp))
        clear g0 g1 g2 HDU HB
        generalize wr.alloc (.cells #[.string c.s, .string c.f, .slice (some ⟨pb, po, none⟩) pn pc] 31) = w3 at *
        generalize wr.heap.size = g at *
        go_wp2_with fail
        have hus : IntKind.u64.wrap (c.s.size : Int) = (c.s.size : Int) := IntWalk.u64_in _ (by omega)
        have huf : IntKind.u64.wrap (c.f.size : Int) = (c.f.size : Int) := IntWalk.u64_in _ (by omega)
        generalize gk = gO at *
        generalize wr = wO at *
        clear k0 k1
        have hx0 := idx0 c.s c.f
        have hx1 := idx1 c.s c.f
        go_loopg [5, 32] 2 (fun m s5 s32 wz => ∃ (y : List UInt8) (ya : Option Addr) (yc : Nat), s5 = .slice ya y.length yc ∧ Hid (DuoQ wz w.heap.size g (.slice oa o.length oc) (.slice ya y.length yc) o y) ∧ Hid (Below w.heap.size w wz) ∧ wz.cell? ⟨g, 2, none⟩ = some (.slice (some ⟨pb, po, none⟩) pn pc) ∧ ((m = 2 ∧ s32 = .int .i64 0 ∧ Hid (y = x)) ∨ (m = 1 ∧ s32 = .int .i64 1 ∧ Hid (y = x ++ (beN 2 c.s.toList.length ++ c.s.toList))) ∨ (m = 0 ∧ s32 = .int .i64 2 ∧ Hid (y = x ++ (beN 2 c.s.toList.length ++ c.s.toList) ++ (beN 2 c.f.toList.length ++ c.f.toList)))))
        case atStart => exact ⟨x, xa, xc, rfl, HDQ, HB1, k2, .inl ⟨rfl, rfl, Lib.hid rfl⟩⟩
        case round =>
          clear HDQ HB1 k2
          obtain ⟨y, ya, yc, rfl, HDQ, HB, k2, ⟨rfl, rfl, HY⟩ | ⟨rfl, rfl, HY⟩ | ⟨rfl, rfl, HY⟩⟩ := hrel
          · skip
            have hy : y.length ≤ 1073741824 + 0 := by rw [HY.out]; omega
            obtain ⟨z1, hz1'⟩ : ∃ z, z = y ++ beN 2 c.s.size := ⟨_, rfl⟩
            obtain ⟨z2, hz2'⟩ : ∃ z, z = z1 ++ c.s.toList := ⟨_, rfl⟩
            have hzl : z1.length ≤ 1073741824 + 0 + 2 := by rw [hz1', List.length_append, beN_len]; omega
            have HZ : Hid (z2 = x ++ (beN 2 c.s.toList.length ++ c.s.toList)) := Lib.hid (by rw [hz2', hz1', HY.out]; simp only [List.append_assoc, toList_len])
            have hN := number_any w.heap.size y c.s.size 2 (by decide) (by decide) (by omega) (by omega) _ wr HB.out.size HDQ.out.d.ox
            simp only [show ((2 : Nat) : Int) = 2 from rfl, ← hz1'] at hN
            replace hz1' := Lib.hid hz1'
            replace hz2' := Lib.hid hz2'
            replace hzl := Lib.hid hzl
            clear hy
            go_wp2_with (first | (go_at_call 13; refine hN.mono ?_; rintro _ w5 ⟨ao5, cap5, rfl, hg5⟩; have HD5 := Lib.hid (HDQ.out.growX hg5); have HB5 := Lib.hid (HB.out.trans (HDQ.out.d.belowX HB.out.size hg5)); have k5 := (HDQ.out.cellX hg5 2).trans k2; clear hg5 hN) | (at_builtin; refine wpList_append_strE z2 _ rfl _ _ rfl w.heap.size (.slice ao5 z1.length cap5) z1 rfl HD5.out.d.ox c.s hz2'.out rfl (by have := hzl.out; omega) HB5.out.size ?_; intro ao6 cap6 w6 hg6; have HD6 := Lib.hid (HD5.out.growX hg6); have HB6 := Lib.hid (HB5.out.trans (HD5.out.d.belowX HB5.out.size hg6)); have k6 := (HD5.out.cellX hg6 2).trans k5; clear hg6))
            go_roundg 1
            case measure => go_light; omega
            case rel =>
              go_light
              exact ⟨z2, ao6, cap6, rfl, HD6, HB6, k6, .inr (.inl ⟨rfl, rfl, HZ⟩)⟩
          · skip
            have hy : y.length ≤ 1073741824 + 4002 := by rw [HY.out]; simp only [List.length_append, beN_len, toList_len]; omega
            obtain ⟨z1, hz1'⟩ : ∃ z, z = y ++ beN 2 c.f.size := ⟨_, rfl⟩
            obtain ⟨z2, hz2'⟩ : ∃ z, z = z1 ++ c.f.toList := ⟨_, rfl⟩
            have hzl : z1.length ≤ 1073741824 + 4002 + 2 := by rw [hz1', List.length_append, beN_len]; omega
            have HZ : Hid (z2 = x ++ (beN 2 c.s.toList.length ++ c.s.toList) ++ (beN 2 c.f.toList.length ++ c.f.toList)) := Lib.hid (by rw [hz2', hz1', HY.out]; simp only [List.append_assoc, toList_len])
            have hN := number_any w.heap.size y c.f.size 2 (by decide) (by decide) (by omega) (by omega) _ wr HB.out.size HDQ.out.d.ox
            simp only [show ((2 : Nat) : Int) = 2 from rfl, ← hz1'] at hN
            replace hz1' := Lib.hid hz1'
            replace hz2' := Lib.hid hz2'
            replace hzl := Lib.hid hzl
            clear hy
            go_wp2_with (first | (go_at_call 13; refine hN.mono ?_; rintro _ w5 ⟨ao5, cap5, rfl, hg5⟩; have HD5 := Lib.hid (HDQ.out.growX hg5); have HB5 := Lib.hid (HB.out.trans (HDQ.out.d.belowX HB.out.size hg5)); have k5 := (HDQ.out.cellX hg5 2).trans k2; clear hg5 hN) | (at_builtin; refine wpList_append_strE z2 _ rfl _ _ rfl w.heap.size (.slice ao5 z1.length cap5) z1 rfl HD5.out.d.ox c.f hz2'.out rfl (by have := hzl.out; omega) HB5.out.size ?_; intro ao6 cap6 w6 hg6; have HD6 := Lib.hid (HD5.out.growX hg6); have HB6 := Lib.hid (HB5.out.trans (HD5.out.d.belowX HB5.out.size hg6)); have k6 := (HD5.out.cellX hg6 2).trans k5; clear hg6))
            go_roundg 0
            case measure => go_light; omega
            case rel =>
              go_light
              exact ⟨z2, ao6, cap6, rfl, HD6, HB6, k6, .inr (.inr ⟨rfl, rfl, HZ⟩)⟩
          · clear hus huf
            have HYL : Hid (y.length ≤ x.length + 8004) := Lib.hid (by rw [HY.out]; simp only [List.length_append, beN_len, toList_len]; omega)
            obtain ⟨W4, hW4⟩ : ∃ W, W = (wr.alloc (.cells #[.slice (some ⟨pb, po, none⟩) pn pc] 24)).alloc (.cells #[.int .i64 1000] 3) := ⟨_, rfl⟩
            have hCH := chunk_any (some ⟨pb, po, none⟩) pn pc wr
            have HB4 : Below wr.heap.size wr W4 := by rw [hW4]; exact ((Below.refl _ _).alloc (Nat.le_refl _) _).alloc (by simp) _
            have hCO := collect_any wr.heap.size (wr.heap.size + 1) pb po pn pc (by omega) hpc W4 (Nat.lt_of_lt_of_le hpb (Nat.le_trans HB.out.size HB4.size)) (by rw [hW4]; simp; try omega) (by rw [hW4]; simp) (by rw [hW4]; simp [go_sem]) (by rw [hW4]; simp [go_sem])
            rw [← hW4] at hCH
            replace HB4 := Lib.hid HB4
            clear hW4
            have hwq := Nat.le_refl wr.heap.size
            obtain ⟨g4, hg4⟩ : ∃ g, g = wr.heap.size := ⟨_, rfl⟩
            rw [← hg4] at hCH hCO
            clear hg4 hwq
            obtain ⟨np, hnp⟩ : ∃ k, k = nParts pn := ⟨_, rfl⟩
            have hnp1 : 1 ≤ np := by rw [hnp]; unfold nParts; omega
            have hnp2 : np ≤ 1000 := by rw [hnp]; unfold nParts; omega
            rw [← hnp] at hCO
            replace hnp := Lib.hid hnp
            go_upto_region 14 with (first
              | (go_at_call 15; refine hCH.mono ?_; rintro _ _ ⟨rfl, rfl⟩; clear hCH)
              | (go_at_call 14; refine hCO.mono ?_; rintro _ w5 ⟨v5, rfl, ho5, hb5⟩; obtain ⟨q, qo, qc, rfl, hqc, hqm, hq, hqcell⟩ := RdV.some (RdV.ofOwns ho5) hnp1 (by decide); have hql := (World.ownsRow.lt ho5 q rfl).1; have HQ := Lib.hid (RdV.ofOwns ho5); have HB5 := Lib.hid (HB4.out.trans (hb5.mono HB4.out.size)); have HDQ5 := Lib.hid (HDQ.out.d.withNew HB5.out (Nat.le_trans HB4.out.size hql) hq); have HB0 := Lib.hid (HB.out.trans (HB5.out.mono HB.out.size)); clear ho5 hb5 hqcell hCO hql))
            clear hx0 hx1 k2
            have hunp : IntKind.u64.wrap (np : Int) = (np : Int) := IntWalk.u64_in _ (by omega)
            obtain ⟨X0, hX0⟩ : ∃ z, z = y ++ beN 4 np := ⟨_, rfl⟩
            have HX0 : Hid (X0 = x ++ hdC c) := Lib.hid (by rw [hX0, HY.out, hnp.out, HPN.out]; unfold hdC; simp only [List.append_assoc])
            have hN := number_any w.heap.size y np 4 (by decide) (by decide) (by omega) (by have := HYL.out; omega) _ w5 HB0.out.size HDQ5.out.d.ox
            simp only [show ((4 : Nat) : Int) = 4 from rfl, ← hX0] at hN
            clear hX0
            go_wp2_with (go_at_call 13; refine hN.mono ?_; rintro _ w6 ⟨ao6, cap6, rfl, hg6⟩; have HDQ6 := Lib.hid (HDQ5.out.growX hg6); have HB6 := Lib.hid (HB0.out.trans (HDQ5.out.d.belowX HB0.out.size hg6)); have HQ6 := Lib.hid (RdV.chgLit HQ.out hg6.chg HDQ5.out.nx); clear hg6 hN)
            go_loopg [4, 5, 54] np (fun m s4 s5 s54 wz => ∃ (j : Nat) (o' x' : List UInt8) (oa' : Option Addr) (oc' : Nat) (xa' : Option Addr) (xc' : Nat), j + m = np ∧ s4 = .slice oa' o'.length oc' ∧ s5 = .slice xa' x'.length xc' ∧ s54 = .int .i64 (j : Int) ∧ Hid (((partsP c.p).take j).foldl stP (some (o, x ++ hdC c)) = some (o', x')) ∧ Hid (DuoQ wz w.heap.size q (.slice oa' o'.length oc') (.slice xa' x'.length xc') o' x') ∧ Hid (Below w.heap.size w wz) ∧ Hid (RdV wz 1 (Value.slice (some ⟨q, qo, none⟩) np qc) np (List.map (enP pb po pn) (List.range np))))
            case atStart => exact ⟨0, o, X0, oa, oc, ao6, cap6, by omega, rfl, rfl, rfl, Lib.hid (by rw [HX0.out]; rfl), HDQ6, HB6, HQ6⟩
            case round =>
              clear HDQ6 HB6 HQ6 HDQ5 HB5 HB0 HQ HDQ HB
              obtain ⟨j, o', x', oa', oc', xa', xc', hj, rfl, rfl, rfl, HFP, HDR, HBR, HQR⟩ := hrel
              have hjn : j ≤ np := by omega
              obtain ⟨hol, hxl⟩ := foldP_len HFP.out (by rw [← HPN.out, ← hnp.out]; exact hjn) (by omega)
              rw [toList_len, toList_len] at hxl
              have hxb : x'.length < 2000000000 := by omega
              replace hxl := Lib.hid hxl
              by_cases h1 : gk = 0
              · obtain rfl : j = np := by omega
                have HFW : Hid ((partsP c.p).foldl stP (some (o, x ++ hdC c)) = some (o', x')) := Lib.hid (by have h := HFP.out; rw [List.take_of_length_le (by rw [partsP_len, ← HPN.out, ← hnp.out]; exact Nat.le_refl _)] at h; exact h)
                clear hj hjn h1 hunp
                by_cases hbig : 1073741824 ≤ o'.length + x'.length + 8
                · have hbI : (1073741824 : Int) ≤ (o'.length : Int) + (x'.length : Int) + 8 := by omega
                  have HE : Hid (encL (cnS cs) = ([], 4)) := Lib.hid (encL_long HFR.out (foldC_take_none (k := i + 1) (by rw [HNX.out]; unfold stC; dsimp only; rw [HFW.out]; dsimp only; rw [if_pos hbig])))
                  clear hbig hxl
                  go_wp2_with fail
                  go_ret2
                  unfold FeEnd
                  rw [HE.out]
                  exact ⟨HBR.out, none, 0, rfl, World.ownsRow_nil _ _ _ _⟩
                · have hbI : ¬ (1073741824 : Int) ≤ (o'.length : Int) + (x'.length : Int) + 8 := by omega
                  have HNX2 : Hid (((cnS cs).take (i + 1)).foldl stC (some (magB, [])) = some (o', x')) := Lib.hid (by rw [HNX.out]; unfold stC; dsimp only; rw [HFW.out]; dsimp only; rw [if_neg hbig])
                  have HXN2 : Hid (x' = [] → Value.slice xa' x'.length xc' = .slice none 0 0) := Lib.hid (fun e => by have h := hxl.out; rw [e] at h; simp at h; omega)
                  clear hbig hxl
                  go_wp2_with fail
                  go_roundg (gO - 1)
                  case measure => go_light; omega
                  case rel =>
                    go_light
                    exact ⟨i + 1, o', x', oa', oc', xa', xc', by omega, rfl, rfl, by go_num, HNX2, Lib.hid HDR.out.d, HXN2, HBR⟩
              · have hjl : j < np := by omega
                have hjp : j < nParts pn := by rw [← hnp.out]; exact hjl
                have hlt := nParts_lt hjp
                obtain ⟨_, _, _, he, _, _, hqw, hqcell⟩ := RdV.some HQR.out hnp1 (by decide)
                simp only [Value.slice.injEq, Option.some.injEq, Addr.mk.injEq, true_and, and_true] at he
                obtain ⟨⟨rfl, rfl⟩, rfl⟩ := he
                have hq0 := hqcell j (enP pb po pn j) (by rw [List.getElem?_map, List.getElem?_range hjl]; rfl)
                clear hqcell
                have HPJ := Lib.hid (RdV.below (enP_pns (by rw [← HPN.out] at HP; exact HP.out) HPN.out j hjp : Pns w _ _) (HBR.out.mono (Nat.le_refl _)))
                have HQL : Hid ((partP c.p j).length = min 1000 (pn - 1000 * j)) := Lib.hid (by rw [partP_len, HPN.out])
                have HQO : Hid (∀ p ∈ partP c.p j, p.ok) := Lib.hid (fun p hp => HOK.out p (partP_mem hp))
                have HST : Hid (((partsP c.p).take (j + 1)).foldl stP (some (o, x ++ hdC c)) = stP (some (o', x')) (partP c.p j)) := Lib.hid (by
                  rw [foldP_next (by rw [partsP_len, ← HPN.out]; exact hjp) HFP.out, partsP_get _ _ (by rw [← HPN.out]; exact hjp)])
                unfold enP at hq0 HPJ
                obtain ⟨pj, hpj⟩ : ∃ k, k = min 1000 (pn - 1000 * j) := ⟨_, rfl⟩
                obtain ⟨pj0, hpj0⟩ : ∃ k, k = po + 4 * (1000 * j) := ⟨_, rfl⟩
                rw [← hpj, ← hpj0] at hq0 HPJ
                rw [← hpj] at HQL
                have hpj1 : 1 ≤ pj := by omega
                have hpj2 : pj ≤ 1000 := by omega
                clear hpj hpj0 hlt hjp
                generalize partP c.p j = Q at *
                have hEN := encodeB_any Q (.slice (some ⟨pb, pj0, none⟩) pj pj) wr HQO.out (by rw [HQL.out]; omega) (HTB.out.below HBR.out) (by have h := HPJ.out; unfold Pns; rw [HQL.out] at h ⊢; exact h)
                unfold BeEnd at hEN
                go_upto_region 19 with (go_at_call 16; refine hEN.mono ?_; rintro _ w8 ⟨hb8, ao8, cap8, rfl, ho8⟩; have HO8 := Lib.hid ho8; have HB8 := Lib.hid hb8; clear hb8 ho8 hEN)
                have HSP : Hid (stP (some (o', x')) Q = if (encP Q).2 ≠ 0 ∨ 1073741824 ≤ o'.length + (encP Q).1.length then none else some (o' ++ (encP Q).1, x' ++ entP o' Q)) := Lib.hid rfl
                have HEN : Hid (entP o' Q = be8 (uT (Q.getD 0 p0).t) ++ be8 (uT (Q.getD (Q.length - 1) p0).t) ++ (beN 4 o'.length ++ beN 4 (encP Q).1.length)) := Lib.hid rfl
                have HBL : Hid ((encP Q).1.length ≤ 1000000000000) := Lib.hid (Nat.le_trans (encP_bound HQO.out) (by decide))
                have HB9L : Hid ((encP Q).2 = 0 → 9 ≤ (encP Q).1.length) := Lib.hid (fun h => (encP_short HQO.out (show encP Q = ((encP Q).1, 0) by rw [← h])).2)
                have hbl := HBL.out
                have HB9 := Lib.hid (HBR.out.trans (HB8.out.mono HBR.out.size))
                have HDR9 := Lib.hid (HDR.out.below HB8.out)
                have HQR9 := Lib.hid (RdV.below HQR.out HB8.out)
                have HPJ9 := Lib.hid (RdV.below HPJ.out HB8.out)
                generalize (encP Q).1 = bb at *
                generalize (encP Q).2 = ee at *
                have hlong : (ee ≠ 0 ∨ 1073741824 ≤ o'.length + bb.length) → encL (cnS cs) = ([], 4) := fun hb => encL_long HFR.out (foldC_take_none (k := i + 1) (by rw [HNX.out]; unfold stC; dsimp only; rw [foldP_take_none (k := j + 1) (by rw [HST.out, HSP.out, if_pos hb])]))
                replace hlong := Lib.hid hlong
                replace hj := Lib.hid hj
                by_cases hee : ee = 0
                · have heI : ((ee : Int) != 0) = false := by simp [hee]
                  by_cases hbig : 1073741824 ≤ o'.length + bb.length
                  · have hbI : (1073741824 : Int) ≤ (o'.length : Int) + (bb.length : Int) := by omega
                    have HE := Lib.hid (hlong.out (.inr hbig))
                    clear hbig hee hxl
                    go_wp2_with fail
                    go_ret2
                    unfold FeEnd
                    rw [HE.out]
                    exact ⟨HB9.out, none, 0, rfl, World.ownsRow_nil _ _ _ _⟩
                  · have hbI : ¬ (1073741824 : Int) ≤ (o'.length : Int) + (bb.length : Int) := by omega
                    have HST2 : Hid (((partsP c.p).take (j + 1)).foldl stP (some (o, x ++ hdC c)) = some (o' ++ bb, x' ++ entP o' Q)) := Lib.hid (by rw [HST.out, HSP.out, if_neg (by rw [hee]; simp; omega)])
                    have hob : o'.length + bb.length < 1073741824 := by omega
                    obtain ⟨qb, qbo, qbc, hbe, hqbc, hqbm, hqbw, _⟩ := RdV.some (RdV.ofOwns HO8.out) (by have := HB9L.out hee; omega) (by decide)
                    simp only [Value.slice.injEq, true_and] at hbe
                    obtain ⟨rfl, rfl⟩ := hbe
                    have hqbl := (World.ownsRow.lt HO8.out qb rfl).1
                    have HDB9 := Lib.hid (HDR.out.d.withNew HB8.out hqbl hqbw)
                    have HRB9 := Lib.hid (RdV.ofOwns HO8.out)
                    have hxg := HB9L.out hee
                    clear hbig hee hlong hxl
                    go_upto_region 21 with fail
                    obtain ⟨pk, hpk⟩ : ∃ k, k + 1 = pj := ⟨pj - 1, by omega⟩
                    have hpkI : (pj : Int) - 1 = (pk : Int) := by omega
                    have hpkw : IntKind.i64.wrap ((pj : Int) - 1) = (pk : Int) := by rw [hpkI]; exact IntWalk.i64_in _ (by omega)
                    have hpkw2 : IntKind.i64.wrap (pk : Int) = (pk : Int) := IntWalk.i64_in _ (by omega)
                    have hpk0 : (0 : Int) ≤ (pk : Int) := by omega
                    have hpkl : pk < pj := by omega
                    have hpklI : (pk : Int) < (pj : Int) := by omega
                    have hpjI : (0 : Int) < (pj : Int) := by omega
                    have hpj0' : 0 < pj := by omega
                    have hpp : RdV w8 4 (.slice (some ⟨pb, pj0, none⟩) pj pj) pj (Q.flatMap Pn.cells) := by have h := HPJ9.out; rw [HQL.out] at h; exact h
                    obtain ⟨_, _, _, he, _, _, hpb8, hpcell⟩ := RdV.some hpp hpj0' (by decide)
                    simp only [Value.slice.injEq, Option.some.injEq, Addr.mk.injEq, true_and, and_true] at he
                    obtain ⟨⟨rfl, rfl⟩, rfl⟩ := he
                    clear hpp
                    have e0 := flat_at Pn.cells 4 (fun _ => rfl) Q 0 (by rw [HQL.out]; omega) 0 (by omega)
                    have e1 := flat_at Pn.cells 4 (fun _ => rfl) Q pk (by rw [HQL.out]; omega) 0 (by omega)
                    have m0 : w8.cell? ⟨pb, pj0, none⟩ = some (.int .i64 (Q.getD 0 p0).t) := by
                      have h := hpcell _ _ e0
                      rw [show pj0 + (0 * 4 + 0) = pj0 by omega, ← getD_get Q 0 p0 (by rw [HQL.out]; omega)] at h
                      exact h
                    have m1 : w8.cell? ⟨pb, pj0 + pk * 4, none⟩ = some (.int .i64 (Q.getD pk p0).t) := by
                      have h := hpcell _ _ e1
                      rw [show pj0 + (pk * 4 + 0) = pj0 + pk * 4 by omega, ← getD_get Q pk p0 (by rw [HQL.out]; omega)] at h
                      exact h
                    clear hpcell e0 e1
                    rw [show Q.length - 1 = pk by rw [HQL.out]; omega] at HEN
                    generalize (Q.getD 0 p0).t = t0 at *
                    generalize (Q.getD pk p0).t = t1 at *
                    have hw0 := u64_wrap t0
                    have hw1 := u64_wrap t1
                    have hU0 := uT_lt t0
                    have hU1 := uT_lt t1
                    obtain ⟨y1, hy1⟩ : ∃ y, y = x' ++ be8 (uT t0) := ⟨_, rfl⟩
                    obtain ⟨y2, hy2⟩ : ∃ y, y = y1 ++ be8 (uT t1) := ⟨_, rfl⟩
                    obtain ⟨y3, hy3⟩ : ∃ y, y = y2 ++ beN 4 o'.length := ⟨_, rfl⟩
                    obtain ⟨y4, hy4⟩ : ∃ y, y = y3 ++ beN 4 bb.length := ⟨_, rfl⟩
                    obtain ⟨o2, ho2⟩ : ∃ y, y = o' ++ bb := ⟨_, rfl⟩
                    have hl1 : y1.length = x'.length + 8 := by rw [hy1, List.length_append, be8_len]
                    have hl2 : y2.length = x'.length + 16 := by rw [hy2, List.length_append, be8_len, hl1]
                    have hl3 : y3.length = x'.length + 20 := by rw [hy3, List.length_append, beN_len, hl2]
                    have HY4 : Hid (x' ++ entP o' Q = y4) := Lib.hid (by rw [HEN.out, hy4, hy3, hy2, hy1]; simp only [List.append_assoc])
                    have hN1 : Hid (∀ (wz : World) (vx : Value), w.heap.size ≤ wz.heap.size → Own wz w.heap.size vx x' → Calls Tryd.prog 13 #[vx, .int .u64 (uT t0 : Int), .int .i64 8] wz fun e w' => ∃ ao cap, e = .returned (.slice ao y1.length cap) ∧ Grew wz w' w.heap.size 5 1 vx (.slice ao y1.length cap) y1.length (y1.map bV)) := Lib.hid (fun wz vx h1 h2 => by rw [hy1]; exact number_any w.heap.size x' (uT t0) 8 (by decide) (by decide) (by omega) (by omega) vx wz h1 h2)
                    have hN2 : Hid (∀ (wz : World) (vx : Value), w.heap.size ≤ wz.heap.size → Own wz w.heap.size vx y1 → Calls Tryd.prog 13 #[vx, .int .u64 (uT t1 : Int), .int .i64 8] wz fun e w' => ∃ ao cap, e = .returned (.slice ao y2.length cap) ∧ Grew wz w' w.heap.size 5 1 vx (.slice ao y2.length cap) y2.length (y2.map bV)) := Lib.hid (fun wz vx h1 h2 => by rw [hy2]; exact number_any w.heap.size y1 (uT t1) 8 (by decide) (by decide) (by omega) (by omega) vx wz h1 h2)
                    have hN3 : Hid (∀ (wz : World) (vx : Value), w.heap.size ≤ wz.heap.size → Own wz w.heap.size vx y2 → Calls Tryd.prog 13 #[vx, .int .u64 (o'.length : Int), .int .i64 4] wz fun e w' => ∃ ao cap, e = .returned (.slice ao y3.length cap) ∧ Grew wz w' w.heap.size 5 1 vx (.slice ao y3.length cap) y3.length (y3.map bV)) := Lib.hid (fun wz vx h1 h2 => by rw [hy3]; exact number_any w.heap.size y2 o'.length 4 (by decide) (by decide) (by omega) (by omega) vx wz h1 h2)
                    have hN4 : Hid (∀ (wz : World) (vx : Value), w.heap.size ≤ wz.heap.size → Own wz w.heap.size vx y3 → Calls Tryd.prog 13 #[vx, .int .u64 (bb.length : Int), .int .i64 4] wz fun e w' => ∃ ao cap, e = .returned (.slice ao y4.length cap) ∧ Grew wz w' w.heap.size 5 1 vx (.slice ao y4.length cap) y4.length (y4.map bV)) := Lib.hid (fun wz vx h1 h2 => by rw [hy4]; exact number_any w.heap.size y3 bb.length 4 (by decide) (by decide) (by omega) (by omega) vx wz h1 h2)
                    rw [HY4.out, ← ho2] at HST2
                    replace ho2 := Lib.hid ho2
                    clear hy1 hy2 hy3 hy4 hl1 hl2 hl3 HSP HEN HST
                    have huo : IntKind.u64.wrap (o'.length : Int) = (o'.length : Int) := IntWalk.u64_in _ (by omega)
                    have hub : IntKind.u64.wrap (bb.length : Int) = (bb.length : Int) := IntWalk.u64_in _ (by omega)
                    generalize uT t0 = T0 at *
                    generalize uT t1 = T1 at *
                    have HPB := Lib.hid hpb
                    go_cut [5] (fun s5 wx => ∃ ya yc, s5 = .slice ya y2.length yc ∧ Hid (Below w.heap.size w wx) ∧ Hid (DuoQ wx w.heap.size q (.slice oa' o'.length oc') (.slice ya y2.length yc) o' y2) ∧ Hid (DuoQ wx w.heap.size qb (.slice oa' o'.length oc') (.slice ya y2.length yc) o' y2) ∧ Hid (RdV wx 1 (Value.slice (some ⟨q, qo, none⟩) np qc) np (List.map (enP pb po pn) (List.range np))) ∧ Hid (RdV wx 1 (.slice (some ⟨qb, qbo, none⟩) bb.length cap8) bb.length (bb.map bV)))
                    case first =>
                      have hS : w8.drew.cell? ⟨pb, pj0, none⟩ = some (.int .i64 t0) ∧ w8.drew.cell? ⟨pb, pj0 + pk * 4, none⟩ = some (.int .i64 t1) := ⟨m0, m1⟩
                      have hB : Hid (Below w.heap.size w w8.drew) := Lib.hid HB9.out.drew
                      have hD : Hid (DuoQ w8.drew w.heap.size q (.slice oa' o'.length oc') (.slice xa' x'.length xc') o' x') := Lib.hid (HDR9.out.below (Below.refl _ _).drew)
                      have hE : Hid (DuoQ w8.drew w.heap.size qb (.slice oa' o'.length oc') (.slice xa' x'.length xc') o' x') := Lib.hid (HDB9.out.below (Below.refl _ _).drew)
                      have hQ : Hid (RdV w8.drew 1 (Value.slice (some ⟨q, qo, none⟩) np qc) np (List.map (enP pb po pn) (List.range np))) := HQR9
                      have hR : Hid (RdV w8.drew 1 (.slice (some ⟨qb, qbo, none⟩) bb.length cap8) bb.length (bb.map bV)) := HRB9
                      clear m0 m1 hq0 HB8 HB9 HDR9 HQR9 HPJ9 HPJ HO8 HDB9 HRB9 HDR HQR HBR hpb8 hqbw hqw
                      refine wp_region_held_drew (S := fun wz => wz.cell? ⟨pb, pj0, none⟩ = some (.int .i64 t0) ∧ wz.cell? ⟨pb, pj0 + pk * 4, none⟩ = some (.int .i64 t1)) (by kernel_rfl) hS (fun hh => ?_)
                      clear hh
                      generalize w8.drew = z0 at *
                      refine ts 0 opFEnc120 hS ?_
                      refine ts 1 opFEnc121 hS ?_
                      refine ts 2 opFEnc122 hS ?_
                      refine ts 3 opFEnc123 hS ?_
                      refine ts 4 opFEnc124 hS ?_
                      refine ts 5 opFEnc125 hS ?_
                      refine ts 7 opFEnc126 hS ?_
                      refine ts 8 opFEnc127 hS ?_
                      refine ts 9 opFEnc128 hS ?_
                      refine ts 10 opFEnc129 hS ?_
                      refine ts 11 opFEnc1210 hS ?_
                      refine ts 12 opFEnc1211 hS ?_
                      refine ts 13 opFEnc1212 hS ?_
                      refine ts 14 opFEnc1213 hS ?_
                      refine wpAnyH_ready (rs := [6]) (by kernel_rfl) (by simp) (AllReadyH.cons (o := opFEnc1214) rfl (fun K hK => ?_) AllReadyH.nil)
                      go_simp
                      go_at_call 13
                      refine (hN1.out z0 _ hB.out.size hD.out.d.ox).mono ?_
                      rintro _ z1 ⟨ya1, yc1, rfl, hg⟩
                      replace hS : z1.cell? ⟨pb, pj0, none⟩ = some (.int .i64 t0) ∧ z1.cell? ⟨pb, pj0 + pk * 4, none⟩ = some (.int .i64 t1) := ⟨((hD.out.d.belowX hB.out.size hg).cell (p := ⟨pb, pj0, none⟩) HPB.out).trans hS.1, ((hD.out.d.belowX hB.out.size hg).cell (p := ⟨pb, pj0 + pk * 4, none⟩) HPB.out).trans hS.2⟩
                      replace hQ := Lib.hid (RdV.chgLit hQ.out hg.chg hD.out.nx)
                      replace hR := Lib.hid (RdV.chgLit hR.out hg.chg hE.out.nx)
                      have hBn := Lib.hid (hB.out.trans (hD.out.d.belowX hB.out.size hg))
                      replace hE := Lib.hid (hE.out.growX hg)
                      have hDn := Lib.hid (hD.out.growX hg)
                      clear hB hD hg
                      have hB := hBn
                      have hD := hDn
                      clear hBn hDn
                      dsimp only
                      refine hK.out _ _ hS (fun hh => ?_)
                      clear hK K hh
                      try simp only [Act.put, List.setIfInBounds_toArray, List.set_cons_zero, List.set_cons_succ]
                      refine wpAnyH_ready (rs := [15]) (by kernel_rfl) (by simp) (AllReadyH.cons (o := opFEnc1215) rfl (fun K hK => ?_) AllReadyH.nil)
                      go_simp
                      go_at_call 13
                      refine (hN2.out z1 _ hB.out.size hD.out.d.ox).mono ?_
                      rintro _ z2 ⟨ya2, yc2, rfl, hg⟩
                      replace hS : z2.cell? ⟨pb, pj0, none⟩ = some (.int .i64 t0) ∧ z2.cell? ⟨pb, pj0 + pk * 4, none⟩ = some (.int .i64 t1) := ⟨((hD.out.d.belowX hB.out.size hg).cell (p := ⟨pb, pj0, none⟩) HPB.out).trans hS.1, ((hD.out.d.belowX hB.out.size hg).cell (p := ⟨pb, pj0 + pk * 4, none⟩) HPB.out).trans hS.2⟩
                      replace hQ := Lib.hid (RdV.chgLit hQ.out hg.chg hD.out.nx)
                      replace hR := Lib.hid (RdV.chgLit hR.out hg.chg hE.out.nx)
                      have hBn := Lib.hid (hB.out.trans (hD.out.d.belowX hB.out.size hg))
                      replace hE := Lib.hid (hE.out.growX hg)
                      have hDn := Lib.hid (hD.out.growX hg)
                      clear hB hD hg
                      have hB := hBn
                      have hD := hDn
                      clear hBn hDn
                      dsimp only
                      refine hK.out _ _ hS (fun hh => ?_)
                      clear hK K hh
                      try simp only [Act.put, List.setIfInBounds_toArray, List.set_cons_zero, List.set_cons_succ]
                      refine ts 16 opFEnc1216 hS ?_
                      refine wpAnyH_done (by kernel_rfl) ?_ _
                      go_wp2_with fail
                      go_meet
                      go_light
                      exact ⟨_, _, rfl, hB, hD, hE, hQ, hR⟩
                    case rest =>
                    obtain ⟨ya, yc, rfl, HB9', HD9', HE9', HQ9', HR9'⟩ := hcut
                    have HBB : Hid (bb = [] → Value.slice (some ⟨qb, qbo, none⟩) bb.length cap8 = .slice none 0 0) := Lib.hid (fun e => by rw [e] at hxg; simp at hxg)
                    have HOL : Hid (o'.length + bb.length ≤ 140737488355328) := Lib.hid (by omega)
                    generalize wr = wA at *
                    go_wp2_with (first
                      | (go_at_call 13; (with_reducible refine (hN3.out _ _ HB9'.out.size HD9'.out.d.ox).mono ?_); rintro _ w10 ⟨ya3, yc3, rfl, hg3⟩; have HB10 := Lib.hid (HB9'.out.trans (HD9'.out.d.belowX HB9'.out.size hg3)); have HQ10 := Lib.hid (RdV.chgLit HQ9'.out hg3.chg HD9'.out.nx); have HR10 := Lib.hid (RdV.chgLit HR9'.out hg3.chg HE9'.out.nx); have HD10 := Lib.hid (HD9'.out.growX hg3); have HE10 := Lib.hid (HE9'.out.growX hg3); clear hg3)
                      | (go_at_call 13; refine (hN4.out _ _ HB10.out.size HD10.out.d.ox).mono ?_; rintro _ w11 ⟨ya4, yc4, rfl, hg4⟩; have HB11 := Lib.hid (HB10.out.trans (HD10.out.d.belowX HB10.out.size hg4)); have HQ11 := Lib.hid (RdV.chgLit HQ10.out hg4.chg HD10.out.nx); have HR11 := Lib.hid (RdV.chgLit HR10.out hg4.chg HE10.out.nx); have HD11 := Lib.hid (HD10.out.growX hg4); clear hg4)
                      | (at_builtin; refine wpList_append_bsE o2 _ rfl _ _ rfl w.heap.size (.slice oa' o'.length oc') o' rfl HD11.out.d.oo (.slice (some ⟨qb, qbo, none⟩) bb.length cap8) bb ho2.out rfl HR11.out HBB.out HOL.out HB11.out.size ?_; intro ao12 cap12 w12 hg12; have HQ12 := Lib.hid (RdV.chgLit HQ11.out hg12.chg HD11.out.no); have HD12 := Lib.hid (HD11.out.growO hg12); have HB12 := Lib.hid (HB11.out.trans (HD11.out.d.belowO HB11.out.size hg12)); clear hg12))
                    go_roundg (gk - 1)
                    case measure => go_light; omega
                    case rel =>
                      go_light
                      exact ⟨j + 1, o2, y4, ao12, cap12, ya4, yc4, by have := hj.out; omega, rfl, rfl, by go_num, HST2, HD12, HB12, HQ12⟩
                · have heI : ((ee : Int) != 0) = true := by simp; omega
                  have HE := Lib.hid (hlong.out (.inl hee))
                  clear hee hxl
                  go_wp2_with fail
                  go_ret2
                  unfold FeEnd
                  rw [HE.out]
                  exact ⟨HB9.out, none, 0, rfl, World.ownsRow_nil _ _ _ _⟩
end Go.Proofs.YthcgalpabjjkoaaDoor


/- XAwake12: gristlaw12's awake returns true. -/
namespace Go.Proofs.YthcgalpabjjkoaaDoor
open Go.RowKit
set_option linter.unusedVariables false
set_option maxRecDepth 100000

theorem awake12_enc : encL [] = ([71, 82, 83, 84, 49, 0, 0, 0, 5, 0, 0, 0, 0], 0) := by
  rw [encL_ok (o := magB) (x := []) rfl rfl]
  have hc : crc [] = 0 := by decide +kernel
  have h5 : beN 4 magB.length = [0, 0, 0, 5] := by decide +kernel
  have h0 : beN 4 0 = [0, 0, 0, 0] := by decide +kernel
  unfold fin
  rw [hc, h5, h0]
  rfl

set_option maxHeartbeats 400000 in
theorem awake12_any (w : World) (ht : Tab w) :
    Calls Tryd.prog 5 #[] w fun e w' => e = .returned (.bool true) ∧ Below w.heap.size w w' := by
  have hE := fencode_any [] (.slice none 0 0) w (by decide) (fun c h => by cases h) (fun c h => by cases h) ht ⟨RdV.nil _ _, fun c h => by cases h⟩
  unfold FeEnd at hE
  rw [show cnS [] = [] from rfl, awake12_enc] at hE
  dsimp only at hE
  go_enter Tryd.func5, Tryd.ntmps5
  go_wp2_with (go_at_call 6; refine hE.mono ?_; rintro _ w1 ⟨hb1, ao1, cap1, rfl, ho1⟩; have HB1 := Lib.hid hb1; have hcv : (convert 33 9 (.slice ao1 13 cap1)).run Tryd.prog w1 = .ok (.string (strOf [71, 82, 83, 84, 49, 0, 0, 0, 5, 0, 0, 0, 0])) w1 := run_str (P := Tryd.prog) ho1.rd 33 5 9 Tryd.underlying33 Tryd.underlying5 Tryd.underlying9; clear hb1 ho1 hE)
  go_ret
  exact ⟨by simp, HB1.out⟩
end Go.Proofs.YthcgalpabjjkoaaDoor
