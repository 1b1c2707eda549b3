/- Texts of ours, behind one another: REnc12. No conditions but those that each states. -/
import Derived.Test.YthcgalpabjjkoaaDoorG1
import Derived.Test.YthcgalpabjjkoaaDoorG15
import Derived.Test.YthcgalpabjjkoaaDoorG13
import Derived.Test.YthcgalpabjjkoaaDoorG10
import Derived.Lib.SlBytesConst
import Derived.Laws.Cover1
/- XREnc12: gristref12.Encode. (printed by gen_renc12.py) -/
namespace Go.Proofs.YthcgalpabjjkoaaDoor
open Go.RowKit
set_option linter.unusedVariables false
set_option maxRecDepth 100000

@[reducible, go_sem] def opREnc120 : Oper := { dst := some 28, op := Op.move (Operand.tmp 5), type := 33, pos := "ref.go:41", after := #[], guard := none }
@[reducible, go_sem] def opREnc121 : Oper := { dst := some 29, op := Op.move (Operand.tmp 0), type := 32, pos := "ref.go:41", after := #[], guard := none }
@[reducible, go_sem] def opREnc122 : Oper := { dst := some 30, op := Op.move (Operand.tmp 6), type := 3, pos := "ref.go:41", after := #[], guard := none }
@[reducible, go_sem] def opREnc123 : Oper := { dst := some 31, op := Op.indexAddr 32 (Operand.tmp 29) (Operand.tmp 30), type := 0, pos := "ref.go:41", after := #[{ on := 1, ground := Ground.data }, { on := 2, ground := Ground.data }], guard := none }
@[reducible, go_sem] def opREnc124 : Oper := { dst := some 32, op := Op.fieldAddr 31 (Operand.tmp 31) 0, type := 0, pos := "ref.go:41", after := #[{ on := 3, ground := Ground.data }], guard := none }
@[reducible, go_sem] def opREnc125 : Oper := { dst := some 33, op := Op.load 9 (Operand.tmp 32), type := 9, pos := "ref.go:41", after := #[{ on := 4, ground := Ground.data }], guard := none }
@[reducible, go_sem] def opREnc126 : Oper := { dst := some 36, op := Op.move (Operand.tmp 0), type := 32, pos := "ref.go:41", after := #[], guard := none }
@[reducible, go_sem] def opREnc127 : Oper := { dst := some 37, op := Op.move (Operand.tmp 6), type := 3, pos := "ref.go:41", after := #[], guard := none }
@[reducible, go_sem] def opREnc128 : Oper := { dst := some 38, op := Op.indexAddr 32 (Operand.tmp 36) (Operand.tmp 37), type := 0, pos := "ref.go:41", after := #[{ on := 8, ground := Ground.data }, { on := 9, ground := Ground.data }], guard := none }
@[reducible, go_sem] def opREnc129 : Oper := { dst := some 39, op := Op.fieldAddr 31 (Operand.tmp 38) 1, type := 0, pos := "ref.go:41", after := #[{ on := 10, ground := Ground.data }], guard := none }
@[reducible, go_sem] def opREnc1210 : Oper := { dst := some 40, op := Op.load 9 (Operand.tmp 39), type := 9, pos := "ref.go:41", after := #[{ on := 11, ground := Ground.data }], guard := none }
@[reducible, go_sem] def opREnc1211 : Oper := { dst := some 34, op := Op.call { callee := Callee.value (Operand.func 19), args := #[Operand.tmp 33], argTypes := #[9] }, type := 33, pos := "ref.go:41", after := #[{ on := 5, ground := Ground.data }], guard := none }
@[reducible, go_sem] def opREnc1212 : Oper := { dst := some 35, op := Op.call { callee := Callee.builtin Builtin.append, args := #[Operand.tmp 28, Operand.tmp 34], argTypes := #[33, 33] }, type := 33, pos := "ref.go:41", after := #[{ on := 0, ground := Ground.data }, { on := 6, ground := Ground.data }, { on := 6, ground := Ground.chain }], guard := none }
@[reducible, go_sem] def opREnc1213 : Oper := { dst := some 41, op := Op.call { callee := Callee.value (Operand.func 19), args := #[Operand.tmp 40], argTypes := #[9] }, type := 33, pos := "ref.go:41", after := #[{ on := 12, ground := Ground.data }, { on := 7, ground := Ground.chain }], guard := none }
@[reducible, go_sem] def opREnc1214 : Oper := { dst := some 42, op := Op.call { callee := Callee.builtin Builtin.append, args := #[Operand.tmp 35, Operand.tmp 41], argTypes := #[33, 33] }, type := 33, pos := "ref.go:41", after := #[{ on := 7, ground := Ground.data }, { on := 13, ground := Ground.data }, { on := 13, ground := Ground.chain }], guard := none }
@[reducible, go_sem] def opREnc1215 : Oper := { dst := some 5, op := Op.assign (Operand.tmp 42), type := 33, pos := "ref.go:41", after := #[{ on := 14, ground := Ground.data }, { on := 14, ground := Ground.chain }, { on := 0, ground := Ground.phase }, { on := 1, ground := Ground.phase }, { on := 2, ground := Ground.phase }, { on := 3, ground := Ground.phase }, { on := 4, ground := Ground.phase }, { on := 5, ground := Ground.phase }, { on := 6, ground := Ground.phase }, { on := 7, ground := Ground.phase }, { on := 8, ground := Ground.phase }, { on := 9, ground := Ground.phase }, { on := 10, ground := Ground.phase }, { on := 11, ground := Ground.phase }, { on := 12, ground := Ground.phase }, { on := 13, ground := Ground.phase }, { on := 14, ground := Ground.phase }], guard := none }
@[reducible, go_sem] def opREnc1216 : Oper := { dst := some 79, op := Op.move (Operand.tmp 5), type := 33, pos := "ref.go:49", after := #[], guard := none }
@[reducible, go_sem] def opREnc1217 : Oper := { dst := some 80, op := Op.move (Operand.tmp 9), type := 24, pos := "ref.go:49", after := #[], guard := none }
@[reducible, go_sem] def opREnc1218 : Oper := { dst := some 81, op := Op.indexAddr 24 (Operand.tmp 80) (Operand.const (Value.int IntKind.i64 0)), type := 0, pos := "ref.go:49", after := #[{ on := 1, ground := Ground.data }], guard := none }
@[reducible, go_sem] def opREnc1219 : Oper := { dst := some 82, op := Op.fieldAddr 29 (Operand.tmp 81) 0, type := 0, pos := "ref.go:49", after := #[{ on := 2, ground := Ground.data }], guard := none }
@[reducible, go_sem] def opREnc1220 : Oper := { dst := some 83, op := Op.load 2 (Operand.tmp 82), type := 2, pos := "ref.go:49", after := #[{ on := 3, ground := Ground.data }], guard := none }
@[reducible, go_sem] def opREnc1221 : Oper := { dst := some 84, op := Op.convert 2 25 (Operand.tmp 83), type := 25, pos := "ref.go:49", after := #[{ on := 4, ground := Ground.data }], guard := none }
@[reducible, go_sem] def opREnc1222 : Oper := { dst := some 87, op := Op.move (Operand.tmp 9), type := 24, pos := "ref.go:49", after := #[], guard := none }
@[reducible, go_sem] def opREnc1223 : Oper := { dst := some 88, op := Op.move (Operand.tmp 9), type := 24, pos := "ref.go:49", after := #[], guard := none }
@[reducible, go_sem] def opREnc1224 : Oper := { dst := some 89, op := Op.call { callee := Callee.builtin Builtin.len, args := #[Operand.tmp 88], argTypes := #[24] }, type := 3, pos := "ref.go:49", after := #[{ on := 9, ground := Ground.data }], guard := none }
@[reducible, go_sem] def opREnc1225 : Oper := { dst := some 90, op := Op.binOp BinOp.sub 3 (Operand.tmp 89) (Operand.const (Value.int IntKind.i64 1)) 3, type := 3, pos := "ref.go:49", after := #[{ on := 10, ground := Ground.data }], guard := none }
@[reducible, go_sem] def opREnc1226 : Oper := { dst := some 91, op := Op.indexAddr 24 (Operand.tmp 87) (Operand.tmp 90), type := 0, pos := "ref.go:49", after := #[{ on := 8, ground := Ground.data }, { on := 11, ground := Ground.data }], guard := none }
@[reducible, go_sem] def opREnc1227 : Oper := { dst := some 92, op := Op.fieldAddr 29 (Operand.tmp 91) 0, type := 0, pos := "ref.go:49", after := #[{ on := 12, ground := Ground.data }], guard := none }
@[reducible, go_sem] def opREnc1228 : Oper := { dst := some 93, op := Op.load 2 (Operand.tmp 92), type := 2, pos := "ref.go:49", after := #[{ on := 13, ground := Ground.data }], guard := none }
@[reducible, go_sem] def opREnc1229 : Oper := { dst := some 94, op := Op.convert 2 25 (Operand.tmp 93), type := 25, pos := "ref.go:49", after := #[{ on := 14, ground := Ground.data }], guard := none }
@[reducible, go_sem] def opREnc1230 : Oper := { dst := some 85, op := Op.call { callee := Callee.value (Operand.func 22), args := #[Operand.tmp 84], argTypes := #[25] }, type := 33, pos := "ref.go:49", after := #[{ on := 5, ground := Ground.data }], guard := none }
@[reducible, go_sem] def opREnc1231 : Oper := { dst := some 86, op := Op.call { callee := Callee.builtin Builtin.append, args := #[Operand.tmp 79, Operand.tmp 85], argTypes := #[33, 33] }, type := 33, pos := "ref.go:49", after := #[{ on := 0, ground := Ground.data }, { on := 6, ground := Ground.data }, { on := 6, ground := Ground.chain }], guard := none }
@[reducible, go_sem] def opREnc1232 : Oper := { dst := some 95, op := Op.call { callee := Callee.value (Operand.func 22), args := #[Operand.tmp 94], argTypes := #[25] }, type := 33, pos := "ref.go:49", after := #[{ on := 15, ground := Ground.data }, { on := 7, ground := Ground.chain }], guard := none }
@[reducible, go_sem] def opREnc1233 : Oper := { dst := some 96, op := Op.call { callee := Callee.builtin Builtin.append, args := #[Operand.tmp 86, Operand.tmp 95], argTypes := #[33, 33] }, type := 33, pos := "ref.go:49", after := #[{ on := 7, ground := Ground.data }, { on := 16, ground := Ground.data }, { on := 16, ground := Ground.chain }], guard := none }
@[reducible, go_sem] def opREnc1234 : Oper := { dst := some 5, op := Op.assign (Operand.tmp 96), type := 33, pos := "ref.go:49", after := #[{ on := 17, ground := Ground.data }, { on := 17, ground := Ground.chain }, { on := 0, ground := Ground.phase }, { on := 1, ground := Ground.phase }, { on := 2, ground := Ground.phase }, { on := 3, ground := Ground.phase }, { on := 4, ground := Ground.phase }, { on := 5, ground := Ground.phase }, { on := 6, ground := Ground.phase }, { on := 7, ground := Ground.phase }, { on := 8, ground := Ground.phase }, { on := 9, ground := Ground.phase }, { on := 10, ground := Ground.phase }, { on := 11, ground := Ground.phase }, { on := 12, ground := Ground.phase }, { on := 13, ground := Ground.phase }, { on := 14, ground := Ground.phase }, { on := 15, ground := Ground.phase }, { on := 16, ground := Ground.phase }, { on := 17, ground := Ground.phase }], guard := none }
set_option maxHeartbeats 20000000 in
theorem rfencode_any (cs : List Cb) (v : Value) (w : World) (hl : cs.length * 56 ≤ 140737488351232) (hps : ∀ c ∈ cs, c.c.p.length * 40 ≤ 140737488351232) (hok : ∀ c ∈ cs, c.c.ok) (hr : Cols w v cs) :
    Calls Tryd.prog 7 #[v] w fun e w' => FeEnd (cnS cs) w e w' := by
  have hF := rfformed_any cs v w hl hps hok hr
  obtain ⟨ao, cap, rfl, hn, hcm⟩ := RdV.shape hr.1
  unfold maxLen at hcm
  have HR := Lib.hid hr
  have HPS := Lib.hid hps
  have HOKS := Lib.hid hok
  clear hr hps hok
  obtain ⟨n, hnl⟩ : ∃ n, n = cs.length := ⟨_, rfl⟩
  have HN := Lib.hid hnl
  rw [← hnl] at hn hl hF ⊢
  clear hnl
  cases hfr : frmC (cnS cs) with
  | false =>
    rw [hfr] at hF
    have HE := Lib.hid (encL_bad hfr)
    clear hfr
    go_enter Tryd.func7, Tryd.ntmps7
    go_wp2_with (go_at_call 18; refine hF.mono ?_; rintro _ w1 ⟨rfl, hb1⟩)
    go_ret2
    unfold FeEnd
    rw [HE.out]
    exact ⟨hb1, none, 0, rfl, World.ownsRow_nil _ _ _ _⟩
  | true =>
    rw [hfr] at hF
    have HFR := Lib.hid hfr
    clear hfr
    go_enter Tryd.func7, Tryd.ntmps7
    have HCO := Lib.hid (frmC_count HFR.out)
    go_upto_region 3 with (go_at_call 18; refine hF.mono ?_; rintro _ w1 ⟨rfl, hb1⟩; have HB1 := Lib.hid hb1; clear hb1 hF)
    have hcv := Lib.run_convert_bytes_const (P := Tryd.prog) w1 33 5 #[.int .u8 71, .int .u8 82, .int .u8 83, .int .u8 84, .int .u8 49] 5 5 Tryd.underlying33 Tryd.underlying5
    go_upto_region 4 with fail
    have HM : Hid (Rd (w1.alloc (.cells #[.int .u8 71, .int .u8 82, .int .u8 83, .int .u8 84, .int .u8 49] 5 (5, 6))) (.slice (some ⟨w1.heap.size, 0, none⟩) 5 5) magB) := Lib.hid (RdV.litm w1 #[.int .u8 71, .int .u8 82, .int .u8 83, .int .u8 84, .int .u8 49] 5 (5, 6) 5 1 (by decide) rfl)
    have hgl : w1.heap.size < (w1.alloc (.cells #[.int .u8 71, .int .u8 82, .int .u8 83, .int .u8 84, .int .u8 49] 5 (5, 6))).heap.size := by simp
    have HB2 := Lib.hid (HB1.out.alloc HB1.out.size (.cells #[.int .u8 71, .int .u8 82, .int .u8 83, .int .u8 84, .int .u8 49] 5 (5, 6)))
    have hs1 := HB1.out.size
    clear hcv
    generalize w1.alloc (.cells #[.int .u8 71, .int .u8 82, .int .u8 83, .int .u8 84, .int .u8 49] 5 (5, 6)) = w2 at *
    generalize w1.heap.size = lg at *
    have HD : Hid (Duo w2 w.heap.size (.slice (some ⟨lg, 0, none⟩) magB.length 5) (.slice none 0 0) magB []) := Lib.hid ⟨.inr ⟨lg, rfl, hs1, hgl, HM.out, by decide, by decide⟩, World.ownsRow_nil _ _ _ _, fun k _ e => by cases e⟩
    clear HM hgl hs1 HB1
    go_wp2_with fail
    go_loopg [4, 5, 20] n (fun m s4 s5 s20 wr => ∃ (i : Nat) (o x : List UInt8) (oa : Option Addr) (oc : Nat) (xa : Option Addr) (xc : Nat), i + m = n ∧ s4 = .slice oa o.length oc ∧ s5 = .slice xa x.length xc ∧ s20 = .int .i64 (i : Int) ∧ Hid (((cnS cs).take i).foldl stC (some (magB, [])) = some (o, x)) ∧ Hid (Duo wr w.heap.size (.slice oa o.length oc) (.slice xa x.length xc) o x) ∧ Hid (Below w.heap.size w wr))
    case atStart => exact ⟨0, magB, [], _, 5, none, 0, by omega, rfl, rfl, rfl, Lib.hid rfl, HD, HB2⟩
    case round =>
      obtain ⟨i, o, x, oa, oc, xa, xc, hi, rfl, rfl, rfl, HFO, HDU, HB⟩ := hrel
      clear HD HB2
      have hin' : i ≤ n := by omega
      have hsm := foldC_small (by rw [cnS_len, ← HN.out]; exact hin') HFO.out
      have hs0 := HB.out.size
      by_cases h0 : gk = 0
      · obtain rfl : i = n := by omega
        have HE : Hid (encL (cnS cs) = (fin o x, 0)) := Lib.hid (encL_ok HFR.out (by have h := HFO.out; rw [List.take_of_length_le (by rw [cnS_len, ← HN.out]; exact Nat.le_refl _)] at h; exact h))
        clear hi hin' h0
        have hCR : Hid (crc x < 4294967296) := Lib.hid (crc_lt x)
        have huc : IntKind.i64.wrap (crc x : Int) = (crc x : Int) := IntWalk.i64_in _ (by have := hCR.out; omega)
        have HF3 : Hid ([o, x, beN 4 o.length, beN 4 (crc x)].flatten = fin o x) := Lib.hid (by unfold fin; simp)
        have HFL : Hid ([o, x, beN 4 o.length, beN 4 (crc x)].flatten.length ≤ 140737488355328) := Lib.hid (by rw [HF3.out]; unfold fin; simp only [List.length_append, beN_len]; omega)
        have HSU : Hid (∀ w', Rd w' (.slice xa x.length xc) x → Calls Tryd.prog 24 #[.slice xa x.length xc] w' fun e w'' => e = .returned (.int .u32 (crc x : Int)) ∧ ∃ m, w'' = w'.drewN m) := Lib.hid (fun w' h => rsum_any x _ w' h)
        have HF1 : Hid (∀ w', Calls Tryd.prog 20 #[.int .i64 (o.length : Int)] w' fun e w'' => ∃ ao cap, e = .returned (.slice ao (beN 4 o.length).length cap) ∧ Own w'' w'.heap.size (.slice ao (beN 4 o.length).length cap) (beN 4 o.length) ∧ Below w'.heap.size w' w'') := Lib.hid (fun w' => four_any o.length (by omega) w')
        have HF2 : Hid (∀ w', Calls Tryd.prog 20 #[.int .i64 (crc x : Int)] w' fun e w'' => ∃ ao cap, e = .returned (.slice ao (beN 4 (crc x)).length cap) ∧ Own w'' w'.heap.size (.slice ao (beN 4 (crc x)).length cap) (beN 4 (crc x)) ∧ Below w'.heap.size w' w'') := Lib.hid (fun w' => four_any (crc x) hCR.out w')
        generalize crc x = C at *
        go_wp2_with (first
          | (go_at_call 20; (with_reducible refine (HF1.out _).mono ?_); rintro _ w6 ⟨ao6, cap6, rfl, ho6, hb6⟩; have HD6 := Lib.hid (HDU.out.below hb6); have HB6 := Lib.hid (HB.out.trans (hb6.mono HB.out.size)); have HK6 := Lib.hid ho6.rd; clear ho6 hb6)
          | (go_at_call 24; refine (HSU.out _ HD6.out.ox.rd).mono ?_; rintro _ w7 ⟨rfl, q7, rfl⟩; have HD7 := Lib.hid (show Duo (w6.drewN q7) w.heap.size _ _ _ _ from HD6.out.below (below_dr (Below.refl _ _) q7)); have HB7 := Lib.hid (below_dr HB6.out q7); have HK7 := Lib.hid (RdV.below HK6.out (below_dr (Below.refl _ _) q7)))
          | (go_at_call 20; refine (HF2.out _).mono ?_; rintro _ w8 ⟨ao8, cap8, rfl, ho8, hb8⟩; have HD8 := Lib.hid (HD7.out.below hb8); have HB8 := Lib.hid (HB7.out.trans (hb8.mono HB7.out.size)); have HK8 := Lib.hid ho8.rd; have HK7b := Lib.hid (RdV.below HK7.out hb8); clear ho8 hb8)
          | (go_at_call 23; refine (joinN_any [_, _, _, _] [o, x, beN 4 o.length, beN 4 C] 4 _ w8 rfl (by decide) (Pcs.cons HD8.out.oo.rd (Pcs.cons HD8.out.ox.rd (Pcs.cons HK7b.out (Pcs.cons HK8.out Pcs.nil)))) HFL.out).mono ?_; rw [HF3.out]; rintro _ w9 ⟨ao9, cap9, rfl, ho9, hb9⟩; have HO9 := Lib.hid ho9; have HB9 := Lib.hid (HB8.out.trans (hb9.mono HB8.out.size)); clear ho9 hb9))
        go_ret2
        unfold FeEnd
        rw [HE.out]
        exact ⟨HB9.out, ao9, cap9, rfl, ownsRow_mono HO9.out HB8.out.size⟩
      · have hin : i < n := by omega
        obtain ⟨lb, lo, lc, he, hlb, f0, f1, f2, hp⟩ := col_at HR.out i (by rw [← HN.out]; exact hin)
        rw [← HN.out] at he
        simp only [Value.slice.injEq, true_and] at he
        obtain ⟨rfl, rfl⟩ := he
        have HCI : Hid ((cs.getD i b0).c = (cnS cs).getD i c0) := Lib.hid (cnS_get cs i (by rw [← HN.out]; exact hin)).symm
        have HIL : Hid (i < (cnS cs).length) := Lib.hid (by rw [cnS_len, ← HN.out]; exact hin)
        obtain ⟨hz1, hz2, hz3, hz4⟩ := frmC_at HFR.out HIL.out
        rw [← HCI.out] at hz1 hz2 hz3 hz4
        have HNX : Hid (((cnS cs).take (i + 1)).foldl stC (some (magB, [])) = stC (some (o, x)) (cs.getD i b0).c) := Lib.hid (by rw [foldC_next HIL.out HFO.out, HCI.out])
        have HOK : Hid (∀ p ∈ (cs.getD i b0).c.p, p.ok) := Lib.hid (HOKS.out _ (getD_mem cs i b0 (by rw [← HN.out]; exact hin)))
        obtain ⟨pb, po, pc, hpv, hpc, hpm, hpb, _⟩ := RdV.some hp (by omega) (by decide)
        rw [hpv] at f2 hp
        have HP := Lib.hid hp
        have g0 := (HB.out.cell (p := ⟨lb, lo + i * 3, none⟩) hlb).trans f0
        have g1 := (HB.out.cell (p := ⟨lb, lo + i * 3 + 1, none⟩) hlb).trans f1
        have g2 := (HB.out.cell (p := ⟨lb, lo + i * 3 + 2, none⟩) hlb).trans f2
        clear f0 f1 f2 hp hpv
        generalize (cs.getD i b0).c = c at *
        obtain ⟨pn, hpn⟩ : ∃ pn, pn = c.p.length := ⟨_, rfl⟩
        have HPN := Lib.hid hpn
        rw [← hpn] at g2 hpc hz3 hz4
        clear hpn
        have HIN := Lib.hid hin
        have HLB := Lib.hid hlb
        have HPB := Lib.hid hpb
        have hT1 : Hid (∀ w', Calls Tryd.prog 19 #[.string c.s] w' fun e w'' => ∃ ao cap, e = .returned (.slice ao (nmB c.s).length cap) ∧ Own w'' w'.heap.size (.slice ao (nmB c.s).length cap) (nmB c.s) ∧ Below w'.heap.size w' w'') := Lib.hid (fun w' => text_any c.s w' hz1)
        have hT2 : Hid (∀ w', Calls Tryd.prog 19 #[.string c.f] w' fun e w'' => ∃ ao cap, e = .returned (.slice ao (nmB c.f).length cap) ∧ Own w'' w'.heap.size (.slice ao (nmB c.f).length cap) (nmB c.f) ∧ Below w'.heap.size w' w'') := Lib.hid (fun w' => text_any c.f w' hz2)
        have HXL := Lib.hid (show x.length < 1073741824 by omega)
        have HHD := Lib.hid (hdC_nm c)
        rw [← HPN.out] at HHD
        have HNL1 := Lib.hid (nmB_len c.s)
        have HNL2 := Lib.hid (nmB_len c.f)
        have HZ1 := Lib.hid hz1
        have HZ2 := Lib.hid hz2
        obtain ⟨np, hnp⟩ : ∃ k, k = nParts pn := ⟨_, rfl⟩
        have hnp1 : 1 ≤ np := by rw [hnp]; unfold nParts; omega
        have hnp2 : np ≤ 1000 := by rw [hnp]; unfold nParts; omega
        have hnpI : ((pn : Int) + 999) / 1000 = (np : Int) := by rw [hnp]; unfold nParts; omega
        have hnpq : Int.tdiv ((pn : Int) + 999) 1000 = (np : Int) := by rw [Int.tdiv_eq_ediv_of_nonneg (by omega)]; exact hnpI
        rw [← hnp] at HHD
        replace hnp := Lib.hid hnp
        obtain ⟨X1, hX1⟩ : ∃ z, z = x ++ nmB c.s := ⟨_, rfl⟩
        obtain ⟨X2, hX2⟩ : ∃ z, z = X1 ++ nmB c.f := ⟨_, rfl⟩
        obtain ⟨X0, hX0⟩ : ∃ z, z = X2 ++ beN 4 np := ⟨_, rfl⟩
        have HX0 : Hid (X0 = x ++ hdC c) := Lib.hid (by rw [hX0, hX2, hX1, HHD.out]; simp only [List.append_assoc])
        have HL1 : Hid (X1.length ≤ 1073741824 + 4002) := Lib.hid (by rw [hX1, List.length_append, HNL1.out]; omega)
        have HL2 : Hid (X2.length ≤ 1073741824 + 8004) := Lib.hid (by rw [hX2, List.length_append, HNL2.out]; have := HL1.out; omega)
        replace hX1 := Lib.hid hX1
        replace hX2 := Lib.hid hX2
        replace hX0 := Lib.hid hX0
        clear HNL1 HNL2 hz1 hz2 HHD
        have HN1L : Hid ((nmB c.s).length ≤ 4002) := Lib.hid (by rw [nmB_len]; have := HZ1.out; omega)
        have HN2L : Hid ((nmB c.f).length ≤ 4002) := Lib.hid (by rw [nmB_len]; have := HZ2.out; omega)
        generalize nmB c.s = M1 at *
        generalize nmB c.f = M2 at *
        generalize gk = gO at *
        go_upto_region 9 with fail
        go_cut [5] (fun s5 wx => ∃ ya yc, s5 = .slice ya X2.length yc ∧ Hid (Below w.heap.size w wx) ∧ Hid (Duo wx w.heap.size (.slice oa o.length oc) (.slice ya X2.length yc) o X2))
        case first =>
          have hS : wr.drew.cell? ⟨lb, lo + i * 3, none⟩ = some (.string c.s) ∧ wr.drew.cell? ⟨lb, lo + i * 3 + 1, none⟩ = some (.string c.f) := ⟨g0, g1⟩
          have hB : Hid (Below w.heap.size w wr.drew) := Lib.hid HB.out.drew
          have hD : Hid (Duo wr.drew w.heap.size (.slice oa o.length oc) (.slice xa x.length xc) o x) := Lib.hid (HDU.out.below (Below.refl _ _).drew)
          clear g0 g1 g2 HB HDU
          refine wp_region_held_drew (S := fun wz => wz.cell? ⟨lb, lo + i * 3, none⟩ = some (.string c.s) ∧ wz.cell? ⟨lb, lo + i * 3 + 1, none⟩ = some (.string c.f)) (by kernel_rfl) hS (fun hh => ?_)
          clear hh
          generalize wr.drew = z0 at *
          refine ts 0 opREnc120 hS ?_
          refine ts 1 opREnc121 hS ?_
          refine ts 2 opREnc122 hS ?_
          refine ts 3 opREnc123 hS ?_
          refine ts 4 opREnc124 hS ?_
          refine ts 5 opREnc125 hS ?_
          refine ts 8 opREnc126 hS ?_
          refine ts 9 opREnc127 hS ?_
          refine ts 10 opREnc128 hS ?_
          refine ts 11 opREnc129 hS ?_
          refine ts 12 opREnc1210 hS ?_
          refine wpAnyH_ready (rs := [6]) (by kernel_rfl) (by simp) (AllReadyH.cons (o := opREnc1211) rfl (fun K hK => ?_) AllReadyH.nil)
          go_simp
          go_at_call 19
          refine (hT1.out z0).mono ?_
          rintro _ z1 ⟨ya6, yc6, rfl, ho, hb⟩
          have hbw := hb.mono hB.out.size
          replace hS : z1.cell? ⟨lb, lo + i * 3, none⟩ = some (.string c.s) ∧ z1.cell? ⟨lb, lo + i * 3 + 1, none⟩ = some (.string c.f) := ⟨((hbw).cell (p := ⟨lb, lo + i * 3, none⟩) HLB.out).trans hS.1, ((hbw).cell (p := ⟨lb, lo + i * 3 + 1, none⟩) HLB.out).trans hS.2⟩
          have K6 := Lib.hid (Bes.new hb ho hD.out.ox)
          have hBn := Lib.hid (hB.out.trans hbw)
          replace hD := Lib.hid (hD.out.below hb)
          clear hB hb ho hbw
          have hB := hBn
          clear hBn
          dsimp only
          refine hK.out _ _ hS (fun hh => ?_)
          clear hK K hh
          try simp only [Act.put, List.setIfInBounds_toArray, List.set_cons_zero, List.set_cons_succ]
          refine wpAnyH_ready (rs := [7]) (by kernel_rfl) (by simp) (AllReadyH.cons (o := opREnc1212) rfl (fun K hK => ?_) AllReadyH.nil)
          refine step_append_bsE X1 z1 rfl _ _ rfl w.heap.size _ x rfl hD.out.ox _ M1 hX1.out rfl K6.out.rd (by have := HXL.out; have := HN1L.out; omega) hB.out.size ?_
          intro ya7 yc7 z2 hg
          have hbw := hD.out.belowX hB.out.size hg
          replace hS : z2.cell? ⟨lb, lo + i * 3, none⟩ = some (.string c.s) ∧ z2.cell? ⟨lb, lo + i * 3 + 1, none⟩ = some (.string c.f) := ⟨((hbw).cell (p := ⟨lb, lo + i * 3, none⟩) HLB.out).trans hS.1, ((hbw).cell (p := ⟨lb, lo + i * 3 + 1, none⟩) HLB.out).trans hS.2⟩
          have hBn := Lib.hid (hB.out.trans hbw)
          replace hD := Lib.hid (hD.out.growX hg)
          clear hB hg hbw K6
          have hB := hBn
          clear hBn
          dsimp only
          refine hK.out _ _ hS (fun hh => ?_)
          clear hK K hh
          try simp only [Act.put, List.setIfInBounds_toArray, List.set_cons_zero, List.set_cons_succ]
          refine wpAnyH_ready (rs := [13]) (by kernel_rfl) (by simp) (AllReadyH.cons (o := opREnc1213) rfl (fun K hK => ?_) AllReadyH.nil)
          go_simp
          go_at_call 19
          refine (hT2.out z2).mono ?_
          rintro _ z3 ⟨ya13, yc13, rfl, ho, hb⟩
          have hbw := hb.mono hB.out.size
          replace hS : z3.cell? ⟨lb, lo + i * 3, none⟩ = some (.string c.s) ∧ z3.cell? ⟨lb, lo + i * 3 + 1, none⟩ = some (.string c.f) := ⟨((hbw).cell (p := ⟨lb, lo + i * 3, none⟩) HLB.out).trans hS.1, ((hbw).cell (p := ⟨lb, lo + i * 3 + 1, none⟩) HLB.out).trans hS.2⟩
          have K13 := Lib.hid (Bes.new hb ho hD.out.ox)
          have hBn := Lib.hid (hB.out.trans hbw)
          replace hD := Lib.hid (hD.out.below hb)
          clear hB hb ho hbw
          have hB := hBn
          clear hBn
          dsimp only
          refine hK.out _ _ hS (fun hh => ?_)
          clear hK K hh
          try simp only [Act.put, List.setIfInBounds_toArray, List.set_cons_zero, List.set_cons_succ]
          refine wpAnyH_ready (rs := [14]) (by kernel_rfl) (by simp) (AllReadyH.cons (o := opREnc1214) rfl (fun K hK => ?_) AllReadyH.nil)
          refine step_append_bsE X2 z3 rfl _ _ rfl w.heap.size _ X1 rfl hD.out.ox _ M2 hX2.out rfl K13.out.rd (by have := HL1.out; have := HN2L.out; omega) hB.out.size ?_
          intro ya14 yc14 z4 hg
          have hbw := hD.out.belowX hB.out.size hg
          replace hS : z4.cell? ⟨lb, lo + i * 3, none⟩ = some (.string c.s) ∧ z4.cell? ⟨lb, lo + i * 3 + 1, none⟩ = some (.string c.f) := ⟨((hbw).cell (p := ⟨lb, lo + i * 3, none⟩) HLB.out).trans hS.1, ((hbw).cell (p := ⟨lb, lo + i * 3 + 1, none⟩) HLB.out).trans hS.2⟩
          have hBn := Lib.hid (hB.out.trans hbw)
          replace hD := Lib.hid (hD.out.growX hg)
          clear hB hg hbw K13
          have hB := hBn
          clear hBn
          dsimp only
          refine hK.out _ _ hS (fun hh => ?_)
          clear hK K hh
          try simp only [Act.put, List.setIfInBounds_toArray, List.set_cons_zero, List.set_cons_succ]
          refine ts 15 opREnc1215 hS ?_
          refine wpAnyH_done (by kernel_rfl) ?_ _
          go_wp2_with fail
          go_meet
          go_light
          exact ⟨_, _, rfl, hB, hD⟩
        case rest =>
        obtain ⟨ya, yc, rfl, HB3, HD3⟩ := hcut
        have hF4 := four_any np (by omega)
        generalize wr = wO at *
        have HPO : Hid (x.length < 2000000000) := Lib.hid (by have := HXL.out; omega)
        go_wp2_with (first
          | (go_at_call 20; refine (hF4 _).mono ?_; rintro _ w5 ⟨ao5, cap5, rfl, ho5, hb5⟩; have HK5 := Lib.hid ho5.rd; have HD5 := Lib.hid (HD3.out.below hb5); have HB5 := Lib.hid (HB3.out.trans (hb5.mono HB3.out.size)); clear ho5 hb5 hF4)
          | (at_builtin; refine wpList_append_bsG X0 _ rfl _ _ rfl w.heap.size _ X2 rfl HD5.out.ox _ (beN 4 np) hX0.out rfl HK5.out (by rw [beN_len]; have := HL2.out; omega) HB5.out.size ?_; intro ao6 cap6 w6 hg6; have HD6 := Lib.hid (HD5.out.growX hg6); have HB6 := Lib.hid (HB5.out.trans (HD5.out.belowX HB5.out.size hg6)); clear hg6))
        go_loopg [4, 5, 8] np (fun m s4 s5 s8 wz => ∃ (j : Nat) (o' x' : List UInt8) (oa' : Option Addr) (oc' : Nat) (xa' : Option Addr) (xc' : Nat), j + m = np ∧ s4 = .slice oa' o'.length oc' ∧ s5 = .slice xa' x'.length xc' ∧ s8 = .int .i64 (1000 * (j : Int)) ∧ Hid (((partsP c.p).take j).foldl stP (some (o, x ++ hdC c)) = some (o', x')) ∧ Hid (Duo wz w.heap.size (.slice oa' o'.length oc') (.slice xa' x'.length xc') o' x') ∧ Hid (Below w.heap.size w wz))
        case atStart => exact ⟨0, o, X0, oa, oc, ao6, cap6, by omega, rfl, rfl, rfl, Lib.hid (by rw [HX0.out]; rfl), HD6, HB6⟩
        case round =>
          clear HDU HB HB3 HD3 HB6 HD6 HB5 HD5 HK5 hnpI hnpq hT1 hT2
          obtain ⟨j, o', x', oa', oc', xa', xc', hj, rfl, rfl, rfl, HFP, HDR, HBR⟩ := hrel
          have hjn : j ≤ np := by omega
          obtain ⟨hol, hxl⟩ := foldP_len HFP.out (by rw [← HPN.out, ← hnp.out]; exact hjn) (by omega)
          rw [toList_len, toList_len] at hxl
          have hxb : x'.length < 2000000000 := by have := HXL.out; have := HZ1.out; have := HZ2.out; omega
          replace hxl := Lib.hid hxl
          by_cases h1 : gk = 0
          · obtain rfl : j = np := by omega
            have hend : ¬ (1000 * (j : Int) < (pn : Int)) := by have := hnp.out; unfold nParts at this; omega
            have HFW : Hid ((partsP c.p).foldl stP (some (o, x ++ hdC c)) = some (o', x')) := Lib.hid (by have h := HFP.out; rw [List.take_of_length_le (by rw [partsP_len, ← HPN.out, ← hnp.out]; exact Nat.le_refl _)] at h; exact h)
            clear hj hjn h1
            by_cases hbig : 1073741824 ≤ o'.length + x'.length + 8
            · have hbI : (1073741824 : Int) ≤ (o'.length : Int) + (x'.length : Int) + 8 := by omega
              have HE : Hid (encL (cnS cs) = ([], 4)) := Lib.hid (encL_long HFR.out (foldC_take_none (k := i + 1) (by rw [HNX.out]; unfold stC; dsimp only; rw [HFW.out]; dsimp only; rw [if_pos hbig])))
              clear hbig hxl
              go_wp2_with fail
              go_ret2
              unfold FeEnd
              rw [HE.out]
              exact ⟨HBR.out, none, 0, rfl, World.ownsRow_nil _ _ _ _⟩
            · have hbI : ¬ (1073741824 : Int) ≤ (o'.length : Int) + (x'.length : Int) + 8 := by omega
              have HNX2 : Hid (((cnS cs).take (i + 1)).foldl stC (some (magB, [])) = some (o', x')) := Lib.hid (by rw [HNX.out]; unfold stC; dsimp only; rw [HFW.out]; dsimp only; rw [if_neg hbig])
              clear hbig hxl
              go_wp2_with fail
              go_roundg (gO - 1)
              case measure => go_light; omega
              case rel =>
                go_light
                exact ⟨i + 1, o', x', oa', oc', xa', xc', by omega, rfl, rfl, by go_num, HNX2, HDR, HBR⟩
          · have hjl : j < np := by omega
            have hjp : j < nParts pn := by rw [← hnp.out]; exact hjl
            have hlt := nParts_lt hjp
            have hltI : 1000 * (j : Int) < (pn : Int) := by omega
            obtain ⟨pj, hpj⟩ : ∃ k, k = min 1000 (pn - 1000 * j) := ⟨_, rfl⟩
            have HPJ : Hid (Pns w (.slice (some ⟨pb, po + 1000 * j * 4, none⟩) pj (pc - 1000 * j)) (partP c.p j)) := Lib.hid (partP_cut (by have h := HP.out; rw [← HPN.out] at h; exact h) HPN.out j hjp pj hpj)
            have HQL : Hid ((partP c.p j).length = pj) := Lib.hid (by rw [partP_len, ← HPN.out, hpj])
            have HQO : Hid (∀ p ∈ partP c.p j, p.ok) := Lib.hid (fun p hp => HOK.out p (partP_mem hp))
            have HST : Hid (((partsP c.p).take (j + 1)).foldl stP (some (o, x ++ hdC c)) = stP (some (o', x')) (partP c.p j)) := Lib.hid (by
              rw [foldP_next (by rw [partsP_len, ← HPN.out]; exact hjp) HFP.out, partsP_get _ _ (by rw [← HPN.out]; exact hjp)])
            have hpj1 : 1 ≤ pj := by omega
            have hpj2 : pj ≤ 1000 := by omega
            have HPJD := Lib.hid hpj
            clear hpj hjp
            go_upto_region 15 with fail
            have hlen : ((if (pn : Int) < 1000 * (j : Int) + 1000 then (pn : Int) else 1000 * (j : Int) + 1000).toNat - 1000 * j) = pj := by have := HPJD.out; split <;> omega
            rw [hlen]
            clear hlen
            generalize (if (pn : Int) < 1000 * (j : Int) + 1000 then (pn : Int) else 1000 * (j : Int) + 1000) = mn at *
            have HPJ1 := Lib.hid (RdV.below HPJ.out (HBR.out.mono (Nat.le_refl _)))
            generalize partP c.p j = Q at *
            rw [HQL.out] at HPJ1
            generalize po + 1000 * j * 4 = pj0 at *
            generalize pc - 1000 * j = pcj at *
            have hEN := rencodeB_any Q (.slice (some ⟨pb, pj0, none⟩) pj pcj) wr HQO.out (by rw [HQL.out]; omega) (by have h := HPJ1.out; unfold Pns; rw [HQL.out]; exact h)
            unfold BeEnd at hEN
            go_upto_region 16 with (go_at_call 21; refine hEN.mono ?_; rintro _ w8 ⟨hb8, ao8, cap8, rfl, ho8⟩; have HO8 := Lib.hid ho8; have HB8 := Lib.hid hb8; clear hb8 ho8 hEN)
            have HSP : Hid (stP (some (o', x')) Q = if (encP Q).2 ≠ 0 ∨ 1073741824 ≤ o'.length + (encP Q).1.length then none else some (o' ++ (encP Q).1, x' ++ entP o' Q)) := Lib.hid rfl
            have HEN : Hid (entP o' Q = be8 (uT (Q.getD 0 p0).t) ++ be8 (uT (Q.getD (Q.length - 1) p0).t) ++ (beN 4 o'.length ++ beN 4 (encP Q).1.length)) := Lib.hid rfl
            have HBN0 : Hid ((encP Q).2 = 0 → (encP Q).1 ≠ []) := Lib.hid (fun h e => by have h9 := (encP_short HQO.out (show encP Q = ((encP Q).1, 0) by rw [← h])).2; rw [e] at h9; simp at h9)
            have HBL : Hid ((encP Q).1.length ≤ 1000000000000) := Lib.hid (Nat.le_trans (encP_bound HQO.out) (by decide))
            have hbl := HBL.out
            have HB9 := Lib.hid (HBR.out.trans (HB8.out.mono HBR.out.size))
            have HDR9 := Lib.hid (HDR.out.below HB8.out)
            have HPJ9 := Lib.hid (RdV.below HPJ1.out HB8.out)
            have HR9 := Lib.hid (Bes.new HB8.out HO8.out HDR.out.ox)
            generalize (encP Q).1 = bb at *
            generalize (encP Q).2 = ee at *
            have hlong : (ee ≠ 0 ∨ 1073741824 ≤ o'.length + bb.length) → encL (cnS cs) = ([], 4) := fun hb => encL_long HFR.out (foldC_take_none (k := i + 1) (by rw [HNX.out]; unfold stC; dsimp only; rw [foldP_take_none (k := j + 1) (by rw [HST.out, HSP.out, if_pos hb])]))
            replace hlong := Lib.hid hlong
            replace hj := Lib.hid hj
            by_cases hee : ee = 0
            · have heI : ((ee : Int) != 0) = false := by simp [hee]
              by_cases hbig : 1073741824 ≤ o'.length + bb.length
              · have hbI : (1073741824 : Int) ≤ (o'.length : Int) + (bb.length : Int) := by omega
                have HE := Lib.hid (hlong.out (.inr hbig))
                clear hbig hee hxl
                go_wp2_with fail
                go_ret2
                unfold FeEnd
                rw [HE.out]
                exact ⟨HB9.out, none, 0, rfl, World.ownsRow_nil _ _ _ _⟩
              · have hbI : ¬ (1073741824 : Int) ≤ (o'.length : Int) + (bb.length : Int) := by omega
                have HST2 : Hid (((partsP c.p).take (j + 1)).foldl stP (some (o, x ++ hdC c)) = some (o' ++ bb, x' ++ entP o' Q)) := Lib.hid (by rw [HST.out, HSP.out, if_neg (by rw [hee]; simp; omega)])
                have hob : o'.length + bb.length < 1073741824 := by omega
                have HBN := Lib.hid (HBN0.out hee)
                clear hbig hee hlong hxl
                go_upto_region 18 with fail
                obtain ⟨pk, hpk⟩ : ∃ k, k + 1 = pj := ⟨pj - 1, by omega⟩
                have hpkI : (pj : Int) - 1 = (pk : Int) := by omega
                have hpkw : IntKind.i64.wrap ((pj : Int) - 1) = (pk : Int) := by rw [hpkI]; exact IntWalk.i64_in _ (by omega)
                have hpkw2 : IntKind.i64.wrap (pk : Int) = (pk : Int) := IntWalk.i64_in _ (by omega)
                have hpk0 : (0 : Int) ≤ (pk : Int) := by omega
                have hpkl : pk < pj := by omega
                have hpklI : (pk : Int) < (pj : Int) := by omega
                have hpjI : (0 : Int) < (pj : Int) := by omega
                have hpj0' : 0 < pj := by omega
                have hpp : RdV w8 4 (.slice (some ⟨pb, pj0, none⟩) pj pcj) pj (Q.flatMap Pn.cells) := HPJ9.out
                obtain ⟨_, _, _, he, _, _, hpb8, hpcell⟩ := RdV.some hpp hpj0' (by decide)
                simp only [Value.slice.injEq, Option.some.injEq, Addr.mk.injEq, true_and, and_true] at he
                obtain ⟨⟨rfl, rfl⟩, rfl⟩ := he
                clear hpp
                have e0 := flat_at Pn.cells 4 (fun _ => rfl) Q 0 (by rw [HQL.out]; omega) 0 (by omega)
                have e1 := flat_at Pn.cells 4 (fun _ => rfl) Q pk (by rw [HQL.out]; omega) 0 (by omega)
                have m0 : w8.cell? ⟨pb, pj0, none⟩ = some (.int .i64 (Q.getD 0 p0).t) := by
                  have h := hpcell _ _ e0
                  rw [show pj0 + (0 * 4 + 0) = pj0 by omega, ← getD_get Q 0 p0 (by rw [HQL.out]; omega)] at h
                  exact h
                have m1 : w8.cell? ⟨pb, pj0 + pk * 4, none⟩ = some (.int .i64 (Q.getD pk p0).t) := by
                  have h := hpcell _ _ e1
                  rw [show pj0 + (pk * 4 + 0) = pj0 + pk * 4 by omega, ← getD_get Q pk p0 (by rw [HQL.out]; omega)] at h
                  exact h
                clear hpcell e0 e1
                rw [show Q.length - 1 = pk by rw [HQL.out]; omega] at HEN
                generalize (Q.getD 0 p0).t = t0 at *
                generalize (Q.getD pk p0).t = t1 at *
                have hw0 := u64_wrap t0
                have hw1 := u64_wrap t1
                have hU0 := uT_lt t0
                have hU1 := uT_lt t1
                obtain ⟨y1, hy1⟩ : ∃ y, y = x' ++ be8 (uT t0) := ⟨_, rfl⟩
                obtain ⟨y2, hy2⟩ : ∃ y, y = y1 ++ be8 (uT t1) := ⟨_, rfl⟩
                obtain ⟨y3, hy3⟩ : ∃ y, y = y2 ++ beN 4 o'.length := ⟨_, rfl⟩
                obtain ⟨y4, hy4⟩ : ∃ y, y = y3 ++ beN 4 bb.length := ⟨_, rfl⟩
                obtain ⟨o2, ho2⟩ : ∃ y, y = o' ++ bb := ⟨_, rfl⟩
                have hl1 : y1.length = x'.length + 8 := by rw [hy1, List.length_append, be8_len]
                have hl2 : y2.length = x'.length + 16 := by rw [hy2, List.length_append, be8_len, hl1]
                have hl3 : y3.length = x'.length + 20 := by rw [hy3, List.length_append, beN_len, hl2]
                have HXB := Lib.hid hxb
                have HL1y : Hid (y1.length ≤ 3000000000) := Lib.hid (by omega)
                have HL2y : Hid (y2.length ≤ 3000000000) := Lib.hid (by omega)
                have HL3y : Hid (y3.length ≤ 3000000000) := Lib.hid (by omega)
                have HY4 : Hid (x' ++ entP o' Q = y4) := Lib.hid (by rw [HEN.out, hy4, hy3, hy2, hy1]; simp only [List.append_assoc])
                have HE8a : Hid ((be8 (uT t0)).length = 8) := Lib.hid (be8_len _)
                have HE8b : Hid ((be8 (uT t1)).length = 8) := Lib.hid (be8_len _)
                have hN1 : Hid (∀ wz, Calls Tryd.prog 22 #[.int .u64 (uT t0 : Int)] wz fun e w' => ∃ ao cap, e = .returned (.slice ao (be8 (uT t0)).length cap) ∧ Own w' wz.heap.size (.slice ao (be8 (uT t0)).length cap) (be8 (uT t0)) ∧ Below wz.heap.size wz w') := Lib.hid (fun wz => eight_any (uT t0) hU0 wz)
                have hN2 : Hid (∀ wz, Calls Tryd.prog 22 #[.int .u64 (uT t1 : Int)] wz fun e w' => ∃ ao cap, e = .returned (.slice ao (be8 (uT t1)).length cap) ∧ Own w' wz.heap.size (.slice ao (be8 (uT t1)).length cap) (be8 (uT t1)) ∧ Below wz.heap.size wz w') := Lib.hid (fun wz => eight_any (uT t1) hU1 wz)
                have hN3 : Hid (∀ wz, Calls Tryd.prog 20 #[.int .i64 (o'.length : Int)] wz fun e w' => ∃ ao cap, e = .returned (.slice ao (beN 4 o'.length).length cap) ∧ Own w' wz.heap.size (.slice ao (beN 4 o'.length).length cap) (beN 4 o'.length) ∧ Below wz.heap.size wz w') := Lib.hid (fun wz => four_any o'.length (by omega) wz)
                have hN4 : Hid (∀ wz, Calls Tryd.prog 20 #[.int .i64 (bb.length : Int)] wz fun e w' => ∃ ao cap, e = .returned (.slice ao (beN 4 bb.length).length cap) ∧ Own w' wz.heap.size (.slice ao (beN 4 bb.length).length cap) (beN 4 bb.length) ∧ Below wz.heap.size wz w') := Lib.hid (fun wz => four_any bb.length (by omega) wz)
                have HF4a : Hid ((beN 4 o'.length).length = 4) := Lib.hid (beN_len _ _)
                have HF4b : Hid ((beN 4 bb.length).length = 4) := Lib.hid (beN_len _ _)
                rw [HY4.out, ← ho2] at HST2
                replace ho2 := Lib.hid ho2
                replace hy1 := Lib.hid hy1
                replace hy2 := Lib.hid hy2
                replace hy3 := Lib.hid hy3
                replace hy4 := Lib.hid hy4
                clear hl1 hl2 hl3 HSP HEN HST
                generalize be8 (uT t0) = e8a at *
                generalize be8 (uT t1) = e8b at *
                generalize uT t0 = T0 at *
                generalize uT t1 = T1 at *
                go_cut [5] (fun s5 wx => ∃ ya yc, s5 = .slice ya y2.length yc ∧ Hid (Below w.heap.size w wx) ∧ Hid (Duo wx w.heap.size (.slice oa' o'.length oc') (.slice ya y2.length yc) o' y2) ∧ Hid (Bes wx (.slice ya y2.length yc) (.slice ao8 bb.length cap8) bb))
                case first =>
                  have hS : w8.drew.cell? ⟨pb, pj0, none⟩ = some (.int .i64 t0) ∧ w8.drew.cell? ⟨pb, pj0 + pk * 4, none⟩ = some (.int .i64 t1) := ⟨m0, m1⟩
                  have hB : Hid (Below w.heap.size w w8.drew) := Lib.hid HB9.out.drew
                  have hD : Hid (Duo w8.drew w.heap.size (.slice oa' o'.length oc') (.slice xa' x'.length xc') o' x') := Lib.hid (HDR9.out.below (Below.refl _ _).drew)
                  have HR : Hid (Bes w8.drew (.slice xa' x'.length xc') (.slice ao8 bb.length cap8) bb) := Lib.hid (HR9.out.below (Below.refl _ _).drew)
                  clear m0 m1 HB8 HB9 HDR9 HPJ9 HPJ HPJ1 HO8 HR9 HDR HBR hpb8
                  refine wp_region_held_drew (S := fun wz => wz.cell? ⟨pb, pj0, none⟩ = some (.int .i64 t0) ∧ wz.cell? ⟨pb, pj0 + pk * 4, none⟩ = some (.int .i64 t1)) (by kernel_rfl) hS (fun hh => ?_)
                  clear hh
                  generalize w8.drew = z0 at *
                  refine ts 0 opREnc1216 hS ?_
                  refine ts 1 opREnc1217 hS ?_
                  refine ts 2 opREnc1218 hS ?_
                  refine ts 3 opREnc1219 hS ?_
                  refine ts 4 opREnc1220 hS ?_
                  refine ts 5 opREnc1221 hS ?_
                  refine ts 8 opREnc1222 hS ?_
                  refine ts 9 opREnc1223 hS ?_
                  refine ts 10 opREnc1224 hS ?_
                  refine ts 11 opREnc1225 hS ?_
                  refine ts 12 opREnc1226 hS ?_
                  refine ts 13 opREnc1227 hS ?_
                  refine ts 14 opREnc1228 hS ?_
                  refine ts 15 opREnc1229 hS ?_
                  refine wpAnyH_ready (rs := [6]) (by kernel_rfl) (by simp) (AllReadyH.cons (o := opREnc1230) rfl (fun K hK => ?_) AllReadyH.nil)
                  go_simp
                  go_at_call 22
                  refine (hN1.out z0).mono ?_
                  rintro _ z1 ⟨ya6, yc6, rfl, ho, hb⟩
                  have hbw := hb.mono hB.out.size
                  replace hS : z1.cell? ⟨pb, pj0, none⟩ = some (.int .i64 t0) ∧ z1.cell? ⟨pb, pj0 + pk * 4, none⟩ = some (.int .i64 t1) := ⟨((hbw).cell (p := ⟨pb, pj0, none⟩) HPB.out).trans hS.1, ((hbw).cell (p := ⟨pb, pj0 + pk * 4, none⟩) HPB.out).trans hS.2⟩
                  have K6 := Lib.hid (Bes.new hb ho hD.out.ox)
                  replace HR := Lib.hid (HR.out.below hb)
                  have hBn := Lib.hid (hB.out.trans hbw)
                  replace hD := Lib.hid (hD.out.below hb)
                  clear hB hb ho hbw
                  have hB := hBn
                  clear hBn
                  dsimp only
                  refine hK.out _ _ hS (fun hh => ?_)
                  clear hK K hh
                  try simp only [Act.put, List.setIfInBounds_toArray, List.set_cons_zero, List.set_cons_succ]
                  refine wpAnyH_ready (rs := [7]) (by kernel_rfl) (by simp) (AllReadyH.cons (o := opREnc1231) rfl (fun K hK => ?_) AllReadyH.nil)
                  refine step_append_bsE y1 z1 rfl _ _ rfl w.heap.size _ x' rfl hD.out.ox _ e8a hy1.out rfl K6.out.rd (by have := HXB.out; have := HE8a.out; omega) hB.out.size ?_
                  intro ya7 yc7 z2 hg
                  have hbw := hD.out.belowX hB.out.size hg
                  replace hS : z2.cell? ⟨pb, pj0, none⟩ = some (.int .i64 t0) ∧ z2.cell? ⟨pb, pj0 + pk * 4, none⟩ = some (.int .i64 t1) := ⟨((hbw).cell (p := ⟨pb, pj0, none⟩) HPB.out).trans hS.1, ((hbw).cell (p := ⟨pb, pj0 + pk * 4, none⟩) HPB.out).trans hS.2⟩
                  replace HR := Lib.hid (HR.out.grow hg)
                  have hBn := Lib.hid (hB.out.trans hbw)
                  replace hD := Lib.hid (hD.out.growX hg)
                  clear hB hg hbw K6
                  have hB := hBn
                  clear hBn
                  dsimp only
                  refine hK.out _ _ hS (fun hh => ?_)
                  clear hK K hh
                  try simp only [Act.put, List.setIfInBounds_toArray, List.set_cons_zero, List.set_cons_succ]
                  refine wpAnyH_ready (rs := [16]) (by kernel_rfl) (by simp) (AllReadyH.cons (o := opREnc1232) rfl (fun K hK => ?_) AllReadyH.nil)
                  go_simp
                  go_at_call 22
                  refine (hN2.out z2).mono ?_
                  rintro _ z3 ⟨ya16, yc16, rfl, ho, hb⟩
                  have hbw := hb.mono hB.out.size
                  replace hS : z3.cell? ⟨pb, pj0, none⟩ = some (.int .i64 t0) ∧ z3.cell? ⟨pb, pj0 + pk * 4, none⟩ = some (.int .i64 t1) := ⟨((hbw).cell (p := ⟨pb, pj0, none⟩) HPB.out).trans hS.1, ((hbw).cell (p := ⟨pb, pj0 + pk * 4, none⟩) HPB.out).trans hS.2⟩
                  have K16 := Lib.hid (Bes.new hb ho hD.out.ox)
                  replace HR := Lib.hid (HR.out.below hb)
                  have hBn := Lib.hid (hB.out.trans hbw)
                  replace hD := Lib.hid (hD.out.below hb)
                  clear hB hb ho hbw
                  have hB := hBn
                  clear hBn
                  dsimp only
                  refine hK.out _ _ hS (fun hh => ?_)
                  clear hK K hh
                  try simp only [Act.put, List.setIfInBounds_toArray, List.set_cons_zero, List.set_cons_succ]
                  refine wpAnyH_ready (rs := [17]) (by kernel_rfl) (by simp) (AllReadyH.cons (o := opREnc1233) rfl (fun K hK => ?_) AllReadyH.nil)
                  refine step_append_bsE y2 z3 rfl _ _ rfl w.heap.size _ y1 rfl hD.out.ox _ e8b hy2.out rfl K16.out.rd (by have := HL1y.out; have := HE8b.out; omega) hB.out.size ?_
                  intro ya17 yc17 z4 hg
                  have hbw := hD.out.belowX hB.out.size hg
                  replace hS : z4.cell? ⟨pb, pj0, none⟩ = some (.int .i64 t0) ∧ z4.cell? ⟨pb, pj0 + pk * 4, none⟩ = some (.int .i64 t1) := ⟨((hbw).cell (p := ⟨pb, pj0, none⟩) HPB.out).trans hS.1, ((hbw).cell (p := ⟨pb, pj0 + pk * 4, none⟩) HPB.out).trans hS.2⟩
                  replace HR := Lib.hid (HR.out.grow hg)
                  have hBn := Lib.hid (hB.out.trans hbw)
                  replace hD := Lib.hid (hD.out.growX hg)
                  clear hB hg hbw K16
                  have hB := hBn
                  clear hBn
                  dsimp only
                  refine hK.out _ _ hS (fun hh => ?_)
                  clear hK K hh
                  try simp only [Act.put, List.setIfInBounds_toArray, List.set_cons_zero, List.set_cons_succ]
                  refine ts 18 opREnc1234 hS ?_
                  refine wpAnyH_done (by kernel_rfl) ?_ _
                  go_wp2_with fail
                  go_meet
                  go_light
                  exact ⟨_, _, rfl, hB, hD, HR⟩
                case rest =>
                obtain ⟨ya2, yc2, rfl, HB10, HD10, HR10⟩ := hcut
                have HBB : Hid (bb = [] → Value.slice ao8 bb.length cap8 = .slice none 0 0) := Lib.hid (fun e => absurd e HBN.out)
                have HOL : Hid (o'.length + bb.length ≤ 140737488355328) := Lib.hid (by omega)
                generalize wr = wA at *
                go_wp2_with (first
                  | (go_at_call 20; (with_reducible refine (hN3.out _).mono ?_); rintro _ w11 ⟨ao11, cap11, rfl, ho11, hb11⟩; have HK11 := Lib.hid (Bes.new hb11 ho11 HD10.out.ox); have HD11 := Lib.hid (HD10.out.below hb11); have HR11 := Lib.hid (HR10.out.below hb11); have HB11 := Lib.hid (HB10.out.trans (hb11.mono HB10.out.size)); clear ho11 hb11)
                  | (at_builtin; refine wpList_append_bsG y3 _ rfl _ _ rfl w.heap.size _ y2 rfl HD11.out.ox _ (beN 4 o'.length) hy3.out rfl HK11.out.rd (by rw [HF4a.out]; have := HL2y.out; omega) HB11.out.size ?_; intro ao12 cap12 w12 hg12; have HR12 := Lib.hid (HR11.out.grow hg12); have HB12 := Lib.hid (HB11.out.trans (HD11.out.belowX HB11.out.size hg12)); have HD12 := Lib.hid (HD11.out.growX hg12); clear hg12)
                  | (go_at_call 20; refine (hN4.out _).mono ?_; rintro _ w13 ⟨ao13, cap13, rfl, ho13, hb13⟩; have HK13 := Lib.hid (Bes.new hb13 ho13 HD12.out.ox); have HD13 := Lib.hid (HD12.out.below hb13); have HR13 := Lib.hid (HR12.out.below hb13); have HB13 := Lib.hid (HB12.out.trans (hb13.mono HB12.out.size)); clear ho13 hb13)
                  | (at_builtin; refine wpList_append_bsG y4 _ rfl _ _ rfl w.heap.size _ y3 rfl HD13.out.ox _ (beN 4 bb.length) hy4.out rfl HK13.out.rd (by rw [HF4b.out]; have := HL3y.out; omega) HB13.out.size ?_; intro ao14 cap14 w14 hg14; have HR14 := Lib.hid (HR13.out.grow hg14); have HB14 := Lib.hid (HB13.out.trans (HD13.out.belowX HB13.out.size hg14)); have HD14 := Lib.hid (HD13.out.growX hg14); clear hg14)
                  | (at_builtin; refine wpList_append_bsE o2 _ rfl _ _ rfl w.heap.size (.slice oa' o'.length oc') o' rfl HD14.out.oo _ bb ho2.out rfl HR14.out.rd HBB.out HOL.out HB14.out.size ?_; intro ao15 cap15 w15 hg15; have HB15 := Lib.hid (HB14.out.trans (HD14.out.belowO HB14.out.size hg15)); have HD15 := Lib.hid (HD14.out.growO hg15); clear hg15))
                go_roundg (gk - 1)
                case measure => go_light; omega
                case rel =>
                  go_light
                  exact ⟨j + 1, o2, y4, ao15, cap15, ao14, cap14, by have := hj.out; omega, rfl, rfl, by go_num, HST2, HD15, HB15⟩
            · have heI : ((ee : Int) != 0) = true := by simp; omega
              have HE := Lib.hid (hlong.out (.inl hee))
              clear hee hxl
              go_wp2_with fail
              go_ret2
              unfold FeEnd
              rw [HE.out]
              exact ⟨HB9.out, none, 0, rfl, World.ownsRow_nil _ _ _ _⟩
end Go.Proofs.YthcgalpabjjkoaaDoor

