/- Texts of ours, behind one another: FrmF12. No conditions but those that each states. -/
import Derived.Test.YthcgalpabjjkoaaDoorG1
import Derived.Test.YthcgalpabjjkoaaDoorG13
import Derived.BigRegion
import Derived.Deep.RegionHeld3
/- XFrmF12: file.formed. -/
namespace Go.Proofs.YthcgalpabjjkoaaDoor
open Go.RowKit
set_option linter.unusedVariables false
set_option maxRecDepth 100000

@[reducible, go_sem] def opFrmF120 : Oper := { dst := some 14, op := Op.move (Operand.tmp 3), type := 3, pos := "file.go:29", after := #[], guard := none }
@[reducible, go_sem] def opFrmF121 : Oper := { dst := some 15, op := Op.binOp BinOp.gtr 3 (Operand.tmp 14) (Operand.const (Value.int IntKind.i64 0)) 3, type := 4, pos := "file.go:29", after := #[{ on := 0, ground := Ground.data }], guard := none }
@[reducible, go_sem] def opFrmF122 : Oper := { dst := some 16, op := Op.move (Operand.tmp 15), type := 4, pos := "file.go:29", after := #[{ on := 1, ground := Ground.data }], guard := none }
@[reducible, go_sem] def opFrmF123 : Oper := { dst := some 17, op := Op.move (Operand.tmp 0), type := 32, pos := "file.go:29", after := #[{ on := 2, ground := Ground.guard }], guard := some (2, true) }
@[reducible, go_sem] def opFrmF124 : Oper := { dst := some 18, op := Op.move (Operand.tmp 3), type := 3, pos := "file.go:29", after := #[{ on := 2, ground := Ground.guard }], guard := some (2, true) }
@[reducible, go_sem] def opFrmF125 : Oper := { dst := some 19, op := Op.binOp BinOp.sub 3 (Operand.tmp 18) (Operand.const (Value.int IntKind.i64 1)) 3, type := 3, pos := "file.go:29", after := #[{ on := 4, ground := Ground.data }, { on := 2, ground := Ground.guard }], guard := some (2, true) }
@[reducible, go_sem] def opFrmF126 : Oper := { dst := some 20, op := Op.indexAddr 32 (Operand.tmp 17) (Operand.tmp 19), type := 0, pos := "file.go:29", after := #[{ on := 3, ground := Ground.data }, { on := 5, ground := Ground.data }, { on := 2, ground := Ground.guard }], guard := some (2, true) }
@[reducible, go_sem] def opFrmF127 : Oper := { dst := some 21, op := Op.load 31 (Operand.tmp 20), type := 31, pos := "file.go:29", after := #[{ on := 6, ground := Ground.data }, { on := 2, ground := Ground.guard }], guard := some (2, true) }
@[reducible, go_sem] def opFrmF128 : Oper := { dst := some 22, op := Op.load 31 (Operand.tmp 4), type := 31, pos := "file.go:29", after := #[{ on := 2, ground := Ground.guard }], guard := some (2, true) }
@[reducible, go_sem] def opFrmF129 : Oper := { dst := some 23, op := Op.call { callee := Callee.value (Operand.func 29), args := #[Operand.tmp 21, Operand.tmp 22], argTypes := #[31, 31] }, type := 3, pos := "file.go:29", after := #[{ on := 7, ground := Ground.data }, { on := 8, ground := Ground.data }, { on := 2, ground := Ground.chain }, { on := 2, ground := Ground.guard }], guard := some (2, true) }
@[reducible, go_sem] def opFrmF1210 : Oper := { dst := some 24, op := Op.binOp BinOp.geq 3 (Operand.tmp 23) (Operand.const (Value.int IntKind.i64 0)) 3, type := 4, pos := "file.go:29", after := #[{ on := 9, ground := Ground.data }, { on := 2, ground := Ground.guard }], guard := some (2, true) }
@[reducible, go_sem] def opFrmF1211 : Oper := { dst := some 25, op := Op.pick (Operand.tmp 16) (Operand.tmp 24) (Operand.const (Value.bool false)), type := 4, pos := "file.go:29", after := #[{ on := 2, ground := Ground.data }, { on := 10, ground := Ground.data }], guard := none }
@[reducible, go_sem] def opFrmF1212 : Oper := { dst := some 26, op := Op.move (Operand.tmp 25), type := 4, pos := "file.go:29", after := #[{ on := 11, ground := Ground.data }, { on := 9, ground := Ground.chain }], guard := none }
@[reducible, go_sem] def opFrmF1213 : Oper := { dst := some 27, op := Op.fieldAddr 31 (Operand.tmp 4) 0, type := 0, pos := "file.go:29", after := #[{ on := 12, ground := Ground.guard }], guard := some (12, false) }
@[reducible, go_sem] def opFrmF1214 : Oper := { dst := some 28, op := Op.load 9 (Operand.tmp 27), type := 9, pos := "file.go:29", after := #[{ on := 13, ground := Ground.data }, { on := 12, ground := Ground.guard }], guard := some (12, false) }
@[reducible, go_sem] def opFrmF1215 : Oper := { dst := some 29, op := Op.call { callee := Callee.builtin Builtin.len, args := #[Operand.tmp 28], argTypes := #[9] }, type := 3, pos := "file.go:29", after := #[{ on := 14, ground := Ground.data }, { on := 12, ground := Ground.guard }], guard := some (12, false) }
@[reducible, go_sem] def opFrmF1216 : Oper := { dst := some 30, op := Op.binOp BinOp.gtr 3 (Operand.tmp 29) (Operand.const (Value.int IntKind.i64 4000)) 3, type := 4, pos := "file.go:29", after := #[{ on := 15, ground := Ground.data }, { on := 12, ground := Ground.guard }], guard := some (12, false) }
@[reducible, go_sem] def opFrmF1217 : Oper := { dst := some 31, op := Op.pick (Operand.tmp 26) (Operand.const (Value.bool true)) (Operand.tmp 30), type := 4, pos := "file.go:29", after := #[{ on := 12, ground := Ground.data }, { on := 16, ground := Ground.data }], guard := none }
@[reducible, go_sem] def opFrmF1218 : Oper := { dst := some 32, op := Op.move (Operand.tmp 31), type := 4, pos := "file.go:29", after := #[{ on := 17, ground := Ground.data }, { on := 12, ground := Ground.chain }], guard := none }
@[reducible, go_sem] def opFrmF1219 : Oper := { dst := some 33, op := Op.fieldAddr 31 (Operand.tmp 4) 1, type := 0, pos := "file.go:29", after := #[{ on := 18, ground := Ground.guard }], guard := some (18, false) }
@[reducible, go_sem] def opFrmF1220 : Oper := { dst := some 34, op := Op.load 9 (Operand.tmp 33), type := 9, pos := "file.go:29", after := #[{ on := 19, ground := Ground.data }, { on := 18, ground := Ground.guard }], guard := some (18, false) }
@[reducible, go_sem] def opFrmF1221 : Oper := { dst := some 35, op := Op.call { callee := Callee.builtin Builtin.len, args := #[Operand.tmp 34], argTypes := #[9] }, type := 3, pos := "file.go:29", after := #[{ on := 20, ground := Ground.data }, { on := 18, ground := Ground.guard }], guard := some (18, false) }
@[reducible, go_sem] def opFrmF1222 : Oper := { dst := some 36, op := Op.binOp BinOp.gtr 3 (Operand.tmp 35) (Operand.const (Value.int IntKind.i64 4000)) 3, type := 4, pos := "file.go:29", after := #[{ on := 21, ground := Ground.data }, { on := 18, ground := Ground.guard }], guard := some (18, false) }
@[reducible, go_sem] def opFrmF1223 : Oper := { dst := some 37, op := Op.pick (Operand.tmp 32) (Operand.const (Value.bool true)) (Operand.tmp 36), type := 4, pos := "file.go:29", after := #[{ on := 18, ground := Ground.data }, { on := 22, ground := Ground.data }], guard := none }
@[reducible, go_sem] def opFrmF1224 : Oper := { dst := some 38, op := Op.move (Operand.tmp 37), type := 4, pos := "file.go:29", after := #[{ on := 23, ground := Ground.data }, { on := 18, ground := Ground.chain }], guard := none }
@[reducible, go_sem] def opFrmF1225 : Oper := { dst := some 39, op := Op.fieldAddr 31 (Operand.tmp 4) 2, type := 0, pos := "file.go:29", after := #[{ on := 24, ground := Ground.guard }], guard := some (24, false) }
@[reducible, go_sem] def opFrmF1226 : Oper := { dst := some 40, op := Op.load 24 (Operand.tmp 39), type := 24, pos := "file.go:29", after := #[{ on := 25, ground := Ground.data }, { on := 24, ground := Ground.guard }], guard := some (24, false) }
@[reducible, go_sem] def opFrmF1227 : Oper := { dst := some 41, op := Op.call { callee := Callee.builtin Builtin.len, args := #[Operand.tmp 40], argTypes := #[24] }, type := 3, pos := "file.go:29", after := #[{ on := 26, ground := Ground.data }, { on := 24, ground := Ground.guard }], guard := some (24, false) }
@[reducible, go_sem] def opFrmF1228 : Oper := { dst := some 42, op := Op.binOp BinOp.eql 3 (Operand.tmp 41) (Operand.const (Value.int IntKind.i64 0)) 3, type := 4, pos := "file.go:29", after := #[{ on := 27, ground := Ground.data }, { on := 24, ground := Ground.guard }], guard := some (24, false) }
@[reducible, go_sem] def opFrmF1229 : Oper := { dst := some 43, op := Op.pick (Operand.tmp 38) (Operand.const (Value.bool true)) (Operand.tmp 42), type := 4, pos := "file.go:29", after := #[{ on := 24, ground := Ground.data }, { on := 28, ground := Ground.data }], guard := none }
@[reducible, go_sem] def opFrmF1230 : Oper := { dst := some 44, op := Op.move (Operand.tmp 43), type := 4, pos := "file.go:29", after := #[{ on := 29, ground := Ground.data }, { on := 24, ground := Ground.chain }], guard := none }
@[reducible, go_sem] def opFrmF1231 : Oper := { dst := some 45, op := Op.fieldAddr 31 (Operand.tmp 4) 2, type := 0, pos := "file.go:29", after := #[{ on := 30, ground := Ground.guard }], guard := some (30, false) }
@[reducible, go_sem] def opFrmF1232 : Oper := { dst := some 46, op := Op.load 24 (Operand.tmp 45), type := 24, pos := "file.go:29", after := #[{ on := 31, ground := Ground.data }, { on := 30, ground := Ground.guard }], guard := some (30, false) }
@[reducible, go_sem] def opFrmF1233 : Oper := { dst := some 47, op := Op.call { callee := Callee.builtin Builtin.len, args := #[Operand.tmp 46], argTypes := #[24] }, type := 3, pos := "file.go:29", after := #[{ on := 32, ground := Ground.data }, { on := 30, ground := Ground.guard }], guard := some (30, false) }
@[reducible, go_sem] def opFrmF1234 : Oper := { dst := some 48, op := Op.binOp BinOp.gtr 3 (Operand.tmp 47) (Operand.const (Value.int IntKind.i64 1000000)) 3, type := 4, pos := "file.go:29", after := #[{ on := 33, ground := Ground.data }, { on := 30, ground := Ground.guard }], guard := some (30, false) }
@[reducible, go_sem] def opFrmF1235 : Oper := { dst := some 49, op := Op.pick (Operand.tmp 44) (Operand.const (Value.bool true)) (Operand.tmp 48), type := 4, pos := "file.go:29", after := #[{ on := 30, ground := Ground.data }, { on := 34, ground := Ground.data }], guard := none }
@[reducible, go_sem] def opFrmF1236 : Oper := { dst := some 58, op := Op.fieldAddr 29 (Operand.tmp 6) 1, type := 0, pos := "file.go:33", after := #[], guard := none }
@[reducible, go_sem] def opFrmF1237 : Oper := { dst := some 59, op := Op.load 27 (Operand.tmp 58), type := 27, pos := "file.go:33", after := #[{ on := 0, ground := Ground.data }], guard := none }
@[reducible, go_sem] def opFrmF1238 : Oper := { dst := some 60, op := Op.call { callee := Callee.value (Operand.func 32), args := #[Operand.tmp 59], argTypes := #[27] }, type := 4, pos := "file.go:33", after := #[{ on := 1, ground := Ground.data }], guard := none }
@[reducible, go_sem] def opFrmF1239 : Oper := { dst := some 61, op := Op.unOp UnOp.not 4 (Operand.tmp 60), type := 4, pos := "file.go:33", after := #[{ on := 2, ground := Ground.data }], guard := none }
@[reducible, go_sem] def opFrmF1240 : Oper := { dst := some 62, op := Op.move (Operand.tmp 61), type := 4, pos := "file.go:33", after := #[{ on := 3, ground := Ground.data }, { on := 2, ground := Ground.chain }], guard := none }
@[reducible, go_sem] def opFrmF1241 : Oper := { dst := some 63, op := Op.fieldAddr 29 (Operand.tmp 6) 1, type := 0, pos := "file.go:33", after := #[{ on := 4, ground := Ground.guard }], guard := some (4, false) }
@[reducible, go_sem] def opFrmF1242 : Oper := { dst := some 64, op := Op.fieldAddr 27 (Operand.tmp 63) 0, type := 0, pos := "file.go:33", after := #[{ on := 5, ground := Ground.data }, { on := 4, ground := Ground.guard }], guard := some (4, false) }
@[reducible, go_sem] def opFrmF1243 : Oper := { dst := some 65, op := Op.load 3 (Operand.tmp 64), type := 3, pos := "file.go:33", after := #[{ on := 6, ground := Ground.data }, { on := 4, ground := Ground.guard }], guard := some (4, false) }
@[reducible, go_sem] def opFrmF1244 : Oper := { dst := some 66, op := Op.fieldAddr 31 (Operand.tmp 4) 2, type := 0, pos := "file.go:33", after := #[{ on := 4, ground := Ground.guard }], guard := some (4, false) }
@[reducible, go_sem] def opFrmF1245 : Oper := { dst := some 67, op := Op.load 24 (Operand.tmp 66), type := 24, pos := "file.go:33", after := #[{ on := 8, ground := Ground.data }, { on := 4, ground := Ground.guard }], guard := some (4, false) }
@[reducible, go_sem] def opFrmF1246 : Oper := { dst := some 68, op := Op.indexAddr 24 (Operand.tmp 67) (Operand.const (Value.int IntKind.i64 0)), type := 0, pos := "file.go:33", after := #[{ on := 9, ground := Ground.data }, { on := 4, ground := Ground.guard }], guard := some (4, false) }
@[reducible, go_sem] def opFrmF1247 : Oper := { dst := some 69, op := Op.fieldAddr 29 (Operand.tmp 68) 1, type := 0, pos := "file.go:33", after := #[{ on := 10, ground := Ground.data }, { on := 4, ground := Ground.guard }], guard := some (4, false) }
@[reducible, go_sem] def opFrmF1248 : Oper := { dst := some 70, op := Op.fieldAddr 27 (Operand.tmp 69) 0, type := 0, pos := "file.go:33", after := #[{ on := 11, ground := Ground.data }, { on := 4, ground := Ground.guard }], guard := some (4, false) }
@[reducible, go_sem] def opFrmF1249 : Oper := { dst := some 71, op := Op.load 3 (Operand.tmp 70), type := 3, pos := "file.go:33", after := #[{ on := 12, ground := Ground.data }, { on := 4, ground := Ground.guard }], guard := some (4, false) }
@[reducible, go_sem] def opFrmF1250 : Oper := { dst := some 72, op := Op.binOp BinOp.neq 3 (Operand.tmp 65) (Operand.tmp 71) 3, type := 4, pos := "file.go:33", after := #[{ on := 7, ground := Ground.data }, { on := 13, ground := Ground.data }, { on := 4, ground := Ground.guard }], guard := some (4, false) }
@[reducible, go_sem] def opFrmF1251 : Oper := { dst := some 73, op := Op.pick (Operand.tmp 62) (Operand.const (Value.bool true)) (Operand.tmp 72), type := 4, pos := "file.go:33", after := #[{ on := 4, ground := Ground.data }, { on := 14, ground := Ground.data }], guard := none }
@[reducible, go_sem] def opFrmF1252 : Oper := { dst := some 74, op := Op.move (Operand.tmp 73), type := 4, pos := "file.go:33", after := #[{ on := 15, ground := Ground.data }, { on := 4, ground := Ground.chain }], guard := none }
@[reducible, go_sem] def opFrmF1253 : Oper := { dst := some 75, op := Op.move (Operand.tmp 5), type := 3, pos := "file.go:33", after := #[{ on := 16, ground := Ground.guard }], guard := some (16, false) }
@[reducible, go_sem] def opFrmF1254 : Oper := { dst := some 76, op := Op.binOp BinOp.gtr 3 (Operand.tmp 75) (Operand.const (Value.int IntKind.i64 0)) 3, type := 4, pos := "file.go:33", after := #[{ on := 17, ground := Ground.data }, { on := 16, ground := Ground.guard }], guard := some (16, false) }
@[reducible, go_sem] def opFrmF1255 : Oper := { dst := some 77, op := Op.move (Operand.tmp 76), type := 4, pos := "file.go:33", after := #[{ on := 18, ground := Ground.data }, { on := 16, ground := Ground.chain }, { on := 16, ground := Ground.guard }], guard := some (16, false) }
@[reducible, go_sem] def opFrmF1256 : Oper := { dst := some 78, op := Op.fieldAddr 29 (Operand.tmp 6) 0, type := 0, pos := "file.go:33", after := #[{ on := 19, ground := Ground.guard }], guard := some (19, true) }
@[reducible, go_sem] def opFrmF1257 : Oper := { dst := some 79, op := Op.load 2 (Operand.tmp 78), type := 2, pos := "file.go:33", after := #[{ on := 20, ground := Ground.data }, { on := 19, ground := Ground.guard }], guard := some (19, true) }
@[reducible, go_sem] def opFrmF1258 : Oper := { dst := some 80, op := Op.fieldAddr 31 (Operand.tmp 4) 2, type := 0, pos := "file.go:33", after := #[{ on := 19, ground := Ground.guard }], guard := some (19, true) }
@[reducible, go_sem] def opFrmF1259 : Oper := { dst := some 81, op := Op.load 24 (Operand.tmp 80), type := 24, pos := "file.go:33", after := #[{ on := 22, ground := Ground.data }, { on := 19, ground := Ground.guard }], guard := some (19, true) }
@[reducible, go_sem] def opFrmF1260 : Oper := { dst := some 82, op := Op.move (Operand.tmp 5), type := 3, pos := "file.go:33", after := #[{ on := 19, ground := Ground.guard }], guard := some (19, true) }
@[reducible, go_sem] def opFrmF1261 : Oper := { dst := some 83, op := Op.binOp BinOp.sub 3 (Operand.tmp 82) (Operand.const (Value.int IntKind.i64 1)) 3, type := 3, pos := "file.go:33", after := #[{ on := 24, ground := Ground.data }, { on := 19, ground := Ground.guard }], guard := some (19, true) }
@[reducible, go_sem] def opFrmF1262 : Oper := { dst := some 84, op := Op.indexAddr 24 (Operand.tmp 81) (Operand.tmp 83), type := 0, pos := "file.go:33", after := #[{ on := 23, ground := Ground.data }, { on := 25, ground := Ground.data }, { on := 19, ground := Ground.guard }], guard := some (19, true) }
@[reducible, go_sem] def opFrmF1263 : Oper := { dst := some 85, op := Op.fieldAddr 29 (Operand.tmp 84) 0, type := 0, pos := "file.go:33", after := #[{ on := 26, ground := Ground.data }, { on := 19, ground := Ground.guard }], guard := some (19, true) }
@[reducible, go_sem] def opFrmF1264 : Oper := { dst := some 86, op := Op.load 2 (Operand.tmp 85), type := 2, pos := "file.go:33", after := #[{ on := 27, ground := Ground.data }, { on := 19, ground := Ground.guard }], guard := some (19, true) }
@[reducible, go_sem] def opFrmF1265 : Oper := { dst := some 87, op := Op.binOp BinOp.leq 2 (Operand.tmp 79) (Operand.tmp 86) 2, type := 4, pos := "file.go:33", after := #[{ on := 21, ground := Ground.data }, { on := 28, ground := Ground.data }, { on := 19, ground := Ground.guard }], guard := some (19, true) }
@[reducible, go_sem] def opFrmF1266 : Oper := { dst := some 88, op := Op.pick (Operand.tmp 77) (Operand.tmp 87) (Operand.const (Value.bool false)), type := 4, pos := "file.go:33", after := #[{ on := 19, ground := Ground.data }, { on := 29, ground := Ground.data }, { on := 16, ground := Ground.guard }], guard := some (16, false) }
@[reducible, go_sem] def opFrmF1267 : Oper := { dst := some 89, op := Op.pick (Operand.tmp 74) (Operand.const (Value.bool true)) (Operand.tmp 88), type := 4, pos := "file.go:33", after := #[{ on := 16, ground := Ground.data }, { on := 30, ground := Ground.data }], guard := none }
set_option maxHeartbeats 8000000 in
theorem fformed_any (cs : List Cb) (v : Value) (w : World) (hl : cs.length * 56 ≤ 140737488351232) (hps : ∀ c ∈ cs, c.c.p.length * 40 ≤ 140737488351232) (hok : ∀ c ∈ cs, c.c.ok) (hr : Cols w v cs) :
    Calls Tryd.prog 12 #[v] w fun e w' => e = .returned (.bool (frmC (cnS cs))) ∧ Below w.heap.size w w' := by
  obtain ⟨ao, cap, rfl, hn, hcm⟩ := RdV.shape hr.1
  unfold maxLen at hcm
  have HR := Lib.hid hr
  have HPS := Lib.hid hps
  have HOKS := Lib.hid hok
  clear hr hps hok
  obtain ⟨n, hnl⟩ : ∃ n, n = cs.length := ⟨_, rfl⟩
  have HN := Lib.hid hnl
  rw [← hnl] at hn hl ⊢
  clear hnl
  go_enter Tryd.func12, Tryd.ntmps12
  go_wp2_with fail
  go_loopg [9] n (fun m s9 wr => ∃ i : Nat, i + m = n ∧ s9 = .int .i64 (i : Int) ∧ Hid (colsF (cnS cs) i = true) ∧ Hid (Below w.heap.size w wr))
  case atStart => exact ⟨0, by omega, rfl, Lib.hid rfl, Lib.hid (Below.refl _ _)⟩
  case round =>
    obtain ⟨i, hi, rfl, HF, HB⟩ := hrel
    by_cases h0 : gk = 0
    · obtain rfl : i = n := by omega
      have HV : Hid (frmC (cnS cs) = decide (i ≤ 1048576)) := Lib.hid (by
        unfold frmC
        rw [cnS_len, ← HN.out, HF.out, Bool.true_and])
      clear hi h0
      go_wp2_with fail
      go_ret
      refine ⟨?_, HB.out⟩
      rw [HV.out]
      have e : ((i : Int) ≤ 1048576) ↔ i ≤ 1048576 := by omega
      simp [e]
    · have hin : i < n := by omega
      obtain ⟨lb, lo, lc, he, hlb, f0, f1, f2, hp⟩ := col_at HR.out i (by rw [← HN.out]; exact hin)
      rw [← HN.out] at he
      simp only [Value.slice.injEq, true_and] at he
      obtain ⟨rfl, rfl⟩ := he
      have HCI : Hid ((cs.getD i b0).c = (cnS cs).getD i c0) := Lib.hid (cnS_get cs i (by rw [← HN.out]; exact hin)).symm
      have HP := Lib.hid hp
      have g0 := (HB.out.cell (p := ⟨lb, lo + i * 3, none⟩) hlb).trans f0
      have g1 := (HB.out.cell (p := ⟨lb, lo + i * 3 + 1, none⟩) hlb).trans f1
      have g2 := (HB.out.cell (p := ⟨lb, lo + i * 3 + 2, none⟩) hlb).trans f2
      clear f0 f1 f2 hp
      have hplen : (cs.getD i b0).c.p.length * 40 ≤ 140737488351232 := HPS.out _ (getD_mem cs i b0 (by rw [← HN.out]; exact hin))
      have HOK : Hid (∀ p ∈ (cs.getD i b0).c.p, p.v.b < 18446744073709551616) := Lib.hid (fun p hp => (HOKS.out _ (getD_mem cs i b0 (by rw [← HN.out]; exact hin)) p hp).2.2)
      obtain ⟨pa, pc, hpv, hpc, hpm⟩ := RdV.shape HP.out
      rw [hpv] at g2 HP
      generalize (cs.getD i b0).c = c at *
      obtain ⟨pn, hpn⟩ : ∃ pn, pn = c.p.length := ⟨_, rfl⟩
      have HPN := Lib.hid hpn
      rw [← hpn] at g2 hplen hpc
      clear hpv hpn
      have HIN := Lib.hid hin
      go_upto_region 4 with fail
      have k0 : (wr.alloc (.cells #[.string c.s, .string c.f, .slice pa pn pc] 31)).cell? ⟨wr.heap.size, 0, none⟩ = some (.string c.s) := by simp [go_sem]
      have k1 : (wr.alloc (.cells #[.string c.s, .string c.f, .slice pa pn pc] 31)).cell? ⟨wr.heap.size, 1, none⟩ = some (.string c.f) := by simp [go_sem]
      have k2 : (wr.alloc (.cells #[.string c.s, .string c.f, .slice pa pn pc] 31)).cell? ⟨wr.heap.size, 2, none⟩ = some (.slice pa pn pc) := by simp [go_sem]
      have HB1 := Lib.hid (HB.out.alloc HB.out.size (.cells #[.string c.s, .string c.f, .slice pa pn pc] 31))
      have hg1 : wr.heap.size < (wr.alloc (.cells #[.string c.s, .string c.f, .slice pa pn pc] 31)).heap.size := by simp
      clear g0 g1 g2
      generalize wr.alloc (.cells #[.string c.s, .string c.f, .slice pa pn pc] 31) = w1 at *
      have HBR := Lib.hid HB.out.size
      generalize wr.heap.size = g at *
      go_cut [49] (fun s49 wx => ∃ v49 : Bool, s49 = .bool v49 ∧ Hid (v49 = !hdF (cnS cs) i) ∧ Hid (Below w.heap.size w wx) ∧ Hid (g < wx.heap.size) ∧ wx.cell? ⟨g, 0, none⟩ = some (.string c.s) ∧ wx.cell? ⟨g, 1, none⟩ = some (.string c.f) ∧ wx.cell? ⟨g, 2, none⟩ = some (.slice pa pn pc))
      case first =>
        by_cases hi0 : i = 0
        · subst hi0
          by_cases hs : c.s.size ≤ 4000
          · have hsI : ¬ (4000 : Int) < (c.s.size : Int) := by omega
            by_cases hf : c.f.size ≤ 4000
            · have hfI : ¬ (4000 : Int) < (c.f.size : Int) := by omega
              by_cases hp1 : 1 ≤ pn
              · have hpI : ((pn : Int) == 0) = false := beq_eq_false_iff_ne.2 (by omega)
                by_cases hp2 : pn ≤ 1000000
                · have hpI2 : ¬ (1000000 : Int) < (pn : Int) := by omega
                  go_quiet (fail)
                  go_wp2_with fail
                  go_meet
                  go_light
                  have HBX := Lib.hid (below_dr HB1.out nq)
                  have HGX : Hid (g < (w1.drewN nq).heap.size) := Lib.hid hg1
                  have c0X : (w1.drewN nq).cell? ⟨g, 0, none⟩ = _ := k0
                  have c1X : (w1.drewN nq).cell? ⟨g, 1, none⟩ = _ := k1
                  have c2X : (w1.drewN nq).cell? ⟨g, 2, none⟩ = _ := k2
                  exact ⟨false, rfl, Lib.hid (by unfold hdF; rw [← HCI.out, ← HPN.out]; simp [hs, hf, hp1, hp2]), HBX, HGX, c0X, c1X, c2X⟩
                · have hpI2 : (1000000 : Int) < (pn : Int) := by omega
                  go_quiet (fail)
                  go_wp2_with fail
                  go_meet
                  go_light
                  have HBX := Lib.hid (below_dr HB1.out nq)
                  have HGX : Hid (g < (w1.drewN nq).heap.size) := Lib.hid hg1
                  have c0X : (w1.drewN nq).cell? ⟨g, 0, none⟩ = _ := k0
                  have c1X : (w1.drewN nq).cell? ⟨g, 1, none⟩ = _ := k1
                  have c2X : (w1.drewN nq).cell? ⟨g, 2, none⟩ = _ := k2
                  exact ⟨true, rfl, Lib.hid (by unfold hdF; rw [← HCI.out, ← HPN.out]; simp [hs, hf, hp1, hp2]), HBX, HGX, c0X, c1X, c2X⟩
              · have hpI : ((pn : Int) == 0) = true := beq_iff_eq.2 (by omega)
                go_quiet (fail)
                go_wp2_with fail
                go_meet
                go_light
                have HBX := Lib.hid (below_dr HB1.out nq)
                have HGX : Hid (g < (w1.drewN nq).heap.size) := Lib.hid hg1
                have c0X : (w1.drewN nq).cell? ⟨g, 0, none⟩ = _ := k0
                have c1X : (w1.drewN nq).cell? ⟨g, 1, none⟩ = _ := k1
                have c2X : (w1.drewN nq).cell? ⟨g, 2, none⟩ = _ := k2
                exact ⟨true, rfl, Lib.hid (by unfold hdF; rw [← HCI.out, ← HPN.out]; simp [hs, hf, hp1]), HBX, HGX, c0X, c1X, c2X⟩
            · have hfI : (4000 : Int) < (c.f.size : Int) := by omega
              go_quiet (fail)
              go_wp2_with fail
              go_meet
              go_light
              have HBX := Lib.hid (below_dr HB1.out nq)
              have HGX : Hid (g < (w1.drewN nq).heap.size) := Lib.hid hg1
              have c0X : (w1.drewN nq).cell? ⟨g, 0, none⟩ = _ := k0
              have c1X : (w1.drewN nq).cell? ⟨g, 1, none⟩ = _ := k1
              have c2X : (w1.drewN nq).cell? ⟨g, 2, none⟩ = _ := k2
              exact ⟨true, rfl, Lib.hid (by unfold hdF; rw [← HCI.out, ← HPN.out]; simp [hs, hf]), HBX, HGX, c0X, c1X, c2X⟩
          · have hsI : (4000 : Int) < (c.s.size : Int) := by omega
            go_quiet (fail)
            go_wp2_with fail
            go_meet
            go_light
            have HBX := Lib.hid (below_dr HB1.out nq)
            have HGX : Hid (g < (w1.drewN nq).heap.size) := Lib.hid hg1
            have c0X : (w1.drewN nq).cell? ⟨g, 0, none⟩ = _ := k0
            have c1X : (w1.drewN nq).cell? ⟨g, 1, none⟩ = _ := k1
            have c2X : (w1.drewN nq).cell? ⟨g, 2, none⟩ = _ := k2
            exact ⟨true, rfl, Lib.hid (by unfold hdF; rw [← HCI.out, ← HPN.out]; simp [hs]), HBX, HGX, c0X, c1X, c2X⟩
        · obtain ⟨k, hki⟩ : ∃ k, k + 1 = i := ⟨i - 1, by omega⟩
          have hkI : (i : Int) - 1 = (k : Int) := by omega
          have hi1 : (0 : Int) < (i : Int) := by omega
          have hi1N : 0 < i := by omega
          have hkw : IntKind.i64.wrap ((i : Int) - 1) = (k : Int) := by rw [hkI]; exact IntWalk.i64_in _ (by omega)
          have hkw2 : IntKind.i64.wrap (k : Int) = (k : Int) := IntWalk.i64_in _ (by omega)
          have hk0I : (0 : Int) ≤ (k : Int) := by omega
          have hkn : k < n := by omega
          have hknI : (k : Int) < (n : Int) := by omega
          obtain ⟨lb', lo', lc', he, _, f0, f1, f2, _⟩ := col_at HR.out k (by rw [← HN.out]; exact hkn)
          rw [← HN.out] at he
          simp only [Value.slice.injEq, Option.some.injEq, Addr.mk.injEq, true_and, and_true] at he
          obtain ⟨⟨rfl, rfl⟩, rfl⟩ := he
          have HCD : Hid ((cs.getD k b0).c = (cnS cs).getD (i - 1) c0) := Lib.hid (by rw [show i - 1 = k by omega]; exact (cnS_get cs k (by rw [← HN.out]; exact hkn)).symm)
          have m0 := (HB1.out.cell (p := ⟨lb, lo + k * 3, none⟩) hlb).trans f0
          have m1 := (HB1.out.cell (p := ⟨lb, lo + k * 3 + 1, none⟩) hlb).trans f1
          have m2 := (HB1.out.cell (p := ⟨lb, lo + k * 3 + 2, none⟩) hlb).trans f2
          have hlbw : lb < w1.heap.size := Nat.lt_of_lt_of_le hlb HB1.out.size
          clear f0 f1 f2
          generalize (cs.getD k b0).c = d at *
          generalize (cs.getD k b0).pv = dv at *
          have hon := ordC_neg d c
          have hor := ordC_range d c
          by_cases hlt : ltC d c = true
          · have hO : ordC d c = -1 := by have := hon.2 hlt; omega
            clear hon hor
            by_cases hs : c.s.size ≤ 4000
            · have hsI : ¬ (4000 : Int) < (c.s.size : Int) := by omega
              by_cases hf : c.f.size ≤ 4000
              · have hfI : ¬ (4000 : Int) < (c.f.size : Int) := by omega
                by_cases hp1 : 1 ≤ pn
                · have hpI : ((pn : Int) == 0) = false := beq_eq_false_iff_ne.2 (by omega)
                  by_cases hp2 : pn ≤ 1000000
                  · have hpI2 : ¬ (1000000 : Int) < (pn : Int) := by omega
                    have hS : w1.drew.cell? ⟨lb, lo + k * 3, none⟩ = some (.string d.s) ∧ w1.drew.cell? ⟨lb, lo + k * 3 + 1, none⟩ = some (.string d.f) ∧ w1.drew.cell? ⟨lb, lo + k * 3 + 2, none⟩ = some dv ∧ w1.drew.cell? ⟨g, 0, none⟩ = some (.string c.s) ∧ w1.drew.cell? ⟨g, 1, none⟩ = some (.string c.f) ∧ w1.drew.cell? ⟨g, 2, none⟩ = some (.slice pa pn pc) := ⟨m0, m1, m2, k0, k1, k2⟩
                    have hB : Below w.heap.size w w1.drew := HB1.out.drew
                    have hlb2 : lb < w1.drew.heap.size := hlbw
                    have hg2 : g < w1.drew.heap.size := hg1
                    refine wp_region_held_drew (S := fun wz => wz.cell? ⟨lb, lo + k * 3, none⟩ = some (.string d.s) ∧ wz.cell? ⟨lb, lo + k * 3 + 1, none⟩ = some (.string d.f) ∧ wz.cell? ⟨lb, lo + k * 3 + 2, none⟩ = some dv ∧ wz.cell? ⟨g, 0, none⟩ = some (.string c.s) ∧ wz.cell? ⟨g, 1, none⟩ = some (.string c.f) ∧ wz.cell? ⟨g, 2, none⟩ = some (.slice pa pn pc)) (by kernel_rfl) hS (fun hh => ?_)
                    clear hh
                    generalize w1.drew = x0 at *
                    refine ts 0 opFrmF120 hS ?_
                    refine tk 1 opFrmF121 (v := .bool true) (Or.inl ⟨by rfl, fun w hSw => ?_⟩) hS ?_
                    · go_simp; first | done | rfl | (congr 3; exact decide_eq_true (by omega)) | (simp; omega)
                    try simp only [Act.put, List.setIfInBounds_toArray, List.set_cons_zero, List.set_cons_succ]
                    refine ts 2 opFrmF122 hS ?_
                    refine ts 3 opFrmF123 hS ?_
                    refine ts 4 opFrmF124 hS ?_
                    refine ts 5 opFrmF125 hS ?_
                    refine ts 6 opFrmF126 hS ?_
                    refine ts 7 opFrmF127 hS ?_
                    refine ts 8 opFrmF128 hS ?_
                    refine wpAnyH_ready (rs := [9]) (by kernel_rfl) (by simp) (AllReadyH.cons (o := opFrmF129) rfl (fun K hK => ?_) AllReadyH.nil)
                    go_simp
                    go_at_call 29
                    refine (order_any d c dv (.slice pa pn pc) x0).mono ?_
                    rintro _ x1 ⟨rfl, hb⟩
                    rw [hO]
                    replace hS := And.intro ((hb.cell (p := ⟨lb, lo + k * 3, none⟩) hlb2).trans hS.1) (And.intro ((hb.cell (p := ⟨lb, lo + k * 3 + 1, none⟩) hlb2).trans hS.2.1) (And.intro ((hb.cell (p := ⟨lb, lo + k * 3 + 2, none⟩) hlb2).trans hS.2.2.1) (And.intro ((hb.cell (p := ⟨g, 0, none⟩) hg2).trans hS.2.2.2.1) (And.intro ((hb.cell (p := ⟨g, 1, none⟩) hg2).trans hS.2.2.2.2.1) ((hb.cell (p := ⟨g, 2, none⟩) hg2).trans hS.2.2.2.2.2)))))
                    replace hB := hB.trans (hb.mono hB.size)
                    replace hg2 := Nat.lt_of_lt_of_le hg2 hb.size
                    clear hb
                    dsimp only
                    refine hK.out _ _ hS (fun hh => ?_)
                    clear hK K hh
                    try simp only [Act.put, List.setIfInBounds_toArray, List.set_cons_zero, List.set_cons_succ]
                    refine tk 10 opFrmF1210 (v := .bool false) (Or.inl ⟨by rfl, fun w hSw => ?_⟩) hS ?_
                    · go_simp; first | done | rfl | (congr 3; exact decide_eq_false (by omega)) | (simp; omega)
                    try simp only [Act.put, List.setIfInBounds_toArray, List.set_cons_zero, List.set_cons_succ]
                    refine ts 11 opFrmF1211 hS ?_
                    refine ts 12 opFrmF1212 hS ?_
                    refine ts 13 opFrmF1213 hS ?_
                    refine ts 14 opFrmF1214 hS ?_
                    refine ts 15 opFrmF1215 hS ?_
                    refine tk 16 opFrmF1216 (v := .bool false) (Or.inl ⟨by rfl, fun w hSw => ?_⟩) hS ?_
                    · go_simp; first | done | rfl | (congr 3; exact decide_eq_false (by omega)) | (simp; omega)
                    try simp only [Act.put, List.setIfInBounds_toArray, List.set_cons_zero, List.set_cons_succ]
                    refine ts 17 opFrmF1217 hS ?_
                    refine ts 18 opFrmF1218 hS ?_
                    refine ts 19 opFrmF1219 hS ?_
                    refine ts 20 opFrmF1220 hS ?_
                    refine ts 21 opFrmF1221 hS ?_
                    refine tk 22 opFrmF1222 (v := .bool false) (Or.inl ⟨by rfl, fun w hSw => ?_⟩) hS ?_
                    · go_simp; first | done | rfl | (congr 3; exact decide_eq_false (by omega)) | (simp; omega)
                    try simp only [Act.put, List.setIfInBounds_toArray, List.set_cons_zero, List.set_cons_succ]
                    refine ts 23 opFrmF1223 hS ?_
                    refine ts 24 opFrmF1224 hS ?_
                    refine ts 25 opFrmF1225 hS ?_
                    refine ts 26 opFrmF1226 hS ?_
                    refine ts 27 opFrmF1227 hS ?_
                    refine tk 28 opFrmF1228 (v := .bool false) (Or.inl ⟨by rfl, fun w hSw => ?_⟩) hS ?_
                    · go_simp; first | done | rfl | (congr 3) | (simp [*])
                    try simp only [Act.put, List.setIfInBounds_toArray, List.set_cons_zero, List.set_cons_succ]
                    refine ts 29 opFrmF1229 hS ?_
                    refine ts 30 opFrmF1230 hS ?_
                    refine ts 31 opFrmF1231 hS ?_
                    refine ts 32 opFrmF1232 hS ?_
                    refine ts 33 opFrmF1233 hS ?_
                    refine tk 34 opFrmF1234 (v := .bool false) (Or.inl ⟨by rfl, fun w hSw => ?_⟩) hS ?_
                    · go_simp; first | done | rfl | (congr 3; exact decide_eq_false (by omega)) | (simp; omega)
                    try simp only [Act.put, List.setIfInBounds_toArray, List.set_cons_zero, List.set_cons_succ]
                    refine ts 35 opFrmF1235 hS ?_
                    refine wpAnyH_done (by kernel_rfl) ?_ _
                    go_wp2_with fail
                    go_meet
                    go_light
                    have HBX := Lib.hid hB
                    have HGX := Lib.hid hg2
                    have c0X := hS.2.2.2.1
                    have c1X := hS.2.2.2.2.1
                    have c2X := hS.2.2.2.2.2
                    exact ⟨false, rfl, Lib.hid (by unfold hdF; rw [← HCI.out, ← HCD.out, ← HPN.out]; simp [hlt, hs, hf, hp1, hp2]), HBX, HGX, c0X, c1X, c2X⟩
                  · have hpI2 : (1000000 : Int) < (pn : Int) := by omega
                    have hS : w1.drew.cell? ⟨lb, lo + k * 3, none⟩ = some (.string d.s) ∧ w1.drew.cell? ⟨lb, lo + k * 3 + 1, none⟩ = some (.string d.f) ∧ w1.drew.cell? ⟨lb, lo + k * 3 + 2, none⟩ = some dv ∧ w1.drew.cell? ⟨g, 0, none⟩ = some (.string c.s) ∧ w1.drew.cell? ⟨g, 1, none⟩ = some (.string c.f) ∧ w1.drew.cell? ⟨g, 2, none⟩ = some (.slice pa pn pc) := ⟨m0, m1, m2, k0, k1, k2⟩
                    have hB : Below w.heap.size w w1.drew := HB1.out.drew
                    have hlb2 : lb < w1.drew.heap.size := hlbw
                    have hg2 : g < w1.drew.heap.size := hg1
                    refine wp_region_held_drew (S := fun wz => wz.cell? ⟨lb, lo + k * 3, none⟩ = some (.string d.s) ∧ wz.cell? ⟨lb, lo + k * 3 + 1, none⟩ = some (.string d.f) ∧ wz.cell? ⟨lb, lo + k * 3 + 2, none⟩ = some dv ∧ wz.cell? ⟨g, 0, none⟩ = some (.string c.s) ∧ wz.cell? ⟨g, 1, none⟩ = some (.string c.f) ∧ wz.cell? ⟨g, 2, none⟩ = some (.slice pa pn pc)) (by kernel_rfl) hS (fun hh => ?_)
                    clear hh
                    generalize w1.drew = x0 at *
                    refine ts 0 opFrmF120 hS ?_
                    refine tk 1 opFrmF121 (v := .bool true) (Or.inl ⟨by rfl, fun w hSw => ?_⟩) hS ?_
                    · go_simp; first | done | rfl | (congr 3; exact decide_eq_true (by omega)) | (simp; omega)
                    try simp only [Act.put, List.setIfInBounds_toArray, List.set_cons_zero, List.set_cons_succ]
                    refine ts 2 opFrmF122 hS ?_
                    refine ts 3 opFrmF123 hS ?_
                    refine ts 4 opFrmF124 hS ?_
                    refine ts 5 opFrmF125 hS ?_
                    refine ts 6 opFrmF126 hS ?_
                    refine ts 7 opFrmF127 hS ?_
                    refine ts 8 opFrmF128 hS ?_
                    refine wpAnyH_ready (rs := [9]) (by kernel_rfl) (by simp) (AllReadyH.cons (o := opFrmF129) rfl (fun K hK => ?_) AllReadyH.nil)
                    go_simp
                    go_at_call 29
                    refine (order_any d c dv (.slice pa pn pc) x0).mono ?_
                    rintro _ x1 ⟨rfl, hb⟩
                    rw [hO]
                    replace hS := And.intro ((hb.cell (p := ⟨lb, lo + k * 3, none⟩) hlb2).trans hS.1) (And.intro ((hb.cell (p := ⟨lb, lo + k * 3 + 1, none⟩) hlb2).trans hS.2.1) (And.intro ((hb.cell (p := ⟨lb, lo + k * 3 + 2, none⟩) hlb2).trans hS.2.2.1) (And.intro ((hb.cell (p := ⟨g, 0, none⟩) hg2).trans hS.2.2.2.1) (And.intro ((hb.cell (p := ⟨g, 1, none⟩) hg2).trans hS.2.2.2.2.1) ((hb.cell (p := ⟨g, 2, none⟩) hg2).trans hS.2.2.2.2.2)))))
                    replace hB := hB.trans (hb.mono hB.size)
                    replace hg2 := Nat.lt_of_lt_of_le hg2 hb.size
                    clear hb
                    dsimp only
                    refine hK.out _ _ hS (fun hh => ?_)
                    clear hK K hh
                    try simp only [Act.put, List.setIfInBounds_toArray, List.set_cons_zero, List.set_cons_succ]
                    refine tk 10 opFrmF1210 (v := .bool false) (Or.inl ⟨by rfl, fun w hSw => ?_⟩) hS ?_
                    · go_simp; first | done | rfl | (congr 3; exact decide_eq_false (by omega)) | (simp; omega)
                    try simp only [Act.put, List.setIfInBounds_toArray, List.set_cons_zero, List.set_cons_succ]
                    refine ts 11 opFrmF1211 hS ?_
                    refine ts 12 opFrmF1212 hS ?_
                    refine ts 13 opFrmF1213 hS ?_
                    refine ts 14 opFrmF1214 hS ?_
                    refine ts 15 opFrmF1215 hS ?_
                    refine tk 16 opFrmF1216 (v := .bool false) (Or.inl ⟨by rfl, fun w hSw => ?_⟩) hS ?_
                    · go_simp; first | done | rfl | (congr 3; exact decide_eq_false (by omega)) | (simp; omega)
                    try simp only [Act.put, List.setIfInBounds_toArray, List.set_cons_zero, List.set_cons_succ]
                    refine ts 17 opFrmF1217 hS ?_
                    refine ts 18 opFrmF1218 hS ?_
                    refine ts 19 opFrmF1219 hS ?_
                    refine ts 20 opFrmF1220 hS ?_
                    refine ts 21 opFrmF1221 hS ?_
                    refine tk 22 opFrmF1222 (v := .bool false) (Or.inl ⟨by rfl, fun w hSw => ?_⟩) hS ?_
                    · go_simp; first | done | rfl | (congr 3; exact decide_eq_false (by omega)) | (simp; omega)
                    try simp only [Act.put, List.setIfInBounds_toArray, List.set_cons_zero, List.set_cons_succ]
                    refine ts 23 opFrmF1223 hS ?_
                    refine ts 24 opFrmF1224 hS ?_
                    refine ts 25 opFrmF1225 hS ?_
                    refine ts 26 opFrmF1226 hS ?_
                    refine ts 27 opFrmF1227 hS ?_
                    refine tk 28 opFrmF1228 (v := .bool false) (Or.inl ⟨by rfl, fun w hSw => ?_⟩) hS ?_
                    · go_simp; first | done | rfl | (congr 3) | (simp [*])
                    try simp only [Act.put, List.setIfInBounds_toArray, List.set_cons_zero, List.set_cons_succ]
                    refine ts 29 opFrmF1229 hS ?_
                    refine ts 30 opFrmF1230 hS ?_
                    refine ts 31 opFrmF1231 hS ?_
                    refine ts 32 opFrmF1232 hS ?_
                    refine ts 33 opFrmF1233 hS ?_
                    refine tk 34 opFrmF1234 (v := .bool true) (Or.inl ⟨by rfl, fun w hSw => ?_⟩) hS ?_
                    · go_simp; first | done | rfl | (congr 3; exact decide_eq_true (by omega)) | (simp; omega)
                    try simp only [Act.put, List.setIfInBounds_toArray, List.set_cons_zero, List.set_cons_succ]
                    refine ts 35 opFrmF1235 hS ?_
                    refine wpAnyH_done (by kernel_rfl) ?_ _
                    go_wp2_with fail
                    go_meet
                    go_light
                    have HBX := Lib.hid hB
                    have HGX := Lib.hid hg2
                    have c0X := hS.2.2.2.1
                    have c1X := hS.2.2.2.2.1
                    have c2X := hS.2.2.2.2.2
                    exact ⟨true, rfl, Lib.hid (by unfold hdF; rw [← HCI.out, ← HCD.out, ← HPN.out]; simp [hlt, hs, hf, hp1, hp2]), HBX, HGX, c0X, c1X, c2X⟩
                · have hpI : ((pn : Int) == 0) = true := beq_iff_eq.2 (by omega)
                  have hS : w1.drew.cell? ⟨lb, lo + k * 3, none⟩ = some (.string d.s) ∧ w1.drew.cell? ⟨lb, lo + k * 3 + 1, none⟩ = some (.string d.f) ∧ w1.drew.cell? ⟨lb, lo + k * 3 + 2, none⟩ = some dv ∧ w1.drew.cell? ⟨g, 0, none⟩ = some (.string c.s) ∧ w1.drew.cell? ⟨g, 1, none⟩ = some (.string c.f) ∧ w1.drew.cell? ⟨g, 2, none⟩ = some (.slice pa pn pc) := ⟨m0, m1, m2, k0, k1, k2⟩
                  have hB : Below w.heap.size w w1.drew := HB1.out.drew
                  have hlb2 : lb < w1.drew.heap.size := hlbw
                  have hg2 : g < w1.drew.heap.size := hg1
                  refine wp_region_held_drew (S := fun wz => wz.cell? ⟨lb, lo + k * 3, none⟩ = some (.string d.s) ∧ wz.cell? ⟨lb, lo + k * 3 + 1, none⟩ = some (.string d.f) ∧ wz.cell? ⟨lb, lo + k * 3 + 2, none⟩ = some dv ∧ wz.cell? ⟨g, 0, none⟩ = some (.string c.s) ∧ wz.cell? ⟨g, 1, none⟩ = some (.string c.f) ∧ wz.cell? ⟨g, 2, none⟩ = some (.slice pa pn pc)) (by kernel_rfl) hS (fun hh => ?_)
                  clear hh
                  generalize w1.drew = x0 at *
                  refine ts 0 opFrmF120 hS ?_
                  refine tk 1 opFrmF121 (v := .bool true) (Or.inl ⟨by rfl, fun w hSw => ?_⟩) hS ?_
                  · go_simp; first | done | rfl | (congr 3; exact decide_eq_true (by omega)) | (simp; omega)
                  try simp only [Act.put, List.setIfInBounds_toArray, List.set_cons_zero, List.set_cons_succ]
                  refine ts 2 opFrmF122 hS ?_
                  refine ts 3 opFrmF123 hS ?_
                  refine ts 4 opFrmF124 hS ?_
                  refine ts 5 opFrmF125 hS ?_
                  refine ts 6 opFrmF126 hS ?_
                  refine ts 7 opFrmF127 hS ?_
                  refine ts 8 opFrmF128 hS ?_
                  refine wpAnyH_ready (rs := [9]) (by kernel_rfl) (by simp) (AllReadyH.cons (o := opFrmF129) rfl (fun K hK => ?_) AllReadyH.nil)
                  go_simp
                  go_at_call 29
                  refine (order_any d c dv (.slice pa pn pc) x0).mono ?_
                  rintro _ x1 ⟨rfl, hb⟩
                  rw [hO]
                  replace hS := And.intro ((hb.cell (p := ⟨lb, lo + k * 3, none⟩) hlb2).trans hS.1) (And.intro ((hb.cell (p := ⟨lb, lo + k * 3 + 1, none⟩) hlb2).trans hS.2.1) (And.intro ((hb.cell (p := ⟨lb, lo + k * 3 + 2, none⟩) hlb2).trans hS.2.2.1) (And.intro ((hb.cell (p := ⟨g, 0, none⟩) hg2).trans hS.2.2.2.1) (And.intro ((hb.cell (p := ⟨g, 1, none⟩) hg2).trans hS.2.2.2.2.1) ((hb.cell (p := ⟨g, 2, none⟩) hg2).trans hS.2.2.2.2.2)))))
                  replace hB := hB.trans (hb.mono hB.size)
                  replace hg2 := Nat.lt_of_lt_of_le hg2 hb.size
                  clear hb
                  dsimp only
                  refine hK.out _ _ hS (fun hh => ?_)
                  clear hK K hh
                  try simp only [Act.put, List.setIfInBounds_toArray, List.set_cons_zero, List.set_cons_succ]
                  refine tk 10 opFrmF1210 (v := .bool false) (Or.inl ⟨by rfl, fun w hSw => ?_⟩) hS ?_
                  · go_simp; first | done | rfl | (congr 3; exact decide_eq_false (by omega)) | (simp; omega)
                  try simp only [Act.put, List.setIfInBounds_toArray, List.set_cons_zero, List.set_cons_succ]
                  refine ts 11 opFrmF1211 hS ?_
                  refine ts 12 opFrmF1212 hS ?_
                  refine ts 13 opFrmF1213 hS ?_
                  refine ts 14 opFrmF1214 hS ?_
                  refine ts 15 opFrmF1215 hS ?_
                  refine tk 16 opFrmF1216 (v := .bool false) (Or.inl ⟨by rfl, fun w hSw => ?_⟩) hS ?_
                  · go_simp; first | done | rfl | (congr 3; exact decide_eq_false (by omega)) | (simp; omega)
                  try simp only [Act.put, List.setIfInBounds_toArray, List.set_cons_zero, List.set_cons_succ]
                  refine ts 17 opFrmF1217 hS ?_
                  refine ts 18 opFrmF1218 hS ?_
                  refine ts 19 opFrmF1219 hS ?_
                  refine ts 20 opFrmF1220 hS ?_
                  refine ts 21 opFrmF1221 hS ?_
                  refine tk 22 opFrmF1222 (v := .bool false) (Or.inl ⟨by rfl, fun w hSw => ?_⟩) hS ?_
                  · go_simp; first | done | rfl | (congr 3; exact decide_eq_false (by omega)) | (simp; omega)
                  try simp only [Act.put, List.setIfInBounds_toArray, List.set_cons_zero, List.set_cons_succ]
                  refine ts 23 opFrmF1223 hS ?_
                  refine ts 24 opFrmF1224 hS ?_
                  refine ts 25 opFrmF1225 hS ?_
                  refine ts 26 opFrmF1226 hS ?_
                  refine ts 27 opFrmF1227 hS ?_
                  refine tk 28 opFrmF1228 (v := .bool true) (Or.inl ⟨by rfl, fun w hSw => ?_⟩) hS ?_
                  · go_simp; first | done | rfl | (congr 3) | (simp [*])
                  try simp only [Act.put, List.setIfInBounds_toArray, List.set_cons_zero, List.set_cons_succ]
                  refine ts 29 opFrmF1229 hS ?_
                  refine ts 30 opFrmF1230 hS ?_
                  refine tn 31 opFrmF1231 hS ?_
                  refine tn 32 opFrmF1232 hS ?_
                  refine tn 33 opFrmF1233 hS ?_
                  refine tn 34 opFrmF1234 hS ?_
                  refine ts 35 opFrmF1235 hS ?_
                  refine wpAnyH_done (by kernel_rfl) ?_ _
                  go_wp2_with fail
                  go_meet
                  go_light
                  have HBX := Lib.hid hB
                  have HGX := Lib.hid hg2
                  have c0X := hS.2.2.2.1
                  have c1X := hS.2.2.2.2.1
                  have c2X := hS.2.2.2.2.2
                  exact ⟨true, rfl, Lib.hid (by unfold hdF; rw [← HCI.out, ← HCD.out, ← HPN.out]; simp [hlt, hs, hf, hp1]), HBX, HGX, c0X, c1X, c2X⟩
              · have hfI : (4000 : Int) < (c.f.size : Int) := by omega
                have hS : w1.drew.cell? ⟨lb, lo + k * 3, none⟩ = some (.string d.s) ∧ w1.drew.cell? ⟨lb, lo + k * 3 + 1, none⟩ = some (.string d.f) ∧ w1.drew.cell? ⟨lb, lo + k * 3 + 2, none⟩ = some dv ∧ w1.drew.cell? ⟨g, 0, none⟩ = some (.string c.s) ∧ w1.drew.cell? ⟨g, 1, none⟩ = some (.string c.f) ∧ w1.drew.cell? ⟨g, 2, none⟩ = some (.slice pa pn pc) := ⟨m0, m1, m2, k0, k1, k2⟩
                have hB : Below w.heap.size w w1.drew := HB1.out.drew
                have hlb2 : lb < w1.drew.heap.size := hlbw
                have hg2 : g < w1.drew.heap.size := hg1
                refine wp_region_held_drew (S := fun wz => wz.cell? ⟨lb, lo + k * 3, none⟩ = some (.string d.s) ∧ wz.cell? ⟨lb, lo + k * 3 + 1, none⟩ = some (.string d.f) ∧ wz.cell? ⟨lb, lo + k * 3 + 2, none⟩ = some dv ∧ wz.cell? ⟨g, 0, none⟩ = some (.string c.s) ∧ wz.cell? ⟨g, 1, none⟩ = some (.string c.f) ∧ wz.cell? ⟨g, 2, none⟩ = some (.slice pa pn pc)) (by kernel_rfl) hS (fun hh => ?_)
                clear hh
                generalize w1.drew = x0 at *
                refine ts 0 opFrmF120 hS ?_
                refine tk 1 opFrmF121 (v := .bool true) (Or.inl ⟨by rfl, fun w hSw => ?_⟩) hS ?_
                · go_simp; first | done | rfl | (congr 3; exact decide_eq_true (by omega)) | (simp; omega)
                try simp only [Act.put, List.setIfInBounds_toArray, List.set_cons_zero, List.set_cons_succ]
                refine ts 2 opFrmF122 hS ?_
                refine ts 3 opFrmF123 hS ?_
                refine ts 4 opFrmF124 hS ?_
                refine ts 5 opFrmF125 hS ?_
                refine ts 6 opFrmF126 hS ?_
                refine ts 7 opFrmF127 hS ?_
                refine ts 8 opFrmF128 hS ?_
                refine wpAnyH_ready (rs := [9]) (by kernel_rfl) (by simp) (AllReadyH.cons (o := opFrmF129) rfl (fun K hK => ?_) AllReadyH.nil)
                go_simp
                go_at_call 29
                refine (order_any d c dv (.slice pa pn pc) x0).mono ?_
                rintro _ x1 ⟨rfl, hb⟩
                rw [hO]
                replace hS := And.intro ((hb.cell (p := ⟨lb, lo + k * 3, none⟩) hlb2).trans hS.1) (And.intro ((hb.cell (p := ⟨lb, lo + k * 3 + 1, none⟩) hlb2).trans hS.2.1) (And.intro ((hb.cell (p := ⟨lb, lo + k * 3 + 2, none⟩) hlb2).trans hS.2.2.1) (And.intro ((hb.cell (p := ⟨g, 0, none⟩) hg2).trans hS.2.2.2.1) (And.intro ((hb.cell (p := ⟨g, 1, none⟩) hg2).trans hS.2.2.2.2.1) ((hb.cell (p := ⟨g, 2, none⟩) hg2).trans hS.2.2.2.2.2)))))
                replace hB := hB.trans (hb.mono hB.size)
                replace hg2 := Nat.lt_of_lt_of_le hg2 hb.size
                clear hb
                dsimp only
                refine hK.out _ _ hS (fun hh => ?_)
                clear hK K hh
                try simp only [Act.put, List.setIfInBounds_toArray, List.set_cons_zero, List.set_cons_succ]
                refine tk 10 opFrmF1210 (v := .bool false) (Or.inl ⟨by rfl, fun w hSw => ?_⟩) hS ?_
                · go_simp; first | done | rfl | (congr 3; exact decide_eq_false (by omega)) | (simp; omega)
                try simp only [Act.put, List.setIfInBounds_toArray, List.set_cons_zero, List.set_cons_succ]
                refine ts 11 opFrmF1211 hS ?_
                refine ts 12 opFrmF1212 hS ?_
                refine ts 13 opFrmF1213 hS ?_
                refine ts 14 opFrmF1214 hS ?_
                refine ts 15 opFrmF1215 hS ?_
                refine tk 16 opFrmF1216 (v := .bool false) (Or.inl ⟨by rfl, fun w hSw => ?_⟩) hS ?_
                · go_simp; first | done | rfl | (congr 3; exact decide_eq_false (by omega)) | (simp; omega)
                try simp only [Act.put, List.setIfInBounds_toArray, List.set_cons_zero, List.set_cons_succ]
                refine ts 17 opFrmF1217 hS ?_
                refine ts 18 opFrmF1218 hS ?_
                refine ts 19 opFrmF1219 hS ?_
                refine ts 20 opFrmF1220 hS ?_
                refine ts 21 opFrmF1221 hS ?_
                refine tk 22 opFrmF1222 (v := .bool true) (Or.inl ⟨by rfl, fun w hSw => ?_⟩) hS ?_
                · go_simp; first | done | rfl | (congr 3; exact decide_eq_true (by omega)) | (simp; omega)
                try simp only [Act.put, List.setIfInBounds_toArray, List.set_cons_zero, List.set_cons_succ]
                refine ts 23 opFrmF1223 hS ?_
                refine ts 24 opFrmF1224 hS ?_
                refine tn 25 opFrmF1225 hS ?_
                refine tn 26 opFrmF1226 hS ?_
                refine tn 27 opFrmF1227 hS ?_
                refine tn 28 opFrmF1228 hS ?_
                refine ts 29 opFrmF1229 hS ?_
                refine ts 30 opFrmF1230 hS ?_
                refine tn 31 opFrmF1231 hS ?_
                refine tn 32 opFrmF1232 hS ?_
                refine tn 33 opFrmF1233 hS ?_
                refine tn 34 opFrmF1234 hS ?_
                refine ts 35 opFrmF1235 hS ?_
                refine wpAnyH_done (by kernel_rfl) ?_ _
                go_wp2_with fail
                go_meet
                go_light
                have HBX := Lib.hid hB
                have HGX := Lib.hid hg2
                have c0X := hS.2.2.2.1
                have c1X := hS.2.2.2.2.1
                have c2X := hS.2.2.2.2.2
                exact ⟨true, rfl, Lib.hid (by unfold hdF; rw [← HCI.out, ← HCD.out, ← HPN.out]; simp [hlt, hs, hf]), HBX, HGX, c0X, c1X, c2X⟩
            · have hsI : (4000 : Int) < (c.s.size : Int) := by omega
              have hS : w1.drew.cell? ⟨lb, lo + k * 3, none⟩ = some (.string d.s) ∧ w1.drew.cell? ⟨lb, lo + k * 3 + 1, none⟩ = some (.string d.f) ∧ w1.drew.cell? ⟨lb, lo + k * 3 + 2, none⟩ = some dv ∧ w1.drew.cell? ⟨g, 0, none⟩ = some (.string c.s) ∧ w1.drew.cell? ⟨g, 1, none⟩ = some (.string c.f) ∧ w1.drew.cell? ⟨g, 2, none⟩ = some (.slice pa pn pc) := ⟨m0, m1, m2, k0, k1, k2⟩
              have hB : Below w.heap.size w w1.drew := HB1.out.drew
              have hlb2 : lb < w1.drew.heap.size := hlbw
              have hg2 : g < w1.drew.heap.size := hg1
              refine wp_region_held_drew (S := fun wz => wz.cell? ⟨lb, lo + k * 3, none⟩ = some (.string d.s) ∧ wz.cell? ⟨lb, lo + k * 3 + 1, none⟩ = some (.string d.f) ∧ wz.cell? ⟨lb, lo + k * 3 + 2, none⟩ = some dv ∧ wz.cell? ⟨g, 0, none⟩ = some (.string c.s) ∧ wz.cell? ⟨g, 1, none⟩ = some (.string c.f) ∧ wz.cell? ⟨g, 2, none⟩ = some (.slice pa pn pc)) (by kernel_rfl) hS (fun hh => ?_)
              clear hh
              generalize w1.drew = x0 at *
              refine ts 0 opFrmF120 hS ?_
              refine tk 1 opFrmF121 (v := .bool true) (Or.inl ⟨by rfl, fun w hSw => ?_⟩) hS ?_
              · go_simp; first | done | rfl | (congr 3; exact decide_eq_true (by omega)) | (simp; omega)
              try simp only [Act.put, List.setIfInBounds_toArray, List.set_cons_zero, List.set_cons_succ]
              refine ts 2 opFrmF122 hS ?_
              refine ts 3 opFrmF123 hS ?_
              refine ts 4 opFrmF124 hS ?_
              refine ts 5 opFrmF125 hS ?_
              refine ts 6 opFrmF126 hS ?_
              refine ts 7 opFrmF127 hS ?_
              refine ts 8 opFrmF128 hS ?_
              refine wpAnyH_ready (rs := [9]) (by kernel_rfl) (by simp) (AllReadyH.cons (o := opFrmF129) rfl (fun K hK => ?_) AllReadyH.nil)
              go_simp
              go_at_call 29
              refine (order_any d c dv (.slice pa pn pc) x0).mono ?_
              rintro _ x1 ⟨rfl, hb⟩
              rw [hO]
              replace hS := And.intro ((hb.cell (p := ⟨lb, lo + k * 3, none⟩) hlb2).trans hS.1) (And.intro ((hb.cell (p := ⟨lb, lo + k * 3 + 1, none⟩) hlb2).trans hS.2.1) (And.intro ((hb.cell (p := ⟨lb, lo + k * 3 + 2, none⟩) hlb2).trans hS.2.2.1) (And.intro ((hb.cell (p := ⟨g, 0, none⟩) hg2).trans hS.2.2.2.1) (And.intro ((hb.cell (p := ⟨g, 1, none⟩) hg2).trans hS.2.2.2.2.1) ((hb.cell (p := ⟨g, 2, none⟩) hg2).trans hS.2.2.2.2.2)))))
              replace hB := hB.trans (hb.mono hB.size)
              replace hg2 := Nat.lt_of_lt_of_le hg2 hb.size
              clear hb
              dsimp only
              refine hK.out _ _ hS (fun hh => ?_)
              clear hK K hh
              try simp only [Act.put, List.setIfInBounds_toArray, List.set_cons_zero, List.set_cons_succ]
              refine tk 10 opFrmF1210 (v := .bool false) (Or.inl ⟨by rfl, fun w hSw => ?_⟩) hS ?_
              · go_simp; first | done | rfl | (congr 3; exact decide_eq_false (by omega)) | (simp; omega)
              try simp only [Act.put, List.setIfInBounds_toArray, List.set_cons_zero, List.set_cons_succ]
              refine ts 11 opFrmF1211 hS ?_
              refine ts 12 opFrmF1212 hS ?_
              refine ts 13 opFrmF1213 hS ?_
              refine ts 14 opFrmF1214 hS ?_
              refine ts 15 opFrmF1215 hS ?_
              refine tk 16 opFrmF1216 (v := .bool true) (Or.inl ⟨by rfl, fun w hSw => ?_⟩) hS ?_
              · go_simp; first | done | rfl | (congr 3; exact decide_eq_true (by omega)) | (simp; omega)
              try simp only [Act.put, List.setIfInBounds_toArray, List.set_cons_zero, List.set_cons_succ]
              refine ts 17 opFrmF1217 hS ?_
              refine ts 18 opFrmF1218 hS ?_
              refine tn 19 opFrmF1219 hS ?_
              refine tn 20 opFrmF1220 hS ?_
              refine tn 21 opFrmF1221 hS ?_
              refine tn 22 opFrmF1222 hS ?_
              refine ts 23 opFrmF1223 hS ?_
              refine ts 24 opFrmF1224 hS ?_
              refine tn 25 opFrmF1225 hS ?_
              refine tn 26 opFrmF1226 hS ?_
              refine tn 27 opFrmF1227 hS ?_
              refine tn 28 opFrmF1228 hS ?_
              refine ts 29 opFrmF1229 hS ?_
              refine ts 30 opFrmF1230 hS ?_
              refine tn 31 opFrmF1231 hS ?_
              refine tn 32 opFrmF1232 hS ?_
              refine tn 33 opFrmF1233 hS ?_
              refine tn 34 opFrmF1234 hS ?_
              refine ts 35 opFrmF1235 hS ?_
              refine wpAnyH_done (by kernel_rfl) ?_ _
              go_wp2_with fail
              go_meet
              go_light
              have HBX := Lib.hid hB
              have HGX := Lib.hid hg2
              have c0X := hS.2.2.2.1
              have c1X := hS.2.2.2.2.1
              have c2X := hS.2.2.2.2.2
              exact ⟨true, rfl, Lib.hid (by unfold hdF; rw [← HCI.out, ← HCD.out, ← HPN.out]; simp [hlt, hs]), HBX, HGX, c0X, c1X, c2X⟩
          · have hoI : (0 : Int) ≤ ordC d c := by have h := mt hon.1 hlt; omega
            clear hon
            rcases (show ordC d c = 0 ∨ ordC d c = 1 by omega) with hO | hO
            · clear hor hoI
              have hS : w1.drew.cell? ⟨lb, lo + k * 3, none⟩ = some (.string d.s) ∧ w1.drew.cell? ⟨lb, lo + k * 3 + 1, none⟩ = some (.string d.f) ∧ w1.drew.cell? ⟨lb, lo + k * 3 + 2, none⟩ = some dv ∧ w1.drew.cell? ⟨g, 0, none⟩ = some (.string c.s) ∧ w1.drew.cell? ⟨g, 1, none⟩ = some (.string c.f) ∧ w1.drew.cell? ⟨g, 2, none⟩ = some (.slice pa pn pc) := ⟨m0, m1, m2, k0, k1, k2⟩
              have hB : Below w.heap.size w w1.drew := HB1.out.drew
              have hlb2 : lb < w1.drew.heap.size := hlbw
              have hg2 : g < w1.drew.heap.size := hg1
              refine wp_region_held_drew (S := fun wz => wz.cell? ⟨lb, lo + k * 3, none⟩ = some (.string d.s) ∧ wz.cell? ⟨lb, lo + k * 3 + 1, none⟩ = some (.string d.f) ∧ wz.cell? ⟨lb, lo + k * 3 + 2, none⟩ = some dv ∧ wz.cell? ⟨g, 0, none⟩ = some (.string c.s) ∧ wz.cell? ⟨g, 1, none⟩ = some (.string c.f) ∧ wz.cell? ⟨g, 2, none⟩ = some (.slice pa pn pc)) (by kernel_rfl) hS (fun hh => ?_)
              clear hh
              generalize w1.drew = x0 at *
              refine ts 0 opFrmF120 hS ?_
              refine tk 1 opFrmF121 (v := .bool true) (Or.inl ⟨by rfl, fun w hSw => ?_⟩) hS ?_
              · go_simp; first | done | rfl | (congr 3; exact decide_eq_true (by omega)) | (simp; omega)
              try simp only [Act.put, List.setIfInBounds_toArray, List.set_cons_zero, List.set_cons_succ]
              refine ts 2 opFrmF122 hS ?_
              refine ts 3 opFrmF123 hS ?_
              refine ts 4 opFrmF124 hS ?_
              refine ts 5 opFrmF125 hS ?_
              refine ts 6 opFrmF126 hS ?_
              refine ts 7 opFrmF127 hS ?_
              refine ts 8 opFrmF128 hS ?_
              refine wpAnyH_ready (rs := [9]) (by kernel_rfl) (by simp) (AllReadyH.cons (o := opFrmF129) rfl (fun K hK => ?_) AllReadyH.nil)
              go_simp
              go_at_call 29
              refine (order_any d c dv (.slice pa pn pc) x0).mono ?_
              rintro _ x1 ⟨rfl, hb⟩
              rw [hO]
              replace hS := And.intro ((hb.cell (p := ⟨lb, lo + k * 3, none⟩) hlb2).trans hS.1) (And.intro ((hb.cell (p := ⟨lb, lo + k * 3 + 1, none⟩) hlb2).trans hS.2.1) (And.intro ((hb.cell (p := ⟨lb, lo + k * 3 + 2, none⟩) hlb2).trans hS.2.2.1) (And.intro ((hb.cell (p := ⟨g, 0, none⟩) hg2).trans hS.2.2.2.1) (And.intro ((hb.cell (p := ⟨g, 1, none⟩) hg2).trans hS.2.2.2.2.1) ((hb.cell (p := ⟨g, 2, none⟩) hg2).trans hS.2.2.2.2.2)))))
              replace hB := hB.trans (hb.mono hB.size)
              replace hg2 := Nat.lt_of_lt_of_le hg2 hb.size
              clear hb
              dsimp only
              refine hK.out _ _ hS (fun hh => ?_)
              clear hK K hh
              try simp only [Act.put, List.setIfInBounds_toArray, List.set_cons_zero, List.set_cons_succ]
              refine tk 10 opFrmF1210 (v := .bool true) (Or.inl ⟨by rfl, fun w hSw => ?_⟩) hS ?_
              · go_simp; first | done | rfl | (congr 3; exact decide_eq_true (by omega)) | (simp; omega)
              try simp only [Act.put, List.setIfInBounds_toArray, List.set_cons_zero, List.set_cons_succ]
              refine ts 11 opFrmF1211 hS ?_
              refine ts 12 opFrmF1212 hS ?_
              refine tn 13 opFrmF1213 hS ?_
              refine tn 14 opFrmF1214 hS ?_
              refine tn 15 opFrmF1215 hS ?_
              refine tn 16 opFrmF1216 hS ?_
              refine ts 17 opFrmF1217 hS ?_
              refine ts 18 opFrmF1218 hS ?_
              refine tn 19 opFrmF1219 hS ?_
              refine tn 20 opFrmF1220 hS ?_
              refine tn 21 opFrmF1221 hS ?_
              refine tn 22 opFrmF1222 hS ?_
              refine ts 23 opFrmF1223 hS ?_
              refine ts 24 opFrmF1224 hS ?_
              refine tn 25 opFrmF1225 hS ?_
              refine tn 26 opFrmF1226 hS ?_
              refine tn 27 opFrmF1227 hS ?_
              refine tn 28 opFrmF1228 hS ?_
              refine ts 29 opFrmF1229 hS ?_
              refine ts 30 opFrmF1230 hS ?_
              refine tn 31 opFrmF1231 hS ?_
              refine tn 32 opFrmF1232 hS ?_
              refine tn 33 opFrmF1233 hS ?_
              refine tn 34 opFrmF1234 hS ?_
              refine ts 35 opFrmF1235 hS ?_
              refine wpAnyH_done (by kernel_rfl) ?_ _
              go_wp2_with fail
              go_meet
              go_light
              have HBX := Lib.hid hB
              have HGX := Lib.hid hg2
              have c0X := hS.2.2.2.1
              have c1X := hS.2.2.2.2.1
              have c2X := hS.2.2.2.2.2
              exact ⟨true, rfl, Lib.hid (by unfold hdF; rw [← HCI.out, ← HCD.out]; simp [hlt, hi0]), HBX, HGX, c0X, c1X, c2X⟩
            · clear hor hoI
              have hS : w1.drew.cell? ⟨lb, lo + k * 3, none⟩ = some (.string d.s) ∧ w1.drew.cell? ⟨lb, lo + k * 3 + 1, none⟩ = some (.string d.f) ∧ w1.drew.cell? ⟨lb, lo + k * 3 + 2, none⟩ = some dv ∧ w1.drew.cell? ⟨g, 0, none⟩ = some (.string c.s) ∧ w1.drew.cell? ⟨g, 1, none⟩ = some (.string c.f) ∧ w1.drew.cell? ⟨g, 2, none⟩ = some (.slice pa pn pc) := ⟨m0, m1, m2, k0, k1, k2⟩
              have hB : Below w.heap.size w w1.drew := HB1.out.drew
              have hlb2 : lb < w1.drew.heap.size := hlbw
              have hg2 : g < w1.drew.heap.size := hg1
              refine wp_region_held_drew (S := fun wz => wz.cell? ⟨lb, lo + k * 3, none⟩ = some (.string d.s) ∧ wz.cell? ⟨lb, lo + k * 3 + 1, none⟩ = some (.string d.f) ∧ wz.cell? ⟨lb, lo + k * 3 + 2, none⟩ = some dv ∧ wz.cell? ⟨g, 0, none⟩ = some (.string c.s) ∧ wz.cell? ⟨g, 1, none⟩ = some (.string c.f) ∧ wz.cell? ⟨g, 2, none⟩ = some (.slice pa pn pc)) (by kernel_rfl) hS (fun hh => ?_)
              clear hh
              generalize w1.drew = x0 at *
              refine ts 0 opFrmF120 hS ?_
              refine tk 1 opFrmF121 (v := .bool true) (Or.inl ⟨by rfl, fun w hSw => ?_⟩) hS ?_
              · go_simp; first | done | rfl | (congr 3; exact decide_eq_true (by omega)) | (simp; omega)
              try simp only [Act.put, List.setIfInBounds_toArray, List.set_cons_zero, List.set_cons_succ]
              refine ts 2 opFrmF122 hS ?_
              refine ts 3 opFrmF123 hS ?_
              refine ts 4 opFrmF124 hS ?_
              refine ts 5 opFrmF125 hS ?_
              refine ts 6 opFrmF126 hS ?_
              refine ts 7 opFrmF127 hS ?_
              refine ts 8 opFrmF128 hS ?_
              refine wpAnyH_ready (rs := [9]) (by kernel_rfl) (by simp) (AllReadyH.cons (o := opFrmF129) rfl (fun K hK => ?_) AllReadyH.nil)
              go_simp
              go_at_call 29
              refine (order_any d c dv (.slice pa pn pc) x0).mono ?_
              rintro _ x1 ⟨rfl, hb⟩
              rw [hO]
              replace hS := And.intro ((hb.cell (p := ⟨lb, lo + k * 3, none⟩) hlb2).trans hS.1) (And.intro ((hb.cell (p := ⟨lb, lo + k * 3 + 1, none⟩) hlb2).trans hS.2.1) (And.intro ((hb.cell (p := ⟨lb, lo + k * 3 + 2, none⟩) hlb2).trans hS.2.2.1) (And.intro ((hb.cell (p := ⟨g, 0, none⟩) hg2).trans hS.2.2.2.1) (And.intro ((hb.cell (p := ⟨g, 1, none⟩) hg2).trans hS.2.2.2.2.1) ((hb.cell (p := ⟨g, 2, none⟩) hg2).trans hS.2.2.2.2.2)))))
              replace hB := hB.trans (hb.mono hB.size)
              replace hg2 := Nat.lt_of_lt_of_le hg2 hb.size
              clear hb
              dsimp only
              refine hK.out _ _ hS (fun hh => ?_)
              clear hK K hh
              try simp only [Act.put, List.setIfInBounds_toArray, List.set_cons_zero, List.set_cons_succ]
              refine tk 10 opFrmF1210 (v := .bool true) (Or.inl ⟨by rfl, fun w hSw => ?_⟩) hS ?_
              · go_simp; first | done | rfl | (congr 3; exact decide_eq_true (by omega)) | (simp; omega)
              try simp only [Act.put, List.setIfInBounds_toArray, List.set_cons_zero, List.set_cons_succ]
              refine ts 11 opFrmF1211 hS ?_
              refine ts 12 opFrmF1212 hS ?_
              refine tn 13 opFrmF1213 hS ?_
              refine tn 14 opFrmF1214 hS ?_
              refine tn 15 opFrmF1215 hS ?_
              refine tn 16 opFrmF1216 hS ?_
              refine ts 17 opFrmF1217 hS ?_
              refine ts 18 opFrmF1218 hS ?_
              refine tn 19 opFrmF1219 hS ?_
              refine tn 20 opFrmF1220 hS ?_
              refine tn 21 opFrmF1221 hS ?_
              refine tn 22 opFrmF1222 hS ?_
              refine ts 23 opFrmF1223 hS ?_
              refine ts 24 opFrmF1224 hS ?_
              refine tn 25 opFrmF1225 hS ?_
              refine tn 26 opFrmF1226 hS ?_
              refine tn 27 opFrmF1227 hS ?_
              refine tn 28 opFrmF1228 hS ?_
              refine ts 29 opFrmF1229 hS ?_
              refine ts 30 opFrmF1230 hS ?_
              refine tn 31 opFrmF1231 hS ?_
              refine tn 32 opFrmF1232 hS ?_
              refine tn 33 opFrmF1233 hS ?_
              refine tn 34 opFrmF1234 hS ?_
              refine ts 35 opFrmF1235 hS ?_
              refine wpAnyH_done (by kernel_rfl) ?_ _
              go_wp2_with fail
              go_meet
              go_light
              have HBX := Lib.hid hB
              have HGX := Lib.hid hg2
              have c0X := hS.2.2.2.1
              have c1X := hS.2.2.2.2.1
              have c2X := hS.2.2.2.2.2
              exact ⟨true, rfl, Lib.hid (by unfold hdF; rw [← HCI.out, ← HCD.out]; simp [hlt, hi0]), HBX, HGX, c0X, c1X, c2X⟩
      case rest =>
      obtain ⟨v49, rfl, HV49, HBc, HGc, k0, k1, k2⟩ := hcut
      cases v49 with
      | true =>
        have hno : hdF (cnS cs) i = false := by have := HV49.out; revert this; cases hdF (cnS cs) i <;> simp
        have HNO : Hid (frmC (cnS cs) = false) := Lib.hid (frmC_col (k := i) (by rw [cnS_len, ← HN.out]; exact HIN.out) (by unfold colF; rw [hno]; rfl))
        clear hno
        go_wp2_with fail
        go_ret
        exact ⟨by rw [HNO.out]; rfl, HBc.out⟩
      | false =>
        have HHD : Hid (hdF (cnS cs) i = true) := Lib.hid (by have := HV49.out; revert this; cases hdF (cnS cs) i <;> simp)
        have hpn1 : 1 ≤ pn := by
          have h := HHD.out
          unfold hdF at h
          rw [← HCI.out, ← HPN.out] at h
          simp only [Bool.and_eq_true, decide_eq_true_eq] at h
          exact h.2.2.2.1
        obtain ⟨pb, po, pc', he, _, _, hpb, hpcell⟩ := RdV.some HP.out (by rw [← HPN.out]; omega) (by decide)
        rw [← HPN.out] at he
        simp only [Value.slice.injEq, true_and] at he
        obtain ⟨rfl, rfl⟩ := he
        have HPC : Hid (∀ j, j < pn → w.cell? ⟨pb, po + j * 4, none⟩ = some (.int .i64 (c.p.getD j p0).t) ∧ w.cell? ⟨pb, po + j * 4 + 1, none⟩ = some (.int .i64 (c.p.getD j p0).v.k) ∧ w.cell? ⟨pb, po + j * 4 + 2, none⟩ = some (.int .u64 ((c.p.getD j p0).v.b : Int)) ∧ w.cell? ⟨pb, po + j * 4 + 3, none⟩ = some (.string (c.p.getD j p0).v.t)) := Lib.hid (fun j hj => by
          have hj2 : j < c.p.length := by rw [← HPN.out]; exact hj
          have e0 := flat_at Pn.cells 4 (fun _ => rfl) c.p j hj2 0 (by omega)
          have e1 := flat_at Pn.cells 4 (fun _ => rfl) c.p j hj2 1 (by omega)
          have e2 := flat_at Pn.cells 4 (fun _ => rfl) c.p j hj2 2 (by omega)
          have e3 := flat_at Pn.cells 4 (fun _ => rfl) c.p j hj2 3 (by omega)
          rw [getD_get c.p j p0 hj2]
          exact ⟨hpcell _ _ e0, hpcell _ _ e1, hpcell _ _ e2, hpcell _ _ e3⟩)
        clear hpcell
        generalize gk = gO at *
        generalize wr = wO at *
        go_wp2_with fail
        go_loopg [53] pn (fun m2 s53 wz => ∃ k : Nat, k + m2 = pn ∧ s53 = .int .i64 (k : Int) ∧ Hid (ptF c.p k = true) ∧ Hid (Below wc.heap.size wc wz))
        case atStart => exact ⟨0, by omega, rfl, Lib.hid rfl, Lib.hid (Below.refl _ _)⟩
        case round =>
          obtain ⟨k, hk, rfl, HPT, HBz⟩ := hrel
          by_cases hgk : gk = 0
          · obtain rfl : k = pn := by omega
            have HCF : Hid (colsF (cnS cs) (i + 1) = true) := Lib.hid (by
              rw [colsF_next, HF.out, Bool.true_and]
              unfold colF
              rw [HHD.out, ← HCI.out, ← HPN.out, HPT.out]
              rfl)
            have HBB := Lib.hid (HBc.out.trans (HBz.out.mono HBc.out.size))
            clear hk hgk
            go_wp2_with fail
            go_roundg (gO - 1)
            case measure => go_light; omega
            case rel =>
              go_light
              exact ⟨i + 1, by omega, by go_num, HCF, HBB⟩
          · have hkp : k < pn := by omega
            obtain ⟨a0, a1, a2, a3⟩ := HPC.out k hkp
            obtain ⟨j, hj⟩ : ∃ j, j = k - 1 := ⟨_, rfl⟩
            have hjp : j < pn := by omega
            obtain ⟨b0', _, _, _⟩ := HPC.out j hjp
            obtain ⟨_, z1, _, _⟩ := HPC.out 0 (by omega)
            have hw : ∀ d, wr.cell? ⟨pb, d, none⟩ = w.cell? ⟨pb, d, none⟩ := fun d => (HBz.out.cell (p := ⟨pb, d, none⟩) (Nat.lt_of_lt_of_le hpb HBc.out.size)).trans (HBc.out.cell (p := ⟨pb, d, none⟩) hpb)
            have a0 := (hw _).trans a0
            have a1 := (hw _).trans a1
            have a2 := (hw _).trans a2
            have a3 := (hw _).trans a3
            have b0' := (hw _).trans b0'
            have z1 := (hw _).trans z1
            rw [show po + 0 * 4 + 1 = po + 1 by omega] at z1
            have kk2 := (HBz.out.cell (p := ⟨g, 2, none⟩) HGc.out).trans k2
            have HPK : Hid (pkF c.p k = ((formV (c.p.getD k p0).v && decide ((c.p.getD k p0).v.k = (c.p.getD 0 p0).v.k)) && (decide (k = 0) || decide ((c.p.getD j p0).t < (c.p.getD k p0).t)))) := Lib.hid (by unfold pkF; rw [hj])
            have hbl : (c.p.getD k p0).v.b < 18446744073709551616 := HOK.out _ (getD_mem c.p k p0 (by rw [← HPN.out]; exact hkp))
            generalize (c.p.getD j p0).t = tp at *
            generalize (c.p.getD 0 p0).v.k = kz at *
            generalize c.p.getD k p0 = u at *
            obtain ⟨ut, uv⟩ := u
            obtain ⟨uk, ub, ux⟩ := uv
            dsimp only at *
            clear hw
            have HJ := Lib.hid hj
            clear hj
            have hpw : pb < wr.heap.size := Nat.lt_of_lt_of_le (Nat.lt_of_lt_of_le hpb HBc.out.size) HBz.out.size
            have hgw : g < wr.heap.size := Nat.lt_of_lt_of_le HGc.out HBz.out.size
            clear k0 k1 k2
            go_upto_region 9 with fail
            have q0 : (wr.alloc (.cells #[.int .i64 ut, .int .i64 uk, .int .u64 (ub : Int), .string ux] 29)).cell? ⟨wr.heap.size, 0, none⟩ = some (.int .i64 ut) := by simp [go_sem]
            have q1 : (wr.alloc (.cells #[.int .i64 ut, .int .i64 uk, .int .u64 (ub : Int), .string ux] 29)).cell? ⟨wr.heap.size, 1, none⟩ = some (.int .i64 uk) := by simp [go_sem]
            have q2 : (wr.alloc (.cells #[.int .i64 ut, .int .i64 uk, .int .u64 (ub : Int), .string ux] 29)).cell? ⟨wr.heap.size, 2, none⟩ = some (.int .u64 (ub : Int)) := by simp [go_sem]
            have q3 : (wr.alloc (.cells #[.int .i64 ut, .int .i64 uk, .int .u64 (ub : Int), .string ux] 29)).cell? ⟨wr.heap.size, 3, none⟩ = some (.string ux) := by simp [go_sem]
            have hba : Below wr.heap.size wr (wr.alloc (.cells #[.int .i64 ut, .int .i64 uk, .int .u64 (ub : Int), .string ux] 29)) := (Below.refl _ _).alloc (Nat.le_refl _) _
            have c2' := (hba.cell (p := ⟨g, 2, none⟩) hgw).trans kk2
            have z1' := (hba.cell (p := ⟨pb, po + 1, none⟩) hpw).trans z1
            have b0'' := (hba.cell (p := ⟨pb, po + j * 4, none⟩) hpw).trans b0'
            have HBa := Lib.hid (HBz.out.trans (hba.mono HBz.out.size))
            have hqw : wr.heap.size < (wr.alloc (.cells #[.int .i64 ut, .int .i64 uk, .int .u64 (ub : Int), .string ux] 29)).heap.size := by simp
            have hgw2 := Nat.lt_of_lt_of_le hgw hba.size
            have hpw2 := Nat.lt_of_lt_of_le hpw hba.size
            clear a0 a1 a2 a3 b0' z1 kk2 hba hgw hpw
            generalize wr.alloc (.cells #[.int .i64 ut, .int .i64 uk, .int .u64 (ub : Int), .string ux] 29) = w3 at *
            generalize wr.heap.size = q at *
            go_cut [89] (fun s89 wx => ∃ v89 : Bool, s89 = .bool v89 ∧ Hid (v89 = !pkF c.p k) ∧ Hid (Below wc.heap.size wc wx))
            case first =>
              have hS : w3.drew.cell? ⟨q, 0, none⟩ = some (.int .i64 ut) ∧ w3.drew.cell? ⟨q, 1, none⟩ = some (.int .i64 uk) ∧ w3.drew.cell? ⟨q, 2, none⟩ = some (.int .u64 (ub : Int)) ∧ w3.drew.cell? ⟨q, 3, none⟩ = some (.string ux) ∧ w3.drew.cell? ⟨g, 2, none⟩ = some (.slice (some ⟨pb, po, none⟩) pn pc) ∧ w3.drew.cell? ⟨pb, po + 1, none⟩ = some (.int .i64 kz) ∧ w3.drew.cell? ⟨pb, po + j * 4, none⟩ = some (.int .i64 tp) := ⟨q0, q1, q2, q3, c2', z1', b0''⟩
              have hB : Below wc.heap.size wc w3.drew := HBa.out.drew
              have l1 : q < w3.drew.heap.size := hqw
              have l2 : g < w3.drew.heap.size := hgw2
              have l3 : pb < w3.drew.heap.size := hpw2
              have hFM : ∀ wz : World, Calls Tryd.prog 32 #[.agg #[.int .i64 uk, .int .u64 (ub : Int), .string ux]] wz fun e w' => e = .returned (.bool (formV ⟨uk, ub, ux⟩)) ∧ Below wz.heap.size wz w' := fun wz => formed_any ⟨uk, ub, ux⟩ hbl wz
              have hpn0 : (0 : Int) < (pn : Int) := by omega
              have hpn0N : 0 < pn := by omega
              have hjpI : (j : Int) < (pn : Int) := by omega
              have hj0I : (0 : Int) ≤ (j : Int) := by omega
              clear q0 q1 q2 q3 c2' z1' b0'' hqw hgw2 hpw2
              by_cases hFV : formV ⟨uk, ub, ux⟩ = true
              · by_cases hkd : uk = kz
                · have hkz : (uk != kz) = false := by simp [hkd]
                  have HKD := Lib.hid hkd
                  clear hkd
                  by_cases hk0 : k = 0
                  · have hk0I : ¬ (0 : Int) < (k : Int) := by omega
                    have hk0N : ¬ 0 < k := by omega
                    have HK0 := Lib.hid hk0
                    clear hk0
                    refine wp_region_held_drew (S := fun wz => wz.cell? ⟨q, 0, none⟩ = some (.int .i64 ut) ∧ wz.cell? ⟨q, 1, none⟩ = some (.int .i64 uk) ∧ wz.cell? ⟨q, 2, none⟩ = some (.int .u64 (ub : Int)) ∧ wz.cell? ⟨q, 3, none⟩ = some (.string ux) ∧ wz.cell? ⟨g, 2, none⟩ = some (.slice (some ⟨pb, po, none⟩) pn pc) ∧ wz.cell? ⟨pb, po + 1, none⟩ = some (.int .i64 kz) ∧ wz.cell? ⟨pb, po + j * 4, none⟩ = some (.int .i64 tp)) (by kernel_rfl) hS (fun hh => ?_)
                    clear hh
                    generalize w3.drew = x0 at *
                    refine ts 0 opFrmF1236 hS ?_
                    refine ts 1 opFrmF1237 hS ?_
                    refine wpAnyH_ready (rs := [2]) (by kernel_rfl) (by simp) (AllReadyH.cons (o := opFrmF1238) rfl (fun K hK => ?_) AllReadyH.nil)
                    go_simp
                    go_at_call 32
                    refine (hFM x0).mono ?_
                    rintro _ x1 ⟨rfl, hb⟩
                    rw [hFV]
                    replace hS := And.intro ((hb.cell (p := ⟨q, 0, none⟩) l1).trans hS.1) (And.intro ((hb.cell (p := ⟨q, 1, none⟩) l1).trans hS.2.1) (And.intro ((hb.cell (p := ⟨q, 2, none⟩) l1).trans hS.2.2.1) (And.intro ((hb.cell (p := ⟨q, 3, none⟩) l1).trans hS.2.2.2.1) (And.intro ((hb.cell (p := ⟨g, 2, none⟩) l2).trans hS.2.2.2.2.1) (And.intro ((hb.cell (p := ⟨pb, po + 1, none⟩) l3).trans hS.2.2.2.2.2.1) ((hb.cell (p := ⟨pb, po + j * 4, none⟩) l3).trans hS.2.2.2.2.2.2))))))
                    replace hB := hB.trans (hb.mono hB.size)
                    clear hb
                    dsimp only
                    refine hK.out _ _ hS (fun hh => ?_)
                    clear hK K hh
                    try simp only [Act.put, List.setIfInBounds_toArray, List.set_cons_zero, List.set_cons_succ]
                    refine tk 3 opFrmF1239 (v := .bool false) (Or.inl ⟨by rfl, fun w hSw => ?_⟩) hS ?_
                    · go_simp; first | done | rfl | (congr 3; exact decide_eq_false (by omega)) | (simp; omega)
                    try simp only [Act.put, List.setIfInBounds_toArray, List.set_cons_zero, List.set_cons_succ]
                    refine ts 4 opFrmF1240 hS ?_
                    refine ts 5 opFrmF1241 hS ?_
                    refine ts 6 opFrmF1242 hS ?_
                    refine ts 7 opFrmF1243 hS ?_
                    refine ts 8 opFrmF1244 hS ?_
                    refine ts 9 opFrmF1245 hS ?_
                    refine ts 10 opFrmF1246 hS ?_
                    refine ts 11 opFrmF1247 hS ?_
                    refine ts 12 opFrmF1248 hS ?_
                    refine ts 13 opFrmF1249 hS ?_
                    refine tk 14 opFrmF1250 (v := .bool false) (Or.inl ⟨by rfl, fun w hSw => ?_⟩) hS ?_
                    · go_simp; first | done | rfl | (rw [hkz])
                    try simp only [Act.put, List.setIfInBounds_toArray, List.set_cons_zero, List.set_cons_succ]
                    refine ts 15 opFrmF1251 hS ?_
                    refine ts 16 opFrmF1252 hS ?_
                    refine ts 17 opFrmF1253 hS ?_
                    refine tk 18 opFrmF1254 (v := .bool false) (Or.inl ⟨by rfl, fun w hSw => ?_⟩) hS ?_
                    · go_simp; first | done | rfl | (congr 3; exact decide_eq_false (by omega)) | (simp; omega)
                    try simp only [Act.put, List.setIfInBounds_toArray, List.set_cons_zero, List.set_cons_succ]
                    refine ts 19 opFrmF1255 hS ?_
                    refine tn 20 opFrmF1256 hS ?_
                    refine tn 21 opFrmF1257 hS ?_
                    refine tn 22 opFrmF1258 hS ?_
                    refine tn 23 opFrmF1259 hS ?_
                    refine tn 24 opFrmF1260 hS ?_
                    refine tn 25 opFrmF1261 hS ?_
                    refine tn 26 opFrmF1262 hS ?_
                    refine tn 27 opFrmF1263 hS ?_
                    refine tn 28 opFrmF1264 hS ?_
                    refine tn 29 opFrmF1265 hS ?_
                    refine ts 30 opFrmF1266 hS ?_
                    refine ts 31 opFrmF1267 hS ?_
                    refine wpAnyH_done (by kernel_rfl) ?_ _
                    go_wp2_with fail
                    go_meet
                    go_light
                    exact ⟨false, rfl, Lib.hid (by rw [HPK.out, hFV, decide_eq_true HKD.out, decide_eq_true HK0.out]; rfl), Lib.hid hB⟩
                  · have hk0I : (0 : Int) < (k : Int) := by omega
                    have hk0N : 0 < k := by omega
                    have HK0 := Lib.hid hk0
                    clear hk0
                    have hjI : (k : Int) - 1 = (j : Int) := by have := HJ.out; omega
                    have hjw : IntKind.i64.wrap ((k : Int) - 1) = (j : Int) := by rw [hjI]; exact IntWalk.i64_in _ (by omega)
                    have hjw2 : IntKind.i64.wrap (j : Int) = (j : Int) := IntWalk.i64_in _ (by omega)
                    by_cases htt : tp < ut
                    · have htI : ¬ ut ≤ tp := by omega
                      refine wp_region_held_drew (S := fun wz => wz.cell? ⟨q, 0, none⟩ = some (.int .i64 ut) ∧ wz.cell? ⟨q, 1, none⟩ = some (.int .i64 uk) ∧ wz.cell? ⟨q, 2, none⟩ = some (.int .u64 (ub : Int)) ∧ wz.cell? ⟨q, 3, none⟩ = some (.string ux) ∧ wz.cell? ⟨g, 2, none⟩ = some (.slice (some ⟨pb, po, none⟩) pn pc) ∧ wz.cell? ⟨pb, po + 1, none⟩ = some (.int .i64 kz) ∧ wz.cell? ⟨pb, po + j * 4, none⟩ = some (.int .i64 tp)) (by kernel_rfl) hS (fun hh => ?_)
                      clear hh
                      generalize w3.drew = x0 at *
                      refine ts 0 opFrmF1236 hS ?_
                      refine ts 1 opFrmF1237 hS ?_
                      refine wpAnyH_ready (rs := [2]) (by kernel_rfl) (by simp) (AllReadyH.cons (o := opFrmF1238) rfl (fun K hK => ?_) AllReadyH.nil)
                      go_simp
                      go_at_call 32
                      refine (hFM x0).mono ?_
                      rintro _ x1 ⟨rfl, hb⟩
                      rw [hFV]
                      replace hS := And.intro ((hb.cell (p := ⟨q, 0, none⟩) l1).trans hS.1) (And.intro ((hb.cell (p := ⟨q, 1, none⟩) l1).trans hS.2.1) (And.intro ((hb.cell (p := ⟨q, 2, none⟩) l1).trans hS.2.2.1) (And.intro ((hb.cell (p := ⟨q, 3, none⟩) l1).trans hS.2.2.2.1) (And.intro ((hb.cell (p := ⟨g, 2, none⟩) l2).trans hS.2.2.2.2.1) (And.intro ((hb.cell (p := ⟨pb, po + 1, none⟩) l3).trans hS.2.2.2.2.2.1) ((hb.cell (p := ⟨pb, po + j * 4, none⟩) l3).trans hS.2.2.2.2.2.2))))))
                      replace hB := hB.trans (hb.mono hB.size)
                      clear hb
                      dsimp only
                      refine hK.out _ _ hS (fun hh => ?_)
                      clear hK K hh
                      try simp only [Act.put, List.setIfInBounds_toArray, List.set_cons_zero, List.set_cons_succ]
                      refine tk 3 opFrmF1239 (v := .bool false) (Or.inl ⟨by rfl, fun w hSw => ?_⟩) hS ?_
                      · go_simp; first | done | rfl | (congr 3; exact decide_eq_false (by omega)) | (simp; omega)
                      try simp only [Act.put, List.setIfInBounds_toArray, List.set_cons_zero, List.set_cons_succ]
                      refine ts 4 opFrmF1240 hS ?_
                      refine ts 5 opFrmF1241 hS ?_
                      refine ts 6 opFrmF1242 hS ?_
                      refine ts 7 opFrmF1243 hS ?_
                      refine ts 8 opFrmF1244 hS ?_
                      refine ts 9 opFrmF1245 hS ?_
                      refine ts 10 opFrmF1246 hS ?_
                      refine ts 11 opFrmF1247 hS ?_
                      refine ts 12 opFrmF1248 hS ?_
                      refine ts 13 opFrmF1249 hS ?_
                      refine tk 14 opFrmF1250 (v := .bool false) (Or.inl ⟨by rfl, fun w hSw => ?_⟩) hS ?_
                      · go_simp; first | done | rfl | (rw [hkz])
                      try simp only [Act.put, List.setIfInBounds_toArray, List.set_cons_zero, List.set_cons_succ]
                      refine ts 15 opFrmF1251 hS ?_
                      refine ts 16 opFrmF1252 hS ?_
                      refine ts 17 opFrmF1253 hS ?_
                      refine tk 18 opFrmF1254 (v := .bool true) (Or.inl ⟨by rfl, fun w hSw => ?_⟩) hS ?_
                      · go_simp; first | done | rfl | (congr 3; exact decide_eq_true (by omega)) | (simp; omega)
                      try simp only [Act.put, List.setIfInBounds_toArray, List.set_cons_zero, List.set_cons_succ]
                      refine ts 19 opFrmF1255 hS ?_
                      refine ts 20 opFrmF1256 hS ?_
                      refine ts 21 opFrmF1257 hS ?_
                      refine ts 22 opFrmF1258 hS ?_
                      refine ts 23 opFrmF1259 hS ?_
                      refine ts 24 opFrmF1260 hS ?_
                      refine ts 25 opFrmF1261 hS ?_
                      refine ts 26 opFrmF1262 hS ?_
                      refine ts 27 opFrmF1263 hS ?_
                      refine ts 28 opFrmF1264 hS ?_
                      refine tk 29 opFrmF1265 (v := .bool false) (Or.inl ⟨by rfl, fun w hSw => ?_⟩) hS ?_
                      · go_simp; first | done | rfl | (congr 3; exact decide_eq_false (by omega)) | (simp; omega)
                      try simp only [Act.put, List.setIfInBounds_toArray, List.set_cons_zero, List.set_cons_succ]
                      refine ts 30 opFrmF1266 hS ?_
                      refine ts 31 opFrmF1267 hS ?_
                      refine wpAnyH_done (by kernel_rfl) ?_ _
                      go_wp2_with fail
                      go_meet
                      go_light
                      exact ⟨false, rfl, Lib.hid (by rw [HPK.out, hFV, decide_eq_true HKD.out, decide_eq_false HK0.out, decide_eq_true htt]; rfl), Lib.hid hB⟩
                    · have htI : ut ≤ tp := by omega
                      refine wp_region_held_drew (S := fun wz => wz.cell? ⟨q, 0, none⟩ = some (.int .i64 ut) ∧ wz.cell? ⟨q, 1, none⟩ = some (.int .i64 uk) ∧ wz.cell? ⟨q, 2, none⟩ = some (.int .u64 (ub : Int)) ∧ wz.cell? ⟨q, 3, none⟩ = some (.string ux) ∧ wz.cell? ⟨g, 2, none⟩ = some (.slice (some ⟨pb, po, none⟩) pn pc) ∧ wz.cell? ⟨pb, po + 1, none⟩ = some (.int .i64 kz) ∧ wz.cell? ⟨pb, po + j * 4, none⟩ = some (.int .i64 tp)) (by kernel_rfl) hS (fun hh => ?_)
                      clear hh
                      generalize w3.drew = x0 at *
                      refine ts 0 opFrmF1236 hS ?_
                      refine ts 1 opFrmF1237 hS ?_
                      refine wpAnyH_ready (rs := [2]) (by kernel_rfl) (by simp) (AllReadyH.cons (o := opFrmF1238) rfl (fun K hK => ?_) AllReadyH.nil)
                      go_simp
                      go_at_call 32
                      refine (hFM x0).mono ?_
                      rintro _ x1 ⟨rfl, hb⟩
                      rw [hFV]
                      replace hS := And.intro ((hb.cell (p := ⟨q, 0, none⟩) l1).trans hS.1) (And.intro ((hb.cell (p := ⟨q, 1, none⟩) l1).trans hS.2.1) (And.intro ((hb.cell (p := ⟨q, 2, none⟩) l1).trans hS.2.2.1) (And.intro ((hb.cell (p := ⟨q, 3, none⟩) l1).trans hS.2.2.2.1) (And.intro ((hb.cell (p := ⟨g, 2, none⟩) l2).trans hS.2.2.2.2.1) (And.intro ((hb.cell (p := ⟨pb, po + 1, none⟩) l3).trans hS.2.2.2.2.2.1) ((hb.cell (p := ⟨pb, po + j * 4, none⟩) l3).trans hS.2.2.2.2.2.2))))))
                      replace hB := hB.trans (hb.mono hB.size)
                      clear hb
                      dsimp only
                      refine hK.out _ _ hS (fun hh => ?_)
                      clear hK K hh
                      try simp only [Act.put, List.setIfInBounds_toArray, List.set_cons_zero, List.set_cons_succ]
                      refine tk 3 opFrmF1239 (v := .bool false) (Or.inl ⟨by rfl, fun w hSw => ?_⟩) hS ?_
                      · go_simp; first | done | rfl | (congr 3; exact decide_eq_false (by omega)) | (simp; omega)
                      try simp only [Act.put, List.setIfInBounds_toArray, List.set_cons_zero, List.set_cons_succ]
                      refine ts 4 opFrmF1240 hS ?_
                      refine ts 5 opFrmF1241 hS ?_
                      refine ts 6 opFrmF1242 hS ?_
                      refine ts 7 opFrmF1243 hS ?_
                      refine ts 8 opFrmF1244 hS ?_
                      refine ts 9 opFrmF1245 hS ?_
                      refine ts 10 opFrmF1246 hS ?_
                      refine ts 11 opFrmF1247 hS ?_
                      refine ts 12 opFrmF1248 hS ?_
                      refine ts 13 opFrmF1249 hS ?_
                      refine tk 14 opFrmF1250 (v := .bool false) (Or.inl ⟨by rfl, fun w hSw => ?_⟩) hS ?_
                      · go_simp; first | done | rfl | (rw [hkz])
                      try simp only [Act.put, List.setIfInBounds_toArray, List.set_cons_zero, List.set_cons_succ]
                      refine ts 15 opFrmF1251 hS ?_
                      refine ts 16 opFrmF1252 hS ?_
                      refine ts 17 opFrmF1253 hS ?_
                      refine tk 18 opFrmF1254 (v := .bool true) (Or.inl ⟨by rfl, fun w hSw => ?_⟩) hS ?_
                      · go_simp; first | done | rfl | (congr 3; exact decide_eq_true (by omega)) | (simp; omega)
                      try simp only [Act.put, List.setIfInBounds_toArray, List.set_cons_zero, List.set_cons_succ]
                      refine ts 19 opFrmF1255 hS ?_
                      refine ts 20 opFrmF1256 hS ?_
                      refine ts 21 opFrmF1257 hS ?_
                      refine ts 22 opFrmF1258 hS ?_
                      refine ts 23 opFrmF1259 hS ?_
                      refine ts 24 opFrmF1260 hS ?_
                      refine ts 25 opFrmF1261 hS ?_
                      refine ts 26 opFrmF1262 hS ?_
                      refine ts 27 opFrmF1263 hS ?_
                      refine ts 28 opFrmF1264 hS ?_
                      refine tk 29 opFrmF1265 (v := .bool true) (Or.inl ⟨by rfl, fun w hSw => ?_⟩) hS ?_
                      · go_simp; first | done | rfl | (congr 3; exact decide_eq_true (by omega)) | (simp; omega)
                      try simp only [Act.put, List.setIfInBounds_toArray, List.set_cons_zero, List.set_cons_succ]
                      refine ts 30 opFrmF1266 hS ?_
                      refine ts 31 opFrmF1267 hS ?_
                      refine wpAnyH_done (by kernel_rfl) ?_ _
                      go_wp2_with fail
                      go_meet
                      go_light
                      exact ⟨true, rfl, Lib.hid (by rw [HPK.out, hFV, decide_eq_true HKD.out, decide_eq_false HK0.out, decide_eq_false (show ¬ tp < ut by omega)]; rfl), Lib.hid hB⟩
                · have hkz : (uk != kz) = true := by simp [hkd]
                  have HKD := Lib.hid hkd
                  clear hkd
                  refine wp_region_held_drew (S := fun wz => wz.cell? ⟨q, 0, none⟩ = some (.int .i64 ut) ∧ wz.cell? ⟨q, 1, none⟩ = some (.int .i64 uk) ∧ wz.cell? ⟨q, 2, none⟩ = some (.int .u64 (ub : Int)) ∧ wz.cell? ⟨q, 3, none⟩ = some (.string ux) ∧ wz.cell? ⟨g, 2, none⟩ = some (.slice (some ⟨pb, po, none⟩) pn pc) ∧ wz.cell? ⟨pb, po + 1, none⟩ = some (.int .i64 kz) ∧ wz.cell? ⟨pb, po + j * 4, none⟩ = some (.int .i64 tp)) (by kernel_rfl) hS (fun hh => ?_)
                  clear hh
                  generalize w3.drew = x0 at *
                  refine ts 0 opFrmF1236 hS ?_
                  refine ts 1 opFrmF1237 hS ?_
                  refine wpAnyH_ready (rs := [2]) (by kernel_rfl) (by simp) (AllReadyH.cons (o := opFrmF1238) rfl (fun K hK => ?_) AllReadyH.nil)
                  go_simp
                  go_at_call 32
                  refine (hFM x0).mono ?_
                  rintro _ x1 ⟨rfl, hb⟩
                  rw [hFV]
                  replace hS := And.intro ((hb.cell (p := ⟨q, 0, none⟩) l1).trans hS.1) (And.intro ((hb.cell (p := ⟨q, 1, none⟩) l1).trans hS.2.1) (And.intro ((hb.cell (p := ⟨q, 2, none⟩) l1).trans hS.2.2.1) (And.intro ((hb.cell (p := ⟨q, 3, none⟩) l1).trans hS.2.2.2.1) (And.intro ((hb.cell (p := ⟨g, 2, none⟩) l2).trans hS.2.2.2.2.1) (And.intro ((hb.cell (p := ⟨pb, po + 1, none⟩) l3).trans hS.2.2.2.2.2.1) ((hb.cell (p := ⟨pb, po + j * 4, none⟩) l3).trans hS.2.2.2.2.2.2))))))
                  replace hB := hB.trans (hb.mono hB.size)
                  clear hb
                  dsimp only
                  refine hK.out _ _ hS (fun hh => ?_)
                  clear hK K hh
                  try simp only [Act.put, List.setIfInBounds_toArray, List.set_cons_zero, List.set_cons_succ]
                  refine tk 3 opFrmF1239 (v := .bool false) (Or.inl ⟨by rfl, fun w hSw => ?_⟩) hS ?_
                  · go_simp; first | done | rfl | (congr 3; exact decide_eq_false (by omega)) | (simp; omega)
                  try simp only [Act.put, List.setIfInBounds_toArray, List.set_cons_zero, List.set_cons_succ]
                  refine ts 4 opFrmF1240 hS ?_
                  refine ts 5 opFrmF1241 hS ?_
                  refine ts 6 opFrmF1242 hS ?_
                  refine ts 7 opFrmF1243 hS ?_
                  refine ts 8 opFrmF1244 hS ?_
                  refine ts 9 opFrmF1245 hS ?_
                  refine ts 10 opFrmF1246 hS ?_
                  refine ts 11 opFrmF1247 hS ?_
                  refine ts 12 opFrmF1248 hS ?_
                  refine ts 13 opFrmF1249 hS ?_
                  refine tk 14 opFrmF1250 (v := .bool true) (Or.inl ⟨by rfl, fun w hSw => ?_⟩) hS ?_
                  · go_simp; first | done | rfl | (rw [hkz])
                  try simp only [Act.put, List.setIfInBounds_toArray, List.set_cons_zero, List.set_cons_succ]
                  refine ts 15 opFrmF1251 hS ?_
                  refine ts 16 opFrmF1252 hS ?_
                  refine tn 17 opFrmF1253 hS ?_
                  refine tn 18 opFrmF1254 hS ?_
                  refine tn 19 opFrmF1255 hS ?_
                  refine tn 20 opFrmF1256 hS ?_
                  refine tn 21 opFrmF1257 hS ?_
                  refine tn 22 opFrmF1258 hS ?_
                  refine tn 23 opFrmF1259 hS ?_
                  refine tn 24 opFrmF1260 hS ?_
                  refine tn 25 opFrmF1261 hS ?_
                  refine tn 26 opFrmF1262 hS ?_
                  refine tn 27 opFrmF1263 hS ?_
                  refine tn 28 opFrmF1264 hS ?_
                  refine tn 29 opFrmF1265 hS ?_
                  refine tn 30 opFrmF1266 hS ?_
                  refine ts 31 opFrmF1267 hS ?_
                  refine wpAnyH_done (by kernel_rfl) ?_ _
                  go_wp2_with fail
                  go_meet
                  go_light
                  exact ⟨true, rfl, Lib.hid (by rw [HPK.out, hFV, decide_eq_false HKD.out]; rfl), Lib.hid hB⟩
              · have hFV : formV ⟨uk, ub, ux⟩ = false := by simpa using hFV
                refine wp_region_held_drew (S := fun wz => wz.cell? ⟨q, 0, none⟩ = some (.int .i64 ut) ∧ wz.cell? ⟨q, 1, none⟩ = some (.int .i64 uk) ∧ wz.cell? ⟨q, 2, none⟩ = some (.int .u64 (ub : Int)) ∧ wz.cell? ⟨q, 3, none⟩ = some (.string ux) ∧ wz.cell? ⟨g, 2, none⟩ = some (.slice (some ⟨pb, po, none⟩) pn pc) ∧ wz.cell? ⟨pb, po + 1, none⟩ = some (.int .i64 kz) ∧ wz.cell? ⟨pb, po + j * 4, none⟩ = some (.int .i64 tp)) (by kernel_rfl) hS (fun hh => ?_)
                clear hh
                generalize w3.drew = x0 at *
                refine ts 0 opFrmF1236 hS ?_
                refine ts 1 opFrmF1237 hS ?_
                refine wpAnyH_ready (rs := [2]) (by kernel_rfl) (by simp) (AllReadyH.cons (o := opFrmF1238) rfl (fun K hK => ?_) AllReadyH.nil)
                go_simp
                go_at_call 32
                refine (hFM x0).mono ?_
                rintro _ x1 ⟨rfl, hb⟩
                rw [hFV]
                replace hS := And.intro ((hb.cell (p := ⟨q, 0, none⟩) l1).trans hS.1) (And.intro ((hb.cell (p := ⟨q, 1, none⟩) l1).trans hS.2.1) (And.intro ((hb.cell (p := ⟨q, 2, none⟩) l1).trans hS.2.2.1) (And.intro ((hb.cell (p := ⟨q, 3, none⟩) l1).trans hS.2.2.2.1) (And.intro ((hb.cell (p := ⟨g, 2, none⟩) l2).trans hS.2.2.2.2.1) (And.intro ((hb.cell (p := ⟨pb, po + 1, none⟩) l3).trans hS.2.2.2.2.2.1) ((hb.cell (p := ⟨pb, po + j * 4, none⟩) l3).trans hS.2.2.2.2.2.2))))))
                replace hB := hB.trans (hb.mono hB.size)
                clear hb
                dsimp only
                refine hK.out _ _ hS (fun hh => ?_)
                clear hK K hh
                try simp only [Act.put, List.setIfInBounds_toArray, List.set_cons_zero, List.set_cons_succ]
                refine tk 3 opFrmF1239 (v := .bool true) (Or.inl ⟨by rfl, fun w hSw => ?_⟩) hS ?_
                · go_simp; first | done | rfl | (congr 3; exact decide_eq_true (by omega)) | (simp; omega)
                try simp only [Act.put, List.setIfInBounds_toArray, List.set_cons_zero, List.set_cons_succ]
                refine ts 4 opFrmF1240 hS ?_
                refine tn 5 opFrmF1241 hS ?_
                refine tn 6 opFrmF1242 hS ?_
                refine tn 7 opFrmF1243 hS ?_
                refine tn 8 opFrmF1244 hS ?_
                refine tn 9 opFrmF1245 hS ?_
                refine tn 10 opFrmF1246 hS ?_
                refine tn 11 opFrmF1247 hS ?_
                refine tn 12 opFrmF1248 hS ?_
                refine tn 13 opFrmF1249 hS ?_
                refine tn 14 opFrmF1250 hS ?_
                refine ts 15 opFrmF1251 hS ?_
                refine ts 16 opFrmF1252 hS ?_
                refine tn 17 opFrmF1253 hS ?_
                refine tn 18 opFrmF1254 hS ?_
                refine tn 19 opFrmF1255 hS ?_
                refine tn 20 opFrmF1256 hS ?_
                refine tn 21 opFrmF1257 hS ?_
                refine tn 22 opFrmF1258 hS ?_
                refine tn 23 opFrmF1259 hS ?_
                refine tn 24 opFrmF1260 hS ?_
                refine tn 25 opFrmF1261 hS ?_
                refine tn 26 opFrmF1262 hS ?_
                refine tn 27 opFrmF1263 hS ?_
                refine tn 28 opFrmF1264 hS ?_
                refine tn 29 opFrmF1265 hS ?_
                refine tn 30 opFrmF1266 hS ?_
                refine ts 31 opFrmF1267 hS ?_
                refine wpAnyH_done (by kernel_rfl) ?_ _
                go_wp2_with fail
                go_meet
                go_light
                exact ⟨true, rfl, Lib.hid (by rw [HPK.out, hFV]; rfl), Lib.hid hB⟩
            case rest =>
            obtain ⟨v89, rfl, HV89, HBx⟩ := hcut
            have HBB := Lib.hid (HBc.out.trans (HBx.out.mono HBc.out.size))
            cases v89 with
            | true =>
              have hno : pkF c.p k = false := by have := HV89.out; revert this; cases pkF c.p k <;> simp
              have HNO : Hid (frmC (cnS cs) = false) := Lib.hid (frmC_col (k := i) (by rw [cnS_len, ← HN.out]; exact HIN.out) (by unfold colF; rw [← HCI.out, ptF_false (k := k) (by rw [← HPN.out]; exact hkp) hno, Bool.and_false]))
              clear hno HV89
              go_wp2_with fail
              go_ret
              exact ⟨by rw [HNO.out]; rfl, HBB.out⟩
            | false =>
              have hyes : pkF c.p k = true := by have := HV89.out; revert this; cases pkF c.p k <;> simp
              have HPT2 : Hid (ptF c.p (k + 1) = true) := Lib.hid (by rw [ptF_next, HPT.out, hyes]; rfl)
              clear hyes HV89
              go_wp2_with fail
              go_roundg (gk - 1)
              case measure => go_light; omega
              case rel =>
                go_light
                exact ⟨k + 1, by omega, by go_num, HPT2, HBx⟩
end Go.Proofs.YthcgalpabjjkoaaDoor

