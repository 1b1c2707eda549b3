/- Texts of ours, behind one another: RFrm12. No conditions but those that each states. -/
import Derived.Test.YthcgalpabjjkoaaDoorG1
import Derived.Test.YthcgalpabjjkoaaDoorG13
import Derived.BigRegion
import Derived.Deep.RegionHeld3
import Derived.Laws.Cover1
/- XRFrm12: gristref12.formed. (printed by gen_rfrm12.py) -/
namespace Go.Proofs.YthcgalpabjjkoaaDoor
open Go.RowKit
set_option linter.unusedVariables false
set_option maxRecDepth 100000

def szF (c : Cn) : Bool := decide (c.s.size ≤ 4000) && (decide (c.f.size ≤ 4000) && (decide (1 ≤ c.p.length) && decide (c.p.length ≤ 1000000)))
def grF (d c : Cn) : Bool := !(Op.bytesLess d.s.toList c.s.toList || d.s.toList == c.s.toList) || ((d.s.toList == c.s.toList) && !Op.bytesLess d.f.toList c.f.toList)
theorem grF_lt (d c : Cn) : grF d c = !ltC d c := by
  unfold grF ltC
  cases h1 : Op.bytesLess d.s.toList c.s.toList
  · cases (d.s.toList == c.s.toList) <;> cases Op.bytesLess d.f.toList c.f.toList <;> rfl
  · have h3 : (d.s.toList == c.s.toList) = false := by
      rw [beq_eq_false_iff_ne]
      intro e
      rw [e, bl_irrefl] at h1
      cases h1
    rw [h3]
    rfl
theorem hdF_sz (l : List Cn) (i : Nat) : hdF l i = ((decide (i = 0) || ltC (l.getD (i - 1) c0) (l.getD i c0)) && szF (l.getD i c0)) := rfl

@[reducible, go_sem] def opRFrm120 : Oper := { dst := some 81, op := Op.fieldAddr 31 (Operand.tmp 4) 2, type := 0, pos := "ref.go:23", after := #[], guard := none }
@[reducible, go_sem] def opRFrm121 : Oper := { dst := some 82, op := Op.load 24 (Operand.tmp 81), type := 24, pos := "ref.go:23", after := #[{ on := 0, ground := Ground.data }], guard := none }
@[reducible, go_sem] def opRFrm122 : Oper := { dst := some 83, op := Op.move (Operand.tmp 5), type := 3, pos := "ref.go:23", after := #[], guard := none }
@[reducible, go_sem] def opRFrm123 : Oper := { dst := some 84, op := Op.indexAddr 24 (Operand.tmp 82) (Operand.tmp 83), type := 0, pos := "ref.go:23", after := #[{ on := 1, ground := Ground.data }, { on := 2, ground := Ground.data }], guard := none }
@[reducible, go_sem] def opRFrm124 : Oper := { dst := some 85, op := Op.fieldAddr 29 (Operand.tmp 84) 1, type := 0, pos := "ref.go:23", after := #[{ on := 3, ground := Ground.data }], guard := none }
@[reducible, go_sem] def opRFrm125 : Oper := { dst := some 86, op := Op.load 27 (Operand.tmp 85), type := 27, pos := "ref.go:23", after := #[{ on := 4, ground := Ground.data }], guard := none }
@[reducible, go_sem] def opRFrm126 : Oper := { dst := some 87, op := Op.call { callee := Callee.value (Operand.func 38), args := #[Operand.tmp 86], argTypes := #[27] }, type := 4, pos := "ref.go:23", after := #[{ on := 5, ground := Ground.data }], guard := none }
@[reducible, go_sem] def opRFrm127 : Oper := { dst := some 88, op := Op.unOp UnOp.not 4 (Operand.tmp 87), type := 4, pos := "ref.go:23", after := #[{ on := 6, ground := Ground.data }], guard := none }
@[reducible, go_sem] def opRFrm128 : Oper := { dst := some 89, op := Op.move (Operand.tmp 88), type := 4, pos := "ref.go:23", after := #[{ on := 7, ground := Ground.data }, { on := 6, ground := Ground.chain }], guard := none }
@[reducible, go_sem] def opRFrm129 : Oper := { dst := some 90, op := Op.fieldAddr 31 (Operand.tmp 4) 2, type := 0, pos := "ref.go:23", after := #[{ on := 8, ground := Ground.guard }], guard := some (8, false) }
@[reducible, go_sem] def opRFrm1210 : Oper := { dst := some 91, op := Op.load 24 (Operand.tmp 90), type := 24, pos := "ref.go:23", after := #[{ on := 9, ground := Ground.data }, { on := 8, ground := Ground.guard }], guard := some (8, false) }
@[reducible, go_sem] def opRFrm1211 : Oper := { dst := some 92, op := Op.move (Operand.tmp 5), type := 3, pos := "ref.go:23", after := #[{ on := 8, ground := Ground.guard }], guard := some (8, false) }
@[reducible, go_sem] def opRFrm1212 : Oper := { dst := some 93, op := Op.indexAddr 24 (Operand.tmp 91) (Operand.tmp 92), type := 0, pos := "ref.go:23", after := #[{ on := 10, ground := Ground.data }, { on := 11, ground := Ground.data }, { on := 8, ground := Ground.guard }], guard := some (8, false) }
@[reducible, go_sem] def opRFrm1213 : Oper := { dst := some 94, op := Op.fieldAddr 29 (Operand.tmp 93) 1, type := 0, pos := "ref.go:23", after := #[{ on := 12, ground := Ground.data }, { on := 8, ground := Ground.guard }], guard := some (8, false) }
@[reducible, go_sem] def opRFrm1214 : Oper := { dst := some 95, op := Op.fieldAddr 27 (Operand.tmp 94) 0, type := 0, pos := "ref.go:23", after := #[{ on := 13, ground := Ground.data }, { on := 8, ground := Ground.guard }], guard := some (8, false) }
@[reducible, go_sem] def opRFrm1215 : Oper := { dst := some 96, op := Op.load 3 (Operand.tmp 95), type := 3, pos := "ref.go:23", after := #[{ on := 14, ground := Ground.data }, { on := 8, ground := Ground.guard }], guard := some (8, false) }
@[reducible, go_sem] def opRFrm1216 : Oper := { dst := some 97, op := Op.fieldAddr 31 (Operand.tmp 4) 2, type := 0, pos := "ref.go:23", after := #[{ on := 8, ground := Ground.guard }], guard := some (8, false) }
@[reducible, go_sem] def opRFrm1217 : Oper := { dst := some 98, op := Op.load 24 (Operand.tmp 97), type := 24, pos := "ref.go:23", after := #[{ on := 16, ground := Ground.data }, { on := 8, ground := Ground.guard }], guard := some (8, false) }
@[reducible, go_sem] def opRFrm1218 : Oper := { dst := some 99, op := Op.indexAddr 24 (Operand.tmp 98) (Operand.const (Value.int IntKind.i64 0)), type := 0, pos := "ref.go:23", after := #[{ on := 17, ground := Ground.data }, { on := 8, ground := Ground.guard }], guard := some (8, false) }
@[reducible, go_sem] def opRFrm1219 : Oper := { dst := some 100, op := Op.fieldAddr 29 (Operand.tmp 99) 1, type := 0, pos := "ref.go:23", after := #[{ on := 18, ground := Ground.data }, { on := 8, ground := Ground.guard }], guard := some (8, false) }
@[reducible, go_sem] def opRFrm1220 : Oper := { dst := some 101, op := Op.fieldAddr 27 (Operand.tmp 100) 0, type := 0, pos := "ref.go:23", after := #[{ on := 19, ground := Ground.data }, { on := 8, ground := Ground.guard }], guard := some (8, false) }
@[reducible, go_sem] def opRFrm1221 : Oper := { dst := some 102, op := Op.load 3 (Operand.tmp 101), type := 3, pos := "ref.go:23", after := #[{ on := 20, ground := Ground.data }, { on := 8, ground := Ground.guard }], guard := some (8, false) }
@[reducible, go_sem] def opRFrm1222 : Oper := { dst := some 103, op := Op.binOp BinOp.neq 3 (Operand.tmp 96) (Operand.tmp 102) 3, type := 4, pos := "ref.go:23", after := #[{ on := 15, ground := Ground.data }, { on := 21, ground := Ground.data }, { on := 8, ground := Ground.guard }], guard := some (8, false) }
@[reducible, go_sem] def opRFrm1223 : Oper := { dst := some 104, op := Op.pick (Operand.tmp 89) (Operand.const (Value.bool true)) (Operand.tmp 103), type := 4, pos := "ref.go:23", after := #[{ on := 8, ground := Ground.data }, { on := 22, ground := Ground.data }], guard := none }
@[reducible, go_sem] def opRFrm1224 : Oper := { dst := some 105, op := Op.move (Operand.tmp 104), type := 4, pos := "ref.go:23", after := #[{ on := 23, ground := Ground.data }, { on := 8, ground := Ground.chain }], guard := none }
@[reducible, go_sem] def opRFrm1225 : Oper := { dst := some 106, op := Op.move (Operand.tmp 5), type := 3, pos := "ref.go:23", after := #[{ on := 24, ground := Ground.guard }], guard := some (24, false) }
@[reducible, go_sem] def opRFrm1226 : Oper := { dst := some 107, op := Op.binOp BinOp.gtr 3 (Operand.tmp 106) (Operand.const (Value.int IntKind.i64 0)) 3, type := 4, pos := "ref.go:23", after := #[{ on := 25, ground := Ground.data }, { on := 24, ground := Ground.guard }], guard := some (24, false) }
@[reducible, go_sem] def opRFrm1227 : Oper := { dst := some 108, op := Op.move (Operand.tmp 107), type := 4, pos := "ref.go:23", after := #[{ on := 26, ground := Ground.data }, { on := 24, ground := Ground.chain }, { on := 24, ground := Ground.guard }], guard := some (24, false) }
@[reducible, go_sem] def opRFrm1228 : Oper := { dst := some 109, op := Op.fieldAddr 31 (Operand.tmp 4) 2, type := 0, pos := "ref.go:23", after := #[{ on := 27, ground := Ground.guard }], guard := some (27, true) }
@[reducible, go_sem] def opRFrm1229 : Oper := { dst := some 110, op := Op.load 24 (Operand.tmp 109), type := 24, pos := "ref.go:23", after := #[{ on := 28, ground := Ground.data }, { on := 27, ground := Ground.guard }], guard := some (27, true) }
@[reducible, go_sem] def opRFrm1230 : Oper := { dst := some 111, op := Op.move (Operand.tmp 5), type := 3, pos := "ref.go:23", after := #[{ on := 27, ground := Ground.guard }], guard := some (27, true) }
@[reducible, go_sem] def opRFrm1231 : Oper := { dst := some 112, op := Op.indexAddr 24 (Operand.tmp 110) (Operand.tmp 111), type := 0, pos := "ref.go:23", after := #[{ on := 29, ground := Ground.data }, { on := 30, ground := Ground.data }, { on := 27, ground := Ground.guard }], guard := some (27, true) }
@[reducible, go_sem] def opRFrm1232 : Oper := { dst := some 113, op := Op.fieldAddr 29 (Operand.tmp 112) 0, type := 0, pos := "ref.go:23", after := #[{ on := 31, ground := Ground.data }, { on := 27, ground := Ground.guard }], guard := some (27, true) }
@[reducible, go_sem] def opRFrm1233 : Oper := { dst := some 114, op := Op.load 2 (Operand.tmp 113), type := 2, pos := "ref.go:23", after := #[{ on := 32, ground := Ground.data }, { on := 27, ground := Ground.guard }], guard := some (27, true) }
@[reducible, go_sem] def opRFrm1234 : Oper := { dst := some 115, op := Op.fieldAddr 31 (Operand.tmp 4) 2, type := 0, pos := "ref.go:23", after := #[{ on := 27, ground := Ground.guard }], guard := some (27, true) }
@[reducible, go_sem] def opRFrm1235 : Oper := { dst := some 116, op := Op.load 24 (Operand.tmp 115), type := 24, pos := "ref.go:23", after := #[{ on := 34, ground := Ground.data }, { on := 27, ground := Ground.guard }], guard := some (27, true) }
@[reducible, go_sem] def opRFrm1236 : Oper := { dst := some 117, op := Op.move (Operand.tmp 5), type := 3, pos := "ref.go:23", after := #[{ on := 27, ground := Ground.guard }], guard := some (27, true) }
@[reducible, go_sem] def opRFrm1237 : Oper := { dst := some 118, op := Op.binOp BinOp.sub 3 (Operand.tmp 117) (Operand.const (Value.int IntKind.i64 1)) 3, type := 3, pos := "ref.go:23", after := #[{ on := 36, ground := Ground.data }, { on := 27, ground := Ground.guard }], guard := some (27, true) }
@[reducible, go_sem] def opRFrm1238 : Oper := { dst := some 119, op := Op.indexAddr 24 (Operand.tmp 116) (Operand.tmp 118), type := 0, pos := "ref.go:23", after := #[{ on := 35, ground := Ground.data }, { on := 37, ground := Ground.data }, { on := 27, ground := Ground.guard }], guard := some (27, true) }
@[reducible, go_sem] def opRFrm1239 : Oper := { dst := some 120, op := Op.fieldAddr 29 (Operand.tmp 119) 0, type := 0, pos := "ref.go:23", after := #[{ on := 38, ground := Ground.data }, { on := 27, ground := Ground.guard }], guard := some (27, true) }
@[reducible, go_sem] def opRFrm1240 : Oper := { dst := some 121, op := Op.load 2 (Operand.tmp 120), type := 2, pos := "ref.go:23", after := #[{ on := 39, ground := Ground.data }, { on := 27, ground := Ground.guard }], guard := some (27, true) }
@[reducible, go_sem] def opRFrm1241 : Oper := { dst := some 122, op := Op.binOp BinOp.leq 2 (Operand.tmp 114) (Operand.tmp 121) 2, type := 4, pos := "ref.go:23", after := #[{ on := 33, ground := Ground.data }, { on := 40, ground := Ground.data }, { on := 27, ground := Ground.guard }], guard := some (27, true) }
@[reducible, go_sem] def opRFrm1242 : Oper := { dst := some 123, op := Op.pick (Operand.tmp 108) (Operand.tmp 122) (Operand.const (Value.bool false)), type := 4, pos := "ref.go:23", after := #[{ on := 27, ground := Ground.data }, { on := 41, ground := Ground.data }, { on := 24, ground := Ground.guard }], guard := some (24, false) }
@[reducible, go_sem] def opRFrm1243 : Oper := { dst := some 124, op := Op.pick (Operand.tmp 105) (Operand.const (Value.bool true)) (Operand.tmp 123), type := 4, pos := "ref.go:23", after := #[{ on := 24, ground := Ground.data }, { on := 42, ground := Ground.data }], guard := none }
set_option maxHeartbeats 8000000 in
theorem rfformed_any (cs : List Cb) (v : Value) (w : World) (hl : cs.length * 56 ≤ 140737488351232) (hps : ∀ c ∈ cs, c.c.p.length * 40 ≤ 140737488351232) (hok : ∀ c ∈ cs, c.c.ok) (hr : Cols w v cs) :
    Calls Tryd.prog 18 #[v] w fun e w' => e = .returned (.bool (frmC (cnS cs))) ∧ Below w.heap.size w w' := by
  obtain ⟨ao, cap, rfl, hn, hcm⟩ := RdV.shape hr.1
  unfold maxLen at hcm
  have HR := Lib.hid hr
  have HPS := Lib.hid hps
  have HOKS := Lib.hid hok
  clear hr hps hok
  obtain ⟨n, hnl⟩ : ∃ n, n = cs.length := ⟨_, rfl⟩
  have HN := Lib.hid hnl
  rw [← hnl] at hn hl ⊢
  clear hnl
  by_cases hmc : n ≤ 1048576
  · have hmI : ¬ (1048576 : Int) < (n : Int) := by omega
    go_enter Tryd.func18, Tryd.ntmps18
    go_wp2_with fail
    go_loopg [11] n (fun m s11 wr => ∃ i : Nat, i + m = n ∧ s11 = .int .i64 (i : Int) ∧ Hid (colsF (cnS cs) i = true) ∧ Hid (Below w.heap.size w wr))
    case atStart => exact ⟨0, by omega, rfl, Lib.hid rfl, Lib.hid (Below.refl _ _)⟩
    case round =>
      obtain ⟨i, hi, rfl, HF, HB⟩ := hrel
      by_cases h0 : gk = 0
      · obtain rfl : i = n := by omega
        have HV : Hid (frmC (cnS cs) = true) := Lib.hid (by
          unfold frmC
          rw [cnS_len, ← HN.out, HF.out, decide_eq_true hmc]
          rfl)
        clear hi h0
        go_wp2_with fail
        go_ret
        exact ⟨by rw [HV.out]; rfl, HB.out⟩
      · have hin : i < n := by omega
        obtain ⟨lb, lo, lc, he, hlb, f0, f1, f2, hp⟩ := col_at HR.out i (by rw [← HN.out]; exact hin)
        rw [← HN.out] at he
        simp only [Value.slice.injEq, true_and] at he
        obtain ⟨rfl, rfl⟩ := he
        have HCI : Hid ((cs.getD i b0).c = (cnS cs).getD i c0) := Lib.hid (cnS_get cs i (by rw [← HN.out]; exact hin)).symm
        have HP := Lib.hid hp
        have g0 := (HB.out.cell (p := ⟨lb, lo + i * 3, none⟩) hlb).trans f0
        have g1 := (HB.out.cell (p := ⟨lb, lo + i * 3 + 1, none⟩) hlb).trans f1
        have g2 := (HB.out.cell (p := ⟨lb, lo + i * 3 + 2, none⟩) hlb).trans f2
        clear f0 f1 f2 hp
        have hplen : (cs.getD i b0).c.p.length * 40 ≤ 140737488351232 := HPS.out _ (getD_mem cs i b0 (by rw [← HN.out]; exact hin))
        have HOK : Hid (∀ p ∈ (cs.getD i b0).c.p, p.v.b < 18446744073709551616) := Lib.hid (fun p hp => (HOKS.out _ (getD_mem cs i b0 (by rw [← HN.out]; exact hin)) p hp).2.2)
        obtain ⟨pa, pc, hpv, hpc, hpm⟩ := RdV.shape HP.out
        rw [hpv] at g2 HP
        generalize (cs.getD i b0).c = c at *
        obtain ⟨pn, hpn⟩ : ∃ pn, pn = c.p.length := ⟨_, rfl⟩
        have HPN := Lib.hid hpn
        rw [← hpn] at g2 hplen hpc
        clear hpv hpn
        have HIN := Lib.hid hin
        go_upto_region 7 with fail
        have k0 : (wr.alloc (.cells #[.string c.s, .string c.f, .slice pa pn pc] 31)).cell? ⟨wr.heap.size, 0, none⟩ = some (.string c.s) := by simp [go_sem]
        have k1 : (wr.alloc (.cells #[.string c.s, .string c.f, .slice pa pn pc] 31)).cell? ⟨wr.heap.size, 1, none⟩ = some (.string c.f) := by simp [go_sem]
        have k2 : (wr.alloc (.cells #[.string c.s, .string c.f, .slice pa pn pc] 31)).cell? ⟨wr.heap.size, 2, none⟩ = some (.slice pa pn pc) := by simp [go_sem]
        have HB1 := Lib.hid (HB.out.alloc HB.out.size (.cells #[.string c.s, .string c.f, .slice pa pn pc] 31))
        have hg1 : wr.heap.size < (wr.alloc (.cells #[.string c.s, .string c.f, .slice pa pn pc] 31)).heap.size := by simp
        clear g0 g1 g2
        generalize wr.alloc (.cells #[.string c.s, .string c.f, .slice pa pn pc] 31) = w1 at *
        have HBR := Lib.hid HB.out.size
        generalize wr.heap.size = g at *
        go_cut [39] (fun s39 wx => ∃ v39 : Bool, s39 = .bool v39 ∧ Hid (v39 = !szF c) ∧ wx = w1)
        case first =>
          by_cases hs : c.s.size ≤ 4000
          · have hsI : ¬ (4000 : Int) < (c.s.size : Int) := by omega
            by_cases hf : c.f.size ≤ 4000
            · have hfI : ¬ (4000 : Int) < (c.f.size : Int) := by omega
              by_cases hp1 : 1 ≤ pn
              · have hpI : ¬ (pn : Int) < 1 := by omega
                by_cases hp2 : pn ≤ 1000000
                · have hpI2 : ¬ (1000000 : Int) < (pn : Int) := by omega
                  go_wp2_with fail
                  go_meet
                  go_light
                  exact ⟨_, rfl, Lib.hid (by unfold szF; rw [← HPN.out]; simp [hs, hf, hp1, hp2]), rfl⟩
                · have hpI2 : (1000000 : Int) < (pn : Int) := by omega
                  go_wp2_with fail
                  go_meet
                  go_light
                  exact ⟨_, rfl, Lib.hid (by unfold szF; rw [← HPN.out]; simp [hs, hf, hp1, hp2]), rfl⟩
              · have hpI : (pn : Int) < 1 := by omega
                go_wp2_with fail
                go_meet
                go_light
                exact ⟨_, rfl, Lib.hid (by unfold szF; rw [← HPN.out]; simp [hs, hf, hp1]), rfl⟩
            · have hfI : (4000 : Int) < (c.f.size : Int) := by omega
              go_wp2_with fail
              go_meet
              go_light
              exact ⟨_, rfl, Lib.hid (by unfold szF; simp [hs, hf]), rfl⟩
          · have hsI : (4000 : Int) < (c.s.size : Int) := by omega
            go_wp2_with fail
            go_meet
            go_light
            exact ⟨_, rfl, Lib.hid (by unfold szF; simp [hs]), rfl⟩
        case rest =>
        obtain ⟨v39, rfl, HV39, rfl⟩ := hcut
        cases v39 with
        | true =>
          have hno : szF c = false := by have := HV39.out; revert this; cases szF c <;> simp
          have HNO : Hid (frmC (cnS cs) = false) := Lib.hid (frmC_col (k := i) (by rw [cnS_len, ← HN.out]; exact HIN.out) (by unfold colF; rw [hdF_sz, ← HCI.out, hno, Bool.and_false]; rfl))
          clear hno HV39
          go_wp2_with fail
          go_ret
          exact ⟨by rw [HNO.out]; rfl, HB1.out⟩
        | false =>
          have HSZ : Hid (szF c = true) := Lib.hid (by have := HV39.out; revert this; cases szF c <;> simp)
          clear HV39
          have hpn1 : 1 ≤ pn := by
            have h := HSZ.out
            unfold szF at h
            rw [← HPN.out] at h
            simp only [Bool.and_eq_true, decide_eq_true_eq] at h
            exact h.2.2.1
          go_upto_region 9 with fail
          go_cut [74] (fun s74 wx => ∃ v74 : Bool, s74 = .bool v74 ∧ Hid ((!v74) = (decide (i = 0) || ltC ((cnS cs).getD (i - 1) c0) c)) ∧ ∃ q1, wx = wc.drewN q1)
          case first =>
            by_cases hi0 : i = 0
            · subst hi0
              go_quiet (fail)
              go_wp2_with fail
              go_meet
              go_light
              exact ⟨_, rfl, Lib.hid rfl, _, rfl⟩
            · obtain ⟨k, hki⟩ : ∃ k, k + 1 = i := ⟨i - 1, by omega⟩
              have hkI : (i : Int) - 1 = (k : Int) := by omega
              have hi1 : (0 : Int) < (i : Int) := by omega
              have hi1N : 0 < i := by omega
              have hkw : IntKind.i64.wrap ((i : Int) - 1) = (k : Int) := by rw [hkI]; exact IntWalk.i64_in _ (by omega)
              have hkw2 : IntKind.i64.wrap (k : Int) = (k : Int) := IntWalk.i64_in _ (by omega)
              have hk0I : (0 : Int) ≤ (k : Int) := by omega
              have hkn : k < n := by omega
              have hknI : (k : Int) < (n : Int) := by omega
              obtain ⟨lb', lo', lc', he, _, f0, f1, f2, _⟩ := col_at HR.out k (by rw [← HN.out]; exact hkn)
              rw [← HN.out] at he
              simp only [Value.slice.injEq, Option.some.injEq, Addr.mk.injEq, true_and, and_true] at he
              obtain ⟨⟨rfl, rfl⟩, rfl⟩ := he
              have HCD : Hid ((cs.getD k b0).c = (cnS cs).getD (i - 1) c0) := Lib.hid (by rw [show i - 1 = k by omega]; exact (cnS_get cs k (by rw [← HN.out]; exact hkn)).symm)
              have m0 := (HB1.out.cell (p := ⟨lb, lo + k * 3, none⟩) hlb).trans f0
              have m1 := (HB1.out.cell (p := ⟨lb, lo + k * 3 + 1, none⟩) hlb).trans f1
              clear f0 f1 f2
              generalize (cs.getD k b0).c = d at *
              have HG : Hid (∀ b, grF d c = b → (!b) = (decide (i = 0) || ltC ((cnS cs).getD (i - 1) c0) c)) := Lib.hid (fun b hb => by rw [← HCD.out, decide_eq_false hi0, Bool.false_or, ← hb, grF_lt, Bool.not_not])
              have hqX : Op.bytesLess d.s.toList c.s.toList = true → (d.s.toList == c.s.toList) = false := by
                intro h
                rw [beq_eq_false_iff_ne]
                intro e
                rw [e, bl_irrefl] at h
                cases h
              cases hq1 : Op.bytesLess d.s.toList c.s.toList with
              | true =>
                have hq2 := hqX hq1
                have hq2n : ¬ d.s.toList = c.s.toList := by simpa using hq2
                have HV := Lib.hid (HG.out false (by unfold grF; rw [hq1, hq2]; rfl))
                clear hqX
                go_quiet (fail)
                go_wp2_with fail
                go_meet
                go_light
                exact ⟨_, rfl, HV, _, rfl⟩
              | false =>
                clear hqX
                cases hq2 : d.s.toList == c.s.toList with
                | false =>
                  have hq2n : ¬ d.s.toList = c.s.toList := by simpa using hq2
                  have HV := Lib.hid (HG.out true (by unfold grF; rw [hq1, hq2]; rfl))
                  go_quiet (fail)
                  go_wp2_with fail
                  go_meet
                  go_light
                  exact ⟨_, rfl, HV, _, rfl⟩
                | true =>
                  have hq2n : d.s.toList = c.s.toList := by simpa using hq2
                  cases hq3 : Op.bytesLess d.f.toList c.f.toList with
                  | false =>
                    have HV := Lib.hid (HG.out true (by unfold grF; rw [hq1, hq2, hq3]; rfl))
                    clear hq2n
                    go_quiet (fail)
                    go_wp2_with fail
                    go_meet
                    go_light
                    exact ⟨_, rfl, HV, _, rfl⟩
                  | true =>
                    have HV := Lib.hid (HG.out false (by unfold grF; rw [hq1, hq2, hq3]; rfl))
                    clear hq2n
                    go_quiet (fail)
                    go_wp2_with fail
                    go_meet
                    go_light
                    exact ⟨_, rfl, HV, _, rfl⟩
          case rest =>
          obtain ⟨v74, rfl, HV74, q1, rfl⟩ := hcut
          have HBc := Lib.hid (below_dr HB1.out q1)
          have HGc : Hid (g < (wc.drewN q1).heap.size) := Lib.hid hg1
          have kk2 : (wc.drewN q1).cell? ⟨g, 2, none⟩ = some (.slice pa pn pc) := k2
          clear k0 k1 k2 hg1
          have k2 := kk2
          clear kk2
          generalize wc.drewN q1 = wc' at *
          clear wc HB1
          generalize wc' = wc at *
          cases v74 with
          | true =>
            have HNO : Hid (frmC (cnS cs) = false) := Lib.hid (frmC_col (k := i) (by rw [cnS_len, ← HN.out]; exact HIN.out) (by unfold colF; rw [hdF_sz, ← HCI.out, ← HV74.out]; rfl))
            clear HV74
            go_wp2_with fail
            go_ret
            exact ⟨by rw [HNO.out]; rfl, HBc.out⟩
          | false =>
            have HHD : Hid (hdF (cnS cs) i = true) := Lib.hid (by rw [hdF_sz, ← HCI.out, ← HV74.out, HSZ.out]; rfl)
            clear HV74 HSZ
            obtain ⟨pb, po, pc', he, _, _, hpb, hpcell⟩ := RdV.some HP.out (by rw [← HPN.out]; omega) (by decide)
            rw [← HPN.out] at he
            simp only [Value.slice.injEq, true_and] at he
            obtain ⟨rfl, rfl⟩ := he
            have HPC : Hid (∀ j, j < pn → w.cell? ⟨pb, po + j * 4, none⟩ = some (.int .i64 (c.p.getD j p0).t) ∧ w.cell? ⟨pb, po + j * 4 + 1, none⟩ = some (.int .i64 (c.p.getD j p0).v.k) ∧ w.cell? ⟨pb, po + j * 4 + 2, none⟩ = some (.int .u64 ((c.p.getD j p0).v.b : Int)) ∧ w.cell? ⟨pb, po + j * 4 + 3, none⟩ = some (.string (c.p.getD j p0).v.t)) := Lib.hid (fun j hj => by
              have hj2 : j < c.p.length := by rw [← HPN.out]; exact hj
              have e0 := flat_at Pn.cells 4 (fun _ => rfl) c.p j hj2 0 (by omega)
              have e1 := flat_at Pn.cells 4 (fun _ => rfl) c.p j hj2 1 (by omega)
              have e2 := flat_at Pn.cells 4 (fun _ => rfl) c.p j hj2 2 (by omega)
              have e3 := flat_at Pn.cells 4 (fun _ => rfl) c.p j hj2 3 (by omega)
              rw [getD_get c.p j p0 hj2]
              exact ⟨hpcell _ _ e0, hpcell _ _ e1, hpcell _ _ e2, hpcell _ _ e3⟩)
            clear hpcell
            generalize gk = gO at *
            generalize wr = wO at *
            go_wp2_with fail
            go_loopg [78] pn (fun m2 s53 wz => ∃ k : Nat, k + m2 = pn ∧ s53 = .int .i64 (k : Int) ∧ Hid (ptF c.p k = true) ∧ Hid (Below wc.heap.size wc wz))
            case atStart => exact ⟨0, by omega, rfl, Lib.hid rfl, Lib.hid (Below.refl _ _)⟩
            case round =>
              obtain ⟨k, hk, rfl, HPT, HBz⟩ := hrel
              by_cases hgk : gk = 0
              · obtain rfl : k = pn := by omega
                have HCF : Hid (colsF (cnS cs) (i + 1) = true) := Lib.hid (by
                  rw [colsF_next, HF.out, Bool.true_and]
                  unfold colF
                  rw [HHD.out, ← HCI.out, ← HPN.out, HPT.out]
                  rfl)
                have HBB := Lib.hid (HBc.out.trans (HBz.out.mono HBc.out.size))
                clear hk hgk
                go_wp2_with fail
                go_roundg (gO - 1)
                case measure => go_light; omega
                case rel =>
                  go_light
                  exact ⟨i + 1, by omega, by go_num, HCF, HBB⟩
              · have hkp : k < pn := by omega
                obtain ⟨a0, a1, a2, a3⟩ := HPC.out k hkp
                obtain ⟨j, hj⟩ : ∃ j, j = k - 1 := ⟨_, rfl⟩
                have hjp : j < pn := by omega
                obtain ⟨b0', _, _, _⟩ := HPC.out j hjp
                obtain ⟨_, z1, _, _⟩ := HPC.out 0 (by omega)
                have hw : ∀ d, wr.cell? ⟨pb, d, none⟩ = w.cell? ⟨pb, d, none⟩ := fun d => (HBz.out.cell (p := ⟨pb, d, none⟩) (Nat.lt_of_lt_of_le hpb HBc.out.size)).trans (HBc.out.cell (p := ⟨pb, d, none⟩) hpb)
                have a0 := (hw _).trans a0
                have a1 := (hw _).trans a1
                have a2 := (hw _).trans a2
                have a3 := (hw _).trans a3
                have b0' := (hw _).trans b0'
                have z1 := (hw _).trans z1
                rw [show po + 0 * 4 + 1 = po + 1 by omega] at z1
                have kk2 := (HBz.out.cell (p := ⟨g, 2, none⟩) HGc.out).trans k2
                have HPK : Hid (pkF c.p k = ((formV (c.p.getD k p0).v && decide ((c.p.getD k p0).v.k = (c.p.getD 0 p0).v.k)) && (decide (k = 0) || decide ((c.p.getD j p0).t < (c.p.getD k p0).t)))) := Lib.hid (by unfold pkF; rw [hj])
                have hbl : (c.p.getD k p0).v.b < 18446744073709551616 := HOK.out _ (getD_mem c.p k p0 (by rw [← HPN.out]; exact hkp))
                generalize (c.p.getD j p0).t = tp at *
                generalize (c.p.getD 0 p0).v.k = kz at *
                generalize c.p.getD k p0 = u at *
                obtain ⟨ut, uv⟩ := u
                obtain ⟨uk, ub, ux⟩ := uv
                dsimp only at *
                clear hw
                have HJ := Lib.hid hj
                clear hj
                have hpw : pb < wr.heap.size := Nat.lt_of_lt_of_le (Nat.lt_of_lt_of_le hpb HBc.out.size) HBz.out.size
                have hgw : g < wr.heap.size := Nat.lt_of_lt_of_le HGc.out HBz.out.size
                clear k2
                go_upto_region 14 with fail
                go_cut [124] (fun s124 wx => ∃ v124 : Bool, s124 = .bool v124 ∧ Hid (v124 = !pkF c.p k) ∧ Hid (Below wc.heap.size wc wx))
                case first =>
                  have hS : wr.drew.cell? ⟨pb, po + k * 4, none⟩ = some (.int .i64 ut) ∧ wr.drew.cell? ⟨pb, po + k * 4 + 1, none⟩ = some (.int .i64 uk) ∧ wr.drew.cell? ⟨pb, po + k * 4 + 2, none⟩ = some (.int .u64 (ub : Int)) ∧ wr.drew.cell? ⟨pb, po + k * 4 + 3, none⟩ = some (.string ux) ∧ wr.drew.cell? ⟨g, 2, none⟩ = some (.slice (some ⟨pb, po, none⟩) pn pc) ∧ wr.drew.cell? ⟨pb, po + 1, none⟩ = some (.int .i64 kz) ∧ wr.drew.cell? ⟨pb, po + j * 4, none⟩ = some (.int .i64 tp) := ⟨a0, a1, a2, a3, kk2, z1, b0'⟩
                  have hB : Below wc.heap.size wc wr.drew := HBz.out.drew
                  have l2 : g < wr.drew.heap.size := hgw
                  have l3 : pb < wr.drew.heap.size := hpw
                  have hFM : ∀ wz : World, Calls Tryd.prog 38 #[.agg #[.int .i64 uk, .int .u64 (ub : Int), .string ux]] wz fun e w' => e = .returned (.bool (formV ⟨uk, ub, ux⟩)) ∧ Below wz.heap.size wz w' := fun wz => rformed_any ⟨uk, ub, ux⟩ hbl wz
                  have hpn0 : (0 : Int) < (pn : Int) := by omega
                  have hpn0N : 0 < pn := by omega
                  have hjpI : (j : Int) < (pn : Int) := by omega
                  have hj0I : (0 : Int) ≤ (j : Int) := by omega
                  have hkpI : (k : Int) < (pn : Int) := by omega
                  have hk00I : (0 : Int) ≤ (k : Int) := by omega
                  clear a0 a1 a2 a3 kk2 z1 b0' hgw hpw
                  by_cases hFV : formV ⟨uk, ub, ux⟩ = true
                  · by_cases hkd : uk = kz
                    · have hkz : (uk != kz) = false := by simp [hkd]
                      have HKD := Lib.hid hkd
                      clear hkd
                      by_cases hk0 : k = 0
                      · have hk0I : ¬ (0 : Int) < (k : Int) := by omega
                        have hk0N : ¬ 0 < k := by omega
                        have HK0 := Lib.hid hk0
                        clear hk0
                        refine wp_region_held_drew (S := fun wz => wz.cell? ⟨pb, po + k * 4, none⟩ = some (.int .i64 ut) ∧ wz.cell? ⟨pb, po + k * 4 + 1, none⟩ = some (.int .i64 uk) ∧ wz.cell? ⟨pb, po + k * 4 + 2, none⟩ = some (.int .u64 (ub : Int)) ∧ wz.cell? ⟨pb, po + k * 4 + 3, none⟩ = some (.string ux) ∧ wz.cell? ⟨g, 2, none⟩ = some (.slice (some ⟨pb, po, none⟩) pn pc) ∧ wz.cell? ⟨pb, po + 1, none⟩ = some (.int .i64 kz) ∧ wz.cell? ⟨pb, po + j * 4, none⟩ = some (.int .i64 tp)) (by kernel_rfl) hS (fun hh => ?_)
                        clear hh
                        generalize wr.drew = x0 at *
                        refine ts 0 opRFrm120 hS ?_
                        refine ts 1 opRFrm121 hS ?_
                        refine ts 2 opRFrm122 hS ?_
                        refine ts 3 opRFrm123 hS ?_
                        refine ts 4 opRFrm124 hS ?_
                        refine ts 5 opRFrm125 hS ?_
                        refine wpAnyH_ready (rs := [6]) (by kernel_rfl) (by simp) (AllReadyH.cons (o := opRFrm126) rfl (fun K hK => ?_) AllReadyH.nil)
                        go_simp
                        go_at_call 38
                        refine (hFM x0).mono ?_
                        rintro _ x1 ⟨rfl, hb⟩
                        rw [hFV]
                        replace hS : x1.cell? ⟨pb, po + k * 4, none⟩ = some (.int .i64 ut) ∧ x1.cell? ⟨pb, po + k * 4 + 1, none⟩ = some (.int .i64 uk) ∧ x1.cell? ⟨pb, po + k * 4 + 2, none⟩ = some (.int .u64 (ub : Int)) ∧ x1.cell? ⟨pb, po + k * 4 + 3, none⟩ = some (.string ux) ∧ x1.cell? ⟨g, 2, none⟩ = some (.slice (some ⟨pb, po, none⟩) pn pc) ∧ x1.cell? ⟨pb, po + 1, none⟩ = some (.int .i64 kz) ∧ x1.cell? ⟨pb, po + j * 4, none⟩ = some (.int .i64 tp) := ⟨(hb.cell (p := ⟨pb, po + k * 4, none⟩) l3).trans hS.1, (hb.cell (p := ⟨pb, po + k * 4 + 1, none⟩) l3).trans hS.2.1, (hb.cell (p := ⟨pb, po + k * 4 + 2, none⟩) l3).trans hS.2.2.1, (hb.cell (p := ⟨pb, po + k * 4 + 3, none⟩) l3).trans hS.2.2.2.1, (hb.cell (p := ⟨g, 2, none⟩) l2).trans hS.2.2.2.2.1, (hb.cell (p := ⟨pb, po + 1, none⟩) l3).trans hS.2.2.2.2.2.1, (hb.cell (p := ⟨pb, po + j * 4, none⟩) l3).trans hS.2.2.2.2.2.2⟩
                        replace hB := hB.trans (hb.mono hB.size)
                        clear hb
                        dsimp only
                        refine hK.out _ _ hS (fun hh => ?_)
                        clear hK K hh
                        try simp only [Act.put, List.setIfInBounds_toArray, List.set_cons_zero, List.set_cons_succ]
                        refine tk 7 opRFrm127 (v := .bool false) (Or.inl ⟨by rfl, fun w hSw => ?_⟩) hS ?_
                        · go_simp; first | done | rfl | (congr 3; exact decide_eq_false (by omega)) | (simp; omega)
                        try simp only [Act.put, List.setIfInBounds_toArray, List.set_cons_zero, List.set_cons_succ]
                        refine ts 8 opRFrm128 hS ?_
                        refine ts 9 opRFrm129 hS ?_
                        refine ts 10 opRFrm1210 hS ?_
                        refine ts 11 opRFrm1211 hS ?_
                        refine ts 12 opRFrm1212 hS ?_
                        refine ts 13 opRFrm1213 hS ?_
                        refine ts 14 opRFrm1214 hS ?_
                        refine ts 15 opRFrm1215 hS ?_
                        refine ts 16 opRFrm1216 hS ?_
                        refine ts 17 opRFrm1217 hS ?_
                        refine ts 18 opRFrm1218 hS ?_
                        refine ts 19 opRFrm1219 hS ?_
                        refine ts 20 opRFrm1220 hS ?_
                        refine ts 21 opRFrm1221 hS ?_
                        refine tk 22 opRFrm1222 (v := .bool false) (Or.inl ⟨by rfl, fun w hSw => ?_⟩) hS ?_
                        · go_simp; first | done | rfl | (rw [hkz])
                        try simp only [Act.put, List.setIfInBounds_toArray, List.set_cons_zero, List.set_cons_succ]
                        refine ts 23 opRFrm1223 hS ?_
                        refine ts 24 opRFrm1224 hS ?_
                        refine ts 25 opRFrm1225 hS ?_
                        refine tk 26 opRFrm1226 (v := .bool false) (Or.inl ⟨by rfl, fun w hSw => ?_⟩) hS ?_
                        · go_simp; first | done | rfl | (congr 3; exact decide_eq_false (by omega)) | (simp; omega)
                        try simp only [Act.put, List.setIfInBounds_toArray, List.set_cons_zero, List.set_cons_succ]
                        refine ts 27 opRFrm1227 hS ?_
                        refine tn 28 opRFrm1228 hS ?_
                        refine tn 29 opRFrm1229 hS ?_
                        refine tn 30 opRFrm1230 hS ?_
                        refine tn 31 opRFrm1231 hS ?_
                        refine tn 32 opRFrm1232 hS ?_
                        refine tn 33 opRFrm1233 hS ?_
                        refine tn 34 opRFrm1234 hS ?_
                        refine tn 35 opRFrm1235 hS ?_
                        refine tn 36 opRFrm1236 hS ?_
                        refine tn 37 opRFrm1237 hS ?_
                        refine tn 38 opRFrm1238 hS ?_
                        refine tn 39 opRFrm1239 hS ?_
                        refine tn 40 opRFrm1240 hS ?_
                        refine tn 41 opRFrm1241 hS ?_
                        refine ts 42 opRFrm1242 hS ?_
                        refine ts 43 opRFrm1243 hS ?_
                        refine wpAnyH_done (by kernel_rfl) ?_ _
                        go_wp2_with fail
                        go_meet
                        go_light
                        exact ⟨false, rfl, Lib.hid (by rw [HPK.out, hFV, decide_eq_true HKD.out, decide_eq_true HK0.out]; rfl), Lib.hid hB⟩
                      · have hk0I : (0 : Int) < (k : Int) := by omega
                        have hk0N : 0 < k := by omega
                        have HK0 := Lib.hid hk0
                        clear hk0
                        have hjI : (k : Int) - 1 = (j : Int) := by have := HJ.out; omega
                        have hjw : IntKind.i64.wrap ((k : Int) - 1) = (j : Int) := by rw [hjI]; exact IntWalk.i64_in _ (by omega)
                        have hjw2 : IntKind.i64.wrap (j : Int) = (j : Int) := IntWalk.i64_in _ (by omega)
                        by_cases htt : tp < ut
                        · have htI : ¬ ut ≤ tp := by omega
                          refine wp_region_held_drew (S := fun wz => wz.cell? ⟨pb, po + k * 4, none⟩ = some (.int .i64 ut) ∧ wz.cell? ⟨pb, po + k * 4 + 1, none⟩ = some (.int .i64 uk) ∧ wz.cell? ⟨pb, po + k * 4 + 2, none⟩ = some (.int .u64 (ub : Int)) ∧ wz.cell? ⟨pb, po + k * 4 + 3, none⟩ = some (.string ux) ∧ wz.cell? ⟨g, 2, none⟩ = some (.slice (some ⟨pb, po, none⟩) pn pc) ∧ wz.cell? ⟨pb, po + 1, none⟩ = some (.int .i64 kz) ∧ wz.cell? ⟨pb, po + j * 4, none⟩ = some (.int .i64 tp)) (by kernel_rfl) hS (fun hh => ?_)
                          clear hh
                          generalize wr.drew = x0 at *
                          refine ts 0 opRFrm120 hS ?_
                          refine ts 1 opRFrm121 hS ?_
                          refine ts 2 opRFrm122 hS ?_
                          refine ts 3 opRFrm123 hS ?_
                          refine ts 4 opRFrm124 hS ?_
                          refine ts 5 opRFrm125 hS ?_
                          refine wpAnyH_ready (rs := [6]) (by kernel_rfl) (by simp) (AllReadyH.cons (o := opRFrm126) rfl (fun K hK => ?_) AllReadyH.nil)
                          go_simp
                          go_at_call 38
                          refine (hFM x0).mono ?_
                          rintro _ x1 ⟨rfl, hb⟩
                          rw [hFV]
                          replace hS : x1.cell? ⟨pb, po + k * 4, none⟩ = some (.int .i64 ut) ∧ x1.cell? ⟨pb, po + k * 4 + 1, none⟩ = some (.int .i64 uk) ∧ x1.cell? ⟨pb, po + k * 4 + 2, none⟩ = some (.int .u64 (ub : Int)) ∧ x1.cell? ⟨pb, po + k * 4 + 3, none⟩ = some (.string ux) ∧ x1.cell? ⟨g, 2, none⟩ = some (.slice (some ⟨pb, po, none⟩) pn pc) ∧ x1.cell? ⟨pb, po + 1, none⟩ = some (.int .i64 kz) ∧ x1.cell? ⟨pb, po + j * 4, none⟩ = some (.int .i64 tp) := ⟨(hb.cell (p := ⟨pb, po + k * 4, none⟩) l3).trans hS.1, (hb.cell (p := ⟨pb, po + k * 4 + 1, none⟩) l3).trans hS.2.1, (hb.cell (p := ⟨pb, po + k * 4 + 2, none⟩) l3).trans hS.2.2.1, (hb.cell (p := ⟨pb, po + k * 4 + 3, none⟩) l3).trans hS.2.2.2.1, (hb.cell (p := ⟨g, 2, none⟩) l2).trans hS.2.2.2.2.1, (hb.cell (p := ⟨pb, po + 1, none⟩) l3).trans hS.2.2.2.2.2.1, (hb.cell (p := ⟨pb, po + j * 4, none⟩) l3).trans hS.2.2.2.2.2.2⟩
                          replace hB := hB.trans (hb.mono hB.size)
                          clear hb
                          dsimp only
                          refine hK.out _ _ hS (fun hh => ?_)
                          clear hK K hh
                          try simp only [Act.put, List.setIfInBounds_toArray, List.set_cons_zero, List.set_cons_succ]
                          refine tk 7 opRFrm127 (v := .bool false) (Or.inl ⟨by rfl, fun w hSw => ?_⟩) hS ?_
                          · go_simp; first | done | rfl | (congr 3; exact decide_eq_false (by omega)) | (simp; omega)
                          try simp only [Act.put, List.setIfInBounds_toArray, List.set_cons_zero, List.set_cons_succ]
                          refine ts 8 opRFrm128 hS ?_
                          refine ts 9 opRFrm129 hS ?_
                          refine ts 10 opRFrm1210 hS ?_
                          refine ts 11 opRFrm1211 hS ?_
                          refine ts 12 opRFrm1212 hS ?_
                          refine ts 13 opRFrm1213 hS ?_
                          refine ts 14 opRFrm1214 hS ?_
                          refine ts 15 opRFrm1215 hS ?_
                          refine ts 16 opRFrm1216 hS ?_
                          refine ts 17 opRFrm1217 hS ?_
                          refine ts 18 opRFrm1218 hS ?_
                          refine ts 19 opRFrm1219 hS ?_
                          refine ts 20 opRFrm1220 hS ?_
                          refine ts 21 opRFrm1221 hS ?_
                          refine tk 22 opRFrm1222 (v := .bool false) (Or.inl ⟨by rfl, fun w hSw => ?_⟩) hS ?_
                          · go_simp; first | done | rfl | (rw [hkz])
                          try simp only [Act.put, List.setIfInBounds_toArray, List.set_cons_zero, List.set_cons_succ]
                          refine ts 23 opRFrm1223 hS ?_
                          refine ts 24 opRFrm1224 hS ?_
                          refine ts 25 opRFrm1225 hS ?_
                          refine tk 26 opRFrm1226 (v := .bool true) (Or.inl ⟨by rfl, fun w hSw => ?_⟩) hS ?_
                          · go_simp; first | done | rfl | (congr 3; exact decide_eq_true (by omega)) | (simp; omega)
                          try simp only [Act.put, List.setIfInBounds_toArray, List.set_cons_zero, List.set_cons_succ]
                          refine ts 27 opRFrm1227 hS ?_
                          refine ts 28 opRFrm1228 hS ?_
                          refine ts 29 opRFrm1229 hS ?_
                          refine ts 30 opRFrm1230 hS ?_
                          refine ts 31 opRFrm1231 hS ?_
                          refine ts 32 opRFrm1232 hS ?_
                          refine ts 33 opRFrm1233 hS ?_
                          refine ts 34 opRFrm1234 hS ?_
                          refine ts 35 opRFrm1235 hS ?_
                          refine ts 36 opRFrm1236 hS ?_
                          refine ts 37 opRFrm1237 hS ?_
                          refine ts 38 opRFrm1238 hS ?_
                          refine ts 39 opRFrm1239 hS ?_
                          refine ts 40 opRFrm1240 hS ?_
                          refine tk 41 opRFrm1241 (v := .bool false) (Or.inl ⟨by rfl, fun w hSw => ?_⟩) hS ?_
                          · go_simp; first | done | rfl | (congr 3; exact decide_eq_false (by omega)) | (simp; omega)
                          try simp only [Act.put, List.setIfInBounds_toArray, List.set_cons_zero, List.set_cons_succ]
                          refine ts 42 opRFrm1242 hS ?_
                          refine ts 43 opRFrm1243 hS ?_
                          refine wpAnyH_done (by kernel_rfl) ?_ _
                          go_wp2_with fail
                          go_meet
                          go_light
                          exact ⟨false, rfl, Lib.hid (by rw [HPK.out, hFV, decide_eq_true HKD.out, decide_eq_false HK0.out, decide_eq_true htt]; rfl), Lib.hid hB⟩
                        · have htI : ut ≤ tp := by omega
                          refine wp_region_held_drew (S := fun wz => wz.cell? ⟨pb, po + k * 4, none⟩ = some (.int .i64 ut) ∧ wz.cell? ⟨pb, po + k * 4 + 1, none⟩ = some (.int .i64 uk) ∧ wz.cell? ⟨pb, po + k * 4 + 2, none⟩ = some (.int .u64 (ub : Int)) ∧ wz.cell? ⟨pb, po + k * 4 + 3, none⟩ = some (.string ux) ∧ wz.cell? ⟨g, 2, none⟩ = some (.slice (some ⟨pb, po, none⟩) pn pc) ∧ wz.cell? ⟨pb, po + 1, none⟩ = some (.int .i64 kz) ∧ wz.cell? ⟨pb, po + j * 4, none⟩ = some (.int .i64 tp)) (by kernel_rfl) hS (fun hh => ?_)
                          clear hh
                          generalize wr.drew = x0 at *
                          refine ts 0 opRFrm120 hS ?_
                          refine ts 1 opRFrm121 hS ?_
                          refine ts 2 opRFrm122 hS ?_
                          refine ts 3 opRFrm123 hS ?_
                          refine ts 4 opRFrm124 hS ?_
                          refine ts 5 opRFrm125 hS ?_
                          refine wpAnyH_ready (rs := [6]) (by kernel_rfl) (by simp) (AllReadyH.cons (o := opRFrm126) rfl (fun K hK => ?_) AllReadyH.nil)
                          go_simp
                          go_at_call 38
                          refine (hFM x0).mono ?_
                          rintro _ x1 ⟨rfl, hb⟩
                          rw [hFV]
                          replace hS : x1.cell? ⟨pb, po + k * 4, none⟩ = some (.int .i64 ut) ∧ x1.cell? ⟨pb, po + k * 4 + 1, none⟩ = some (.int .i64 uk) ∧ x1.cell? ⟨pb, po + k * 4 + 2, none⟩ = some (.int .u64 (ub : Int)) ∧ x1.cell? ⟨pb, po + k * 4 + 3, none⟩ = some (.string ux) ∧ x1.cell? ⟨g, 2, none⟩ = some (.slice (some ⟨pb, po, none⟩) pn pc) ∧ x1.cell? ⟨pb, po + 1, none⟩ = some (.int .i64 kz) ∧ x1.cell? ⟨pb, po + j * 4, none⟩ = some (.int .i64 tp) := ⟨(hb.cell (p := ⟨pb, po + k * 4, none⟩) l3).trans hS.1, (hb.cell (p := ⟨pb, po + k * 4 + 1, none⟩) l3).trans hS.2.1, (hb.cell (p := ⟨pb, po + k * 4 + 2, none⟩) l3).trans hS.2.2.1, (hb.cell (p := ⟨pb, po + k * 4 + 3, none⟩) l3).trans hS.2.2.2.1, (hb.cell (p := ⟨g, 2, none⟩) l2).trans hS.2.2.2.2.1, (hb.cell (p := ⟨pb, po + 1, none⟩) l3).trans hS.2.2.2.2.2.1, (hb.cell (p := ⟨pb, po + j * 4, none⟩) l3).trans hS.2.2.2.2.2.2⟩
                          replace hB := hB.trans (hb.mono hB.size)
                          clear hb
                          dsimp only
                          refine hK.out _ _ hS (fun hh => ?_)
                          clear hK K hh
                          try simp only [Act.put, List.setIfInBounds_toArray, List.set_cons_zero, List.set_cons_succ]
                          refine tk 7 opRFrm127 (v := .bool false) (Or.inl ⟨by rfl, fun w hSw => ?_⟩) hS ?_
                          · go_simp; first | done | rfl | (congr 3; exact decide_eq_false (by omega)) | (simp; omega)
                          try simp only [Act.put, List.setIfInBounds_toArray, List.set_cons_zero, List.set_cons_succ]
                          refine ts 8 opRFrm128 hS ?_
                          refine ts 9 opRFrm129 hS ?_
                          refine ts 10 opRFrm1210 hS ?_
                          refine ts 11 opRFrm1211 hS ?_
                          refine ts 12 opRFrm1212 hS ?_
                          refine ts 13 opRFrm1213 hS ?_
                          refine ts 14 opRFrm1214 hS ?_
                          refine ts 15 opRFrm1215 hS ?_
                          refine ts 16 opRFrm1216 hS ?_
                          refine ts 17 opRFrm1217 hS ?_
                          refine ts 18 opRFrm1218 hS ?_
                          refine ts 19 opRFrm1219 hS ?_
                          refine ts 20 opRFrm1220 hS ?_
                          refine ts 21 opRFrm1221 hS ?_
                          refine tk 22 opRFrm1222 (v := .bool false) (Or.inl ⟨by rfl, fun w hSw => ?_⟩) hS ?_
                          · go_simp; first | done | rfl | (rw [hkz])
                          try simp only [Act.put, List.setIfInBounds_toArray, List.set_cons_zero, List.set_cons_succ]
                          refine ts 23 opRFrm1223 hS ?_
                          refine ts 24 opRFrm1224 hS ?_
                          refine ts 25 opRFrm1225 hS ?_
                          refine tk 26 opRFrm1226 (v := .bool true) (Or.inl ⟨by rfl, fun w hSw => ?_⟩) hS ?_
                          · go_simp; first | done | rfl | (congr 3; exact decide_eq_true (by omega)) | (simp; omega)
                          try simp only [Act.put, List.setIfInBounds_toArray, List.set_cons_zero, List.set_cons_succ]
                          refine ts 27 opRFrm1227 hS ?_
                          refine ts 28 opRFrm1228 hS ?_
                          refine ts 29 opRFrm1229 hS ?_
                          refine ts 30 opRFrm1230 hS ?_
                          refine ts 31 opRFrm1231 hS ?_
                          refine ts 32 opRFrm1232 hS ?_
                          refine ts 33 opRFrm1233 hS ?_
                          refine ts 34 opRFrm1234 hS ?_
                          refine ts 35 opRFrm1235 hS ?_
                          refine ts 36 opRFrm1236 hS ?_
                          refine ts 37 opRFrm1237 hS ?_
                          refine ts 38 opRFrm1238 hS ?_
                          refine ts 39 opRFrm1239 hS ?_
                          refine ts 40 opRFrm1240 hS ?_
                          refine tk 41 opRFrm1241 (v := .bool true) (Or.inl ⟨by rfl, fun w hSw => ?_⟩) hS ?_
                          · go_simp; first | done | rfl | (congr 3; exact decide_eq_true (by omega)) | (simp; omega)
                          try simp only [Act.put, List.setIfInBounds_toArray, List.set_cons_zero, List.set_cons_succ]
                          refine ts 42 opRFrm1242 hS ?_
                          refine ts 43 opRFrm1243 hS ?_
                          refine wpAnyH_done (by kernel_rfl) ?_ _
                          go_wp2_with fail
                          go_meet
                          go_light
                          exact ⟨true, rfl, Lib.hid (by rw [HPK.out, hFV, decide_eq_true HKD.out, decide_eq_false HK0.out, decide_eq_false (show ¬ tp < ut by omega)]; rfl), Lib.hid hB⟩
                    · have hkz : (uk != kz) = true := by simp [hkd]
                      have HKD := Lib.hid hkd
                      clear hkd
                      refine wp_region_held_drew (S := fun wz => wz.cell? ⟨pb, po + k * 4, none⟩ = some (.int .i64 ut) ∧ wz.cell? ⟨pb, po + k * 4 + 1, none⟩ = some (.int .i64 uk) ∧ wz.cell? ⟨pb, po + k * 4 + 2, none⟩ = some (.int .u64 (ub : Int)) ∧ wz.cell? ⟨pb, po + k * 4 + 3, none⟩ = some (.string ux) ∧ wz.cell? ⟨g, 2, none⟩ = some (.slice (some ⟨pb, po, none⟩) pn pc) ∧ wz.cell? ⟨pb, po + 1, none⟩ = some (.int .i64 kz) ∧ wz.cell? ⟨pb, po + j * 4, none⟩ = some (.int .i64 tp)) (by kernel_rfl) hS (fun hh => ?_)
                      clear hh
                      generalize wr.drew = x0 at *
                      refine ts 0 opRFrm120 hS ?_
                      refine ts 1 opRFrm121 hS ?_
                      refine ts 2 opRFrm122 hS ?_
                      refine ts 3 opRFrm123 hS ?_
                      refine ts 4 opRFrm124 hS ?_
                      refine ts 5 opRFrm125 hS ?_
                      refine wpAnyH_ready (rs := [6]) (by kernel_rfl) (by simp) (AllReadyH.cons (o := opRFrm126) rfl (fun K hK => ?_) AllReadyH.nil)
                      go_simp
                      go_at_call 38
                      refine (hFM x0).mono ?_
                      rintro _ x1 ⟨rfl, hb⟩
                      rw [hFV]
                      replace hS : x1.cell? ⟨pb, po + k * 4, none⟩ = some (.int .i64 ut) ∧ x1.cell? ⟨pb, po + k * 4 + 1, none⟩ = some (.int .i64 uk) ∧ x1.cell? ⟨pb, po + k * 4 + 2, none⟩ = some (.int .u64 (ub : Int)) ∧ x1.cell? ⟨pb, po + k * 4 + 3, none⟩ = some (.string ux) ∧ x1.cell? ⟨g, 2, none⟩ = some (.slice (some ⟨pb, po, none⟩) pn pc) ∧ x1.cell? ⟨pb, po + 1, none⟩ = some (.int .i64 kz) ∧ x1.cell? ⟨pb, po + j * 4, none⟩ = some (.int .i64 tp) := ⟨(hb.cell (p := ⟨pb, po + k * 4, none⟩) l3).trans hS.1, (hb.cell (p := ⟨pb, po + k * 4 + 1, none⟩) l3).trans hS.2.1, (hb.cell (p := ⟨pb, po + k * 4 + 2, none⟩) l3).trans hS.2.2.1, (hb.cell (p := ⟨pb, po + k * 4 + 3, none⟩) l3).trans hS.2.2.2.1, (hb.cell (p := ⟨g, 2, none⟩) l2).trans hS.2.2.2.2.1, (hb.cell (p := ⟨pb, po + 1, none⟩) l3).trans hS.2.2.2.2.2.1, (hb.cell (p := ⟨pb, po + j * 4, none⟩) l3).trans hS.2.2.2.2.2.2⟩
                      replace hB := hB.trans (hb.mono hB.size)
                      clear hb
                      dsimp only
                      refine hK.out _ _ hS (fun hh => ?_)
                      clear hK K hh
                      try simp only [Act.put, List.setIfInBounds_toArray, List.set_cons_zero, List.set_cons_succ]
                      refine tk 7 opRFrm127 (v := .bool false) (Or.inl ⟨by rfl, fun w hSw => ?_⟩) hS ?_
                      · go_simp; first | done | rfl | (congr 3; exact decide_eq_false (by omega)) | (simp; omega)
                      try simp only [Act.put, List.setIfInBounds_toArray, List.set_cons_zero, List.set_cons_succ]
                      refine ts 8 opRFrm128 hS ?_
                      refine ts 9 opRFrm129 hS ?_
                      refine ts 10 opRFrm1210 hS ?_
                      refine ts 11 opRFrm1211 hS ?_
                      refine ts 12 opRFrm1212 hS ?_
                      refine ts 13 opRFrm1213 hS ?_
                      refine ts 14 opRFrm1214 hS ?_
                      refine ts 15 opRFrm1215 hS ?_
                      refine ts 16 opRFrm1216 hS ?_
                      refine ts 17 opRFrm1217 hS ?_
                      refine ts 18 opRFrm1218 hS ?_
                      refine ts 19 opRFrm1219 hS ?_
                      refine ts 20 opRFrm1220 hS ?_
                      refine ts 21 opRFrm1221 hS ?_
                      refine tk 22 opRFrm1222 (v := .bool true) (Or.inl ⟨by rfl, fun w hSw => ?_⟩) hS ?_
                      · go_simp; first | done | rfl | (rw [hkz])
                      try simp only [Act.put, List.setIfInBounds_toArray, List.set_cons_zero, List.set_cons_succ]
                      refine ts 23 opRFrm1223 hS ?_
                      refine ts 24 opRFrm1224 hS ?_
                      refine tn 25 opRFrm1225 hS ?_
                      refine tn 26 opRFrm1226 hS ?_
                      refine tn 27 opRFrm1227 hS ?_
                      refine tn 28 opRFrm1228 hS ?_
                      refine tn 29 opRFrm1229 hS ?_
                      refine tn 30 opRFrm1230 hS ?_
                      refine tn 31 opRFrm1231 hS ?_
                      refine tn 32 opRFrm1232 hS ?_
                      refine tn 33 opRFrm1233 hS ?_
                      refine tn 34 opRFrm1234 hS ?_
                      refine tn 35 opRFrm1235 hS ?_
                      refine tn 36 opRFrm1236 hS ?_
                      refine tn 37 opRFrm1237 hS ?_
                      refine tn 38 opRFrm1238 hS ?_
                      refine tn 39 opRFrm1239 hS ?_
                      refine tn 40 opRFrm1240 hS ?_
                      refine tn 41 opRFrm1241 hS ?_
                      refine tn 42 opRFrm1242 hS ?_
                      refine ts 43 opRFrm1243 hS ?_
                      refine wpAnyH_done (by kernel_rfl) ?_ _
                      go_wp2_with fail
                      go_meet
                      go_light
                      exact ⟨true, rfl, Lib.hid (by rw [HPK.out, hFV, decide_eq_false HKD.out]; rfl), Lib.hid hB⟩
                  · have hFV : formV ⟨uk, ub, ux⟩ = false := by simpa using hFV
                    refine wp_region_held_drew (S := fun wz => wz.cell? ⟨pb, po + k * 4, none⟩ = some (.int .i64 ut) ∧ wz.cell? ⟨pb, po + k * 4 + 1, none⟩ = some (.int .i64 uk) ∧ wz.cell? ⟨pb, po + k * 4 + 2, none⟩ = some (.int .u64 (ub : Int)) ∧ wz.cell? ⟨pb, po + k * 4 + 3, none⟩ = some (.string ux) ∧ wz.cell? ⟨g, 2, none⟩ = some (.slice (some ⟨pb, po, none⟩) pn pc) ∧ wz.cell? ⟨pb, po + 1, none⟩ = some (.int .i64 kz) ∧ wz.cell? ⟨pb, po + j * 4, none⟩ = some (.int .i64 tp)) (by kernel_rfl) hS (fun hh => ?_)
                    clear hh
                    generalize wr.drew = x0 at *
                    refine ts 0 opRFrm120 hS ?_
                    refine ts 1 opRFrm121 hS ?_
                    refine ts 2 opRFrm122 hS ?_
                    refine ts 3 opRFrm123 hS ?_
                    refine ts 4 opRFrm124 hS ?_
                    refine ts 5 opRFrm125 hS ?_
                    refine wpAnyH_ready (rs := [6]) (by kernel_rfl) (by simp) (AllReadyH.cons (o := opRFrm126) rfl (fun K hK => ?_) AllReadyH.nil)
                    go_simp
                    go_at_call 38
                    refine (hFM x0).mono ?_
                    rintro _ x1 ⟨rfl, hb⟩
                    rw [hFV]
                    replace hS : x1.cell? ⟨pb, po + k * 4, none⟩ = some (.int .i64 ut) ∧ x1.cell? ⟨pb, po + k * 4 + 1, none⟩ = some (.int .i64 uk) ∧ x1.cell? ⟨pb, po + k * 4 + 2, none⟩ = some (.int .u64 (ub : Int)) ∧ x1.cell? ⟨pb, po + k * 4 + 3, none⟩ = some (.string ux) ∧ x1.cell? ⟨g, 2, none⟩ = some (.slice (some ⟨pb, po, none⟩) pn pc) ∧ x1.cell? ⟨pb, po + 1, none⟩ = some (.int .i64 kz) ∧ x1.cell? ⟨pb, po + j * 4, none⟩ = some (.int .i64 tp) := ⟨(hb.cell (p := ⟨pb, po + k * 4, none⟩) l3).trans hS.1, (hb.cell (p := ⟨pb, po + k * 4 + 1, none⟩) l3).trans hS.2.1, (hb.cell (p := ⟨pb, po + k * 4 + 2, none⟩) l3).trans hS.2.2.1, (hb.cell (p := ⟨pb, po + k * 4 + 3, none⟩) l3).trans hS.2.2.2.1, (hb.cell (p := ⟨g, 2, none⟩) l2).trans hS.2.2.2.2.1, (hb.cell (p := ⟨pb, po + 1, none⟩) l3).trans hS.2.2.2.2.2.1, (hb.cell (p := ⟨pb, po + j * 4, none⟩) l3).trans hS.2.2.2.2.2.2⟩
                    replace hB := hB.trans (hb.mono hB.size)
                    clear hb
                    dsimp only
                    refine hK.out _ _ hS (fun hh => ?_)
                    clear hK K hh
                    try simp only [Act.put, List.setIfInBounds_toArray, List.set_cons_zero, List.set_cons_succ]
                    refine tk 7 opRFrm127 (v := .bool true) (Or.inl ⟨by rfl, fun w hSw => ?_⟩) hS ?_
                    · go_simp; first | done | rfl | (congr 3; exact decide_eq_true (by omega)) | (simp; omega)
                    try simp only [Act.put, List.setIfInBounds_toArray, List.set_cons_zero, List.set_cons_succ]
                    refine ts 8 opRFrm128 hS ?_
                    refine tn 9 opRFrm129 hS ?_
                    refine tn 10 opRFrm1210 hS ?_
                    refine tn 11 opRFrm1211 hS ?_
                    refine tn 12 opRFrm1212 hS ?_
                    refine tn 13 opRFrm1213 hS ?_
                    refine tn 14 opRFrm1214 hS ?_
                    refine tn 15 opRFrm1215 hS ?_
                    refine tn 16 opRFrm1216 hS ?_
                    refine tn 17 opRFrm1217 hS ?_
                    refine tn 18 opRFrm1218 hS ?_
                    refine tn 19 opRFrm1219 hS ?_
                    refine tn 20 opRFrm1220 hS ?_
                    refine tn 21 opRFrm1221 hS ?_
                    refine tn 22 opRFrm1222 hS ?_
                    refine ts 23 opRFrm1223 hS ?_
                    refine ts 24 opRFrm1224 hS ?_
                    refine tn 25 opRFrm1225 hS ?_
                    refine tn 26 opRFrm1226 hS ?_
                    refine tn 27 opRFrm1227 hS ?_
                    refine tn 28 opRFrm1228 hS ?_
                    refine tn 29 opRFrm1229 hS ?_
                    refine tn 30 opRFrm1230 hS ?_
                    refine tn 31 opRFrm1231 hS ?_
                    refine tn 32 opRFrm1232 hS ?_
                    refine tn 33 opRFrm1233 hS ?_
                    refine tn 34 opRFrm1234 hS ?_
                    refine tn 35 opRFrm1235 hS ?_
                    refine tn 36 opRFrm1236 hS ?_
                    refine tn 37 opRFrm1237 hS ?_
                    refine tn 38 opRFrm1238 hS ?_
                    refine tn 39 opRFrm1239 hS ?_
                    refine tn 40 opRFrm1240 hS ?_
                    refine tn 41 opRFrm1241 hS ?_
                    refine tn 42 opRFrm1242 hS ?_
                    refine ts 43 opRFrm1243 hS ?_
                    refine wpAnyH_done (by kernel_rfl) ?_ _
                    go_wp2_with fail
                    go_meet
                    go_light
                    exact ⟨true, rfl, Lib.hid (by rw [HPK.out, hFV]; rfl), Lib.hid hB⟩
                case rest =>
                obtain ⟨v124, rfl, HV124, HBx⟩ := hcut
                have HBB := Lib.hid (HBc.out.trans (HBx.out.mono HBc.out.size))
                cases v124 with
                | true =>
                  have hno : pkF c.p k = false := by have := HV124.out; revert this; cases pkF c.p k <;> simp
                  have HNO : Hid (frmC (cnS cs) = false) := Lib.hid (frmC_col (k := i) (by rw [cnS_len, ← HN.out]; exact HIN.out) (by unfold colF; rw [← HCI.out, ptF_false (k := k) (by rw [← HPN.out]; exact hkp) hno, Bool.and_false]))
                  clear hno HV124
                  go_wp2_with fail
                  go_ret
                  exact ⟨by rw [HNO.out]; rfl, HBB.out⟩
                | false =>
                  have hyes : pkF c.p k = true := by have := HV124.out; revert this; cases pkF c.p k <;> simp
                  have HPT2 : Hid (ptF c.p (k + 1) = true) := Lib.hid (by rw [ptF_next, HPT.out, hyes]; rfl)
                  clear hyes HV124
                  go_wp2_with fail
                  go_roundg (gk - 1)
                  case measure => go_light; omega
                  case rel =>
                    go_light
                    exact ⟨k + 1, by omega, by go_num, HPT2, HBx⟩
  · have hmI : (1048576 : Int) < (n : Int) := by omega
    have HV : Hid (frmC (cnS cs) = false) := Lib.hid (by
      unfold frmC
      rw [cnS_len, ← HN.out, decide_eq_false hmc, Bool.and_false])
    go_enter Tryd.func18, Tryd.ntmps18
    go_wp2_with fail
    go_ret
    exact ⟨by rw [HV.out]; rfl, Below.refl _ _⟩
end Go.Proofs.YthcgalpabjjkoaaDoor

