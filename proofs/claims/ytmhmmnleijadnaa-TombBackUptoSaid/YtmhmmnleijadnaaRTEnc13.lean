/- gristref13.Encode. (printed by region.py) -/
import Derived.Test.YtmhmmnleijadnaaTombPlain
import Derived.Test.YtmhmmnleijadnaaTheirs13
import Derived.Test.YtmhmmnleijadnaaPieces
import Derived.Deep.RegionHeld3
namespace Go.Proofs.Ytmhmmnleijadnaa
open Go.RowKit Go.ChangeShapes Go.WideShapes Go.ChangeAt
set_option linter.unusedVariables false

set_option maxHeartbeats 4000000 in
set_option maxRecDepth 100000 in
theorem rtencode_any (l : List Tm) (v : Value) (w : World) (hl : (encTs l).length ≤ 100000000) (hr : RdV w 4 v l.length (l.flatMap Tm.cells)) :
    Calls Try.prog 16 #[v] w fun e w' => TeEnd l w e w' := by
  obtain ⟨ao0, cap0, rfl, hnc, hcm⟩ := RdV.shape hr
  unfold maxLen at hcm
  have HR := Lib.hid hr
  have HL := Lib.hid hl
  clear hr hl
  go_enter Try.func16, Try.ntmps16
  go_wp2_with fail
  go_loopg [4, 9] l.length (fun m s4 s9 wr => ∃ (k : Nat) (cs : List UInt8) (ao : Option Addr) (cap : Nat), k + m = l.length ∧ s9 = .int .i64 (k : Int) ∧ s4 = .slice ao cs.length cap ∧ Hid (cs = encTs (l.take k)) ∧ Hid ((l.take k).all fitT = true) ∧ Hid (Own wr w.heap.size (.slice ao cs.length cap) cs) ∧ Hid (Below w.heap.size w wr))
  case atStart => exact ⟨0, [], none, 0, by omega, rfl, rfl, Lib.hid rfl, Lib.hid rfl, Lib.hid (Own.nil _ _), Lib.hid (Below.refl _ _)⟩
  case round =>
    obtain ⟨k, cs, ao, cap, hk, rfl, rfl, HC, HF, HO, HB⟩ := hrel
    by_cases h0 : gk = 0
    · obtain rfl : k = l.length := by omega
      have hf := HF.out
      have hc := HC.out
      rw [List.take_length] at hf hc
      have HE := Lib.hid (encT_some hf)
      have HC2 := Lib.hid hc
      clear hf hc
      go_wp2_with fail
      go_ret2
      exact ⟨HB.out, .inr ⟨cs, ao, cap, by rw [HE.out, HC2.out], by go_light; rfl, HO.out⟩⟩
    · have hkl : k < l.length := by omega
      obtain ⟨b, off, bcap, he, e0, e1, e2, e3⟩ := tomb_at (RdV.below HR.out HB.out) k hkl
      simp only [Value.slice.injEq, true_and] at he
      obtain ⟨rfl, rfl⟩ := he
      have HNX := Lib.hid (encTs_next l k hkl)
      have HLE := Lib.hid (encTs_le l (k + 1))
      have HM := Lib.hid (List.getElem_mem hkl)
      have HFN : Hid ((l.take (k + 1)).all fitT = ((l.take k).all fitT && fitT l[k])) := Lib.hid (by rw [List.take_succ_eq_append_getElem hkl, List.all_append]; simp)
      generalize l[k] = t at *
      obtain ⟨ts, tf, ta, tb⟩ := t
      dsimp only at *
      by_cases h1 : ts.size ≤ 4000
      · have hg1 : ¬ (4000 : Int) < (ts.size : Int) := by omega
        by_cases h2 : tf.size ≤ 4000
        · have hg2 : ¬ (4000 : Int) < (tf.size : Int) := by omega
          have hfl : Hid ([cs, beN 2 ts.size, ts.toList, beN 2 tf.size, tf.toList, be8 (uT ta), be8 (uT tb)].flatten = encTs (l.take (k + 1))) := Lib.hid (by rw [HNX.out, HC.out]; simp [encT1, name2, tail16])
          have HFA : Hid ((l.take (k + 1)).all fitT = true) := Lib.hid (by rw [HFN.out, HF.out]; simp [fitT, h1, h2])
          obtain ⟨C, hC⟩ : ∃ C, C = encTs (l.take (k + 1)) := ⟨_, rfl⟩
          have HCC := Lib.hid hC
          rw [← hC] at hfl HLE
          have hlen : Hid ([cs, beN 2 ts.size, ts.toList, beN 2 tf.size, tf.toList, be8 (uT ta), be8 (uT tb)].flatten.length ≤ 140737488355328) := Lib.hid (by rw [hfl.out]; have := HLE.out; have := HL.out; omega)
          have hTs := fun w => two_any ts.size (by omega) w
          have hTf := fun w => two_any tf.size (by omega) w
          have hEa := fun w => eight_any (uT ta) (uT_lt _) w
          have hEb := fun w => eight_any (uT tb) (uT_lt _) w
          have hua := u64_wrap ta
          have hub := u64_wrap tb
          have hss : ts.size ≤ 140737488355328 := by omega
          have hsf : tf.size ≤ 140737488355328 := by omega
          clear hC
          go_upto_region 8 with fail
          clear e0 e1 e2 e3
          have hS : TS wr.heap.size ts tf ta tb (wr.alloc (.cells #[.string ts, .string tf, .int .i64 ta, .int .i64 tb] 32)).drew := by
            unfold TS
            simp [World.cell?_alloc_new]
          have hlt : wr.heap.size < (wr.alloc (.cells #[.string ts, .string tf, .int .i64 ta, .int .i64 tb] 32)).drew.heap.size := by simp
          have hB := (HB.out.alloc HB.out.size (.cells #[.string ts, .string tf, .int .i64 ta, .int .i64 tb] 32)).drew
          have KC := RdV.drew (RdV.alloc HO.out.rd.v (.cells #[.string ts, .string tf, .int .i64 ta, .int .i64 tb] 32))
          refine wp_region_held_drew (S := fun w' => w'.cell? ⟨wr.heap.size, 0, none⟩ = some (.string ts) ∧ w'.cell? ⟨wr.heap.size, 1, none⟩ = some (.string tf) ∧ w'.cell? ⟨wr.heap.size, 2, none⟩ = some (.int .i64 ta) ∧ w'.cell? ⟨wr.heap.size, 3, none⟩ = some (.int .i64 tb)) (by kernel_rfl) hS (fun hh => ?_)
          clear hh
          generalize (wr.alloc (.cells #[.string ts, .string tf, .int .i64 ta, .int .i64 tb] 32)).drew = x0 at *
          clear HB HO HNX HM HFN HF HC HL HLE
          generalize beN 2 ts.size = T1 at *
          generalize beN 2 tf.size = T2 at *
          generalize uT ta = U at *
          generalize uT tb = V at *
          generalize be8 U = A8 at *
          generalize be8 V = B8 at *
          generalize wr.heap.size = B at *
          refine wpAnyH_take (i := 0) (oi := { dst := some 26, op := Op.move (Operand.tmp 4), type := 47, pos := "ref.go:21", after := #[], guard := none }) (v := ?_) rfl (by kernel_rfl) (by kernel_rfl) (by kernel_rfl) (fun _ _ _ h => h) (Or.inl ⟨by rfl, ?_⟩) hS ?_
          rotate_left
          · intro w hSw; (try dsimp only at hSw); go_simp; try with_reducible rfl
          try simp only [Act.put, List.setIfInBounds_toArray, List.set_cons_zero, List.set_cons_succ]
          refine wpAnyH_take (i := 1) (oi := { dst := some 27, op := Op.fieldAddr 32 (Operand.tmp 6) 0, type := 0, pos := "ref.go:21", after := #[], guard := none }) (v := ?_) rfl (by kernel_rfl) (by kernel_rfl) (by kernel_rfl) (fun _ _ _ h => h) (Or.inl ⟨by rfl, ?_⟩) hS ?_
          rotate_left
          · intro w hSw; (try dsimp only at hSw); go_simp; try with_reducible rfl
          try simp only [Act.put, List.setIfInBounds_toArray, List.set_cons_zero, List.set_cons_succ]
          refine wpAnyH_take (i := 2) (oi := { dst := some 28, op := Op.load 9 (Operand.tmp 27), type := 9, pos := "ref.go:21", after := #[{ on := 1, ground := Ground.data }], guard := none }) (v := ?_) rfl (by kernel_rfl) (by kernel_rfl) (by kernel_rfl) (fun _ _ _ h => h) (Or.inl ⟨by rfl, ?_⟩) hS ?_
          rotate_left
          · intro w hSw; (try dsimp only at hSw); go_simp; try with_reducible rfl
          try simp only [Act.put, List.setIfInBounds_toArray, List.set_cons_zero, List.set_cons_succ]
          refine wpAnyH_take (i := 3) (oi := { dst := some 29, op := Op.call { callee := Callee.builtin Builtin.len, args := #[Operand.tmp 28], argTypes := #[9] }, type := 3, pos := "ref.go:21", after := #[{ on := 2, ground := Ground.data }], guard := none }) (v := ?_) rfl (by kernel_rfl) (by kernel_rfl) (by kernel_rfl) (fun _ _ _ h => h) (Or.inl ⟨by rfl, ?_⟩) hS ?_
          rotate_left
          · intro w hSw; (try dsimp only at hSw); go_simp; try with_reducible rfl
          try simp only [Act.put, List.setIfInBounds_toArray, List.set_cons_zero, List.set_cons_succ]
          refine wpAnyH_take (i := 5) (oi := { dst := some 31, op := Op.fieldAddr 32 (Operand.tmp 6) 0, type := 0, pos := "ref.go:21", after := #[], guard := none }) (v := ?_) rfl (by kernel_rfl) (by kernel_rfl) (by kernel_rfl) (fun _ _ _ h => h) (Or.inl ⟨by rfl, ?_⟩) hS ?_
          rotate_left
          · intro w hSw; (try dsimp only at hSw); go_simp; try with_reducible rfl
          try simp only [Act.put, List.setIfInBounds_toArray, List.set_cons_zero, List.set_cons_succ]
          refine wpAnyH_take (i := 6) (oi := { dst := some 32, op := Op.load 9 (Operand.tmp 31), type := 9, pos := "ref.go:21", after := #[{ on := 5, ground := Ground.data }], guard := none }) (v := ?_) rfl (by kernel_rfl) (by kernel_rfl) (by kernel_rfl) (fun _ _ _ h => h) (Or.inl ⟨by rfl, ?_⟩) hS ?_
          rotate_left
          · intro w hSw; (try dsimp only at hSw); go_simp; try with_reducible rfl
          try simp only [Act.put, List.setIfInBounds_toArray, List.set_cons_zero, List.set_cons_succ]
          refine wpAnyH_take (i := 8) (oi := { dst := some 34, op := Op.fieldAddr 32 (Operand.tmp 6) 1, type := 0, pos := "ref.go:21", after := #[], guard := none }) (v := ?_) rfl (by kernel_rfl) (by kernel_rfl) (by kernel_rfl) (fun _ _ _ h => h) (Or.inl ⟨by rfl, ?_⟩) hS ?_
          rotate_left
          · intro w hSw; (try dsimp only at hSw); go_simp; try with_reducible rfl
          try simp only [Act.put, List.setIfInBounds_toArray, List.set_cons_zero, List.set_cons_succ]
          refine wpAnyH_take (i := 9) (oi := { dst := some 35, op := Op.load 9 (Operand.tmp 34), type := 9, pos := "ref.go:21", after := #[{ on := 8, ground := Ground.data }], guard := none }) (v := ?_) rfl (by kernel_rfl) (by kernel_rfl) (by kernel_rfl) (fun _ _ _ h => h) (Or.inl ⟨by rfl, ?_⟩) hS ?_
          rotate_left
          · intro w hSw; (try dsimp only at hSw); go_simp; try with_reducible rfl
          try simp only [Act.put, List.setIfInBounds_toArray, List.set_cons_zero, List.set_cons_succ]
          refine wpAnyH_take (i := 10) (oi := { dst := some 36, op := Op.call { callee := Callee.builtin Builtin.len, args := #[Operand.tmp 35], argTypes := #[9] }, type := 3, pos := "ref.go:21", after := #[{ on := 9, ground := Ground.data }], guard := none }) (v := ?_) rfl (by kernel_rfl) (by kernel_rfl) (by kernel_rfl) (fun _ _ _ h => h) (Or.inl ⟨by rfl, ?_⟩) hS ?_
          rotate_left
          · intro w hSw; (try dsimp only at hSw); go_simp; try with_reducible rfl
          try simp only [Act.put, List.setIfInBounds_toArray, List.set_cons_zero, List.set_cons_succ]
          refine wpAnyH_take (i := 12) (oi := { dst := some 38, op := Op.fieldAddr 32 (Operand.tmp 6) 1, type := 0, pos := "ref.go:21", after := #[], guard := none }) (v := ?_) rfl (by kernel_rfl) (by kernel_rfl) (by kernel_rfl) (fun _ _ _ h => h) (Or.inl ⟨by rfl, ?_⟩) hS ?_
          rotate_left
          · intro w hSw; (try dsimp only at hSw); go_simp; try with_reducible rfl
          try simp only [Act.put, List.setIfInBounds_toArray, List.set_cons_zero, List.set_cons_succ]
          refine wpAnyH_take (i := 13) (oi := { dst := some 39, op := Op.load 9 (Operand.tmp 38), type := 9, pos := "ref.go:21", after := #[{ on := 12, ground := Ground.data }], guard := none }) (v := ?_) rfl (by kernel_rfl) (by kernel_rfl) (by kernel_rfl) (fun _ _ _ h => h) (Or.inl ⟨by rfl, ?_⟩) hS ?_
          rotate_left
          · intro w hSw; (try dsimp only at hSw); go_simp; try with_reducible rfl
          try simp only [Act.put, List.setIfInBounds_toArray, List.set_cons_zero, List.set_cons_succ]
          refine wpAnyH_take (i := 15) (oi := { dst := some 41, op := Op.fieldAddr 32 (Operand.tmp 6) 2, type := 0, pos := "ref.go:21", after := #[], guard := none }) (v := ?_) rfl (by kernel_rfl) (by kernel_rfl) (by kernel_rfl) (fun _ _ _ h => h) (Or.inl ⟨by rfl, ?_⟩) hS ?_
          rotate_left
          · intro w hSw; (try dsimp only at hSw); go_simp; try with_reducible rfl
          try simp only [Act.put, List.setIfInBounds_toArray, List.set_cons_zero, List.set_cons_succ]
          refine wpAnyH_take (i := 16) (oi := { dst := some 42, op := Op.load 2 (Operand.tmp 41), type := 2, pos := "ref.go:21", after := #[{ on := 15, ground := Ground.data }], guard := none }) (v := ?_) rfl (by kernel_rfl) (by kernel_rfl) (by kernel_rfl) (fun _ _ _ h => h) (Or.inl ⟨by rfl, ?_⟩) hS ?_
          rotate_left
          · intro w hSw; (try dsimp only at hSw); go_simp; try with_reducible rfl
          try simp only [Act.put, List.setIfInBounds_toArray, List.set_cons_zero, List.set_cons_succ]
          refine wpAnyH_take (i := 17) (oi := { dst := some 43, op := Op.convert 2 34 (Operand.tmp 42), type := 34, pos := "ref.go:21", after := #[{ on := 16, ground := Ground.data }], guard := none }) (v := ?_) rfl (by kernel_rfl) (by kernel_rfl) (by kernel_rfl) (fun _ _ _ h => h) (Or.inl ⟨by rfl, ?_⟩) hS ?_
          rotate_left
          · intro w hSw; (try dsimp only at hSw); go_simp; try with_reducible rfl
          try simp only [Act.put, List.setIfInBounds_toArray, List.set_cons_zero, List.set_cons_succ]
          refine wpAnyH_take (i := 19) (oi := { dst := some 45, op := Op.fieldAddr 32 (Operand.tmp 6) 3, type := 0, pos := "ref.go:21", after := #[], guard := none }) (v := ?_) rfl (by kernel_rfl) (by kernel_rfl) (by kernel_rfl) (fun _ _ _ h => h) (Or.inl ⟨by rfl, ?_⟩) hS ?_
          rotate_left
          · intro w hSw; (try dsimp only at hSw); go_simp; try with_reducible rfl
          try simp only [Act.put, List.setIfInBounds_toArray, List.set_cons_zero, List.set_cons_succ]
          refine wpAnyH_take (i := 20) (oi := { dst := some 46, op := Op.load 2 (Operand.tmp 45), type := 2, pos := "ref.go:21", after := #[{ on := 19, ground := Ground.data }], guard := none }) (v := ?_) rfl (by kernel_rfl) (by kernel_rfl) (by kernel_rfl) (fun _ _ _ h => h) (Or.inl ⟨by rfl, ?_⟩) hS ?_
          rotate_left
          · intro w hSw; (try dsimp only at hSw); go_simp; try with_reducible rfl
          try simp only [Act.put, List.setIfInBounds_toArray, List.set_cons_zero, List.set_cons_succ]
          refine wpAnyH_take (i := 21) (oi := { dst := some 47, op := Op.convert 2 34 (Operand.tmp 46), type := 34, pos := "ref.go:21", after := #[{ on := 20, ground := Ground.data }], guard := none }) (v := ?_) rfl (by kernel_rfl) (by kernel_rfl) (by kernel_rfl) (fun _ _ _ h => h) (Or.inl ⟨by rfl, ?_⟩) hS ?_
          rotate_left
          · intro w hSw; (try dsimp only at hSw); go_simp; try with_reducible rfl
          try simp only [Act.put, List.setIfInBounds_toArray, List.set_cons_zero, List.set_cons_succ]
          refine wpAnyH_ready (rs := [4, 7, 14]) (by kernel_rfl) (by simp) (AllReadyH.cons (o := { dst := some 30, op := Op.call { callee := Callee.value (Operand.func 27), args := #[Operand.tmp 29], argTypes := #[3] }, type := 47, pos := "ref.go:21", after := #[{ on := 3, ground := Ground.data }], guard := none }) rfl (fun K hK => ?_) (AllReadyH.cons (o := { dst := some 33, op := Op.convert 9 47 (Operand.tmp 32), type := 47, pos := "ref.go:21", after := #[{ on := 6, ground := Ground.data }], guard := none }) rfl (fun K hK => ?_) (AllReadyH.cons (o := { dst := some 40, op := Op.convert 9 47 (Operand.tmp 39), type := 47, pos := "ref.go:21", after := #[{ on := 13, ground := Ground.data }], guard := none }) rfl (fun K hK => ?_) AllReadyH.nil)))
          · skip
            go_simp
            go_at_call 27
            refine (hTs _).mono ?_
            rintro _ x1 ⟨o4, c4, rfl, hn, hb⟩
            have K4 := hn.rd
            replace hS := TS.below hS hlt hb
            replace KC := RdV.below KC hb
            replace hlt := Nat.lt_of_lt_of_le hlt hb.size
            replace hB := hB.trans (hb.mono hB.size)
            clear hn hb
            dsimp only
            refine hK.out _ _ hS (fun hh => ?_)
            clear hK K hh
            try simp only [Act.put, List.setIfInBounds_toArray, List.set_cons_zero, List.set_cons_succ]
            refine wpAnyH_ready (rs := [7, 11, 14]) (by kernel_rfl) (by simp) (AllReadyH.cons (o := { dst := some 33, op := Op.convert 9 47 (Operand.tmp 32), type := 47, pos := "ref.go:21", after := #[{ on := 6, ground := Ground.data }], guard := none }) rfl (fun K hK => ?_) (AllReadyH.cons (o := { dst := some 37, op := Op.call { callee := Callee.value (Operand.func 27), args := #[Operand.tmp 36], argTypes := #[3] }, type := 47, pos := "ref.go:21", after := #[{ on := 10, ground := Ground.data }, { on := 4, ground := Ground.chain }], guard := none }) rfl (fun K hK => ?_) (AllReadyH.cons (o := { dst := some 40, op := Op.convert 9 47 (Operand.tmp 39), type := 47, pos := "ref.go:21", after := #[{ on := 13, ground := Ground.data }], guard := none }) rfl (fun K hK => ?_) AllReadyH.nil)))
            · skip
              obtain ⟨o7, c7, x2, hr, K7, hb⟩ := strBytes_any ts x1 hss
              go_simp
              clear hr
              replace hS := TS.below hS hlt hb
              replace KC := RdV.below KC hb
              replace K4 := RdV.below K4 hb
              replace hlt := Nat.lt_of_lt_of_le hlt hb.size
              replace hB := hB.trans (hb.mono hB.size)
              clear hb
              refine hK.out _ _ hS (fun hh => ?_)
              clear hK K hh
              try simp only [Act.put, List.setIfInBounds_toArray, List.set_cons_zero, List.set_cons_succ]
              refine wpAnyH_ready (rs := [11, 14]) (by kernel_rfl) (by simp) (AllReadyH.cons (o := { dst := some 37, op := Op.call { callee := Callee.value (Operand.func 27), args := #[Operand.tmp 36], argTypes := #[3] }, type := 47, pos := "ref.go:21", after := #[{ on := 10, ground := Ground.data }, { on := 4, ground := Ground.chain }], guard := none }) rfl (fun K hK => ?_) (AllReadyH.cons (o := { dst := some 40, op := Op.convert 9 47 (Operand.tmp 39), type := 47, pos := "ref.go:21", after := #[{ on := 13, ground := Ground.data }], guard := none }) rfl (fun K hK => ?_) AllReadyH.nil))
              · skip
                go_simp
                go_at_call 27
                refine (hTf _).mono ?_
                rintro _ x3 ⟨o11, c11, rfl, hn, hb⟩
                have K11 := hn.rd
                replace hS := TS.below hS hlt hb
                replace KC := RdV.below KC hb
                replace K4 := RdV.below K4 hb
                replace K7 := RdV.below K7 hb
                replace hlt := Nat.lt_of_lt_of_le hlt hb.size
                replace hB := hB.trans (hb.mono hB.size)
                clear hn hb
                dsimp only
                refine hK.out _ _ hS (fun hh => ?_)
                clear hK K hh
                try simp only [Act.put, List.setIfInBounds_toArray, List.set_cons_zero, List.set_cons_succ]
                refine wpAnyH_ready (rs := [14, 18]) (by kernel_rfl) (by simp) (AllReadyH.cons (o := { dst := some 40, op := Op.convert 9 47 (Operand.tmp 39), type := 47, pos := "ref.go:21", after := #[{ on := 13, ground := Ground.data }], guard := none }) rfl (fun K hK => ?_) (AllReadyH.cons (o := { dst := some 44, op := Op.call { callee := Callee.value (Operand.func 28), args := #[Operand.tmp 43], argTypes := #[34] }, type := 47, pos := "ref.go:21", after := #[{ on := 17, ground := Ground.data }, { on := 11, ground := Ground.chain }], guard := none }) rfl (fun K hK => ?_) AllReadyH.nil))
                · skip
                  obtain ⟨o14, c14, x4, hr, K14, hb⟩ := strBytes_any tf x3 hsf
                  go_simp
                  clear hr
                  replace hS := TS.below hS hlt hb
                  replace KC := RdV.below KC hb
                  replace K4 := RdV.below K4 hb
                  replace K7 := RdV.below K7 hb
                  replace K11 := RdV.below K11 hb
                  replace hlt := Nat.lt_of_lt_of_le hlt hb.size
                  replace hB := hB.trans (hb.mono hB.size)
                  clear hb
                  refine hK.out _ _ hS (fun hh => ?_)
                  clear hK K hh
                  try simp only [Act.put, List.setIfInBounds_toArray, List.set_cons_zero, List.set_cons_succ]
                  refine wpAnyH_ready (rs := [18]) (by kernel_rfl) (by simp) (AllReadyH.cons (o := { dst := some 44, op := Op.call { callee := Callee.value (Operand.func 28), args := #[Operand.tmp 43], argTypes := #[34] }, type := 47, pos := "ref.go:21", after := #[{ on := 17, ground := Ground.data }, { on := 11, ground := Ground.chain }], guard := none }) rfl (fun K hK => ?_) AllReadyH.nil)
                  go_simp
                  go_at_call 28
                  refine (hEa _).mono ?_
                  rintro _ x5 ⟨o18, c18, rfl, hn, hb⟩
                  have K18 := hn.rd
                  replace hS := TS.below hS hlt hb
                  replace KC := RdV.below KC hb
                  replace K4 := RdV.below K4 hb
                  replace K7 := RdV.below K7 hb
                  replace K11 := RdV.below K11 hb
                  replace K14 := RdV.below K14 hb
                  replace hlt := Nat.lt_of_lt_of_le hlt hb.size
                  replace hB := hB.trans (hb.mono hB.size)
                  clear hn hb
                  dsimp only
                  refine hK.out _ _ hS (fun hh => ?_)
                  clear hK K hh
                  try simp only [Act.put, List.setIfInBounds_toArray, List.set_cons_zero, List.set_cons_succ]
                  refine wpAnyH_ready (rs := [22]) (by kernel_rfl) (by simp) (AllReadyH.cons (o := { dst := some 48, op := Op.call { callee := Callee.value (Operand.func 28), args := #[Operand.tmp 47], argTypes := #[34] }, type := 47, pos := "ref.go:21", after := #[{ on := 21, ground := Ground.data }, { on := 18, ground := Ground.chain }], guard := none }) rfl (fun K hK => ?_) AllReadyH.nil)
                  go_simp
                  go_at_call 28
                  refine (hEb _).mono ?_
                  rintro _ x6 ⟨o22, c22, rfl, hn, hb⟩
                  have K22 := hn.rd
                  replace hS := TS.below hS hlt hb
                  replace KC := RdV.below KC hb
                  replace K4 := RdV.below K4 hb
                  replace K7 := RdV.below K7 hb
                  replace K11 := RdV.below K11 hb
                  replace K14 := RdV.below K14 hb
                  replace K18 := RdV.below K18 hb
                  replace hlt := Nat.lt_of_lt_of_le hlt hb.size
                  replace hB := hB.trans (hb.mono hB.size)
                  clear hn hb
                  dsimp only
                  refine hK.out _ _ hS (fun hh => ?_)
                  clear hK K hh
                  try simp only [Act.put, List.setIfInBounds_toArray, List.set_cons_zero, List.set_cons_succ]
                  refine wpAnyH_ready (rs := [23]) (by kernel_rfl) (by simp) (AllReadyH.cons (o := { dst := some 49, op := Op.buildSlice 78 7 #[(0, Operand.tmp 26), (1, Operand.tmp 30), (2, Operand.tmp 33), (3, Operand.tmp 37), (4, Operand.tmp 40), (5, Operand.tmp 44), (6, Operand.tmp 48)], type := 78, pos := "ref.go:21", after := #[{ on := 0, ground := Ground.data }, { on := 4, ground := Ground.data }, { on := 7, ground := Ground.data }, { on := 11, ground := Ground.data }, { on := 14, ground := Ground.data }, { on := 18, ground := Ground.data }, { on := 22, ground := Ground.data }], guard := none }) rfl (fun K hK => ?_) AllReadyH.nil)
                  go_simp
                  refine hK.out _ _ (TS.below hS hlt ((Below.refl _ _).alloc (Nat.le_refl _) _)) (fun hh => ?_)
                  clear hK K hh
                  try simp only [Act.put, List.setIfInBounds_toArray, List.set_cons_zero, List.set_cons_succ]
                  refine wpAnyH_ready (rs := [24]) (by kernel_rfl) (by simp) (AllReadyH.cons (o := { dst := some 50, op := Op.call { callee := Callee.value (Operand.func 26), args := #[Operand.tmp 49], argTypes := #[78] }, type := 47, pos := "ref.go:21", after := #[{ on := 23, ground := Ground.data }, { on := 22, ground := Ground.chain }], guard := none }) rfl (fun K hK => ?_) AllReadyH.nil)
                  go_simp
                  go_at_call 26
                  have hJ := joinN_any [.slice ao cs.length cap, .slice o4 T1.length c4, .slice o7 ts.toList.length c7, .slice o11 T2.length c11, .slice o14 tf.toList.length c14, .slice o18 A8.length c18, .slice o22 B8.length c22] [cs, T1, ts.toList, T2, tf.toList, A8, B8] 7 47 x6 rfl (by decide) (Pcs.cons KC (Pcs.cons K4 (Pcs.cons K7 (Pcs.cons K11 (Pcs.cons K14 (Pcs.cons K18 (Pcs.cons K22 Pcs.nil))))))) hlen.out
                  rw [hfl.out] at hJ
                  refine hJ.mono ?_
                  rintro _ x8 ⟨ao9, ac9, rfl, hn, hb⟩
                  have HO9 := Lib.hid (ownsRow_mono hn hB.size)
                  have HB9 := Lib.hid (hB.trans (hb.mono hB.size))
                  replace hS := TS.below hS hlt hb
                  clear hn hb hJ
                  dsimp only
                  refine hK.out _ _ hS (fun hh => ?_)
                  clear hK K hh
                  try simp only [Act.put, List.setIfInBounds_toArray, List.set_cons_zero, List.set_cons_succ]
                  refine wpAnyH_take (i := 25) (oi := { dst := some 4, op := Op.assign (Operand.tmp 50), type := 47, pos := "ref.go:21", after := #[{ on := 24, ground := Ground.data }, { on := 24, ground := Ground.chain }, { on := 0, ground := Ground.phase }, { on := 1, ground := Ground.phase }, { on := 2, ground := Ground.phase }, { on := 3, ground := Ground.phase }, { on := 4, ground := Ground.phase }, { on := 5, ground := Ground.phase }, { on := 6, ground := Ground.phase }, { on := 7, ground := Ground.phase }, { on := 8, ground := Ground.phase }, { on := 9, ground := Ground.phase }, { on := 10, ground := Ground.phase }, { on := 11, ground := Ground.phase }, { on := 12, ground := Ground.phase }, { on := 13, ground := Ground.phase }, { on := 14, ground := Ground.phase }, { on := 15, ground := Ground.phase }, { on := 16, ground := Ground.phase }, { on := 17, ground := Ground.phase }, { on := 18, ground := Ground.phase }, { on := 19, ground := Ground.phase }, { on := 20, ground := Ground.phase }, { on := 21, ground := Ground.phase }, { on := 22, ground := Ground.phase }, { on := 23, ground := Ground.phase }, { on := 24, ground := Ground.phase }], guard := none }) (v := ?_) rfl (by kernel_rfl) (by kernel_rfl) (by kernel_rfl) (fun _ _ _ h => h) (Or.inl ⟨by rfl, ?_⟩) hS ?_
                  rotate_left
                  · intro w hSw; (try dsimp only at hSw); go_simp; try with_reducible rfl
                  try simp only [Act.put, List.setIfInBounds_toArray, List.set_cons_zero, List.set_cons_succ]
                  refine wpAnyH_done (by kernel_rfl) ?_ _
                  go_wp2_with fail
                  go_roundg (gk - 1)
                  case measure => go_light; omega
                  case rel =>
                    go_light
                    exact ⟨k + 1, C, ao9, ac9, by omega, by go_num, rfl, HCC, HFA, HO9, HB9⟩
                · skip
                  go_simp
                  go_at_call 28
                  refine (hEa _).mono ?_
                  rintro _ x4 ⟨o18, c18, rfl, hn, hb⟩
                  have K18 := hn.rd
                  replace hS := TS.below hS hlt hb
                  replace KC := RdV.below KC hb
                  replace K4 := RdV.below K4 hb
                  replace K7 := RdV.below K7 hb
                  replace K11 := RdV.below K11 hb
                  replace hlt := Nat.lt_of_lt_of_le hlt hb.size
                  replace hB := hB.trans (hb.mono hB.size)
                  clear hn hb
                  dsimp only
                  refine hK.out _ _ hS (fun hh => ?_)
                  clear hK K hh
                  try simp only [Act.put, List.setIfInBounds_toArray, List.set_cons_zero, List.set_cons_succ]
                  refine wpAnyH_ready (rs := [14, 22]) (by kernel_rfl) (by simp) (AllReadyH.cons (o := { dst := some 40, op := Op.convert 9 47 (Operand.tmp 39), type := 47, pos := "ref.go:21", after := #[{ on := 13, ground := Ground.data }], guard := none }) rfl (fun K hK => ?_) (AllReadyH.cons (o := { dst := some 48, op := Op.call { callee := Callee.value (Operand.func 28), args := #[Operand.tmp 47], argTypes := #[34] }, type := 47, pos := "ref.go:21", after := #[{ on := 21, ground := Ground.data }, { on := 18, ground := Ground.chain }], guard := none }) rfl (fun K hK => ?_) AllReadyH.nil))
                  · skip
                    obtain ⟨o14, c14, x5, hr, K14, hb⟩ := strBytes_any tf x4 hsf
                    go_simp
                    clear hr
                    replace hS := TS.below hS hlt hb
                    replace KC := RdV.below KC hb
                    replace K4 := RdV.below K4 hb
                    replace K7 := RdV.below K7 hb
                    replace K11 := RdV.below K11 hb
                    replace K18 := RdV.below K18 hb
                    replace hlt := Nat.lt_of_lt_of_le hlt hb.size
                    replace hB := hB.trans (hb.mono hB.size)
                    clear hb
                    refine hK.out _ _ hS (fun hh => ?_)
                    clear hK K hh
                    try simp only [Act.put, List.setIfInBounds_toArray, List.set_cons_zero, List.set_cons_succ]
                    refine wpAnyH_ready (rs := [22]) (by kernel_rfl) (by simp) (AllReadyH.cons (o := { dst := some 48, op := Op.call { callee := Callee.value (Operand.func 28), args := #[Operand.tmp 47], argTypes := #[34] }, type := 47, pos := "ref.go:21", after := #[{ on := 21, ground := Ground.data }, { on := 18, ground := Ground.chain }], guard := none }) rfl (fun K hK => ?_) AllReadyH.nil)
                    go_simp
                    go_at_call 28
                    refine (hEb _).mono ?_
                    rintro _ x6 ⟨o22, c22, rfl, hn, hb⟩
                    have K22 := hn.rd
                    replace hS := TS.below hS hlt hb
                    replace KC := RdV.below KC hb
                    replace K4 := RdV.below K4 hb
                    replace K7 := RdV.below K7 hb
                    replace K11 := RdV.below K11 hb
                    replace K18 := RdV.below K18 hb
                    replace K14 := RdV.below K14 hb
                    replace hlt := Nat.lt_of_lt_of_le hlt hb.size
                    replace hB := hB.trans (hb.mono hB.size)
                    clear hn hb
                    dsimp only
                    refine hK.out _ _ hS (fun hh => ?_)
                    clear hK K hh
                    try simp only [Act.put, List.setIfInBounds_toArray, List.set_cons_zero, List.set_cons_succ]
                    refine wpAnyH_ready (rs := [23]) (by kernel_rfl) (by simp) (AllReadyH.cons (o := { dst := some 49, op := Op.buildSlice 78 7 #[(0, Operand.tmp 26), (1, Operand.tmp 30), (2, Operand.tmp 33), (3, Operand.tmp 37), (4, Operand.tmp 40), (5, Operand.tmp 44), (6, Operand.tmp 48)], type := 78, pos := "ref.go:21", after := #[{ on := 0, ground := Ground.data }, { on := 4, ground := Ground.data }, { on := 7, ground := Ground.data }, { on := 11, ground := Ground.data }, { on := 14, ground := Ground.data }, { on := 18, ground := Ground.data }, { on := 22, ground := Ground.data }], guard := none }) rfl (fun K hK => ?_) AllReadyH.nil)
                    go_simp
                    refine hK.out _ _ (TS.below hS hlt ((Below.refl _ _).alloc (Nat.le_refl _) _)) (fun hh => ?_)
                    clear hK K hh
                    try simp only [Act.put, List.setIfInBounds_toArray, List.set_cons_zero, List.set_cons_succ]
                    refine wpAnyH_ready (rs := [24]) (by kernel_rfl) (by simp) (AllReadyH.cons (o := { dst := some 50, op := Op.call { callee := Callee.value (Operand.func 26), args := #[Operand.tmp 49], argTypes := #[78] }, type := 47, pos := "ref.go:21", after := #[{ on := 23, ground := Ground.data }, { on := 22, ground := Ground.chain }], guard := none }) rfl (fun K hK => ?_) AllReadyH.nil)
                    go_simp
                    go_at_call 26
                    have hJ := joinN_any [.slice ao cs.length cap, .slice o4 T1.length c4, .slice o7 ts.toList.length c7, .slice o11 T2.length c11, .slice o14 tf.toList.length c14, .slice o18 A8.length c18, .slice o22 B8.length c22] [cs, T1, ts.toList, T2, tf.toList, A8, B8] 7 47 x6 rfl (by decide) (Pcs.cons KC (Pcs.cons K4 (Pcs.cons K7 (Pcs.cons K11 (Pcs.cons K14 (Pcs.cons K18 (Pcs.cons K22 Pcs.nil))))))) hlen.out
                    rw [hfl.out] at hJ
                    refine hJ.mono ?_
                    rintro _ x8 ⟨ao9, ac9, rfl, hn, hb⟩
                    have HO9 := Lib.hid (ownsRow_mono hn hB.size)
                    have HB9 := Lib.hid (hB.trans (hb.mono hB.size))
                    replace hS := TS.below hS hlt hb
                    clear hn hb hJ
                    dsimp only
                    refine hK.out _ _ hS (fun hh => ?_)
                    clear hK K hh
                    try simp only [Act.put, List.setIfInBounds_toArray, List.set_cons_zero, List.set_cons_succ]
                    refine wpAnyH_take (i := 25) (oi := { dst := some 4, op := Op.assign (Operand.tmp 50), type := 47, pos := "ref.go:21", after := #[{ on := 24, ground := Ground.data }, { on := 24, ground := Ground.chain }, { on := 0, ground := Ground.phase }, { on := 1, ground := Ground.phase }, { on := 2, ground := Ground.phase }, { on := 3, ground := Ground.phase }, { on := 4, ground := Ground.phase }, { on := 5, ground := Ground.phase }, { on := 6, ground := Ground.phase }, { on := 7, ground := Ground.phase }, { on := 8, ground := Ground.phase }, { on := 9, ground := Ground.phase }, { on := 10, ground := Ground.phase }, { on := 11, ground := Ground.phase }, { on := 12, ground := Ground.phase }, { on := 13, ground := Ground.phase }, { on := 14, ground := Ground.phase }, { on := 15, ground := Ground.phase }, { on := 16, ground := Ground.phase }, { on := 17, ground := Ground.phase }, { on := 18, ground := Ground.phase }, { on := 19, ground := Ground.phase }, { on := 20, ground := Ground.phase }, { on := 21, ground := Ground.phase }, { on := 22, ground := Ground.phase }, { on := 23, ground := Ground.phase }, { on := 24, ground := Ground.phase }], guard := none }) (v := ?_) rfl (by kernel_rfl) (by kernel_rfl) (by kernel_rfl) (fun _ _ _ h => h) (Or.inl ⟨by rfl, ?_⟩) hS ?_
                    rotate_left
                    · intro w hSw; (try dsimp only at hSw); go_simp; try with_reducible rfl
                    try simp only [Act.put, List.setIfInBounds_toArray, List.set_cons_zero, List.set_cons_succ]
                    refine wpAnyH_done (by kernel_rfl) ?_ _
                    go_wp2_with fail
                    go_roundg (gk - 1)
                    case measure => go_light; omega
                    case rel =>
                      go_light
                      exact ⟨k + 1, C, ao9, ac9, by omega, by go_num, rfl, HCC, HFA, HO9, HB9⟩
                  · skip
                    go_simp
                    go_at_call 28
                    refine (hEb _).mono ?_
                    rintro _ x5 ⟨o22, c22, rfl, hn, hb⟩
                    have K22 := hn.rd
                    replace hS := TS.below hS hlt hb
                    replace KC := RdV.below KC hb
                    replace K4 := RdV.below K4 hb
                    replace K7 := RdV.below K7 hb
                    replace K11 := RdV.below K11 hb
                    replace K18 := RdV.below K18 hb
                    replace hlt := Nat.lt_of_lt_of_le hlt hb.size
                    replace hB := hB.trans (hb.mono hB.size)
                    clear hn hb
                    dsimp only
                    refine hK.out _ _ hS (fun hh => ?_)
                    clear hK K hh
                    try simp only [Act.put, List.setIfInBounds_toArray, List.set_cons_zero, List.set_cons_succ]
                    refine wpAnyH_ready (rs := [14]) (by kernel_rfl) (by simp) (AllReadyH.cons (o := { dst := some 40, op := Op.convert 9 47 (Operand.tmp 39), type := 47, pos := "ref.go:21", after := #[{ on := 13, ground := Ground.data }], guard := none }) rfl (fun K hK => ?_) AllReadyH.nil)
                    obtain ⟨o14, c14, x6, hr, K14, hb⟩ := strBytes_any tf x5 hsf
                    go_simp
                    clear hr
                    replace hS := TS.below hS hlt hb
                    replace KC := RdV.below KC hb
                    replace K4 := RdV.below K4 hb
                    replace K7 := RdV.below K7 hb
                    replace K11 := RdV.below K11 hb
                    replace K18 := RdV.below K18 hb
                    replace K22 := RdV.below K22 hb
                    replace hlt := Nat.lt_of_lt_of_le hlt hb.size
                    replace hB := hB.trans (hb.mono hB.size)
                    clear hb
                    refine hK.out _ _ hS (fun hh => ?_)
                    clear hK K hh
                    try simp only [Act.put, List.setIfInBounds_toArray, List.set_cons_zero, List.set_cons_succ]
                    refine wpAnyH_ready (rs := [23]) (by kernel_rfl) (by simp) (AllReadyH.cons (o := { dst := some 49, op := Op.buildSlice 78 7 #[(0, Operand.tmp 26), (1, Operand.tmp 30), (2, Operand.tmp 33), (3, Operand.tmp 37), (4, Operand.tmp 40), (5, Operand.tmp 44), (6, Operand.tmp 48)], type := 78, pos := "ref.go:21", after := #[{ on := 0, ground := Ground.data }, { on := 4, ground := Ground.data }, { on := 7, ground := Ground.data }, { on := 11, ground := Ground.data }, { on := 14, ground := Ground.data }, { on := 18, ground := Ground.data }, { on := 22, ground := Ground.data }], guard := none }) rfl (fun K hK => ?_) AllReadyH.nil)
                    go_simp
                    refine hK.out _ _ (TS.below hS hlt ((Below.refl _ _).alloc (Nat.le_refl _) _)) (fun hh => ?_)
                    clear hK K hh
                    try simp only [Act.put, List.setIfInBounds_toArray, List.set_cons_zero, List.set_cons_succ]
                    refine wpAnyH_ready (rs := [24]) (by kernel_rfl) (by simp) (AllReadyH.cons (o := { dst := some 50, op := Op.call { callee := Callee.value (Operand.func 26), args := #[Operand.tmp 49], argTypes := #[78] }, type := 47, pos := "ref.go:21", after := #[{ on := 23, ground := Ground.data }, { on := 22, ground := Ground.chain }], guard := none }) rfl (fun K hK => ?_) AllReadyH.nil)
                    go_simp
                    go_at_call 26
                    have hJ := joinN_any [.slice ao cs.length cap, .slice o4 T1.length c4, .slice o7 ts.toList.length c7, .slice o11 T2.length c11, .slice o14 tf.toList.length c14, .slice o18 A8.length c18, .slice o22 B8.length c22] [cs, T1, ts.toList, T2, tf.toList, A8, B8] 7 47 x6 rfl (by decide) (Pcs.cons KC (Pcs.cons K4 (Pcs.cons K7 (Pcs.cons K11 (Pcs.cons K14 (Pcs.cons K18 (Pcs.cons K22 Pcs.nil))))))) hlen.out
                    rw [hfl.out] at hJ
                    refine hJ.mono ?_
                    rintro _ x8 ⟨ao9, ac9, rfl, hn, hb⟩
                    have HO9 := Lib.hid (ownsRow_mono hn hB.size)
                    have HB9 := Lib.hid (hB.trans (hb.mono hB.size))
                    replace hS := TS.below hS hlt hb
                    clear hn hb hJ
                    dsimp only
                    refine hK.out _ _ hS (fun hh => ?_)
                    clear hK K hh
                    try simp only [Act.put, List.setIfInBounds_toArray, List.set_cons_zero, List.set_cons_succ]
                    refine wpAnyH_take (i := 25) (oi := { dst := some 4, op := Op.assign (Operand.tmp 50), type := 47, pos := "ref.go:21", after := #[{ on := 24, ground := Ground.data }, { on := 24, ground := Ground.chain }, { on := 0, ground := Ground.phase }, { on := 1, ground := Ground.phase }, { on := 2, ground := Ground.phase }, { on := 3, ground := Ground.phase }, { on := 4, ground := Ground.phase }, { on := 5, ground := Ground.phase }, { on := 6, ground := Ground.phase }, { on := 7, ground := Ground.phase }, { on := 8, ground := Ground.phase }, { on := 9, ground := Ground.phase }, { on := 10, ground := Ground.phase }, { on := 11, ground := Ground.phase }, { on := 12, ground := Ground.phase }, { on := 13, ground := Ground.phase }, { on := 14, ground := Ground.phase }, { on := 15, ground := Ground.phase }, { on := 16, ground := Ground.phase }, { on := 17, ground := Ground.phase }, { on := 18, ground := Ground.phase }, { on := 19, ground := Ground.phase }, { on := 20, ground := Ground.phase }, { on := 21, ground := Ground.phase }, { on := 22, ground := Ground.phase }, { on := 23, ground := Ground.phase }, { on := 24, ground := Ground.phase }], guard := none }) (v := ?_) rfl (by kernel_rfl) (by kernel_rfl) (by kernel_rfl) (fun _ _ _ h => h) (Or.inl ⟨by rfl, ?_⟩) hS ?_
                    rotate_left
                    · intro w hSw; (try dsimp only at hSw); go_simp; try with_reducible rfl
                    try simp only [Act.put, List.setIfInBounds_toArray, List.set_cons_zero, List.set_cons_succ]
                    refine wpAnyH_done (by kernel_rfl) ?_ _
                    go_wp2_with fail
                    go_roundg (gk - 1)
                    case measure => go_light; omega
                    case rel =>
                      go_light
                      exact ⟨k + 1, C, ao9, ac9, by omega, by go_num, rfl, HCC, HFA, HO9, HB9⟩
              · skip
                obtain ⟨o14, c14, x3, hr, K14, hb⟩ := strBytes_any tf x2 hsf
                go_simp
                clear hr
                replace hS := TS.below hS hlt hb
                replace KC := RdV.below KC hb
                replace K4 := RdV.below K4 hb
                replace K7 := RdV.below K7 hb
                replace hlt := Nat.lt_of_lt_of_le hlt hb.size
                replace hB := hB.trans (hb.mono hB.size)
                clear hb
                refine hK.out _ _ hS (fun hh => ?_)
                clear hK K hh
                try simp only [Act.put, List.setIfInBounds_toArray, List.set_cons_zero, List.set_cons_succ]
                refine wpAnyH_ready (rs := [11]) (by kernel_rfl) (by simp) (AllReadyH.cons (o := { dst := some 37, op := Op.call { callee := Callee.value (Operand.func 27), args := #[Operand.tmp 36], argTypes := #[3] }, type := 47, pos := "ref.go:21", after := #[{ on := 10, ground := Ground.data }, { on := 4, ground := Ground.chain }], guard := none }) rfl (fun K hK => ?_) AllReadyH.nil)
                go_simp
                go_at_call 27
                refine (hTf _).mono ?_
                rintro _ x4 ⟨o11, c11, rfl, hn, hb⟩
                have K11 := hn.rd
                replace hS := TS.below hS hlt hb
                replace KC := RdV.below KC hb
                replace K4 := RdV.below K4 hb
                replace K7 := RdV.below K7 hb
                replace K14 := RdV.below K14 hb
                replace hlt := Nat.lt_of_lt_of_le hlt hb.size
                replace hB := hB.trans (hb.mono hB.size)
                clear hn hb
                dsimp only
                refine hK.out _ _ hS (fun hh => ?_)
                clear hK K hh
                try simp only [Act.put, List.setIfInBounds_toArray, List.set_cons_zero, List.set_cons_succ]
                refine wpAnyH_ready (rs := [18]) (by kernel_rfl) (by simp) (AllReadyH.cons (o := { dst := some 44, op := Op.call { callee := Callee.value (Operand.func 28), args := #[Operand.tmp 43], argTypes := #[34] }, type := 47, pos := "ref.go:21", after := #[{ on := 17, ground := Ground.data }, { on := 11, ground := Ground.chain }], guard := none }) rfl (fun K hK => ?_) AllReadyH.nil)
                go_simp
                go_at_call 28
                refine (hEa _).mono ?_
                rintro _ x5 ⟨o18, c18, rfl, hn, hb⟩
                have K18 := hn.rd
                replace hS := TS.below hS hlt hb
                replace KC := RdV.below KC hb
                replace K4 := RdV.below K4 hb
                replace K7 := RdV.below K7 hb
                replace K14 := RdV.below K14 hb
                replace K11 := RdV.below K11 hb
                replace hlt := Nat.lt_of_lt_of_le hlt hb.size
                replace hB := hB.trans (hb.mono hB.size)
                clear hn hb
                dsimp only
                refine hK.out _ _ hS (fun hh => ?_)
                clear hK K hh
                try simp only [Act.put, List.setIfInBounds_toArray, List.set_cons_zero, List.set_cons_succ]
                refine wpAnyH_ready (rs := [22]) (by kernel_rfl) (by simp) (AllReadyH.cons (o := { dst := some 48, op := Op.call { callee := Callee.value (Operand.func 28), args := #[Operand.tmp 47], argTypes := #[34] }, type := 47, pos := "ref.go:21", after := #[{ on := 21, ground := Ground.data }, { on := 18, ground := Ground.chain }], guard := none }) rfl (fun K hK => ?_) AllReadyH.nil)
                go_simp
                go_at_call 28
                refine (hEb _).mono ?_
                rintro _ x6 ⟨o22, c22, rfl, hn, hb⟩
                have K22 := hn.rd
                replace hS := TS.below hS hlt hb
                replace KC := RdV.below KC hb
                replace K4 := RdV.below K4 hb
                replace K7 := RdV.below K7 hb
                replace K14 := RdV.below K14 hb
                replace K11 := RdV.below K11 hb
                replace K18 := RdV.below K18 hb
                replace hlt := Nat.lt_of_lt_of_le hlt hb.size
                replace hB := hB.trans (hb.mono hB.size)
                clear hn hb
                dsimp only
                refine hK.out _ _ hS (fun hh => ?_)
                clear hK K hh
                try simp only [Act.put, List.setIfInBounds_toArray, List.set_cons_zero, List.set_cons_succ]
                refine wpAnyH_ready (rs := [23]) (by kernel_rfl) (by simp) (AllReadyH.cons (o := { dst := some 49, op := Op.buildSlice 78 7 #[(0, Operand.tmp 26), (1, Operand.tmp 30), (2, Operand.tmp 33), (3, Operand.tmp 37), (4, Operand.tmp 40), (5, Operand.tmp 44), (6, Operand.tmp 48)], type := 78, pos := "ref.go:21", after := #[{ on := 0, ground := Ground.data }, { on := 4, ground := Ground.data }, { on := 7, ground := Ground.data }, { on := 11, ground := Ground.data }, { on := 14, ground := Ground.data }, { on := 18, ground := Ground.data }, { on := 22, ground := Ground.data }], guard := none }) rfl (fun K hK => ?_) AllReadyH.nil)
                go_simp
                refine hK.out _ _ (TS.below hS hlt ((Below.refl _ _).alloc (Nat.le_refl _) _)) (fun hh => ?_)
                clear hK K hh
                try simp only [Act.put, List.setIfInBounds_toArray, List.set_cons_zero, List.set_cons_succ]
                refine wpAnyH_ready (rs := [24]) (by kernel_rfl) (by simp) (AllReadyH.cons (o := { dst := some 50, op := Op.call { callee := Callee.value (Operand.func 26), args := #[Operand.tmp 49], argTypes := #[78] }, type := 47, pos := "ref.go:21", after := #[{ on := 23, ground := Ground.data }, { on := 22, ground := Ground.chain }], guard := none }) rfl (fun K hK => ?_) AllReadyH.nil)
                go_simp
                go_at_call 26
                have hJ := joinN_any [.slice ao cs.length cap, .slice o4 T1.length c4, .slice o7 ts.toList.length c7, .slice o11 T2.length c11, .slice o14 tf.toList.length c14, .slice o18 A8.length c18, .slice o22 B8.length c22] [cs, T1, ts.toList, T2, tf.toList, A8, B8] 7 47 x6 rfl (by decide) (Pcs.cons KC (Pcs.cons K4 (Pcs.cons K7 (Pcs.cons K11 (Pcs.cons K14 (Pcs.cons K18 (Pcs.cons K22 Pcs.nil))))))) hlen.out
                rw [hfl.out] at hJ
                refine hJ.mono ?_
                rintro _ x8 ⟨ao9, ac9, rfl, hn, hb⟩
                have HO9 := Lib.hid (ownsRow_mono hn hB.size)
                have HB9 := Lib.hid (hB.trans (hb.mono hB.size))
                replace hS := TS.below hS hlt hb
                clear hn hb hJ
                dsimp only
                refine hK.out _ _ hS (fun hh => ?_)
                clear hK K hh
                try simp only [Act.put, List.setIfInBounds_toArray, List.set_cons_zero, List.set_cons_succ]
                refine wpAnyH_take (i := 25) (oi := { dst := some 4, op := Op.assign (Operand.tmp 50), type := 47, pos := "ref.go:21", after := #[{ on := 24, ground := Ground.data }, { on := 24, ground := Ground.chain }, { on := 0, ground := Ground.phase }, { on := 1, ground := Ground.phase }, { on := 2, ground := Ground.phase }, { on := 3, ground := Ground.phase }, { on := 4, ground := Ground.phase }, { on := 5, ground := Ground.phase }, { on := 6, ground := Ground.phase }, { on := 7, ground := Ground.phase }, { on := 8, ground := Ground.phase }, { on := 9, ground := Ground.phase }, { on := 10, ground := Ground.phase }, { on := 11, ground := Ground.phase }, { on := 12, ground := Ground.phase }, { on := 13, ground := Ground.phase }, { on := 14, ground := Ground.phase }, { on := 15, ground := Ground.phase }, { on := 16, ground := Ground.phase }, { on := 17, ground := Ground.phase }, { on := 18, ground := Ground.phase }, { on := 19, ground := Ground.phase }, { on := 20, ground := Ground.phase }, { on := 21, ground := Ground.phase }, { on := 22, ground := Ground.phase }, { on := 23, ground := Ground.phase }, { on := 24, ground := Ground.phase }], guard := none }) (v := ?_) rfl (by kernel_rfl) (by kernel_rfl) (by kernel_rfl) (fun _ _ _ h => h) (Or.inl ⟨by rfl, ?_⟩) hS ?_
                rotate_left
                · intro w hSw; (try dsimp only at hSw); go_simp; try with_reducible rfl
                try simp only [Act.put, List.setIfInBounds_toArray, List.set_cons_zero, List.set_cons_succ]
                refine wpAnyH_done (by kernel_rfl) ?_ _
                go_wp2_with fail
                go_roundg (gk - 1)
                case measure => go_light; omega
                case rel =>
                  go_light
                  exact ⟨k + 1, C, ao9, ac9, by omega, by go_num, rfl, HCC, HFA, HO9, HB9⟩
            · skip
              go_simp
              go_at_call 27
              refine (hTf _).mono ?_
              rintro _ x2 ⟨o11, c11, rfl, hn, hb⟩
              have K11 := hn.rd
              replace hS := TS.below hS hlt hb
              replace KC := RdV.below KC hb
              replace K4 := RdV.below K4 hb
              replace hlt := Nat.lt_of_lt_of_le hlt hb.size
              replace hB := hB.trans (hb.mono hB.size)
              clear hn hb
              dsimp only
              refine hK.out _ _ hS (fun hh => ?_)
              clear hK K hh
              try simp only [Act.put, List.setIfInBounds_toArray, List.set_cons_zero, List.set_cons_succ]
              refine wpAnyH_ready (rs := [7, 14, 18]) (by kernel_rfl) (by simp) (AllReadyH.cons (o := { dst := some 33, op := Op.convert 9 47 (Operand.tmp 32), type := 47, pos := "ref.go:21", after := #[{ on := 6, ground := Ground.data }], guard := none }) rfl (fun K hK => ?_) (AllReadyH.cons (o := { dst := some 40, op := Op.convert 9 47 (Operand.tmp 39), type := 47, pos := "ref.go:21", after := #[{ on := 13, ground := Ground.data }], guard := none }) rfl (fun K hK => ?_) (AllReadyH.cons (o := { dst := some 44, op := Op.call { callee := Callee.value (Operand.func 28), args := #[Operand.tmp 43], argTypes := #[34] }, type := 47, pos := "ref.go:21", after := #[{ on := 17, ground := Ground.data }, { on := 11, ground := Ground.chain }], guard := none }) rfl (fun K hK => ?_) AllReadyH.nil)))
              · skip
                obtain ⟨o7, c7, x3, hr, K7, hb⟩ := strBytes_any ts x2 hss
                go_simp
                clear hr
                replace hS := TS.below hS hlt hb
                replace KC := RdV.below KC hb
                replace K4 := RdV.below K4 hb
                replace K11 := RdV.below K11 hb
                replace hlt := Nat.lt_of_lt_of_le hlt hb.size
                replace hB := hB.trans (hb.mono hB.size)
                clear hb
                refine hK.out _ _ hS (fun hh => ?_)
                clear hK K hh
                try simp only [Act.put, List.setIfInBounds_toArray, List.set_cons_zero, List.set_cons_succ]
                refine wpAnyH_ready (rs := [14, 18]) (by kernel_rfl) (by simp) (AllReadyH.cons (o := { dst := some 40, op := Op.convert 9 47 (Operand.tmp 39), type := 47, pos := "ref.go:21", after := #[{ on := 13, ground := Ground.data }], guard := none }) rfl (fun K hK => ?_) (AllReadyH.cons (o := { dst := some 44, op := Op.call { callee := Callee.value (Operand.func 28), args := #[Operand.tmp 43], argTypes := #[34] }, type := 47, pos := "ref.go:21", after := #[{ on := 17, ground := Ground.data }, { on := 11, ground := Ground.chain }], guard := none }) rfl (fun K hK => ?_) AllReadyH.nil))
                · skip
                  obtain ⟨o14, c14, x4, hr, K14, hb⟩ := strBytes_any tf x3 hsf
                  go_simp
                  clear hr
                  replace hS := TS.below hS hlt hb
                  replace KC := RdV.below KC hb
                  replace K4 := RdV.below K4 hb
                  replace K11 := RdV.below K11 hb
                  replace K7 := RdV.below K7 hb
                  replace hlt := Nat.lt_of_lt_of_le hlt hb.size
                  replace hB := hB.trans (hb.mono hB.size)
                  clear hb
                  refine hK.out _ _ hS (fun hh => ?_)
                  clear hK K hh
                  try simp only [Act.put, List.setIfInBounds_toArray, List.set_cons_zero, List.set_cons_succ]
                  refine wpAnyH_ready (rs := [18]) (by kernel_rfl) (by simp) (AllReadyH.cons (o := { dst := some 44, op := Op.call { callee := Callee.value (Operand.func 28), args := #[Operand.tmp 43], argTypes := #[34] }, type := 47, pos := "ref.go:21", after := #[{ on := 17, ground := Ground.data }, { on := 11, ground := Ground.chain }], guard := none }) rfl (fun K hK => ?_) AllReadyH.nil)
                  go_simp
                  go_at_call 28
                  refine (hEa _).mono ?_
                  rintro _ x5 ⟨o18, c18, rfl, hn, hb⟩
                  have K18 := hn.rd
                  replace hS := TS.below hS hlt hb
                  replace KC := RdV.below KC hb
                  replace K4 := RdV.below K4 hb
                  replace K11 := RdV.below K11 hb
                  replace K7 := RdV.below K7 hb
                  replace K14 := RdV.below K14 hb
                  replace hlt := Nat.lt_of_lt_of_le hlt hb.size
                  replace hB := hB.trans (hb.mono hB.size)
                  clear hn hb
                  dsimp only
                  refine hK.out _ _ hS (fun hh => ?_)
                  clear hK K hh
                  try simp only [Act.put, List.setIfInBounds_toArray, List.set_cons_zero, List.set_cons_succ]
                  refine wpAnyH_ready (rs := [22]) (by kernel_rfl) (by simp) (AllReadyH.cons (o := { dst := some 48, op := Op.call { callee := Callee.value (Operand.func 28), args := #[Operand.tmp 47], argTypes := #[34] }, type := 47, pos := "ref.go:21", after := #[{ on := 21, ground := Ground.data }, { on := 18, ground := Ground.chain }], guard := none }) rfl (fun K hK => ?_) AllReadyH.nil)
                  go_simp
                  go_at_call 28
                  refine (hEb _).mono ?_
                  rintro _ x6 ⟨o22, c22, rfl, hn, hb⟩
                  have K22 := hn.rd
                  replace hS := TS.below hS hlt hb
                  replace KC := RdV.below KC hb
                  replace K4 := RdV.below K4 hb
                  replace K11 := RdV.below K11 hb
                  replace K7 := RdV.below K7 hb
                  replace K14 := RdV.below K14 hb
                  replace K18 := RdV.below K18 hb
                  replace hlt := Nat.lt_of_lt_of_le hlt hb.size
                  replace hB := hB.trans (hb.mono hB.size)
                  clear hn hb
                  dsimp only
                  refine hK.out _ _ hS (fun hh => ?_)
                  clear hK K hh
                  try simp only [Act.put, List.setIfInBounds_toArray, List.set_cons_zero, List.set_cons_succ]
                  refine wpAnyH_ready (rs := [23]) (by kernel_rfl) (by simp) (AllReadyH.cons (o := { dst := some 49, op := Op.buildSlice 78 7 #[(0, Operand.tmp 26), (1, Operand.tmp 30), (2, Operand.tmp 33), (3, Operand.tmp 37), (4, Operand.tmp 40), (5, Operand.tmp 44), (6, Operand.tmp 48)], type := 78, pos := "ref.go:21", after := #[{ on := 0, ground := Ground.data }, { on := 4, ground := Ground.data }, { on := 7, ground := Ground.data }, { on := 11, ground := Ground.data }, { on := 14, ground := Ground.data }, { on := 18, ground := Ground.data }, { on := 22, ground := Ground.data }], guard := none }) rfl (fun K hK => ?_) AllReadyH.nil)
                  go_simp
                  refine hK.out _ _ (TS.below hS hlt ((Below.refl _ _).alloc (Nat.le_refl _) _)) (fun hh => ?_)
                  clear hK K hh
                  try simp only [Act.put, List.setIfInBounds_toArray, List.set_cons_zero, List.set_cons_succ]
                  refine wpAnyH_ready (rs := [24]) (by kernel_rfl) (by simp) (AllReadyH.cons (o := { dst := some 50, op := Op.call { callee := Callee.value (Operand.func 26), args := #[Operand.tmp 49], argTypes := #[78] }, type := 47, pos := "ref.go:21", after := #[{ on := 23, ground := Ground.data }, { on := 22, ground := Ground.chain }], guard := none }) rfl (fun K hK => ?_) AllReadyH.nil)
                  go_simp
                  go_at_call 26
                  have hJ := joinN_any [.slice ao cs.length cap, .slice o4 T1.length c4, .slice o7 ts.toList.length c7, .slice o11 T2.length c11, .slice o14 tf.toList.length c14, .slice o18 A8.length c18, .slice o22 B8.length c22] [cs, T1, ts.toList, T2, tf.toList, A8, B8] 7 47 x6 rfl (by decide) (Pcs.cons KC (Pcs.cons K4 (Pcs.cons K7 (Pcs.cons K11 (Pcs.cons K14 (Pcs.cons K18 (Pcs.cons K22 Pcs.nil))))))) hlen.out
                  rw [hfl.out] at hJ
                  refine hJ.mono ?_
                  rintro _ x8 ⟨ao9, ac9, rfl, hn, hb⟩
                  have HO9 := Lib.hid (ownsRow_mono hn hB.size)
                  have HB9 := Lib.hid (hB.trans (hb.mono hB.size))
                  replace hS := TS.below hS hlt hb
                  clear hn hb hJ
                  dsimp only
                  refine hK.out _ _ hS (fun hh => ?_)
                  clear hK K hh
                  try simp only [Act.put, List.setIfInBounds_toArray, List.set_cons_zero, List.set_cons_succ]
                  refine wpAnyH_take (i := 25) (oi := { dst := some 4, op := Op.assign (Operand.tmp 50), type := 47, pos := "ref.go:21", after := #[{ on := 24, ground := Ground.data }, { on := 24, ground := Ground.chain }, { on := 0, ground := Ground.phase }, { on := 1, ground := Ground.phase }, { on := 2, ground := Ground.phase }, { on := 3, ground := Ground.phase }, { on := 4, ground := Ground.phase }, { on := 5, ground := Ground.phase }, { on := 6, ground := Ground.phase }, { on := 7, ground := Ground.phase }, { on := 8, ground := Ground.phase }, { on := 9, ground := Ground.phase }, { on := 10, ground := Ground.phase }, { on := 11, ground := Ground.phase }, { on := 12, ground := Ground.phase }, { on := 13, ground := Ground.phase }, { on := 14, ground := Ground.phase }, { on := 15, ground := Ground.phase }, { on := 16, ground := Ground.phase }, { on := 17, ground := Ground.phase }, { on := 18, ground := Ground.phase }, { on := 19, ground := Ground.phase }, { on := 20, ground := Ground.phase }, { on := 21, ground := Ground.phase }, { on := 22, ground := Ground.phase }, { on := 23, ground := Ground.phase }, { on := 24, ground := Ground.phase }], guard := none }) (v := ?_) rfl (by kernel_rfl) (by kernel_rfl) (by kernel_rfl) (fun _ _ _ h => h) (Or.inl ⟨by rfl, ?_⟩) hS ?_
                  rotate_left
                  · intro w hSw; (try dsimp only at hSw); go_simp; try with_reducible rfl
                  try simp only [Act.put, List.setIfInBounds_toArray, List.set_cons_zero, List.set_cons_succ]
                  refine wpAnyH_done (by kernel_rfl) ?_ _
                  go_wp2_with fail
                  go_roundg (gk - 1)
                  case measure => go_light; omega
                  case rel =>
                    go_light
                    exact ⟨k + 1, C, ao9, ac9, by omega, by go_num, rfl, HCC, HFA, HO9, HB9⟩
                · skip
                  go_simp
                  go_at_call 28
                  refine (hEa _).mono ?_
                  rintro _ x4 ⟨o18, c18, rfl, hn, hb⟩
                  have K18 := hn.rd
                  replace hS := TS.below hS hlt hb
                  replace KC := RdV.below KC hb
                  replace K4 := RdV.below K4 hb
                  replace K11 := RdV.below K11 hb
                  replace K7 := RdV.below K7 hb
                  replace hlt := Nat.lt_of_lt_of_le hlt hb.size
                  replace hB := hB.trans (hb.mono hB.size)
                  clear hn hb
                  dsimp only
                  refine hK.out _ _ hS (fun hh => ?_)
                  clear hK K hh
                  try simp only [Act.put, List.setIfInBounds_toArray, List.set_cons_zero, List.set_cons_succ]
                  refine wpAnyH_ready (rs := [14, 22]) (by kernel_rfl) (by simp) (AllReadyH.cons (o := { dst := some 40, op := Op.convert 9 47 (Operand.tmp 39), type := 47, pos := "ref.go:21", after := #[{ on := 13, ground := Ground.data }], guard := none }) rfl (fun K hK => ?_) (AllReadyH.cons (o := { dst := some 48, op := Op.call { callee := Callee.value (Operand.func 28), args := #[Operand.tmp 47], argTypes := #[34] }, type := 47, pos := "ref.go:21", after := #[{ on := 21, ground := Ground.data }, { on := 18, ground := Ground.chain }], guard := none }) rfl (fun K hK => ?_) AllReadyH.nil))
                  · skip
                    obtain ⟨o14, c14, x5, hr, K14, hb⟩ := strBytes_any tf x4 hsf
                    go_simp
                    clear hr
                    replace hS := TS.below hS hlt hb
                    replace KC := RdV.below KC hb
                    replace K4 := RdV.below K4 hb
                    replace K11 := RdV.below K11 hb
                    replace K7 := RdV.below K7 hb
                    replace K18 := RdV.below K18 hb
                    replace hlt := Nat.lt_of_lt_of_le hlt hb.size
                    replace hB := hB.trans (hb.mono hB.size)
                    clear hb
                    refine hK.out _ _ hS (fun hh => ?_)
                    clear hK K hh
                    try simp only [Act.put, List.setIfInBounds_toArray, List.set_cons_zero, List.set_cons_succ]
                    refine wpAnyH_ready (rs := [22]) (by kernel_rfl) (by simp) (AllReadyH.cons (o := { dst := some 48, op := Op.call { callee := Callee.value (Operand.func 28), args := #[Operand.tmp 47], argTypes := #[34] }, type := 47, pos := "ref.go:21", after := #[{ on := 21, ground := Ground.data }, { on := 18, ground := Ground.chain }], guard := none }) rfl (fun K hK => ?_) AllReadyH.nil)
                    go_simp
                    go_at_call 28
                    refine (hEb _).mono ?_
                    rintro _ x6 ⟨o22, c22, rfl, hn, hb⟩
                    have K22 := hn.rd
                    replace hS := TS.below hS hlt hb
                    replace KC := RdV.below KC hb
                    replace K4 := RdV.below K4 hb
                    replace K11 := RdV.below K11 hb
                    replace K7 := RdV.below K7 hb
                    replace K18 := RdV.below K18 hb
                    replace K14 := RdV.below K14 hb
                    replace hlt := Nat.lt_of_lt_of_le hlt hb.size
                    replace hB := hB.trans (hb.mono hB.size)
                    clear hn hb
                    dsimp only
                    refine hK.out _ _ hS (fun hh => ?_)
                    clear hK K hh
                    try simp only [Act.put, List.setIfInBounds_toArray, List.set_cons_zero, List.set_cons_succ]
                    refine wpAnyH_ready (rs := [23]) (by kernel_rfl) (by simp) (AllReadyH.cons (o := { dst := some 49, op := Op.buildSlice 78 7 #[(0, Operand.tmp 26), (1, Operand.tmp 30), (2, Operand.tmp 33), (3, Operand.tmp 37), (4, Operand.tmp 40), (5, Operand.tmp 44), (6, Operand.tmp 48)], type := 78, pos := "ref.go:21", after := #[{ on := 0, ground := Ground.data }, { on := 4, ground := Ground.data }, { on := 7, ground := Ground.data }, { on := 11, ground := Ground.data }, { on := 14, ground := Ground.data }, { on := 18, ground := Ground.data }, { on := 22, ground := Ground.data }], guard := none }) rfl (fun K hK => ?_) AllReadyH.nil)
                    go_simp
                    refine hK.out _ _ (TS.below hS hlt ((Below.refl _ _).alloc (Nat.le_refl _) _)) (fun hh => ?_)
                    clear hK K hh
                    try simp only [Act.put, List.setIfInBounds_toArray, List.set_cons_zero, List.set_cons_succ]
                    refine wpAnyH_ready (rs := [24]) (by kernel_rfl) (by simp) (AllReadyH.cons (o := { dst := some 50, op := Op.call { callee := Callee.value (Operand.func 26), args := #[Operand.tmp 49], argTypes := #[78] }, type := 47, pos := "ref.go:21", after := #[{ on := 23, ground := Ground.data }, { on := 22, ground := Ground.chain }], guard := none }) rfl (fun K hK => ?_) AllReadyH.nil)
                    go_simp
                    go_at_call 26
                    have hJ := joinN_any [.slice ao cs.length cap, .slice o4 T1.length c4, .slice o7 ts.toList.length c7, .slice o11 T2.length c11, .slice o14 tf.toList.length c14, .slice o18 A8.length c18, .slice o22 B8.length c22] [cs, T1, ts.toList, T2, tf.toList, A8, B8] 7 47 x6 rfl (by decide) (Pcs.cons KC (Pcs.cons K4 (Pcs.cons K7 (Pcs.cons K11 (Pcs.cons K14 (Pcs.cons K18 (Pcs.cons K22 Pcs.nil))))))) hlen.out
                    rw [hfl.out] at hJ
                    refine hJ.mono ?_
                    rintro _ x8 ⟨ao9, ac9, rfl, hn, hb⟩
                    have HO9 := Lib.hid (ownsRow_mono hn hB.size)
                    have HB9 := Lib.hid (hB.trans (hb.mono hB.size))
                    replace hS := TS.below hS hlt hb
                    clear hn hb hJ
                    dsimp only
                    refine hK.out _ _ hS (fun hh => ?_)
                    clear hK K hh
                    try simp only [Act.put, List.setIfInBounds_toArray, List.set_cons_zero, List.set_cons_succ]
                    refine wpAnyH_take (i := 25) (oi := { dst := some 4, op := Op.assign (Operand.tmp 50), type := 47, pos := "ref.go:21", after := #[{ on := 24, ground := Ground.data }, { on := 24, ground := Ground.chain }, { on := 0, ground := Ground.phase }, { on := 1, ground := Ground.phase }, { on := 2, ground := Ground.phase }, { on := 3, ground := Ground.phase }, { on := 4, ground := Ground.phase }, { on := 5, ground := Ground.phase }, { on := 6, ground := Ground.phase }, { on := 7, ground := Ground.phase }, { on := 8, ground := Ground.phase }, { on := 9, ground := Ground.phase }, { on := 10, ground := Ground.phase }, { on := 11, ground := Ground.phase }, { on := 12, ground := Ground.phase }, { on := 13, ground := Ground.phase }, { on := 14, ground := Ground.phase }, { on := 15, ground := Ground.phase }, { on := 16, ground := Ground.phase }, { on := 17, ground := Ground.phase }, { on := 18, ground := Ground.phase }, { on := 19, ground := Ground.phase }, { on := 20, ground := Ground.phase }, { on := 21, ground := Ground.phase }, { on := 22, ground := Ground.phase }, { on := 23, ground := Ground.phase }, { on := 24, ground := Ground.phase }], guard := none }) (v := ?_) rfl (by kernel_rfl) (by kernel_rfl) (by kernel_rfl) (fun _ _ _ h => h) (Or.inl ⟨by rfl, ?_⟩) hS ?_
                    rotate_left
                    · intro w hSw; (try dsimp only at hSw); go_simp; try with_reducible rfl
                    try simp only [Act.put, List.setIfInBounds_toArray, List.set_cons_zero, List.set_cons_succ]
                    refine wpAnyH_done (by kernel_rfl) ?_ _
                    go_wp2_with fail
                    go_roundg (gk - 1)
                    case measure => go_light; omega
                    case rel =>
                      go_light
                      exact ⟨k + 1, C, ao9, ac9, by omega, by go_num, rfl, HCC, HFA, HO9, HB9⟩
                  · skip
                    go_simp
                    go_at_call 28
                    refine (hEb _).mono ?_
                    rintro _ x5 ⟨o22, c22, rfl, hn, hb⟩
                    have K22 := hn.rd
                    replace hS := TS.below hS hlt hb
                    replace KC := RdV.below KC hb
                    replace K4 := RdV.below K4 hb
                    replace K11 := RdV.below K11 hb
                    replace K7 := RdV.below K7 hb
                    replace K18 := RdV.below K18 hb
                    replace hlt := Nat.lt_of_lt_of_le hlt hb.size
                    replace hB := hB.trans (hb.mono hB.size)
                    clear hn hb
                    dsimp only
                    refine hK.out _ _ hS (fun hh => ?_)
                    clear hK K hh
                    try simp only [Act.put, List.setIfInBounds_toArray, List.set_cons_zero, List.set_cons_succ]
                    refine wpAnyH_ready (rs := [14]) (by kernel_rfl) (by simp) (AllReadyH.cons (o := { dst := some 40, op := Op.convert 9 47 (Operand.tmp 39), type := 47, pos := "ref.go:21", after := #[{ on := 13, ground := Ground.data }], guard := none }) rfl (fun K hK => ?_) AllReadyH.nil)
                    obtain ⟨o14, c14, x6, hr, K14, hb⟩ := strBytes_any tf x5 hsf
                    go_simp
                    clear hr
                    replace hS := TS.below hS hlt hb
                    replace KC := RdV.below KC hb
                    replace K4 := RdV.below K4 hb
                    replace K11 := RdV.below K11 hb
                    replace K7 := RdV.below K7 hb
                    replace K18 := RdV.below K18 hb
                    replace K22 := RdV.below K22 hb
                    replace hlt := Nat.lt_of_lt_of_le hlt hb.size
                    replace hB := hB.trans (hb.mono hB.size)
                    clear hb
                    refine hK.out _ _ hS (fun hh => ?_)
                    clear hK K hh
                    try simp only [Act.put, List.setIfInBounds_toArray, List.set_cons_zero, List.set_cons_succ]
                    refine wpAnyH_ready (rs := [23]) (by kernel_rfl) (by simp) (AllReadyH.cons (o := { dst := some 49, op := Op.buildSlice 78 7 #[(0, Operand.tmp 26), (1, Operand.tmp 30), (2, Operand.tmp 33), (3, Operand.tmp 37), (4, Operand.tmp 40), (5, Operand.tmp 44), (6, Operand.tmp 48)], type := 78, pos := "ref.go:21", after := #[{ on := 0, ground := Ground.data }, { on := 4, ground := Ground.data }, { on := 7, ground := Ground.data }, { on := 11, ground := Ground.data }, { on := 14, ground := Ground.data }, { on := 18, ground := Ground.data }, { on := 22, ground := Ground.data }], guard := none }) rfl (fun K hK => ?_) AllReadyH.nil)
                    go_simp
                    refine hK.out _ _ (TS.below hS hlt ((Below.refl _ _).alloc (Nat.le_refl _) _)) (fun hh => ?_)
                    clear hK K hh
                    try simp only [Act.put, List.setIfInBounds_toArray, List.set_cons_zero, List.set_cons_succ]
                    refine wpAnyH_ready (rs := [24]) (by kernel_rfl) (by simp) (AllReadyH.cons (o := { dst := some 50, op := Op.call { callee := Callee.value (Operand.func 26), args := #[Operand.tmp 49], argTypes := #[78] }, type := 47, pos := "ref.go:21", after := #[{ on := 23, ground := Ground.data }, { on := 22, ground := Ground.chain }], guard := none }) rfl (fun K hK => ?_) AllReadyH.nil)
                    go_simp
                    go_at_call 26
                    have hJ := joinN_any [.slice ao cs.length cap, .slice o4 T1.length c4, .slice o7 ts.toList.length c7, .slice o11 T2.length c11, .slice o14 tf.toList.length c14, .slice o18 A8.length c18, .slice o22 B8.length c22] [cs, T1, ts.toList, T2, tf.toList, A8, B8] 7 47 x6 rfl (by decide) (Pcs.cons KC (Pcs.cons K4 (Pcs.cons K7 (Pcs.cons K11 (Pcs.cons K14 (Pcs.cons K18 (Pcs.cons K22 Pcs.nil))))))) hlen.out
                    rw [hfl.out] at hJ
                    refine hJ.mono ?_
                    rintro _ x8 ⟨ao9, ac9, rfl, hn, hb⟩
                    have HO9 := Lib.hid (ownsRow_mono hn hB.size)
                    have HB9 := Lib.hid (hB.trans (hb.mono hB.size))
                    replace hS := TS.below hS hlt hb
                    clear hn hb hJ
                    dsimp only
                    refine hK.out _ _ hS (fun hh => ?_)
                    clear hK K hh
                    try simp only [Act.put, List.setIfInBounds_toArray, List.set_cons_zero, List.set_cons_succ]
                    refine wpAnyH_take (i := 25) (oi := { dst := some 4, op := Op.assign (Operand.tmp 50), type := 47, pos := "ref.go:21", after := #[{ on := 24, ground := Ground.data }, { on := 24, ground := Ground.chain }, { on := 0, ground := Ground.phase }, { on := 1, ground := Ground.phase }, { on := 2, ground := Ground.phase }, { on := 3, ground := Ground.phase }, { on := 4, ground := Ground.phase }, { on := 5, ground := Ground.phase }, { on := 6, ground := Ground.phase }, { on := 7, ground := Ground.phase }, { on := 8, ground := Ground.phase }, { on := 9, ground := Ground.phase }, { on := 10, ground := Ground.phase }, { on := 11, ground := Ground.phase }, { on := 12, ground := Ground.phase }, { on := 13, ground := Ground.phase }, { on := 14, ground := Ground.phase }, { on := 15, ground := Ground.phase }, { on := 16, ground := Ground.phase }, { on := 17, ground := Ground.phase }, { on := 18, ground := Ground.phase }, { on := 19, ground := Ground.phase }, { on := 20, ground := Ground.phase }, { on := 21, ground := Ground.phase }, { on := 22, ground := Ground.phase }, { on := 23, ground := Ground.phase }, { on := 24, ground := Ground.phase }], guard := none }) (v := ?_) rfl (by kernel_rfl) (by kernel_rfl) (by kernel_rfl) (fun _ _ _ h => h) (Or.inl ⟨by rfl, ?_⟩) hS ?_
                    rotate_left
                    · intro w hSw; (try dsimp only at hSw); go_simp; try with_reducible rfl
                    try simp only [Act.put, List.setIfInBounds_toArray, List.set_cons_zero, List.set_cons_succ]
                    refine wpAnyH_done (by kernel_rfl) ?_ _
                    go_wp2_with fail
                    go_roundg (gk - 1)
                    case measure => go_light; omega
                    case rel =>
                      go_light
                      exact ⟨k + 1, C, ao9, ac9, by omega, by go_num, rfl, HCC, HFA, HO9, HB9⟩
              · skip
                obtain ⟨o14, c14, x3, hr, K14, hb⟩ := strBytes_any tf x2 hsf
                go_simp
                clear hr
                replace hS := TS.below hS hlt hb
                replace KC := RdV.below KC hb
                replace K4 := RdV.below K4 hb
                replace K11 := RdV.below K11 hb
                replace hlt := Nat.lt_of_lt_of_le hlt hb.size
                replace hB := hB.trans (hb.mono hB.size)
                clear hb
                refine hK.out _ _ hS (fun hh => ?_)
                clear hK K hh
                try simp only [Act.put, List.setIfInBounds_toArray, List.set_cons_zero, List.set_cons_succ]
                refine wpAnyH_ready (rs := [7, 18]) (by kernel_rfl) (by simp) (AllReadyH.cons (o := { dst := some 33, op := Op.convert 9 47 (Operand.tmp 32), type := 47, pos := "ref.go:21", after := #[{ on := 6, ground := Ground.data }], guard := none }) rfl (fun K hK => ?_) (AllReadyH.cons (o := { dst := some 44, op := Op.call { callee := Callee.value (Operand.func 28), args := #[Operand.tmp 43], argTypes := #[34] }, type := 47, pos := "ref.go:21", after := #[{ on := 17, ground := Ground.data }, { on := 11, ground := Ground.chain }], guard := none }) rfl (fun K hK => ?_) AllReadyH.nil))
                · skip
                  obtain ⟨o7, c7, x4, hr, K7, hb⟩ := strBytes_any ts x3 hss
                  go_simp
                  clear hr
                  replace hS := TS.below hS hlt hb
                  replace KC := RdV.below KC hb
                  replace K4 := RdV.below K4 hb
                  replace K11 := RdV.below K11 hb
                  replace K14 := RdV.below K14 hb
                  replace hlt := Nat.lt_of_lt_of_le hlt hb.size
                  replace hB := hB.trans (hb.mono hB.size)
                  clear hb
                  refine hK.out _ _ hS (fun hh => ?_)
                  clear hK K hh
                  try simp only [Act.put, List.setIfInBounds_toArray, List.set_cons_zero, List.set_cons_succ]
                  refine wpAnyH_ready (rs := [18]) (by kernel_rfl) (by simp) (AllReadyH.cons (o := { dst := some 44, op := Op.call { callee := Callee.value (Operand.func 28), args := #[Operand.tmp 43], argTypes := #[34] }, type := 47, pos := "ref.go:21", after := #[{ on := 17, ground := Ground.data }, { on := 11, ground := Ground.chain }], guard := none }) rfl (fun K hK => ?_) AllReadyH.nil)
                  go_simp
                  go_at_call 28
                  refine (hEa _).mono ?_
                  rintro _ x5 ⟨o18, c18, rfl, hn, hb⟩
                  have K18 := hn.rd
                  replace hS := TS.below hS hlt hb
                  replace KC := RdV.below KC hb
                  replace K4 := RdV.below K4 hb
                  replace K11 := RdV.below K11 hb
                  replace K14 := RdV.below K14 hb
                  replace K7 := RdV.below K7 hb
                  replace hlt := Nat.lt_of_lt_of_le hlt hb.size
                  replace hB := hB.trans (hb.mono hB.size)
                  clear hn hb
                  dsimp only
                  refine hK.out _ _ hS (fun hh => ?_)
                  clear hK K hh
                  try simp only [Act.put, List.setIfInBounds_toArray, List.set_cons_zero, List.set_cons_succ]
                  refine wpAnyH_ready (rs := [22]) (by kernel_rfl) (by simp) (AllReadyH.cons (o := { dst := some 48, op := Op.call { callee := Callee.value (Operand.func 28), args := #[Operand.tmp 47], argTypes := #[34] }, type := 47, pos := "ref.go:21", after := #[{ on := 21, ground := Ground.data }, { on := 18, ground := Ground.chain }], guard := none }) rfl (fun K hK => ?_) AllReadyH.nil)
                  go_simp
                  go_at_call 28
                  refine (hEb _).mono ?_
                  rintro _ x6 ⟨o22, c22, rfl, hn, hb⟩
                  have K22 := hn.rd
                  replace hS := TS.below hS hlt hb
                  replace KC := RdV.below KC hb
                  replace K4 := RdV.below K4 hb
                  replace K11 := RdV.below K11 hb
                  replace K14 := RdV.below K14 hb
                  replace K7 := RdV.below K7 hb
                  replace K18 := RdV.below K18 hb
                  replace hlt := Nat.lt_of_lt_of_le hlt hb.size
                  replace hB := hB.trans (hb.mono hB.size)
                  clear hn hb
                  dsimp only
                  refine hK.out _ _ hS (fun hh => ?_)
                  clear hK K hh
                  try simp only [Act.put, List.setIfInBounds_toArray, List.set_cons_zero, List.set_cons_succ]
                  refine wpAnyH_ready (rs := [23]) (by kernel_rfl) (by simp) (AllReadyH.cons (o := { dst := some 49, op := Op.buildSlice 78 7 #[(0, Operand.tmp 26), (1, Operand.tmp 30), (2, Operand.tmp 33), (3, Operand.tmp 37), (4, Operand.tmp 40), (5, Operand.tmp 44), (6, Operand.tmp 48)], type := 78, pos := "ref.go:21", after := #[{ on := 0, ground := Ground.data }, { on := 4, ground := Ground.data }, { on := 7, ground := Ground.data }, { on := 11, ground := Ground.data }, { on := 14, ground := Ground.data }, { on := 18, ground := Ground.data }, { on := 22, ground := Ground.data }], guard := none }) rfl (fun K hK => ?_) AllReadyH.nil)
                  go_simp
                  refine hK.out _ _ (TS.below hS hlt ((Below.refl _ _).alloc (Nat.le_refl _) _)) (fun hh => ?_)
                  clear hK K hh
                  try simp only [Act.put, List.setIfInBounds_toArray, List.set_cons_zero, List.set_cons_succ]
                  refine wpAnyH_ready (rs := [24]) (by kernel_rfl) (by simp) (AllReadyH.cons (o := { dst := some 50, op := Op.call { callee := Callee.value (Operand.func 26), args := #[Operand.tmp 49], argTypes := #[78] }, type := 47, pos := "ref.go:21", after := #[{ on := 23, ground := Ground.data }, { on := 22, ground := Ground.chain }], guard := none }) rfl (fun K hK => ?_) AllReadyH.nil)
                  go_simp
                  go_at_call 26
                  have hJ := joinN_any [.slice ao cs.length cap, .slice o4 T1.length c4, .slice o7 ts.toList.length c7, .slice o11 T2.length c11, .slice o14 tf.toList.length c14, .slice o18 A8.length c18, .slice o22 B8.length c22] [cs, T1, ts.toList, T2, tf.toList, A8, B8] 7 47 x6 rfl (by decide) (Pcs.cons KC (Pcs.cons K4 (Pcs.cons K7 (Pcs.cons K11 (Pcs.cons K14 (Pcs.cons K18 (Pcs.cons K22 Pcs.nil))))))) hlen.out
                  rw [hfl.out] at hJ
                  refine hJ.mono ?_
                  rintro _ x8 ⟨ao9, ac9, rfl, hn, hb⟩
                  have HO9 := Lib.hid (ownsRow_mono hn hB.size)
                  have HB9 := Lib.hid (hB.trans (hb.mono hB.size))
                  replace hS := TS.below hS hlt hb
                  clear hn hb hJ
                  dsimp only
                  refine hK.out _ _ hS (fun hh => ?_)
                  clear hK K hh
                  try simp only [Act.put, List.setIfInBounds_toArray, List.set_cons_zero, List.set_cons_succ]
                  refine wpAnyH_take (i := 25) (oi := { dst := some 4, op := Op.assign (Operand.tmp 50), type := 47, pos := "ref.go:21", after := #[{ on := 24, ground := Ground.data }, { on := 24, ground := Ground.chain }, { on := 0, ground := Ground.phase }, { on := 1, ground := Ground.phase }, { on := 2, ground := Ground.phase }, { on := 3, ground := Ground.phase }, { on := 4, ground := Ground.phase }, { on := 5, ground := Ground.phase }, { on := 6, ground := Ground.phase }, { on := 7, ground := Ground.phase }, { on := 8, ground := Ground.phase }, { on := 9, ground := Ground.phase }, { on := 10, ground := Ground.phase }, { on := 11, ground := Ground.phase }, { on := 12, ground := Ground.phase }, { on := 13, ground := Ground.phase }, { on := 14, ground := Ground.phase }, { on := 15, ground := Ground.phase }, { on := 16, ground := Ground.phase }, { on := 17, ground := Ground.phase }, { on := 18, ground := Ground.phase }, { on := 19, ground := Ground.phase }, { on := 20, ground := Ground.phase }, { on := 21, ground := Ground.phase }, { on := 22, ground := Ground.phase }, { on := 23, ground := Ground.phase }, { on := 24, ground := Ground.phase }], guard := none }) (v := ?_) rfl (by kernel_rfl) (by kernel_rfl) (by kernel_rfl) (fun _ _ _ h => h) (Or.inl ⟨by rfl, ?_⟩) hS ?_
                  rotate_left
                  · intro w hSw; (try dsimp only at hSw); go_simp; try with_reducible rfl
                  try simp only [Act.put, List.setIfInBounds_toArray, List.set_cons_zero, List.set_cons_succ]
                  refine wpAnyH_done (by kernel_rfl) ?_ _
                  go_wp2_with fail
                  go_roundg (gk - 1)
                  case measure => go_light; omega
                  case rel =>
                    go_light
                    exact ⟨k + 1, C, ao9, ac9, by omega, by go_num, rfl, HCC, HFA, HO9, HB9⟩
                · skip
                  go_simp
                  go_at_call 28
                  refine (hEa _).mono ?_
                  rintro _ x4 ⟨o18, c18, rfl, hn, hb⟩
                  have K18 := hn.rd
                  replace hS := TS.below hS hlt hb
                  replace KC := RdV.below KC hb
                  replace K4 := RdV.below K4 hb
                  replace K11 := RdV.below K11 hb
                  replace K14 := RdV.below K14 hb
                  replace hlt := Nat.lt_of_lt_of_le hlt hb.size
                  replace hB := hB.trans (hb.mono hB.size)
                  clear hn hb
                  dsimp only
                  refine hK.out _ _ hS (fun hh => ?_)
                  clear hK K hh
                  try simp only [Act.put, List.setIfInBounds_toArray, List.set_cons_zero, List.set_cons_succ]
                  refine wpAnyH_ready (rs := [7, 22]) (by kernel_rfl) (by simp) (AllReadyH.cons (o := { dst := some 33, op := Op.convert 9 47 (Operand.tmp 32), type := 47, pos := "ref.go:21", after := #[{ on := 6, ground := Ground.data }], guard := none }) rfl (fun K hK => ?_) (AllReadyH.cons (o := { dst := some 48, op := Op.call { callee := Callee.value (Operand.func 28), args := #[Operand.tmp 47], argTypes := #[34] }, type := 47, pos := "ref.go:21", after := #[{ on := 21, ground := Ground.data }, { on := 18, ground := Ground.chain }], guard := none }) rfl (fun K hK => ?_) AllReadyH.nil))
                  · skip
                    obtain ⟨o7, c7, x5, hr, K7, hb⟩ := strBytes_any ts x4 hss
                    go_simp
                    clear hr
                    replace hS := TS.below hS hlt hb
                    replace KC := RdV.below KC hb
                    replace K4 := RdV.below K4 hb
                    replace K11 := RdV.below K11 hb
                    replace K14 := RdV.below K14 hb
                    replace K18 := RdV.below K18 hb
                    replace hlt := Nat.lt_of_lt_of_le hlt hb.size
                    replace hB := hB.trans (hb.mono hB.size)
                    clear hb
                    refine hK.out _ _ hS (fun hh => ?_)
                    clear hK K hh
                    try simp only [Act.put, List.setIfInBounds_toArray, List.set_cons_zero, List.set_cons_succ]
                    refine wpAnyH_ready (rs := [22]) (by kernel_rfl) (by simp) (AllReadyH.cons (o := { dst := some 48, op := Op.call { callee := Callee.value (Operand.func 28), args := #[Operand.tmp 47], argTypes := #[34] }, type := 47, pos := "ref.go:21", after := #[{ on := 21, ground := Ground.data }, { on := 18, ground := Ground.chain }], guard := none }) rfl (fun K hK => ?_) AllReadyH.nil)
                    go_simp
                    go_at_call 28
                    refine (hEb _).mono ?_
                    rintro _ x6 ⟨o22, c22, rfl, hn, hb⟩
                    have K22 := hn.rd
                    replace hS := TS.below hS hlt hb
                    replace KC := RdV.below KC hb
                    replace K4 := RdV.below K4 hb
                    replace K11 := RdV.below K11 hb
                    replace K14 := RdV.below K14 hb
                    replace K18 := RdV.below K18 hb
                    replace K7 := RdV.below K7 hb
                    replace hlt := Nat.lt_of_lt_of_le hlt hb.size
                    replace hB := hB.trans (hb.mono hB.size)
                    clear hn hb
                    dsimp only
                    refine hK.out _ _ hS (fun hh => ?_)
                    clear hK K hh
                    try simp only [Act.put, List.setIfInBounds_toArray, List.set_cons_zero, List.set_cons_succ]
                    refine wpAnyH_ready (rs := [23]) (by kernel_rfl) (by simp) (AllReadyH.cons (o := { dst := some 49, op := Op.buildSlice 78 7 #[(0, Operand.tmp 26), (1, Operand.tmp 30), (2, Operand.tmp 33), (3, Operand.tmp 37), (4, Operand.tmp 40), (5, Operand.tmp 44), (6, Operand.tmp 48)], type := 78, pos := "ref.go:21", after := #[{ on := 0, ground := Ground.data }, { on := 4, ground := Ground.data }, { on := 7, ground := Ground.data }, { on := 11, ground := Ground.data }, { on := 14, ground := Ground.data }, { on := 18, ground := Ground.data }, { on := 22, ground := Ground.data }], guard := none }) rfl (fun K hK => ?_) AllReadyH.nil)
                    go_simp
                    refine hK.out _ _ (TS.below hS hlt ((Below.refl _ _).alloc (Nat.le_refl _) _)) (fun hh => ?_)
                    clear hK K hh
                    try simp only [Act.put, List.setIfInBounds_toArray, List.set_cons_zero, List.set_cons_succ]
                    refine wpAnyH_ready (rs := [24]) (by kernel_rfl) (by simp) (AllReadyH.cons (o := { dst := some 50, op := Op.call { callee := Callee.value (Operand.func 26), args := #[Operand.tmp 49], argTypes := #[78] }, type := 47, pos := "ref.go:21", after := #[{ on := 23, ground := Ground.data }, { on := 22, ground := Ground.chain }], guard := none }) rfl (fun K hK => ?_) AllReadyH.nil)
                    go_simp
                    go_at_call 26
                    have hJ := joinN_any [.slice ao cs.length cap, .slice o4 T1.length c4, .slice o7 ts.toList.length c7, .slice o11 T2.length c11, .slice o14 tf.toList.length c14, .slice o18 A8.length c18, .slice o22 B8.length c22] [cs, T1, ts.toList, T2, tf.toList, A8, B8] 7 47 x6 rfl (by decide) (Pcs.cons KC (Pcs.cons K4 (Pcs.cons K7 (Pcs.cons K11 (Pcs.cons K14 (Pcs.cons K18 (Pcs.cons K22 Pcs.nil))))))) hlen.out
                    rw [hfl.out] at hJ
                    refine hJ.mono ?_
                    rintro _ x8 ⟨ao9, ac9, rfl, hn, hb⟩
                    have HO9 := Lib.hid (ownsRow_mono hn hB.size)
                    have HB9 := Lib.hid (hB.trans (hb.mono hB.size))
                    replace hS := TS.below hS hlt hb
                    clear hn hb hJ
                    dsimp only
                    refine hK.out _ _ hS (fun hh => ?_)
                    clear hK K hh
                    try simp only [Act.put, List.setIfInBounds_toArray, List.set_cons_zero, List.set_cons_succ]
                    refine wpAnyH_take (i := 25) (oi := { dst := some 4, op := Op.assign (Operand.tmp 50), type := 47, pos := "ref.go:21", after := #[{ on := 24, ground := Ground.data }, { on := 24, ground := Ground.chain }, { on := 0, ground := Ground.phase }, { on := 1, ground := Ground.phase }, { on := 2, ground := Ground.phase }, { on := 3, ground := Ground.phase }, { on := 4, ground := Ground.phase }, { on := 5, ground := Ground.phase }, { on := 6, ground := Ground.phase }, { on := 7, ground := Ground.phase }, { on := 8, ground := Ground.phase }, { on := 9, ground := Ground.phase }, { on := 10, ground := Ground.phase }, { on := 11, ground := Ground.phase }, { on := 12, ground := Ground.phase }, { on := 13, ground := Ground.phase }, { on := 14, ground := Ground.phase }, { on := 15, ground := Ground.phase }, { on := 16, ground := Ground.phase }, { on := 17, ground := Ground.phase }, { on := 18, ground := Ground.phase }, { on := 19, ground := Ground.phase }, { on := 20, ground := Ground.phase }, { on := 21, ground := Ground.phase }, { on := 22, ground := Ground.phase }, { on := 23, ground := Ground.phase }, { on := 24, ground := Ground.phase }], guard := none }) (v := ?_) rfl (by kernel_rfl) (by kernel_rfl) (by kernel_rfl) (fun _ _ _ h => h) (Or.inl ⟨by rfl, ?_⟩) hS ?_
                    rotate_left
                    · intro w hSw; (try dsimp only at hSw); go_simp; try with_reducible rfl
                    try simp only [Act.put, List.setIfInBounds_toArray, List.set_cons_zero, List.set_cons_succ]
                    refine wpAnyH_done (by kernel_rfl) ?_ _
                    go_wp2_with fail
                    go_roundg (gk - 1)
                    case measure => go_light; omega
                    case rel =>
                      go_light
                      exact ⟨k + 1, C, ao9, ac9, by omega, by go_num, rfl, HCC, HFA, HO9, HB9⟩
                  · skip
                    go_simp
                    go_at_call 28
                    refine (hEb _).mono ?_
                    rintro _ x5 ⟨o22, c22, rfl, hn, hb⟩
                    have K22 := hn.rd
                    replace hS := TS.below hS hlt hb
                    replace KC := RdV.below KC hb
                    replace K4 := RdV.below K4 hb
                    replace K11 := RdV.below K11 hb
                    replace K14 := RdV.below K14 hb
                    replace K18 := RdV.below K18 hb
                    replace hlt := Nat.lt_of_lt_of_le hlt hb.size
                    replace hB := hB.trans (hb.mono hB.size)
                    clear hn hb
                    dsimp only
                    refine hK.out _ _ hS (fun hh => ?_)
                    clear hK K hh
                    try simp only [Act.put, List.setIfInBounds_toArray, List.set_cons_zero, List.set_cons_succ]
                    refine wpAnyH_ready (rs := [7]) (by kernel_rfl) (by simp) (AllReadyH.cons (o := { dst := some 33, op := Op.convert 9 47 (Operand.tmp 32), type := 47, pos := "ref.go:21", after := #[{ on := 6, ground := Ground.data }], guard := none }) rfl (fun K hK => ?_) AllReadyH.nil)
                    obtain ⟨o7, c7, x6, hr, K7, hb⟩ := strBytes_any ts x5 hss
                    go_simp
                    clear hr
                    replace hS := TS.below hS hlt hb
                    replace KC := RdV.below KC hb
                    replace K4 := RdV.below K4 hb
                    replace K11 := RdV.below K11 hb
                    replace K14 := RdV.below K14 hb
                    replace K18 := RdV.below K18 hb
                    replace K22 := RdV.below K22 hb
                    replace hlt := Nat.lt_of_lt_of_le hlt hb.size
                    replace hB := hB.trans (hb.mono hB.size)
                    clear hb
                    refine hK.out _ _ hS (fun hh => ?_)
                    clear hK K hh
                    try simp only [Act.put, List.setIfInBounds_toArray, List.set_cons_zero, List.set_cons_succ]
                    refine wpAnyH_ready (rs := [23]) (by kernel_rfl) (by simp) (AllReadyH.cons (o := { dst := some 49, op := Op.buildSlice 78 7 #[(0, Operand.tmp 26), (1, Operand.tmp 30), (2, Operand.tmp 33), (3, Operand.tmp 37), (4, Operand.tmp 40), (5, Operand.tmp 44), (6, Operand.tmp 48)], type := 78, pos := "ref.go:21", after := #[{ on := 0, ground := Ground.data }, { on := 4, ground := Ground.data }, { on := 7, ground := Ground.data }, { on := 11, ground := Ground.data }, { on := 14, ground := Ground.data }, { on := 18, ground := Ground.data }, { on := 22, ground := Ground.data }], guard := none }) rfl (fun K hK => ?_) AllReadyH.nil)
                    go_simp
                    refine hK.out _ _ (TS.below hS hlt ((Below.refl _ _).alloc (Nat.le_refl _) _)) (fun hh => ?_)
                    clear hK K hh
                    try simp only [Act.put, List.setIfInBounds_toArray, List.set_cons_zero, List.set_cons_succ]
                    refine wpAnyH_ready (rs := [24]) (by kernel_rfl) (by simp) (AllReadyH.cons (o := { dst := some 50, op := Op.call { callee := Callee.value (Operand.func 26), args := #[Operand.tmp 49], argTypes := #[78] }, type := 47, pos := "ref.go:21", after := #[{ on := 23, ground := Ground.data }, { on := 22, ground := Ground.chain }], guard := none }) rfl (fun K hK => ?_) AllReadyH.nil)
                    go_simp
                    go_at_call 26
                    have hJ := joinN_any [.slice ao cs.length cap, .slice o4 T1.length c4, .slice o7 ts.toList.length c7, .slice o11 T2.length c11, .slice o14 tf.toList.length c14, .slice o18 A8.length c18, .slice o22 B8.length c22] [cs, T1, ts.toList, T2, tf.toList, A8, B8] 7 47 x6 rfl (by decide) (Pcs.cons KC (Pcs.cons K4 (Pcs.cons K7 (Pcs.cons K11 (Pcs.cons K14 (Pcs.cons K18 (Pcs.cons K22 Pcs.nil))))))) hlen.out
                    rw [hfl.out] at hJ
                    refine hJ.mono ?_
                    rintro _ x8 ⟨ao9, ac9, rfl, hn, hb⟩
                    have HO9 := Lib.hid (ownsRow_mono hn hB.size)
                    have HB9 := Lib.hid (hB.trans (hb.mono hB.size))
                    replace hS := TS.below hS hlt hb
                    clear hn hb hJ
                    dsimp only
                    refine hK.out _ _ hS (fun hh => ?_)
                    clear hK K hh
                    try simp only [Act.put, List.setIfInBounds_toArray, List.set_cons_zero, List.set_cons_succ]
                    refine wpAnyH_take (i := 25) (oi := { dst := some 4, op := Op.assign (Operand.tmp 50), type := 47, pos := "ref.go:21", after := #[{ on := 24, ground := Ground.data }, { on := 24, ground := Ground.chain }, { on := 0, ground := Ground.phase }, { on := 1, ground := Ground.phase }, { on := 2, ground := Ground.phase }, { on := 3, ground := Ground.phase }, { on := 4, ground := Ground.phase }, { on := 5, ground := Ground.phase }, { on := 6, ground := Ground.phase }, { on := 7, ground := Ground.phase }, { on := 8, ground := Ground.phase }, { on := 9, ground := Ground.phase }, { on := 10, ground := Ground.phase }, { on := 11, ground := Ground.phase }, { on := 12, ground := Ground.phase }, { on := 13, ground := Ground.phase }, { on := 14, ground := Ground.phase }, { on := 15, ground := Ground.phase }, { on := 16, ground := Ground.phase }, { on := 17, ground := Ground.phase }, { on := 18, ground := Ground.phase }, { on := 19, ground := Ground.phase }, { on := 20, ground := Ground.phase }, { on := 21, ground := Ground.phase }, { on := 22, ground := Ground.phase }, { on := 23, ground := Ground.phase }, { on := 24, ground := Ground.phase }], guard := none }) (v := ?_) rfl (by kernel_rfl) (by kernel_rfl) (by kernel_rfl) (fun _ _ _ h => h) (Or.inl ⟨by rfl, ?_⟩) hS ?_
                    rotate_left
                    · intro w hSw; (try dsimp only at hSw); go_simp; try with_reducible rfl
                    try simp only [Act.put, List.setIfInBounds_toArray, List.set_cons_zero, List.set_cons_succ]
                    refine wpAnyH_done (by kernel_rfl) ?_ _
                    go_wp2_with fail
                    go_roundg (gk - 1)
                    case measure => go_light; omega
                    case rel =>
                      go_light
                      exact ⟨k + 1, C, ao9, ac9, by omega, by go_num, rfl, HCC, HFA, HO9, HB9⟩
              · skip
                go_simp
                go_at_call 28
                refine (hEa _).mono ?_
                rintro _ x3 ⟨o18, c18, rfl, hn, hb⟩
                have K18 := hn.rd
                replace hS := TS.below hS hlt hb
                replace KC := RdV.below KC hb
                replace K4 := RdV.below K4 hb
                replace K11 := RdV.below K11 hb
                replace hlt := Nat.lt_of_lt_of_le hlt hb.size
                replace hB := hB.trans (hb.mono hB.size)
                clear hn hb
                dsimp only
                refine hK.out _ _ hS (fun hh => ?_)
                clear hK K hh
                try simp only [Act.put, List.setIfInBounds_toArray, List.set_cons_zero, List.set_cons_succ]
                refine wpAnyH_ready (rs := [7, 14, 22]) (by kernel_rfl) (by simp) (AllReadyH.cons (o := { dst := some 33, op := Op.convert 9 47 (Operand.tmp 32), type := 47, pos := "ref.go:21", after := #[{ on := 6, ground := Ground.data }], guard := none }) rfl (fun K hK => ?_) (AllReadyH.cons (o := { dst := some 40, op := Op.convert 9 47 (Operand.tmp 39), type := 47, pos := "ref.go:21", after := #[{ on := 13, ground := Ground.data }], guard := none }) rfl (fun K hK => ?_) (AllReadyH.cons (o := { dst := some 48, op := Op.call { callee := Callee.value (Operand.func 28), args := #[Operand.tmp 47], argTypes := #[34] }, type := 47, pos := "ref.go:21", after := #[{ on := 21, ground := Ground.data }, { on := 18, ground := Ground.chain }], guard := none }) rfl (fun K hK => ?_) AllReadyH.nil)))
                · skip
                  obtain ⟨o7, c7, x4, hr, K7, hb⟩ := strBytes_any ts x3 hss
                  go_simp
                  clear hr
                  replace hS := TS.below hS hlt hb
                  replace KC := RdV.below KC hb
                  replace K4 := RdV.below K4 hb
                  replace K11 := RdV.below K11 hb
                  replace K18 := RdV.below K18 hb
                  replace hlt := Nat.lt_of_lt_of_le hlt hb.size
                  replace hB := hB.trans (hb.mono hB.size)
                  clear hb
                  refine hK.out _ _ hS (fun hh => ?_)
                  clear hK K hh
                  try simp only [Act.put, List.setIfInBounds_toArray, List.set_cons_zero, List.set_cons_succ]
                  refine wpAnyH_ready (rs := [14, 22]) (by kernel_rfl) (by simp) (AllReadyH.cons (o := { dst := some 40, op := Op.convert 9 47 (Operand.tmp 39), type := 47, pos := "ref.go:21", after := #[{ on := 13, ground := Ground.data }], guard := none }) rfl (fun K hK => ?_) (AllReadyH.cons (o := { dst := some 48, op := Op.call { callee := Callee.value (Operand.func 28), args := #[Operand.tmp 47], argTypes := #[34] }, type := 47, pos := "ref.go:21", after := #[{ on := 21, ground := Ground.data }, { on := 18, ground := Ground.chain }], guard := none }) rfl (fun K hK => ?_) AllReadyH.nil))
                  · skip
                    obtain ⟨o14, c14, x5, hr, K14, hb⟩ := strBytes_any tf x4 hsf
                    go_simp
                    clear hr
                    replace hS := TS.below hS hlt hb
                    replace KC := RdV.below KC hb
                    replace K4 := RdV.below K4 hb
                    replace K11 := RdV.below K11 hb
                    replace K18 := RdV.below K18 hb
                    replace K7 := RdV.below K7 hb
                    replace hlt := Nat.lt_of_lt_of_le hlt hb.size
                    replace hB := hB.trans (hb.mono hB.size)
                    clear hb
                    refine hK.out _ _ hS (fun hh => ?_)
                    clear hK K hh
                    try simp only [Act.put, List.setIfInBounds_toArray, List.set_cons_zero, List.set_cons_succ]
                    refine wpAnyH_ready (rs := [22]) (by kernel_rfl) (by simp) (AllReadyH.cons (o := { dst := some 48, op := Op.call { callee := Callee.value (Operand.func 28), args := #[Operand.tmp 47], argTypes := #[34] }, type := 47, pos := "ref.go:21", after := #[{ on := 21, ground := Ground.data }, { on := 18, ground := Ground.chain }], guard := none }) rfl (fun K hK => ?_) AllReadyH.nil)
                    go_simp
                    go_at_call 28
                    refine (hEb _).mono ?_
                    rintro _ x6 ⟨o22, c22, rfl, hn, hb⟩
                    have K22 := hn.rd
                    replace hS := TS.below hS hlt hb
                    replace KC := RdV.below KC hb
                    replace K4 := RdV.below K4 hb
                    replace K11 := RdV.below K11 hb
                    replace K18 := RdV.below K18 hb
                    replace K7 := RdV.below K7 hb
                    replace K14 := RdV.below K14 hb
                    replace hlt := Nat.lt_of_lt_of_le hlt hb.size
                    replace hB := hB.trans (hb.mono hB.size)
                    clear hn hb
                    dsimp only
                    refine hK.out _ _ hS (fun hh => ?_)
                    clear hK K hh
                    try simp only [Act.put, List.setIfInBounds_toArray, List.set_cons_zero, List.set_cons_succ]
                    refine wpAnyH_ready (rs := [23]) (by kernel_rfl) (by simp) (AllReadyH.cons (o := { dst := some 49, op := Op.buildSlice 78 7 #[(0, Operand.tmp 26), (1, Operand.tmp 30), (2, Operand.tmp 33), (3, Operand.tmp 37), (4, Operand.tmp 40), (5, Operand.tmp 44), (6, Operand.tmp 48)], type := 78, pos := "ref.go:21", after := #[{ on := 0, ground := Ground.data }, { on := 4, ground := Ground.data }, { on := 7, ground := Ground.data }, { on := 11, ground := Ground.data }, { on := 14, ground := Ground.data }, { on := 18, ground := Ground.data }, { on := 22, ground := Ground.data }], guard := none }) rfl (fun K hK => ?_) AllReadyH.nil)
                    go_simp
                    refine hK.out _ _ (TS.below hS hlt ((Below.refl _ _).alloc (Nat.le_refl _) _)) (fun hh => ?_)
                    clear hK K hh
                    try simp only [Act.put, List.setIfInBounds_toArray, List.set_cons_zero, List.set_cons_succ]
                    refine wpAnyH_ready (rs := [24]) (by kernel_rfl) (by simp) (AllReadyH.cons (o := { dst := some 50, op := Op.call { callee := Callee.value (Operand.func 26), args := #[Operand.tmp 49], argTypes := #[78] }, type := 47, pos := "ref.go:21", after := #[{ on := 23, ground := Ground.data }, { on := 22, ground := Ground.chain }], guard := none }) rfl (fun K hK => ?_) AllReadyH.nil)
                    go_simp
                    go_at_call 26
                    have hJ := joinN_any [.slice ao cs.length cap, .slice o4 T1.length c4, .slice o7 ts.toList.length c7, .slice o11 T2.length c11, .slice o14 tf.toList.length c14, .slice o18 A8.length c18, .slice o22 B8.length c22] [cs, T1, ts.toList, T2, tf.toList, A8, B8] 7 47 x6 rfl (by decide) (Pcs.cons KC (Pcs.cons K4 (Pcs.cons K7 (Pcs.cons K11 (Pcs.cons K14 (Pcs.cons K18 (Pcs.cons K22 Pcs.nil))))))) hlen.out
                    rw [hfl.out] at hJ
                    refine hJ.mono ?_
                    rintro _ x8 ⟨ao9, ac9, rfl, hn, hb⟩
                    have HO9 := Lib.hid (ownsRow_mono hn hB.size)
                    have HB9 := Lib.hid (hB.trans (hb.mono hB.size))
                    replace hS := TS.below hS hlt hb
                    clear hn hb hJ
                    dsimp only
                    refine hK.out _ _ hS (fun hh => ?_)
                    clear hK K hh
                    try simp only [Act.put, List.setIfInBounds_toArray, List.set_cons_zero, List.set_cons_succ]
                    refine wpAnyH_take (i := 25) (oi := { dst := some 4, op := Op.assign (Operand.tmp 50), type := 47, pos := "ref.go:21", after := #[{ on := 24, ground := Ground.data }, { on := 24, ground := Ground.chain }, { on := 0, ground := Ground.phase }, { on := 1, ground := Ground.phase }, { on := 2, ground := Ground.phase }, { on := 3, ground := Ground.phase }, { on := 4, ground := Ground.phase }, { on := 5, ground := Ground.phase }, { on := 6, ground := Ground.phase }, { on := 7, ground := Ground.phase }, { on := 8, ground := Ground.phase }, { on := 9, ground := Ground.phase }, { on := 10, ground := Ground.phase }, { on := 11, ground := Ground.phase }, { on := 12, ground := Ground.phase }, { on := 13, ground := Ground.phase }, { on := 14, ground := Ground.phase }, { on := 15, ground := Ground.phase }, { on := 16, ground := Ground.phase }, { on := 17, ground := Ground.phase }, { on := 18, ground := Ground.phase }, { on := 19, ground := Ground.phase }, { on := 20, ground := Ground.phase }, { on := 21, ground := Ground.phase }, { on := 22, ground := Ground.phase }, { on := 23, ground := Ground.phase }, { on := 24, ground := Ground.phase }], guard := none }) (v := ?_) rfl (by kernel_rfl) (by kernel_rfl) (by kernel_rfl) (fun _ _ _ h => h) (Or.inl ⟨by rfl, ?_⟩) hS ?_
                    rotate_left
                    · intro w hSw; (try dsimp only at hSw); go_simp; try with_reducible rfl
                    try simp only [Act.put, List.setIfInBounds_toArray, List.set_cons_zero, List.set_cons_succ]
                    refine wpAnyH_done (by kernel_rfl) ?_ _
                    go_wp2_with fail
                    go_roundg (gk - 1)
                    case measure => go_light; omega
                    case rel =>
                      go_light
                      exact ⟨k + 1, C, ao9, ac9, by omega, by go_num, rfl, HCC, HFA, HO9, HB9⟩
                  · skip
                    go_simp
                    go_at_call 28
                    refine (hEb _).mono ?_
                    rintro _ x5 ⟨o22, c22, rfl, hn, hb⟩
                    have K22 := hn.rd
                    replace hS := TS.below hS hlt hb
                    replace KC := RdV.below KC hb
                    replace K4 := RdV.below K4 hb
                    replace K11 := RdV.below K11 hb
                    replace K18 := RdV.below K18 hb
                    replace K7 := RdV.below K7 hb
                    replace hlt := Nat.lt_of_lt_of_le hlt hb.size
                    replace hB := hB.trans (hb.mono hB.size)
                    clear hn hb
                    dsimp only
                    refine hK.out _ _ hS (fun hh => ?_)
                    clear hK K hh
                    try simp only [Act.put, List.setIfInBounds_toArray, List.set_cons_zero, List.set_cons_succ]
                    refine wpAnyH_ready (rs := [14]) (by kernel_rfl) (by simp) (AllReadyH.cons (o := { dst := some 40, op := Op.convert 9 47 (Operand.tmp 39), type := 47, pos := "ref.go:21", after := #[{ on := 13, ground := Ground.data }], guard := none }) rfl (fun K hK => ?_) AllReadyH.nil)
                    obtain ⟨o14, c14, x6, hr, K14, hb⟩ := strBytes_any tf x5 hsf
                    go_simp
                    clear hr
                    replace hS := TS.below hS hlt hb
                    replace KC := RdV.below KC hb
                    replace K4 := RdV.below K4 hb
                    replace K11 := RdV.below K11 hb
                    replace K18 := RdV.below K18 hb
                    replace K7 := RdV.below K7 hb
                    replace K22 := RdV.below K22 hb
                    replace hlt := Nat.lt_of_lt_of_le hlt hb.size
                    replace hB := hB.trans (hb.mono hB.size)
                    clear hb
                    refine hK.out _ _ hS (fun hh => ?_)
                    clear hK K hh
                    try simp only [Act.put, List.setIfInBounds_toArray, List.set_cons_zero, List.set_cons_succ]
                    refine wpAnyH_ready (rs := [23]) (by kernel_rfl) (by simp) (AllReadyH.cons (o := { dst := some 49, op := Op.buildSlice 78 7 #[(0, Operand.tmp 26), (1, Operand.tmp 30), (2, Operand.tmp 33), (3, Operand.tmp 37), (4, Operand.tmp 40), (5, Operand.tmp 44), (6, Operand.tmp 48)], type := 78, pos := "ref.go:21", after := #[{ on := 0, ground := Ground.data }, { on := 4, ground := Ground.data }, { on := 7, ground := Ground.data }, { on := 11, ground := Ground.data }, { on := 14, ground := Ground.data }, { on := 18, ground := Ground.data }, { on := 22, ground := Ground.data }], guard := none }) rfl (fun K hK => ?_) AllReadyH.nil)
                    go_simp
                    refine hK.out _ _ (TS.below hS hlt ((Below.refl _ _).alloc (Nat.le_refl _) _)) (fun hh => ?_)
                    clear hK K hh
                    try simp only [Act.put, List.setIfInBounds_toArray, List.set_cons_zero, List.set_cons_succ]
                    refine wpAnyH_ready (rs := [24]) (by kernel_rfl) (by simp) (AllReadyH.cons (o := { dst := some 50, op := Op.call { callee := Callee.value (Operand.func 26), args := #[Operand.tmp 49], argTypes := #[78] }, type := 47, pos := "ref.go:21", after := #[{ on := 23, ground := Ground.data }, { on := 22, ground := Ground.chain }], guard := none }) rfl (fun K hK => ?_) AllReadyH.nil)
                    go_simp
                    go_at_call 26
                    have hJ := joinN_any [.slice ao cs.length cap, .slice o4 T1.length c4, .slice o7 ts.toList.length c7, .slice o11 T2.length c11, .slice o14 tf.toList.length c14, .slice o18 A8.length c18, .slice o22 B8.length c22] [cs, T1, ts.toList, T2, tf.toList, A8, B8] 7 47 x6 rfl (by decide) (Pcs.cons KC (Pcs.cons K4 (Pcs.cons K7 (Pcs.cons K11 (Pcs.cons K14 (Pcs.cons K18 (Pcs.cons K22 Pcs.nil))))))) hlen.out
                    rw [hfl.out] at hJ
                    refine hJ.mono ?_
                    rintro _ x8 ⟨ao9, ac9, rfl, hn, hb⟩
                    have HO9 := Lib.hid (ownsRow_mono hn hB.size)
                    have HB9 := Lib.hid (hB.trans (hb.mono hB.size))
                    replace hS := TS.below hS hlt hb
                    clear hn hb hJ
                    dsimp only
                    refine hK.out _ _ hS (fun hh => ?_)
                    clear hK K hh
                    try simp only [Act.put, List.setIfInBounds_toArray, List.set_cons_zero, List.set_cons_succ]
                    refine wpAnyH_take (i := 25) (oi := { dst := some 4, op := Op.assign (Operand.tmp 50), type := 47, pos := "ref.go:21", after := #[{ on := 24, ground := Ground.data }, { on := 24, ground := Ground.chain }, { on := 0, ground := Ground.phase }, { on := 1, ground := Ground.phase }, { on := 2, ground := Ground.phase }, { on := 3, ground := Ground.phase }, { on := 4, ground := Ground.phase }, { on := 5, ground := Ground.phase }, { on := 6, ground := Ground.phase }, { on := 7, ground := Ground.phase }, { on := 8, ground := Ground.phase }, { on := 9, ground := Ground.phase }, { on := 10, ground := Ground.phase }, { on := 11, ground := Ground.phase }, { on := 12, ground := Ground.phase }, { on := 13, ground := Ground.phase }, { on := 14, ground := Ground.phase }, { on := 15, ground := Ground.phase }, { on := 16, ground := Ground.phase }, { on := 17, ground := Ground.phase }, { on := 18, ground := Ground.phase }, { on := 19, ground := Ground.phase }, { on := 20, ground := Ground.phase }, { on := 21, ground := Ground.phase }, { on := 22, ground := Ground.phase }, { on := 23, ground := Ground.phase }, { on := 24, ground := Ground.phase }], guard := none }) (v := ?_) rfl (by kernel_rfl) (by kernel_rfl) (by kernel_rfl) (fun _ _ _ h => h) (Or.inl ⟨by rfl, ?_⟩) hS ?_
                    rotate_left
                    · intro w hSw; (try dsimp only at hSw); go_simp; try with_reducible rfl
                    try simp only [Act.put, List.setIfInBounds_toArray, List.set_cons_zero, List.set_cons_succ]
                    refine wpAnyH_done (by kernel_rfl) ?_ _
                    go_wp2_with fail
                    go_roundg (gk - 1)
                    case measure => go_light; omega
                    case rel =>
                      go_light
                      exact ⟨k + 1, C, ao9, ac9, by omega, by go_num, rfl, HCC, HFA, HO9, HB9⟩
                · skip
                  obtain ⟨o14, c14, x4, hr, K14, hb⟩ := strBytes_any tf x3 hsf
                  go_simp
                  clear hr
                  replace hS := TS.below hS hlt hb
                  replace KC := RdV.below KC hb
                  replace K4 := RdV.below K4 hb
                  replace K11 := RdV.below K11 hb
                  replace K18 := RdV.below K18 hb
                  replace hlt := Nat.lt_of_lt_of_le hlt hb.size
                  replace hB := hB.trans (hb.mono hB.size)
                  clear hb
                  refine hK.out _ _ hS (fun hh => ?_)
                  clear hK K hh
                  try simp only [Act.put, List.setIfInBounds_toArray, List.set_cons_zero, List.set_cons_succ]
                  refine wpAnyH_ready (rs := [7, 22]) (by kernel_rfl) (by simp) (AllReadyH.cons (o := { dst := some 33, op := Op.convert 9 47 (Operand.tmp 32), type := 47, pos := "ref.go:21", after := #[{ on := 6, ground := Ground.data }], guard := none }) rfl (fun K hK => ?_) (AllReadyH.cons (o := { dst := some 48, op := Op.call { callee := Callee.value (Operand.func 28), args := #[Operand.tmp 47], argTypes := #[34] }, type := 47, pos := "ref.go:21", after := #[{ on := 21, ground := Ground.data }, { on := 18, ground := Ground.chain }], guard := none }) rfl (fun K hK => ?_) AllReadyH.nil))
                  · skip
                    obtain ⟨o7, c7, x5, hr, K7, hb⟩ := strBytes_any ts x4 hss
                    go_simp
                    clear hr
                    replace hS := TS.below hS hlt hb
                    replace KC := RdV.below KC hb
                    replace K4 := RdV.below K4 hb
                    replace K11 := RdV.below K11 hb
                    replace K18 := RdV.below K18 hb
                    replace K14 := RdV.below K14 hb
                    replace hlt := Nat.lt_of_lt_of_le hlt hb.size
                    replace hB := hB.trans (hb.mono hB.size)
                    clear hb
                    refine hK.out _ _ hS (fun hh => ?_)
                    clear hK K hh
                    try simp only [Act.put, List.setIfInBounds_toArray, List.set_cons_zero, List.set_cons_succ]
                    refine wpAnyH_ready (rs := [22]) (by kernel_rfl) (by simp) (AllReadyH.cons (o := { dst := some 48, op := Op.call { callee := Callee.value (Operand.func 28), args := #[Operand.tmp 47], argTypes := #[34] }, type := 47, pos := "ref.go:21", after := #[{ on := 21, ground := Ground.data }, { on := 18, ground := Ground.chain }], guard := none }) rfl (fun K hK => ?_) AllReadyH.nil)
                    go_simp
                    go_at_call 28
                    refine (hEb _).mono ?_
                    rintro _ x6 ⟨o22, c22, rfl, hn, hb⟩
                    have K22 := hn.rd
                    replace hS := TS.below hS hlt hb
                    replace KC := RdV.below KC hb
                    replace K4 := RdV.below K4 hb
                    replace K11 := RdV.below K11 hb
                    replace K18 := RdV.below K18 hb
                    replace K14 := RdV.below K14 hb
                    replace K7 := RdV.below K7 hb
                    replace hlt := Nat.lt_of_lt_of_le hlt hb.size
                    replace hB := hB.trans (hb.mono hB.size)
                    clear hn hb
                    dsimp only
                    refine hK.out _ _ hS (fun hh => ?_)
                    clear hK K hh
                    try simp only [Act.put, List.setIfInBounds_toArray, List.set_cons_zero, List.set_cons_succ]
                    refine wpAnyH_ready (rs := [23]) (by kernel_rfl) (by simp) (AllReadyH.cons (o := { dst := some 49, op := Op.buildSlice 78 7 #[(0, Operand.tmp 26), (1, Operand.tmp 30), (2, Operand.tmp 33), (3, Operand.tmp 37), (4, Operand.tmp 40), (5, Operand.tmp 44), (6, Operand.tmp 48)], type := 78, pos := "ref.go:21", after := #[{ on := 0, ground := Ground.data }, { on := 4, ground := Ground.data }, { on := 7, ground := Ground.data }, { on := 11, ground := Ground.data }, { on := 14, ground := Ground.data }, { on := 18, ground := Ground.data }, { on := 22, ground := Ground.data }], guard := none }) rfl (fun K hK => ?_) AllReadyH.nil)
                    go_simp
                    refine hK.out _ _ (TS.below hS hlt ((Below.refl _ _).alloc (Nat.le_refl _) _)) (fun hh => ?_)
                    clear hK K hh
                    try simp only [Act.put, List.setIfInBounds_toArray, List.set_cons_zero, List.set_cons_succ]
                    refine wpAnyH_ready (rs := [24]) (by kernel_rfl) (by simp) (AllReadyH.cons (o := { dst := some 50, op := Op.call { callee := Callee.value (Operand.func 26), args := #[Operand.tmp 49], argTypes := #[78] }, type := 47, pos := "ref.go:21", after := #[{ on := 23, ground := Ground.data }, { on := 22, ground := Ground.chain }], guard := none }) rfl (fun K hK => ?_) AllReadyH.nil)
                    go_simp
                    go_at_call 26
                    have hJ := joinN_any [.slice ao cs.length cap, .slice o4 T1.length c4, .slice o7 ts.toList.length c7, .slice o11 T2.length c11, .slice o14 tf.toList.length c14, .slice o18 A8.length c18, .slice o22 B8.length c22] [cs, T1, ts.toList, T2, tf.toList, A8, B8] 7 47 x6 rfl (by decide) (Pcs.cons KC (Pcs.cons K4 (Pcs.cons K7 (Pcs.cons K11 (Pcs.cons K14 (Pcs.cons K18 (Pcs.cons K22 Pcs.nil))))))) hlen.out
                    rw [hfl.out] at hJ
                    refine hJ.mono ?_
                    rintro _ x8 ⟨ao9, ac9, rfl, hn, hb⟩
                    have HO9 := Lib.hid (ownsRow_mono hn hB.size)
                    have HB9 := Lib.hid (hB.trans (hb.mono hB.size))
                    replace hS := TS.below hS hlt hb
                    clear hn hb hJ
                    dsimp only
                    refine hK.out _ _ hS (fun hh => ?_)
                    clear hK K hh
                    try simp only [Act.put, List.setIfInBounds_toArray, List.set_cons_zero, List.set_cons_succ]
                    refine wpAnyH_take (i := 25) (oi := { dst := some 4, op := Op.assign (Operand.tmp 50), type := 47, pos := "ref.go:21", after := #[{ on := 24, ground := Ground.data }, { on := 24, ground := Ground.chain }, { on := 0, ground := Ground.phase }, { on := 1, ground := Ground.phase }, { on := 2, ground := Ground.phase }, { on := 3, ground := Ground.phase }, { on := 4, ground := Ground.phase }, { on := 5, ground := Ground.phase }, { on := 6, ground := Ground.phase }, { on := 7, ground := Ground.phase }, { on := 8, ground := Ground.phase }, { on := 9, ground := Ground.phase }, { on := 10, ground := Ground.phase }, { on := 11, ground := Ground.phase }, { on := 12, ground := Ground.phase }, { on := 13, ground := Ground.phase }, { on := 14, ground := Ground.phase }, { on := 15, ground := Ground.phase }, { on := 16, ground := Ground.phase }, { on := 17, ground := Ground.phase }, { on := 18, ground := Ground.phase }, { on := 19, ground := Ground.phase }, { on := 20, ground := Ground.phase }, { on := 21, ground := Ground.phase }, { on := 22, ground := Ground.phase }, { on := 23, ground := Ground.phase }, { on := 24, ground := Ground.phase }], guard := none }) (v := ?_) rfl (by kernel_rfl) (by kernel_rfl) (by kernel_rfl) (fun _ _ _ h => h) (Or.inl ⟨by rfl, ?_⟩) hS ?_
                    rotate_left
                    · intro w hSw; (try dsimp only at hSw); go_simp; try with_reducible rfl
                    try simp only [Act.put, List.setIfInBounds_toArray, List.set_cons_zero, List.set_cons_succ]
                    refine wpAnyH_done (by kernel_rfl) ?_ _
                    go_wp2_with fail
                    go_roundg (gk - 1)
                    case measure => go_light; omega
                    case rel =>
                      go_light
                      exact ⟨k + 1, C, ao9, ac9, by omega, by go_num, rfl, HCC, HFA, HO9, HB9⟩
                  · skip
                    go_simp
                    go_at_call 28
                    refine (hEb _).mono ?_
                    rintro _ x5 ⟨o22, c22, rfl, hn, hb⟩
                    have K22 := hn.rd
                    replace hS := TS.below hS hlt hb
                    replace KC := RdV.below KC hb
                    replace K4 := RdV.below K4 hb
                    replace K11 := RdV.below K11 hb
                    replace K18 := RdV.below K18 hb
                    replace K14 := RdV.below K14 hb
                    replace hlt := Nat.lt_of_lt_of_le hlt hb.size
                    replace hB := hB.trans (hb.mono hB.size)
                    clear hn hb
                    dsimp only
                    refine hK.out _ _ hS (fun hh => ?_)
                    clear hK K hh
                    try simp only [Act.put, List.setIfInBounds_toArray, List.set_cons_zero, List.set_cons_succ]
                    refine wpAnyH_ready (rs := [7]) (by kernel_rfl) (by simp) (AllReadyH.cons (o := { dst := some 33, op := Op.convert 9 47 (Operand.tmp 32), type := 47, pos := "ref.go:21", after := #[{ on := 6, ground := Ground.data }], guard := none }) rfl (fun K hK => ?_) AllReadyH.nil)
                    obtain ⟨o7, c7, x6, hr, K7, hb⟩ := strBytes_any ts x5 hss
                    go_simp
                    clear hr
                    replace hS := TS.below hS hlt hb
                    replace KC := RdV.below KC hb
                    replace K4 := RdV.below K4 hb
                    replace K11 := RdV.below K11 hb
                    replace K18 := RdV.below K18 hb
                    replace K14 := RdV.below K14 hb
                    replace K22 := RdV.below K22 hb
                    replace hlt := Nat.lt_of_lt_of_le hlt hb.size
                    replace hB := hB.trans (hb.mono hB.size)
                    clear hb
                    refine hK.out _ _ hS (fun hh => ?_)
                    clear hK K hh
                    try simp only [Act.put, List.setIfInBounds_toArray, List.set_cons_zero, List.set_cons_succ]
                    refine wpAnyH_ready (rs := [23]) (by kernel_rfl) (by simp) (AllReadyH.cons (o := { dst := some 49, op := Op.buildSlice 78 7 #[(0, Operand.tmp 26), (1, Operand.tmp 30), (2, Operand.tmp 33), (3, Operand.tmp 37), (4, Operand.tmp 40), (5, Operand.tmp 44), (6, Operand.tmp 48)], type := 78, pos := "ref.go:21", after := #[{ on := 0, ground := Ground.data }, { on := 4, ground := Ground.data }, { on := 7, ground := Ground.data }, { on := 11, ground := Ground.data }, { on := 14, ground := Ground.data }, { on := 18, ground := Ground.data }, { on := 22, ground := Ground.data }], guard := none }) rfl (fun K hK => ?_) AllReadyH.nil)
                    go_simp
                    refine hK.out _ _ (TS.below hS hlt ((Below.refl _ _).alloc (Nat.le_refl _) _)) (fun hh => ?_)
                    clear hK K hh
                    try simp only [Act.put, List.setIfInBounds_toArray, List.set_cons_zero, List.set_cons_succ]
                    refine wpAnyH_ready (rs := [24]) (by kernel_rfl) (by simp) (AllReadyH.cons (o := { dst := some 50, op := Op.call { callee := Callee.value (Operand.func 26), args := #[Operand.tmp 49], argTypes := #[78] }, type := 47, pos := "ref.go:21", after := #[{ on := 23, ground := Ground.data }, { on := 22, ground := Ground.chain }], guard := none }) rfl (fun K hK => ?_) AllReadyH.nil)
                    go_simp
                    go_at_call 26
                    have hJ := joinN_any [.slice ao cs.length cap, .slice o4 T1.length c4, .slice o7 ts.toList.length c7, .slice o11 T2.length c11, .slice o14 tf.toList.length c14, .slice o18 A8.length c18, .slice o22 B8.length c22] [cs, T1, ts.toList, T2, tf.toList, A8, B8] 7 47 x6 rfl (by decide) (Pcs.cons KC (Pcs.cons K4 (Pcs.cons K7 (Pcs.cons K11 (Pcs.cons K14 (Pcs.cons K18 (Pcs.cons K22 Pcs.nil))))))) hlen.out
                    rw [hfl.out] at hJ
                    refine hJ.mono ?_
                    rintro _ x8 ⟨ao9, ac9, rfl, hn, hb⟩
                    have HO9 := Lib.hid (ownsRow_mono hn hB.size)
                    have HB9 := Lib.hid (hB.trans (hb.mono hB.size))
                    replace hS := TS.below hS hlt hb
                    clear hn hb hJ
                    dsimp only
                    refine hK.out _ _ hS (fun hh => ?_)
                    clear hK K hh
                    try simp only [Act.put, List.setIfInBounds_toArray, List.set_cons_zero, List.set_cons_succ]
                    refine wpAnyH_take (i := 25) (oi := { dst := some 4, op := Op.assign (Operand.tmp 50), type := 47, pos := "ref.go:21", after := #[{ on := 24, ground := Ground.data }, { on := 24, ground := Ground.chain }, { on := 0, ground := Ground.phase }, { on := 1, ground := Ground.phase }, { on := 2, ground := Ground.phase }, { on := 3, ground := Ground.phase }, { on := 4, ground := Ground.phase }, { on := 5, ground := Ground.phase }, { on := 6, ground := Ground.phase }, { on := 7, ground := Ground.phase }, { on := 8, ground := Ground.phase }, { on := 9, ground := Ground.phase }, { on := 10, ground := Ground.phase }, { on := 11, ground := Ground.phase }, { on := 12, ground := Ground.phase }, { on := 13, ground := Ground.phase }, { on := 14, ground := Ground.phase }, { on := 15, ground := Ground.phase }, { on := 16, ground := Ground.phase }, { on := 17, ground := Ground.phase }, { on := 18, ground := Ground.phase }, { on := 19, ground := Ground.phase }, { on := 20, ground := Ground.phase }, { on := 21, ground := Ground.phase }, { on := 22, ground := Ground.phase }, { on := 23, ground := Ground.phase }, { on := 24, ground := Ground.phase }], guard := none }) (v := ?_) rfl (by kernel_rfl) (by kernel_rfl) (by kernel_rfl) (fun _ _ _ h => h) (Or.inl ⟨by rfl, ?_⟩) hS ?_
                    rotate_left
                    · intro w hSw; (try dsimp only at hSw); go_simp; try with_reducible rfl
                    try simp only [Act.put, List.setIfInBounds_toArray, List.set_cons_zero, List.set_cons_succ]
                    refine wpAnyH_done (by kernel_rfl) ?_ _
                    go_wp2_with fail
                    go_roundg (gk - 1)
                    case measure => go_light; omega
                    case rel =>
                      go_light
                      exact ⟨k + 1, C, ao9, ac9, by omega, by go_num, rfl, HCC, HFA, HO9, HB9⟩
                · skip
                  go_simp
                  go_at_call 28
                  refine (hEb _).mono ?_
                  rintro _ x4 ⟨o22, c22, rfl, hn, hb⟩
                  have K22 := hn.rd
                  replace hS := TS.below hS hlt hb
                  replace KC := RdV.below KC hb
                  replace K4 := RdV.below K4 hb
                  replace K11 := RdV.below K11 hb
                  replace K18 := RdV.below K18 hb
                  replace hlt := Nat.lt_of_lt_of_le hlt hb.size
                  replace hB := hB.trans (hb.mono hB.size)
                  clear hn hb
                  dsimp only
                  refine hK.out _ _ hS (fun hh => ?_)
                  clear hK K hh
                  try simp only [Act.put, List.setIfInBounds_toArray, List.set_cons_zero, List.set_cons_succ]
                  refine wpAnyH_ready (rs := [7, 14]) (by kernel_rfl) (by simp) (AllReadyH.cons (o := { dst := some 33, op := Op.convert 9 47 (Operand.tmp 32), type := 47, pos := "ref.go:21", after := #[{ on := 6, ground := Ground.data }], guard := none }) rfl (fun K hK => ?_) (AllReadyH.cons (o := { dst := some 40, op := Op.convert 9 47 (Operand.tmp 39), type := 47, pos := "ref.go:21", after := #[{ on := 13, ground := Ground.data }], guard := none }) rfl (fun K hK => ?_) AllReadyH.nil))
                  · skip
                    obtain ⟨o7, c7, x5, hr, K7, hb⟩ := strBytes_any ts x4 hss
                    go_simp
                    clear hr
                    replace hS := TS.below hS hlt hb
                    replace KC := RdV.below KC hb
                    replace K4 := RdV.below K4 hb
                    replace K11 := RdV.below K11 hb
                    replace K18 := RdV.below K18 hb
                    replace K22 := RdV.below K22 hb
                    replace hlt := Nat.lt_of_lt_of_le hlt hb.size
                    replace hB := hB.trans (hb.mono hB.size)
                    clear hb
                    refine hK.out _ _ hS (fun hh => ?_)
                    clear hK K hh
                    try simp only [Act.put, List.setIfInBounds_toArray, List.set_cons_zero, List.set_cons_succ]
                    refine wpAnyH_ready (rs := [14]) (by kernel_rfl) (by simp) (AllReadyH.cons (o := { dst := some 40, op := Op.convert 9 47 (Operand.tmp 39), type := 47, pos := "ref.go:21", after := #[{ on := 13, ground := Ground.data }], guard := none }) rfl (fun K hK => ?_) AllReadyH.nil)
                    obtain ⟨o14, c14, x6, hr, K14, hb⟩ := strBytes_any tf x5 hsf
                    go_simp
                    clear hr
                    replace hS := TS.below hS hlt hb
                    replace KC := RdV.below KC hb
                    replace K4 := RdV.below K4 hb
                    replace K11 := RdV.below K11 hb
                    replace K18 := RdV.below K18 hb
                    replace K22 := RdV.below K22 hb
                    replace K7 := RdV.below K7 hb
                    replace hlt := Nat.lt_of_lt_of_le hlt hb.size
                    replace hB := hB.trans (hb.mono hB.size)
                    clear hb
                    refine hK.out _ _ hS (fun hh => ?_)
                    clear hK K hh
                    try simp only [Act.put, List.setIfInBounds_toArray, List.set_cons_zero, List.set_cons_succ]
                    refine wpAnyH_ready (rs := [23]) (by kernel_rfl) (by simp) (AllReadyH.cons (o := { dst := some 49, op := Op.buildSlice 78 7 #[(0, Operand.tmp 26), (1, Operand.tmp 30), (2, Operand.tmp 33), (3, Operand.tmp 37), (4, Operand.tmp 40), (5, Operand.tmp 44), (6, Operand.tmp 48)], type := 78, pos := "ref.go:21", after := #[{ on := 0, ground := Ground.data }, { on := 4, ground := Ground.data }, { on := 7, ground := Ground.data }, { on := 11, ground := Ground.data }, { on := 14, ground := Ground.data }, { on := 18, ground := Ground.data }, { on := 22, ground := Ground.data }], guard := none }) rfl (fun K hK => ?_) AllReadyH.nil)
                    go_simp
                    refine hK.out _ _ (TS.below hS hlt ((Below.refl _ _).alloc (Nat.le_refl _) _)) (fun hh => ?_)
                    clear hK K hh
                    try simp only [Act.put, List.setIfInBounds_toArray, List.set_cons_zero, List.set_cons_succ]
                    refine wpAnyH_ready (rs := [24]) (by kernel_rfl) (by simp) (AllReadyH.cons (o := { dst := some 50, op := Op.call { callee := Callee.value (Operand.func 26), args := #[Operand.tmp 49], argTypes := #[78] }, type := 47, pos := "ref.go:21", after := #[{ on := 23, ground := Ground.data }, { on := 22, ground := Ground.chain }], guard := none }) rfl (fun K hK => ?_) AllReadyH.nil)
                    go_simp
                    go_at_call 26
                    have hJ := joinN_any [.slice ao cs.length cap, .slice o4 T1.length c4, .slice o7 ts.toList.length c7, .slice o11 T2.length c11, .slice o14 tf.toList.length c14, .slice o18 A8.length c18, .slice o22 B8.length c22] [cs, T1, ts.toList, T2, tf.toList, A8, B8] 7 47 x6 rfl (by decide) (Pcs.cons KC (Pcs.cons K4 (Pcs.cons K7 (Pcs.cons K11 (Pcs.cons K14 (Pcs.cons K18 (Pcs.cons K22 Pcs.nil))))))) hlen.out
                    rw [hfl.out] at hJ
                    refine hJ.mono ?_
                    rintro _ x8 ⟨ao9, ac9, rfl, hn, hb⟩
                    have HO9 := Lib.hid (ownsRow_mono hn hB.size)
                    have HB9 := Lib.hid (hB.trans (hb.mono hB.size))
                    replace hS := TS.below hS hlt hb
                    clear hn hb hJ
                    dsimp only
                    refine hK.out _ _ hS (fun hh => ?_)
                    clear hK K hh
                    try simp only [Act.put, List.setIfInBounds_toArray, List.set_cons_zero, List.set_cons_succ]
                    refine wpAnyH_take (i := 25) (oi := { dst := some 4, op := Op.assign (Operand.tmp 50), type := 47, pos := "ref.go:21", after := #[{ on := 24, ground := Ground.data }, { on := 24, ground := Ground.chain }, { on := 0, ground := Ground.phase }, { on := 1, ground := Ground.phase }, { on := 2, ground := Ground.phase }, { on := 3, ground := Ground.phase }, { on := 4, ground := Ground.phase }, { on := 5, ground := Ground.phase }, { on := 6, ground := Ground.phase }, { on := 7, ground := Ground.phase }, { on := 8, ground := Ground.phase }, { on := 9, ground := Ground.phase }, { on := 10, ground := Ground.phase }, { on := 11, ground := Ground.phase }, { on := 12, ground := Ground.phase }, { on := 13, ground := Ground.phase }, { on := 14, ground := Ground.phase }, { on := 15, ground := Ground.phase }, { on := 16, ground := Ground.phase }, { on := 17, ground := Ground.phase }, { on := 18, ground := Ground.phase }, { on := 19, ground := Ground.phase }, { on := 20, ground := Ground.phase }, { on := 21, ground := Ground.phase }, { on := 22, ground := Ground.phase }, { on := 23, ground := Ground.phase }, { on := 24, ground := Ground.phase }], guard := none }) (v := ?_) rfl (by kernel_rfl) (by kernel_rfl) (by kernel_rfl) (fun _ _ _ h => h) (Or.inl ⟨by rfl, ?_⟩) hS ?_
                    rotate_left
                    · intro w hSw; (try dsimp only at hSw); go_simp; try with_reducible rfl
                    try simp only [Act.put, List.setIfInBounds_toArray, List.set_cons_zero, List.set_cons_succ]
                    refine wpAnyH_done (by kernel_rfl) ?_ _
                    go_wp2_with fail
                    go_roundg (gk - 1)
                    case measure => go_light; omega
                    case rel =>
                      go_light
                      exact ⟨k + 1, C, ao9, ac9, by omega, by go_num, rfl, HCC, HFA, HO9, HB9⟩
                  · skip
                    obtain ⟨o14, c14, x5, hr, K14, hb⟩ := strBytes_any tf x4 hsf
                    go_simp
                    clear hr
                    replace hS := TS.below hS hlt hb
                    replace KC := RdV.below KC hb
                    replace K4 := RdV.below K4 hb
                    replace K11 := RdV.below K11 hb
                    replace K18 := RdV.below K18 hb
                    replace K22 := RdV.below K22 hb
                    replace hlt := Nat.lt_of_lt_of_le hlt hb.size
                    replace hB := hB.trans (hb.mono hB.size)
                    clear hb
                    refine hK.out _ _ hS (fun hh => ?_)
                    clear hK K hh
                    try simp only [Act.put, List.setIfInBounds_toArray, List.set_cons_zero, List.set_cons_succ]
                    refine wpAnyH_ready (rs := [7]) (by kernel_rfl) (by simp) (AllReadyH.cons (o := { dst := some 33, op := Op.convert 9 47 (Operand.tmp 32), type := 47, pos := "ref.go:21", after := #[{ on := 6, ground := Ground.data }], guard := none }) rfl (fun K hK => ?_) AllReadyH.nil)
                    obtain ⟨o7, c7, x6, hr, K7, hb⟩ := strBytes_any ts x5 hss
                    go_simp
                    clear hr
                    replace hS := TS.below hS hlt hb
                    replace KC := RdV.below KC hb
                    replace K4 := RdV.below K4 hb
                    replace K11 := RdV.below K11 hb
                    replace K18 := RdV.below K18 hb
                    replace K22 := RdV.below K22 hb
                    replace K14 := RdV.below K14 hb
                    replace hlt := Nat.lt_of_lt_of_le hlt hb.size
                    replace hB := hB.trans (hb.mono hB.size)
                    clear hb
                    refine hK.out _ _ hS (fun hh => ?_)
                    clear hK K hh
                    try simp only [Act.put, List.setIfInBounds_toArray, List.set_cons_zero, List.set_cons_succ]
                    refine wpAnyH_ready (rs := [23]) (by kernel_rfl) (by simp) (AllReadyH.cons (o := { dst := some 49, op := Op.buildSlice 78 7 #[(0, Operand.tmp 26), (1, Operand.tmp 30), (2, Operand.tmp 33), (3, Operand.tmp 37), (4, Operand.tmp 40), (5, Operand.tmp 44), (6, Operand.tmp 48)], type := 78, pos := "ref.go:21", after := #[{ on := 0, ground := Ground.data }, { on := 4, ground := Ground.data }, { on := 7, ground := Ground.data }, { on := 11, ground := Ground.data }, { on := 14, ground := Ground.data }, { on := 18, ground := Ground.data }, { on := 22, ground := Ground.data }], guard := none }) rfl (fun K hK => ?_) AllReadyH.nil)
                    go_simp
                    refine hK.out _ _ (TS.below hS hlt ((Below.refl _ _).alloc (Nat.le_refl _) _)) (fun hh => ?_)
                    clear hK K hh
                    try simp only [Act.put, List.setIfInBounds_toArray, List.set_cons_zero, List.set_cons_succ]
                    refine wpAnyH_ready (rs := [24]) (by kernel_rfl) (by simp) (AllReadyH.cons (o := { dst := some 50, op := Op.call { callee := Callee.value (Operand.func 26), args := #[Operand.tmp 49], argTypes := #[78] }, type := 47, pos := "ref.go:21", after := #[{ on := 23, ground := Ground.data }, { on := 22, ground := Ground.chain }], guard := none }) rfl (fun K hK => ?_) AllReadyH.nil)
                    go_simp
                    go_at_call 26
                    have hJ := joinN_any [.slice ao cs.length cap, .slice o4 T1.length c4, .slice o7 ts.toList.length c7, .slice o11 T2.length c11, .slice o14 tf.toList.length c14, .slice o18 A8.length c18, .slice o22 B8.length c22] [cs, T1, ts.toList, T2, tf.toList, A8, B8] 7 47 x6 rfl (by decide) (Pcs.cons KC (Pcs.cons K4 (Pcs.cons K7 (Pcs.cons K11 (Pcs.cons K14 (Pcs.cons K18 (Pcs.cons K22 Pcs.nil))))))) hlen.out
                    rw [hfl.out] at hJ
                    refine hJ.mono ?_
                    rintro _ x8 ⟨ao9, ac9, rfl, hn, hb⟩
                    have HO9 := Lib.hid (ownsRow_mono hn hB.size)
                    have HB9 := Lib.hid (hB.trans (hb.mono hB.size))
                    replace hS := TS.below hS hlt hb
                    clear hn hb hJ
                    dsimp only
                    refine hK.out _ _ hS (fun hh => ?_)
                    clear hK K hh
                    try simp only [Act.put, List.setIfInBounds_toArray, List.set_cons_zero, List.set_cons_succ]
                    refine wpAnyH_take (i := 25) (oi := { dst := some 4, op := Op.assign (Operand.tmp 50), type := 47, pos := "ref.go:21", after := #[{ on := 24, ground := Ground.data }, { on := 24, ground := Ground.chain }, { on := 0, ground := Ground.phase }, { on := 1, ground := Ground.phase }, { on := 2, ground := Ground.phase }, { on := 3, ground := Ground.phase }, { on := 4, ground := Ground.phase }, { on := 5, ground := Ground.phase }, { on := 6, ground := Ground.phase }, { on := 7, ground := Ground.phase }, { on := 8, ground := Ground.phase }, { on := 9, ground := Ground.phase }, { on := 10, ground := Ground.phase }, { on := 11, ground := Ground.phase }, { on := 12, ground := Ground.phase }, { on := 13, ground := Ground.phase }, { on := 14, ground := Ground.phase }, { on := 15, ground := Ground.phase }, { on := 16, ground := Ground.phase }, { on := 17, ground := Ground.phase }, { on := 18, ground := Ground.phase }, { on := 19, ground := Ground.phase }, { on := 20, ground := Ground.phase }, { on := 21, ground := Ground.phase }, { on := 22, ground := Ground.phase }, { on := 23, ground := Ground.phase }, { on := 24, ground := Ground.phase }], guard := none }) (v := ?_) rfl (by kernel_rfl) (by kernel_rfl) (by kernel_rfl) (fun _ _ _ h => h) (Or.inl ⟨by rfl, ?_⟩) hS ?_
                    rotate_left
                    · intro w hSw; (try dsimp only at hSw); go_simp; try with_reducible rfl
                    try simp only [Act.put, List.setIfInBounds_toArray, List.set_cons_zero, List.set_cons_succ]
                    refine wpAnyH_done (by kernel_rfl) ?_ _
                    go_wp2_with fail
                    go_roundg (gk - 1)
                    case measure => go_light; omega
                    case rel =>
                      go_light
                      exact ⟨k + 1, C, ao9, ac9, by omega, by go_num, rfl, HCC, HFA, HO9, HB9⟩
            · skip
              obtain ⟨o14, c14, x2, hr, K14, hb⟩ := strBytes_any tf x1 hsf
              go_simp
              clear hr
              replace hS := TS.below hS hlt hb
              replace KC := RdV.below KC hb
              replace K4 := RdV.below K4 hb
              replace hlt := Nat.lt_of_lt_of_le hlt hb.size
              replace hB := hB.trans (hb.mono hB.size)
              clear hb
              refine hK.out _ _ hS (fun hh => ?_)
              clear hK K hh
              try simp only [Act.put, List.setIfInBounds_toArray, List.set_cons_zero, List.set_cons_succ]
              refine wpAnyH_ready (rs := [7, 11]) (by kernel_rfl) (by simp) (AllReadyH.cons (o := { dst := some 33, op := Op.convert 9 47 (Operand.tmp 32), type := 47, pos := "ref.go:21", after := #[{ on := 6, ground := Ground.data }], guard := none }) rfl (fun K hK => ?_) (AllReadyH.cons (o := { dst := some 37, op := Op.call { callee := Callee.value (Operand.func 27), args := #[Operand.tmp 36], argTypes := #[3] }, type := 47, pos := "ref.go:21", after := #[{ on := 10, ground := Ground.data }, { on := 4, ground := Ground.chain }], guard := none }) rfl (fun K hK => ?_) AllReadyH.nil))
              · skip
                obtain ⟨o7, c7, x3, hr, K7, hb⟩ := strBytes_any ts x2 hss
                go_simp
                clear hr
                replace hS := TS.below hS hlt hb
                replace KC := RdV.below KC hb
                replace K4 := RdV.below K4 hb
                replace K14 := RdV.below K14 hb
                replace hlt := Nat.lt_of_lt_of_le hlt hb.size
                replace hB := hB.trans (hb.mono hB.size)
                clear hb
                refine hK.out _ _ hS (fun hh => ?_)
                clear hK K hh
                try simp only [Act.put, List.setIfInBounds_toArray, List.set_cons_zero, List.set_cons_succ]
                refine wpAnyH_ready (rs := [11]) (by kernel_rfl) (by simp) (AllReadyH.cons (o := { dst := some 37, op := Op.call { callee := Callee.value (Operand.func 27), args := #[Operand.tmp 36], argTypes := #[3] }, type := 47, pos := "ref.go:21", after := #[{ on := 10, ground := Ground.data }, { on := 4, ground := Ground.chain }], guard := none }) rfl (fun K hK => ?_) AllReadyH.nil)
                go_simp
                go_at_call 27
                refine (hTf _).mono ?_
                rintro _ x4 ⟨o11, c11, rfl, hn, hb⟩
                have K11 := hn.rd
                replace hS := TS.below hS hlt hb
                replace KC := RdV.below KC hb
                replace K4 := RdV.below K4 hb
                replace K14 := RdV.below K14 hb
                replace K7 := RdV.below K7 hb
                replace hlt := Nat.lt_of_lt_of_le hlt hb.size
                replace hB := hB.trans (hb.mono hB.size)
                clear hn hb
                dsimp only
                refine hK.out _ _ hS (fun hh => ?_)
                clear hK K hh
                try simp only [Act.put, List.setIfInBounds_toArray, List.set_cons_zero, List.set_cons_succ]
                refine wpAnyH_ready (rs := [18]) (by kernel_rfl) (by simp) (AllReadyH.cons (o := { dst := some 44, op := Op.call { callee := Callee.value (Operand.func 28), args := #[Operand.tmp 43], argTypes := #[34] }, type := 47, pos := "ref.go:21", after := #[{ on := 17, ground := Ground.data }, { on := 11, ground := Ground.chain }], guard := none }) rfl (fun K hK => ?_) AllReadyH.nil)
                go_simp
                go_at_call 28
                refine (hEa _).mono ?_
                rintro _ x5 ⟨o18, c18, rfl, hn, hb⟩
                have K18 := hn.rd
                replace hS := TS.below hS hlt hb
                replace KC := RdV.below KC hb
                replace K4 := RdV.below K4 hb
                replace K14 := RdV.below K14 hb
                replace K7 := RdV.below K7 hb
                replace K11 := RdV.below K11 hb
                replace hlt := Nat.lt_of_lt_of_le hlt hb.size
                replace hB := hB.trans (hb.mono hB.size)
                clear hn hb
                dsimp only
                refine hK.out _ _ hS (fun hh => ?_)
                clear hK K hh
                try simp only [Act.put, List.setIfInBounds_toArray, List.set_cons_zero, List.set_cons_succ]
                refine wpAnyH_ready (rs := [22]) (by kernel_rfl) (by simp) (AllReadyH.cons (o := { dst := some 48, op := Op.call { callee := Callee.value (Operand.func 28), args := #[Operand.tmp 47], argTypes := #[34] }, type := 47, pos := "ref.go:21", after := #[{ on := 21, ground := Ground.data }, { on := 18, ground := Ground.chain }], guard := none }) rfl (fun K hK => ?_) AllReadyH.nil)
                go_simp
                go_at_call 28
                refine (hEb _).mono ?_
                rintro _ x6 ⟨o22, c22, rfl, hn, hb⟩
                have K22 := hn.rd
                replace hS := TS.below hS hlt hb
                replace KC := RdV.below KC hb
                replace K4 := RdV.below K4 hb
                replace K14 := RdV.below K14 hb
                replace K7 := RdV.below K7 hb
                replace K11 := RdV.below K11 hb
                replace K18 := RdV.below K18 hb
                replace hlt := Nat.lt_of_lt_of_le hlt hb.size
                replace hB := hB.trans (hb.mono hB.size)
                clear hn hb
                dsimp only
                refine hK.out _ _ hS (fun hh => ?_)
                clear hK K hh
                try simp only [Act.put, List.setIfInBounds_toArray, List.set_cons_zero, List.set_cons_succ]
                refine wpAnyH_ready (rs := [23]) (by kernel_rfl) (by simp) (AllReadyH.cons (o := { dst := some 49, op := Op.buildSlice 78 7 #[(0, Operand.tmp 26), (1, Operand.tmp 30), (2, Operand.tmp 33), (3, Operand.tmp 37), (4, Operand.tmp 40), (5, Operand.tmp 44), (6, Operand.tmp 48)], type := 78, pos := "ref.go:21", after := #[{ on := 0, ground := Ground.data }, { on := 4, ground := Ground.data }, { on := 7, ground := Ground.data }, { on := 11, ground := Ground.data }, { on := 14, ground := Ground.data }, { on := 18, ground := Ground.data }, { on := 22, ground := Ground.data }], guard := none }) rfl (fun K hK => ?_) AllReadyH.nil)
                go_simp
                refine hK.out _ _ (TS.below hS hlt ((Below.refl _ _).alloc (Nat.le_refl _) _)) (fun hh => ?_)
                clear hK K hh
                try simp only [Act.put, List.setIfInBounds_toArray, List.set_cons_zero, List.set_cons_succ]
                refine wpAnyH_ready (rs := [24]) (by kernel_rfl) (by simp) (AllReadyH.cons (o := { dst := some 50, op := Op.call { callee := Callee.value (Operand.func 26), args := #[Operand.tmp 49], argTypes := #[78] }, type := 47, pos := "ref.go:21", after := #[{ on := 23, ground := Ground.data }, { on := 22, ground := Ground.chain }], guard := none }) rfl (fun K hK => ?_) AllReadyH.nil)
                go_simp
                go_at_call 26
                have hJ := joinN_any [.slice ao cs.length cap, .slice o4 T1.length c4, .slice o7 ts.toList.length c7, .slice o11 T2.length c11, .slice o14 tf.toList.length c14, .slice o18 A8.length c18, .slice o22 B8.length c22] [cs, T1, ts.toList, T2, tf.toList, A8, B8] 7 47 x6 rfl (by decide) (Pcs.cons KC (Pcs.cons K4 (Pcs.cons K7 (Pcs.cons K11 (Pcs.cons K14 (Pcs.cons K18 (Pcs.cons K22 Pcs.nil))))))) hlen.out
                rw [hfl.out] at hJ
                refine hJ.mono ?_
                rintro _ x8 ⟨ao9, ac9, rfl, hn, hb⟩
                have HO9 := Lib.hid (ownsRow_mono hn hB.size)
                have HB9 := Lib.hid (hB.trans (hb.mono hB.size))
                replace hS := TS.below hS hlt hb
                clear hn hb hJ
                dsimp only
                refine hK.out _ _ hS (fun hh => ?_)
                clear hK K hh
                try simp only [Act.put, List.setIfInBounds_toArray, List.set_cons_zero, List.set_cons_succ]
                refine wpAnyH_take (i := 25) (oi := { dst := some 4, op := Op.assign (Operand.tmp 50), type := 47, pos := "ref.go:21", after := #[{ on := 24, ground := Ground.data }, { on := 24, ground := Ground.chain }, { on := 0, ground := Ground.phase }, { on := 1, ground := Ground.phase }, { on := 2, ground := Ground.phase }, { on := 3, ground := Ground.phase }, { on := 4, ground := Ground.phase }, { on := 5, ground := Ground.phase }, { on := 6, ground := Ground.phase }, { on := 7, ground := Ground.phase }, { on := 8, ground := Ground.phase }, { on := 9, ground := Ground.phase }, { on := 10, ground := Ground.phase }, { on := 11, ground := Ground.phase }, { on := 12, ground := Ground.phase }, { on := 13, ground := Ground.phase }, { on := 14, ground := Ground.phase }, { on := 15, ground := Ground.phase }, { on := 16, ground := Ground.phase }, { on := 17, ground := Ground.phase }, { on := 18, ground := Ground.phase }, { on := 19, ground := Ground.phase }, { on := 20, ground := Ground.phase }, { on := 21, ground := Ground.phase }, { on := 22, ground := Ground.phase }, { on := 23, ground := Ground.phase }, { on := 24, ground := Ground.phase }], guard := none }) (v := ?_) rfl (by kernel_rfl) (by kernel_rfl) (by kernel_rfl) (fun _ _ _ h => h) (Or.inl ⟨by rfl, ?_⟩) hS ?_
                rotate_left
                · intro w hSw; (try dsimp only at hSw); go_simp; try with_reducible rfl
                try simp only [Act.put, List.setIfInBounds_toArray, List.set_cons_zero, List.set_cons_succ]
                refine wpAnyH_done (by kernel_rfl) ?_ _
                go_wp2_with fail
                go_roundg (gk - 1)
                case measure => go_light; omega
                case rel =>
                  go_light
                  exact ⟨k + 1, C, ao9, ac9, by omega, by go_num, rfl, HCC, HFA, HO9, HB9⟩
              · skip
                go_simp
                go_at_call 27
                refine (hTf _).mono ?_
                rintro _ x3 ⟨o11, c11, rfl, hn, hb⟩
                have K11 := hn.rd
                replace hS := TS.below hS hlt hb
                replace KC := RdV.below KC hb
                replace K4 := RdV.below K4 hb
                replace K14 := RdV.below K14 hb
                replace hlt := Nat.lt_of_lt_of_le hlt hb.size
                replace hB := hB.trans (hb.mono hB.size)
                clear hn hb
                dsimp only
                refine hK.out _ _ hS (fun hh => ?_)
                clear hK K hh
                try simp only [Act.put, List.setIfInBounds_toArray, List.set_cons_zero, List.set_cons_succ]
                refine wpAnyH_ready (rs := [7, 18]) (by kernel_rfl) (by simp) (AllReadyH.cons (o := { dst := some 33, op := Op.convert 9 47 (Operand.tmp 32), type := 47, pos := "ref.go:21", after := #[{ on := 6, ground := Ground.data }], guard := none }) rfl (fun K hK => ?_) (AllReadyH.cons (o := { dst := some 44, op := Op.call { callee := Callee.value (Operand.func 28), args := #[Operand.tmp 43], argTypes := #[34] }, type := 47, pos := "ref.go:21", after := #[{ on := 17, ground := Ground.data }, { on := 11, ground := Ground.chain }], guard := none }) rfl (fun K hK => ?_) AllReadyH.nil))
                · skip
                  obtain ⟨o7, c7, x4, hr, K7, hb⟩ := strBytes_any ts x3 hss
                  go_simp
                  clear hr
                  replace hS := TS.below hS hlt hb
                  replace KC := RdV.below KC hb
                  replace K4 := RdV.below K4 hb
                  replace K14 := RdV.below K14 hb
                  replace K11 := RdV.below K11 hb
                  replace hlt := Nat.lt_of_lt_of_le hlt hb.size
                  replace hB := hB.trans (hb.mono hB.size)
                  clear hb
                  refine hK.out _ _ hS (fun hh => ?_)
                  clear hK K hh
                  try simp only [Act.put, List.setIfInBounds_toArray, List.set_cons_zero, List.set_cons_succ]
                  refine wpAnyH_ready (rs := [18]) (by kernel_rfl) (by simp) (AllReadyH.cons (o := { dst := some 44, op := Op.call { callee := Callee.value (Operand.func 28), args := #[Operand.tmp 43], argTypes := #[34] }, type := 47, pos := "ref.go:21", after := #[{ on := 17, ground := Ground.data }, { on := 11, ground := Ground.chain }], guard := none }) rfl (fun K hK => ?_) AllReadyH.nil)
                  go_simp
                  go_at_call 28
                  refine (hEa _).mono ?_
                  rintro _ x5 ⟨o18, c18, rfl, hn, hb⟩
                  have K18 := hn.rd
                  replace hS := TS.below hS hlt hb
                  replace KC := RdV.below KC hb
                  replace K4 := RdV.below K4 hb
                  replace K14 := RdV.below K14 hb
                  replace K11 := RdV.below K11 hb
                  replace K7 := RdV.below K7 hb
                  replace hlt := Nat.lt_of_lt_of_le hlt hb.size
                  replace hB := hB.trans (hb.mono hB.size)
                  clear hn hb
                  dsimp only
                  refine hK.out _ _ hS (fun hh => ?_)
                  clear hK K hh
                  try simp only [Act.put, List.setIfInBounds_toArray, List.set_cons_zero, List.set_cons_succ]
                  refine wpAnyH_ready (rs := [22]) (by kernel_rfl) (by simp) (AllReadyH.cons (o := { dst := some 48, op := Op.call { callee := Callee.value (Operand.func 28), args := #[Operand.tmp 47], argTypes := #[34] }, type := 47, pos := "ref.go:21", after := #[{ on := 21, ground := Ground.data }, { on := 18, ground := Ground.chain }], guard := none }) rfl (fun K hK => ?_) AllReadyH.nil)
                  go_simp
                  go_at_call 28
                  refine (hEb _).mono ?_
                  rintro _ x6 ⟨o22, c22, rfl, hn, hb⟩
                  have K22 := hn.rd
                  replace hS := TS.below hS hlt hb
                  replace KC := RdV.below KC hb
                  replace K4 := RdV.below K4 hb
                  replace K14 := RdV.below K14 hb
                  replace K11 := RdV.below K11 hb
                  replace K7 := RdV.below K7 hb
                  replace K18 := RdV.below K18 hb
                  replace hlt := Nat.lt_of_lt_of_le hlt hb.size
                  replace hB := hB.trans (hb.mono hB.size)
                  clear hn hb
                  dsimp only
                  refine hK.out _ _ hS (fun hh => ?_)
                  clear hK K hh
                  try simp only [Act.put, List.setIfInBounds_toArray, List.set_cons_zero, List.set_cons_succ]
                  refine wpAnyH_ready (rs := [23]) (by kernel_rfl) (by simp) (AllReadyH.cons (o := { dst := some 49, op := Op.buildSlice 78 7 #[(0, Operand.tmp 26), (1, Operand.tmp 30), (2, Operand.tmp 33), (3, Operand.tmp 37), (4, Operand.tmp 40), (5, Operand.tmp 44), (6, Operand.tmp 48)], type := 78, pos := "ref.go:21", after := #[{ on := 0, ground := Ground.data }, { on := 4, ground := Ground.data }, { on := 7, ground := Ground.data }, { on := 11, ground := Ground.data }, { on := 14, ground := Ground.data }, { on := 18, ground := Ground.data }, { on := 22, ground := Ground.data }], guard := none }) rfl (fun K hK => ?_) AllReadyH.nil)
                  go_simp
                  refine hK.out _ _ (TS.below hS hlt ((Below.refl _ _).alloc (Nat.le_refl _) _)) (fun hh => ?_)
                  clear hK K hh
                  try simp only [Act.put, List.setIfInBounds_toArray, List.set_cons_zero, List.set_cons_succ]
                  refine wpAnyH_ready (rs := [24]) (by kernel_rfl) (by simp) (AllReadyH.cons (o := { dst := some 50, op := Op.call { callee := Callee.value (Operand.func 26), args := #[Operand.tmp 49], argTypes := #[78] }, type := 47, pos := "ref.go:21", after := #[{ on := 23, ground := Ground.data }, { on := 22, ground := Ground.chain }], guard := none }) rfl (fun K hK => ?_) AllReadyH.nil)
                  go_simp
                  go_at_call 26
                  have hJ := joinN_any [.slice ao cs.length cap, .slice o4 T1.length c4, .slice o7 ts.toList.length c7, .slice o11 T2.length c11, .slice o14 tf.toList.length c14, .slice o18 A8.length c18, .slice o22 B8.length c22] [cs, T1, ts.toList, T2, tf.toList, A8, B8] 7 47 x6 rfl (by decide) (Pcs.cons KC (Pcs.cons K4 (Pcs.cons K7 (Pcs.cons K11 (Pcs.cons K14 (Pcs.cons K18 (Pcs.cons K22 Pcs.nil))))))) hlen.out
                  rw [hfl.out] at hJ
                  refine hJ.mono ?_
                  rintro _ x8 ⟨ao9, ac9, rfl, hn, hb⟩
                  have HO9 := Lib.hid (ownsRow_mono hn hB.size)
                  have HB9 := Lib.hid (hB.trans (hb.mono hB.size))
                  replace hS := TS.below hS hlt hb
                  clear hn hb hJ
                  dsimp only
                  refine hK.out _ _ hS (fun hh => ?_)
                  clear hK K hh
                  try simp only [Act.put, List.setIfInBounds_toArray, List.set_cons_zero, List.set_cons_succ]
                  refine wpAnyH_take (i := 25) (oi := { dst := some 4, op := Op.assign (Operand.tmp 50), type := 47, pos := "ref.go:21", after := #[{ on := 24, ground := Ground.data }, { on := 24, ground := Ground.chain }, { on := 0, ground := Ground.phase }, { on := 1, ground := Ground.phase }, { on := 2, ground := Ground.phase }, { on := 3, ground := Ground.phase }, { on := 4, ground := Ground.phase }, { on := 5, ground := Ground.phase }, { on := 6, ground := Ground.phase }, { on := 7, ground := Ground.phase }, { on := 8, ground := Ground.phase }, { on := 9, ground := Ground.phase }, { on := 10, ground := Ground.phase }, { on := 11, ground := Ground.phase }, { on := 12, ground := Ground.phase }, { on := 13, ground := Ground.phase }, { on := 14, ground := Ground.phase }, { on := 15, ground := Ground.phase }, { on := 16, ground := Ground.phase }, { on := 17, ground := Ground.phase }, { on := 18, ground := Ground.phase }, { on := 19, ground := Ground.phase }, { on := 20, ground := Ground.phase }, { on := 21, ground := Ground.phase }, { on := 22, ground := Ground.phase }, { on := 23, ground := Ground.phase }, { on := 24, ground := Ground.phase }], guard := none }) (v := ?_) rfl (by kernel_rfl) (by kernel_rfl) (by kernel_rfl) (fun _ _ _ h => h) (Or.inl ⟨by rfl, ?_⟩) hS ?_
                  rotate_left
                  · intro w hSw; (try dsimp only at hSw); go_simp; try with_reducible rfl
                  try simp only [Act.put, List.setIfInBounds_toArray, List.set_cons_zero, List.set_cons_succ]
                  refine wpAnyH_done (by kernel_rfl) ?_ _
                  go_wp2_with fail
                  go_roundg (gk - 1)
                  case measure => go_light; omega
                  case rel =>
                    go_light
                    exact ⟨k + 1, C, ao9, ac9, by omega, by go_num, rfl, HCC, HFA, HO9, HB9⟩
                · skip
                  go_simp
                  go_at_call 28
                  refine (hEa _).mono ?_
                  rintro _ x4 ⟨o18, c18, rfl, hn, hb⟩
                  have K18 := hn.rd
                  replace hS := TS.below hS hlt hb
                  replace KC := RdV.below KC hb
                  replace K4 := RdV.below K4 hb
                  replace K14 := RdV.below K14 hb
                  replace K11 := RdV.below K11 hb
                  replace hlt := Nat.lt_of_lt_of_le hlt hb.size
                  replace hB := hB.trans (hb.mono hB.size)
                  clear hn hb
                  dsimp only
                  refine hK.out _ _ hS (fun hh => ?_)
                  clear hK K hh
                  try simp only [Act.put, List.setIfInBounds_toArray, List.set_cons_zero, List.set_cons_succ]
                  refine wpAnyH_ready (rs := [7, 22]) (by kernel_rfl) (by simp) (AllReadyH.cons (o := { dst := some 33, op := Op.convert 9 47 (Operand.tmp 32), type := 47, pos := "ref.go:21", after := #[{ on := 6, ground := Ground.data }], guard := none }) rfl (fun K hK => ?_) (AllReadyH.cons (o := { dst := some 48, op := Op.call { callee := Callee.value (Operand.func 28), args := #[Operand.tmp 47], argTypes := #[34] }, type := 47, pos := "ref.go:21", after := #[{ on := 21, ground := Ground.data }, { on := 18, ground := Ground.chain }], guard := none }) rfl (fun K hK => ?_) AllReadyH.nil))
                  · skip
                    obtain ⟨o7, c7, x5, hr, K7, hb⟩ := strBytes_any ts x4 hss
                    go_simp
                    clear hr
                    replace hS := TS.below hS hlt hb
                    replace KC := RdV.below KC hb
                    replace K4 := RdV.below K4 hb
                    replace K14 := RdV.below K14 hb
                    replace K11 := RdV.below K11 hb
                    replace K18 := RdV.below K18 hb
                    replace hlt := Nat.lt_of_lt_of_le hlt hb.size
                    replace hB := hB.trans (hb.mono hB.size)
                    clear hb
                    refine hK.out _ _ hS (fun hh => ?_)
                    clear hK K hh
                    try simp only [Act.put, List.setIfInBounds_toArray, List.set_cons_zero, List.set_cons_succ]
                    refine wpAnyH_ready (rs := [22]) (by kernel_rfl) (by simp) (AllReadyH.cons (o := { dst := some 48, op := Op.call { callee := Callee.value (Operand.func 28), args := #[Operand.tmp 47], argTypes := #[34] }, type := 47, pos := "ref.go:21", after := #[{ on := 21, ground := Ground.data }, { on := 18, ground := Ground.chain }], guard := none }) rfl (fun K hK => ?_) AllReadyH.nil)
                    go_simp
                    go_at_call 28
                    refine (hEb _).mono ?_
                    rintro _ x6 ⟨o22, c22, rfl, hn, hb⟩
                    have K22 := hn.rd
                    replace hS := TS.below hS hlt hb
                    replace KC := RdV.below KC hb
                    replace K4 := RdV.below K4 hb
                    replace K14 := RdV.below K14 hb
                    replace K11 := RdV.below K11 hb
                    replace K18 := RdV.below K18 hb
                    replace K7 := RdV.below K7 hb
                    replace hlt := Nat.lt_of_lt_of_le hlt hb.size
                    replace hB := hB.trans (hb.mono hB.size)
                    clear hn hb
                    dsimp only
                    refine hK.out _ _ hS (fun hh => ?_)
                    clear hK K hh
                    try simp only [Act.put, List.setIfInBounds_toArray, List.set_cons_zero, List.set_cons_succ]
                    refine wpAnyH_ready (rs := [23]) (by kernel_rfl) (by simp) (AllReadyH.cons (o := { dst := some 49, op := Op.buildSlice 78 7 #[(0, Operand.tmp 26), (1, Operand.tmp 30), (2, Operand.tmp 33), (3, Operand.tmp 37), (4, Operand.tmp 40), (5, Operand.tmp 44), (6, Operand.tmp 48)], type := 78, pos := "ref.go:21", after := #[{ on := 0, ground := Ground.data }, { on := 4, ground := Ground.data }, { on := 7, ground := Ground.data }, { on := 11, ground := Ground.data }, { on := 14, ground := Ground.data }, { on := 18, ground := Ground.data }, { on := 22, ground := Ground.data }], guard := none }) rfl (fun K hK => ?_) AllReadyH.nil)
                    go_simp
                    refine hK.out _ _ (TS.below hS hlt ((Below.refl _ _).alloc (Nat.le_refl _) _)) (fun hh => ?_)
                    clear hK K hh
                    try simp only [Act.put, List.setIfInBounds_toArray, List.set_cons_zero, List.set_cons_succ]
                    refine wpAnyH_ready (rs := [24]) (by kernel_rfl) (by simp) (AllReadyH.cons (o := { dst := some 50, op := Op.call { callee := Callee.value (Operand.func 26), args := #[Operand.tmp 49], argTypes := #[78] }, type := 47, pos := "ref.go:21", after := #[{ on := 23, ground := Ground.data }, { on := 22, ground := Ground.chain }], guard := none }) rfl (fun K hK => ?_) AllReadyH.nil)
                    go_simp
                    go_at_call 26
                    have hJ := joinN_any [.slice ao cs.length cap, .slice o4 T1.length c4, .slice o7 ts.toList.length c7, .slice o11 T2.length c11, .slice o14 tf.toList.length c14, .slice o18 A8.length c18, .slice o22 B8.length c22] [cs, T1, ts.toList, T2, tf.toList, A8, B8] 7 47 x6 rfl (by decide) (Pcs.cons KC (Pcs.cons K4 (Pcs.cons K7 (Pcs.cons K11 (Pcs.cons K14 (Pcs.cons K18 (Pcs.cons K22 Pcs.nil))))))) hlen.out
                    rw [hfl.out] at hJ
                    refine hJ.mono ?_
                    rintro _ x8 ⟨ao9, ac9, rfl, hn, hb⟩
                    have HO9 := Lib.hid (ownsRow_mono hn hB.size)
                    have HB9 := Lib.hid (hB.trans (hb.mono hB.size))
                    replace hS := TS.below hS hlt hb
                    clear hn hb hJ
                    dsimp only
                    refine hK.out _ _ hS (fun hh => ?_)
                    clear hK K hh
                    try simp only [Act.put, List.setIfInBounds_toArray, List.set_cons_zero, List.set_cons_succ]
                    refine wpAnyH_take (i := 25) (oi := { dst := some 4, op := Op.assign (Operand.tmp 50), type := 47, pos := "ref.go:21", after := #[{ on := 24, ground := Ground.data }, { on := 24, ground := Ground.chain }, { on := 0, ground := Ground.phase }, { on := 1, ground := Ground.phase }, { on := 2, ground := Ground.phase }, { on := 3, ground := Ground.phase }, { on := 4, ground := Ground.phase }, { on := 5, ground := Ground.phase }, { on := 6, ground := Ground.phase }, { on := 7, ground := Ground.phase }, { on := 8, ground := Ground.phase }, { on := 9, ground := Ground.phase }, { on := 10, ground := Ground.phase }, { on := 11, ground := Ground.phase }, { on := 12, ground := Ground.phase }, { on := 13, ground := Ground.phase }, { on := 14, ground := Ground.phase }, { on := 15, ground := Ground.phase }, { on := 16, ground := Ground.phase }, { on := 17, ground := Ground.phase }, { on := 18, ground := Ground.phase }, { on := 19, ground := Ground.phase }, { on := 20, ground := Ground.phase }, { on := 21, ground := Ground.phase }, { on := 22, ground := Ground.phase }, { on := 23, ground := Ground.phase }, { on := 24, ground := Ground.phase }], guard := none }) (v := ?_) rfl (by kernel_rfl) (by kernel_rfl) (by kernel_rfl) (fun _ _ _ h => h) (Or.inl ⟨by rfl, ?_⟩) hS ?_
                    rotate_left
                    · intro w hSw; (try dsimp only at hSw); go_simp; try with_reducible rfl
                    try simp only [Act.put, List.setIfInBounds_toArray, List.set_cons_zero, List.set_cons_succ]
                    refine wpAnyH_done (by kernel_rfl) ?_ _
                    go_wp2_with fail
                    go_roundg (gk - 1)
                    case measure => go_light; omega
                    case rel =>
                      go_light
                      exact ⟨k + 1, C, ao9, ac9, by omega, by go_num, rfl, HCC, HFA, HO9, HB9⟩
                  · skip
                    go_simp
                    go_at_call 28
                    refine (hEb _).mono ?_
                    rintro _ x5 ⟨o22, c22, rfl, hn, hb⟩
                    have K22 := hn.rd
                    replace hS := TS.below hS hlt hb
                    replace KC := RdV.below KC hb
                    replace K4 := RdV.below K4 hb
                    replace K14 := RdV.below K14 hb
                    replace K11 := RdV.below K11 hb
                    replace K18 := RdV.below K18 hb
                    replace hlt := Nat.lt_of_lt_of_le hlt hb.size
                    replace hB := hB.trans (hb.mono hB.size)
                    clear hn hb
                    dsimp only
                    refine hK.out _ _ hS (fun hh => ?_)
                    clear hK K hh
                    try simp only [Act.put, List.setIfInBounds_toArray, List.set_cons_zero, List.set_cons_succ]
                    refine wpAnyH_ready (rs := [7]) (by kernel_rfl) (by simp) (AllReadyH.cons (o := { dst := some 33, op := Op.convert 9 47 (Operand.tmp 32), type := 47, pos := "ref.go:21", after := #[{ on := 6, ground := Ground.data }], guard := none }) rfl (fun K hK => ?_) AllReadyH.nil)
                    obtain ⟨o7, c7, x6, hr, K7, hb⟩ := strBytes_any ts x5 hss
                    go_simp
                    clear hr
                    replace hS := TS.below hS hlt hb
                    replace KC := RdV.below KC hb
                    replace K4 := RdV.below K4 hb
                    replace K14 := RdV.below K14 hb
                    replace K11 := RdV.below K11 hb
                    replace K18 := RdV.below K18 hb
                    replace K22 := RdV.below K22 hb
                    replace hlt := Nat.lt_of_lt_of_le hlt hb.size
                    replace hB := hB.trans (hb.mono hB.size)
                    clear hb
                    refine hK.out _ _ hS (fun hh => ?_)
                    clear hK K hh
                    try simp only [Act.put, List.setIfInBounds_toArray, List.set_cons_zero, List.set_cons_succ]
                    refine wpAnyH_ready (rs := [23]) (by kernel_rfl) (by simp) (AllReadyH.cons (o := { dst := some 49, op := Op.buildSlice 78 7 #[(0, Operand.tmp 26), (1, Operand.tmp 30), (2, Operand.tmp 33), (3, Operand.tmp 37), (4, Operand.tmp 40), (5, Operand.tmp 44), (6, Operand.tmp 48)], type := 78, pos := "ref.go:21", after := #[{ on := 0, ground := Ground.data }, { on := 4, ground := Ground.data }, { on := 7, ground := Ground.data }, { on := 11, ground := Ground.data }, { on := 14, ground := Ground.data }, { on := 18, ground := Ground.data }, { on := 22, ground := Ground.data }], guard := none }) rfl (fun K hK => ?_) AllReadyH.nil)
                    go_simp
                    refine hK.out _ _ (TS.below hS hlt ((Below.refl _ _).alloc (Nat.le_refl _) _)) (fun hh => ?_)
                    clear hK K hh
                    try simp only [Act.put, List.setIfInBounds_toArray, List.set_cons_zero, List.set_cons_succ]
                    refine wpAnyH_ready (rs := [24]) (by kernel_rfl) (by simp) (AllReadyH.cons (o := { dst := some 50, op := Op.call { callee := Callee.value (Operand.func 26), args := #[Operand.tmp 49], argTypes := #[78] }, type := 47, pos := "ref.go:21", after := #[{ on := 23, ground := Ground.data }, { on := 22, ground := Ground.chain }], guard := none }) rfl (fun K hK => ?_) AllReadyH.nil)
                    go_simp
                    go_at_call 26
                    have hJ := joinN_any [.slice ao cs.length cap, .slice o4 T1.length c4, .slice o7 ts.toList.length c7, .slice o11 T2.length c11, .slice o14 tf.toList.length c14, .slice o18 A8.length c18, .slice o22 B8.length c22] [cs, T1, ts.toList, T2, tf.toList, A8, B8] 7 47 x6 rfl (by decide) (Pcs.cons KC (Pcs.cons K4 (Pcs.cons K7 (Pcs.cons K11 (Pcs.cons K14 (Pcs.cons K18 (Pcs.cons K22 Pcs.nil))))))) hlen.out
                    rw [hfl.out] at hJ
                    refine hJ.mono ?_
                    rintro _ x8 ⟨ao9, ac9, rfl, hn, hb⟩
                    have HO9 := Lib.hid (ownsRow_mono hn hB.size)
                    have HB9 := Lib.hid (hB.trans (hb.mono hB.size))
                    replace hS := TS.below hS hlt hb
                    clear hn hb hJ
                    dsimp only
                    refine hK.out _ _ hS (fun hh => ?_)
                    clear hK K hh
                    try simp only [Act.put, List.setIfInBounds_toArray, List.set_cons_zero, List.set_cons_succ]
                    refine wpAnyH_take (i := 25) (oi := { dst := some 4, op := Op.assign (Operand.tmp 50), type := 47, pos := "ref.go:21", after := #[{ on := 24, ground := Ground.data }, { on := 24, ground := Ground.chain }, { on := 0, ground := Ground.phase }, { on := 1, ground := Ground.phase }, { on := 2, ground := Ground.phase }, { on := 3, ground := Ground.phase }, { on := 4, ground := Ground.phase }, { on := 5, ground := Ground.phase }, { on := 6, ground := Ground.phase }, { on := 7, ground := Ground.phase }, { on := 8, ground := Ground.phase }, { on := 9, ground := Ground.phase }, { on := 10, ground := Ground.phase }, { on := 11, ground := Ground.phase }, { on := 12, ground := Ground.phase }, { on := 13, ground := Ground.phase }, { on := 14, ground := Ground.phase }, { on := 15, ground := Ground.phase }, { on := 16, ground := Ground.phase }, { on := 17, ground := Ground.phase }, { on := 18, ground := Ground.phase }, { on := 19, ground := Ground.phase }, { on := 20, ground := Ground.phase }, { on := 21, ground := Ground.phase }, { on := 22, ground := Ground.phase }, { on := 23, ground := Ground.phase }, { on := 24, ground := Ground.phase }], guard := none }) (v := ?_) rfl (by kernel_rfl) (by kernel_rfl) (by kernel_rfl) (fun _ _ _ h => h) (Or.inl ⟨by rfl, ?_⟩) hS ?_
                    rotate_left
                    · intro w hSw; (try dsimp only at hSw); go_simp; try with_reducible rfl
                    try simp only [Act.put, List.setIfInBounds_toArray, List.set_cons_zero, List.set_cons_succ]
                    refine wpAnyH_done (by kernel_rfl) ?_ _
                    go_wp2_with fail
                    go_roundg (gk - 1)
                    case measure => go_light; omega
                    case rel =>
                      go_light
                      exact ⟨k + 1, C, ao9, ac9, by omega, by go_num, rfl, HCC, HFA, HO9, HB9⟩
          · skip
            obtain ⟨o7, c7, x1, hr, K7, hb⟩ := strBytes_any ts x0 hss
            go_simp
            clear hr
            replace hS := TS.below hS hlt hb
            replace KC := RdV.below KC hb
            replace hlt := Nat.lt_of_lt_of_le hlt hb.size
            replace hB := hB.trans (hb.mono hB.size)
            clear hb
            refine hK.out _ _ hS (fun hh => ?_)
            clear hK K hh
            try simp only [Act.put, List.setIfInBounds_toArray, List.set_cons_zero, List.set_cons_succ]
            refine wpAnyH_ready (rs := [4, 14]) (by kernel_rfl) (by simp) (AllReadyH.cons (o := { dst := some 30, op := Op.call { callee := Callee.value (Operand.func 27), args := #[Operand.tmp 29], argTypes := #[3] }, type := 47, pos := "ref.go:21", after := #[{ on := 3, ground := Ground.data }], guard := none }) rfl (fun K hK => ?_) (AllReadyH.cons (o := { dst := some 40, op := Op.convert 9 47 (Operand.tmp 39), type := 47, pos := "ref.go:21", after := #[{ on := 13, ground := Ground.data }], guard := none }) rfl (fun K hK => ?_) AllReadyH.nil))
            · skip
              go_simp
              go_at_call 27
              refine (hTs _).mono ?_
              rintro _ x2 ⟨o4, c4, rfl, hn, hb⟩
              have K4 := hn.rd
              replace hS := TS.below hS hlt hb
              replace KC := RdV.below KC hb
              replace K7 := RdV.below K7 hb
              replace hlt := Nat.lt_of_lt_of_le hlt hb.size
              replace hB := hB.trans (hb.mono hB.size)
              clear hn hb
              dsimp only
              refine hK.out _ _ hS (fun hh => ?_)
              clear hK K hh
              try simp only [Act.put, List.setIfInBounds_toArray, List.set_cons_zero, List.set_cons_succ]
              refine wpAnyH_ready (rs := [11, 14]) (by kernel_rfl) (by simp) (AllReadyH.cons (o := { dst := some 37, op := Op.call { callee := Callee.value (Operand.func 27), args := #[Operand.tmp 36], argTypes := #[3] }, type := 47, pos := "ref.go:21", after := #[{ on := 10, ground := Ground.data }, { on := 4, ground := Ground.chain }], guard := none }) rfl (fun K hK => ?_) (AllReadyH.cons (o := { dst := some 40, op := Op.convert 9 47 (Operand.tmp 39), type := 47, pos := "ref.go:21", after := #[{ on := 13, ground := Ground.data }], guard := none }) rfl (fun K hK => ?_) AllReadyH.nil))
              · skip
                go_simp
                go_at_call 27
                refine (hTf _).mono ?_
                rintro _ x3 ⟨o11, c11, rfl, hn, hb⟩
                have K11 := hn.rd
                replace hS := TS.below hS hlt hb
                replace KC := RdV.below KC hb
                replace K7 := RdV.below K7 hb
                replace K4 := RdV.below K4 hb
                replace hlt := Nat.lt_of_lt_of_le hlt hb.size
                replace hB := hB.trans (hb.mono hB.size)
                clear hn hb
                dsimp only
                refine hK.out _ _ hS (fun hh => ?_)
                clear hK K hh
                try simp only [Act.put, List.setIfInBounds_toArray, List.set_cons_zero, List.set_cons_succ]
                refine wpAnyH_ready (rs := [14, 18]) (by kernel_rfl) (by simp) (AllReadyH.cons (o := { dst := some 40, op := Op.convert 9 47 (Operand.tmp 39), type := 47, pos := "ref.go:21", after := #[{ on := 13, ground := Ground.data }], guard := none }) rfl (fun K hK => ?_) (AllReadyH.cons (o := { dst := some 44, op := Op.call { callee := Callee.value (Operand.func 28), args := #[Operand.tmp 43], argTypes := #[34] }, type := 47, pos := "ref.go:21", after := #[{ on := 17, ground := Ground.data }, { on := 11, ground := Ground.chain }], guard := none }) rfl (fun K hK => ?_) AllReadyH.nil))
                · skip
                  obtain ⟨o14, c14, x4, hr, K14, hb⟩ := strBytes_any tf x3 hsf
                  go_simp
                  clear hr
                  replace hS := TS.below hS hlt hb
                  replace KC := RdV.below KC hb
                  replace K7 := RdV.below K7 hb
                  replace K4 := RdV.below K4 hb
                  replace K11 := RdV.below K11 hb
                  replace hlt := Nat.lt_of_lt_of_le hlt hb.size
                  replace hB := hB.trans (hb.mono hB.size)
                  clear hb
                  refine hK.out _ _ hS (fun hh => ?_)
                  clear hK K hh
                  try simp only [Act.put, List.setIfInBounds_toArray, List.set_cons_zero, List.set_cons_succ]
                  refine wpAnyH_ready (rs := [18]) (by kernel_rfl) (by simp) (AllReadyH.cons (o := { dst := some 44, op := Op.call { callee := Callee.value (Operand.func 28), args := #[Operand.tmp 43], argTypes := #[34] }, type := 47, pos := "ref.go:21", after := #[{ on := 17, ground := Ground.data }, { on := 11, ground := Ground.chain }], guard := none }) rfl (fun K hK => ?_) AllReadyH.nil)
                  go_simp
                  go_at_call 28
                  refine (hEa _).mono ?_
                  rintro _ x5 ⟨o18, c18, rfl, hn, hb⟩
                  have K18 := hn.rd
                  replace hS := TS.below hS hlt hb
                  replace KC := RdV.below KC hb
                  replace K7 := RdV.below K7 hb
                  replace K4 := RdV.below K4 hb
                  replace K11 := RdV.below K11 hb
                  replace K14 := RdV.below K14 hb
                  replace hlt := Nat.lt_of_lt_of_le hlt hb.size
                  replace hB := hB.trans (hb.mono hB.size)
                  clear hn hb
                  dsimp only
                  refine hK.out _ _ hS (fun hh => ?_)
                  clear hK K hh
                  try simp only [Act.put, List.setIfInBounds_toArray, List.set_cons_zero, List.set_cons_succ]
                  refine wpAnyH_ready (rs := [22]) (by kernel_rfl) (by simp) (AllReadyH.cons (o := { dst := some 48, op := Op.call { callee := Callee.value (Operand.func 28), args := #[Operand.tmp 47], argTypes := #[34] }, type := 47, pos := "ref.go:21", after := #[{ on := 21, ground := Ground.data }, { on := 18, ground := Ground.chain }], guard := none }) rfl (fun K hK => ?_) AllReadyH.nil)
                  go_simp
                  go_at_call 28
                  refine (hEb _).mono ?_
                  rintro _ x6 ⟨o22, c22, rfl, hn, hb⟩
                  have K22 := hn.rd
                  replace hS := TS.below hS hlt hb
                  replace KC := RdV.below KC hb
                  replace K7 := RdV.below K7 hb
                  replace K4 := RdV.below K4 hb
                  replace K11 := RdV.below K11 hb
                  replace K14 := RdV.below K14 hb
                  replace K18 := RdV.below K18 hb
                  replace hlt := Nat.lt_of_lt_of_le hlt hb.size
                  replace hB := hB.trans (hb.mono hB.size)
                  clear hn hb
                  dsimp only
                  refine hK.out _ _ hS (fun hh => ?_)
                  clear hK K hh
                  try simp only [Act.put, List.setIfInBounds_toArray, List.set_cons_zero, List.set_cons_succ]
                  refine wpAnyH_ready (rs := [23]) (by kernel_rfl) (by simp) (AllReadyH.cons (o := { dst := some 49, op := Op.buildSlice 78 7 #[(0, Operand.tmp 26), (1, Operand.tmp 30), (2, Operand.tmp 33), (3, Operand.tmp 37), (4, Operand.tmp 40), (5, Operand.tmp 44), (6, Operand.tmp 48)], type := 78, pos := "ref.go:21", after := #[{ on := 0, ground := Ground.data }, { on := 4, ground := Ground.data }, { on := 7, ground := Ground.data }, { on := 11, ground := Ground.data }, { on := 14, ground := Ground.data }, { on := 18, ground := Ground.data }, { on := 22, ground := Ground.data }], guard := none }) rfl (fun K hK => ?_) AllReadyH.nil)
                  go_simp
                  refine hK.out _ _ (TS.below hS hlt ((Below.refl _ _).alloc (Nat.le_refl _) _)) (fun hh => ?_)
                  clear hK K hh
                  try simp only [Act.put, List.setIfInBounds_toArray, List.set_cons_zero, List.set_cons_succ]
                  refine wpAnyH_ready (rs := [24]) (by kernel_rfl) (by simp) (AllReadyH.cons (o := { dst := some 50, op := Op.call { callee := Callee.value (Operand.func 26), args := #[Operand.tmp 49], argTypes := #[78] }, type := 47, pos := "ref.go:21", after := #[{ on := 23, ground := Ground.data }, { on := 22, ground := Ground.chain }], guard := none }) rfl (fun K hK => ?_) AllReadyH.nil)
                  go_simp
                  go_at_call 26
                  have hJ := joinN_any [.slice ao cs.length cap, .slice o4 T1.length c4, .slice o7 ts.toList.length c7, .slice o11 T2.length c11, .slice o14 tf.toList.length c14, .slice o18 A8.length c18, .slice o22 B8.length c22] [cs, T1, ts.toList, T2, tf.toList, A8, B8] 7 47 x6 rfl (by decide) (Pcs.cons KC (Pcs.cons K4 (Pcs.cons K7 (Pcs.cons K11 (Pcs.cons K14 (Pcs.cons K18 (Pcs.cons K22 Pcs.nil))))))) hlen.out
                  rw [hfl.out] at hJ
                  refine hJ.mono ?_
                  rintro _ x8 ⟨ao9, ac9, rfl, hn, hb⟩
                  have HO9 := Lib.hid (ownsRow_mono hn hB.size)
                  have HB9 := Lib.hid (hB.trans (hb.mono hB.size))
                  replace hS := TS.below hS hlt hb
                  clear hn hb hJ
                  dsimp only
                  refine hK.out _ _ hS (fun hh => ?_)
                  clear hK K hh
                  try simp only [Act.put, List.setIfInBounds_toArray, List.set_cons_zero, List.set_cons_succ]
                  refine wpAnyH_take (i := 25) (oi := { dst := some 4, op := Op.assign (Operand.tmp 50), type := 47, pos := "ref.go:21", after := #[{ on := 24, ground := Ground.data }, { on := 24, ground := Ground.chain }, { on := 0, ground := Ground.phase }, { on := 1, ground := Ground.phase }, { on := 2, ground := Ground.phase }, { on := 3, ground := Ground.phase }, { on := 4, ground := Ground.phase }, { on := 5, ground := Ground.phase }, { on := 6, ground := Ground.phase }, { on := 7, ground := Ground.phase }, { on := 8, ground := Ground.phase }, { on := 9, ground := Ground.phase }, { on := 10, ground := Ground.phase }, { on := 11, ground := Ground.phase }, { on := 12, ground := Ground.phase }, { on := 13, ground := Ground.phase }, { on := 14, ground := Ground.phase }, { on := 15, ground := Ground.phase }, { on := 16, ground := Ground.phase }, { on := 17, ground := Ground.phase }, { on := 18, ground := Ground.phase }, { on := 19, ground := Ground.phase }, { on := 20, ground := Ground.phase }, { on := 21, ground := Ground.phase }, { on := 22, ground := Ground.phase }, { on := 23, ground := Ground.phase }, { on := 24, ground := Ground.phase }], guard := none }) (v := ?_) rfl (by kernel_rfl) (by kernel_rfl) (by kernel_rfl) (fun _ _ _ h => h) (Or.inl ⟨by rfl, ?_⟩) hS ?_
                  rotate_left
                  · intro w hSw; (try dsimp only at hSw); go_simp; try with_reducible rfl
                  try simp only [Act.put, List.setIfInBounds_toArray, List.set_cons_zero, List.set_cons_succ]
                  refine wpAnyH_done (by kernel_rfl) ?_ _
                  go_wp2_with fail
                  go_roundg (gk - 1)
                  case measure => go_light; omega
                  case rel =>
                    go_light
                    exact ⟨k + 1, C, ao9, ac9, by omega, by go_num, rfl, HCC, HFA, HO9, HB9⟩
                · skip
                  go_simp
                  go_at_call 28
                  refine (hEa _).mono ?_
                  rintro _ x4 ⟨o18, c18, rfl, hn, hb⟩
                  have K18 := hn.rd
                  replace hS := TS.below hS hlt hb
                  replace KC := RdV.below KC hb
                  replace K7 := RdV.below K7 hb
                  replace K4 := RdV.below K4 hb
                  replace K11 := RdV.below K11 hb
                  replace hlt := Nat.lt_of_lt_of_le hlt hb.size
                  replace hB := hB.trans (hb.mono hB.size)
                  clear hn hb
                  dsimp only
                  refine hK.out _ _ hS (fun hh => ?_)
                  clear hK K hh
                  try simp only [Act.put, List.setIfInBounds_toArray, List.set_cons_zero, List.set_cons_succ]
                  refine wpAnyH_ready (rs := [14, 22]) (by kernel_rfl) (by simp) (AllReadyH.cons (o := { dst := some 40, op := Op.convert 9 47 (Operand.tmp 39), type := 47, pos := "ref.go:21", after := #[{ on := 13, ground := Ground.data }], guard := none }) rfl (fun K hK => ?_) (AllReadyH.cons (o := { dst := some 48, op := Op.call { callee := Callee.value (Operand.func 28), args := #[Operand.tmp 47], argTypes := #[34] }, type := 47, pos := "ref.go:21", after := #[{ on := 21, ground := Ground.data }, { on := 18, ground := Ground.chain }], guard := none }) rfl (fun K hK => ?_) AllReadyH.nil))
                  · skip
                    obtain ⟨o14, c14, x5, hr, K14, hb⟩ := strBytes_any tf x4 hsf
                    go_simp
                    clear hr
                    replace hS := TS.below hS hlt hb
                    replace KC := RdV.below KC hb
                    replace K7 := RdV.below K7 hb
                    replace K4 := RdV.below K4 hb
                    replace K11 := RdV.below K11 hb
                    replace K18 := RdV.below K18 hb
                    replace hlt := Nat.lt_of_lt_of_le hlt hb.size
                    replace hB := hB.trans (hb.mono hB.size)
                    clear hb
                    refine hK.out _ _ hS (fun hh => ?_)
                    clear hK K hh
                    try simp only [Act.put, List.setIfInBounds_toArray, List.set_cons_zero, List.set_cons_succ]
                    refine wpAnyH_ready (rs := [22]) (by kernel_rfl) (by simp) (AllReadyH.cons (o := { dst := some 48, op := Op.call { callee := Callee.value (Operand.func 28), args := #[Operand.tmp 47], argTypes := #[34] }, type := 47, pos := "ref.go:21", after := #[{ on := 21, ground := Ground.data }, { on := 18, ground := Ground.chain }], guard := none }) rfl (fun K hK => ?_) AllReadyH.nil)
                    go_simp
                    go_at_call 28
                    refine (hEb _).mono ?_
                    rintro _ x6 ⟨o22, c22, rfl, hn, hb⟩
                    have K22 := hn.rd
                    replace hS := TS.below hS hlt hb
                    replace KC := RdV.below KC hb
                    replace K7 := RdV.below K7 hb
                    replace K4 := RdV.below K4 hb
                    replace K11 := RdV.below K11 hb
                    replace K18 := RdV.below K18 hb
                    replace K14 := RdV.below K14 hb
                    replace hlt := Nat.lt_of_lt_of_le hlt hb.size
                    replace hB := hB.trans (hb.mono hB.size)
                    clear hn hb
                    dsimp only
                    refine hK.out _ _ hS (fun hh => ?_)
                    clear hK K hh
                    try simp only [Act.put, List.setIfInBounds_toArray, List.set_cons_zero, List.set_cons_succ]
                    refine wpAnyH_ready (rs := [23]) (by kernel_rfl) (by simp) (AllReadyH.cons (o := { dst := some 49, op := Op.buildSlice 78 7 #[(0, Operand.tmp 26), (1, Operand.tmp 30), (2, Operand.tmp 33), (3, Operand.tmp 37), (4, Operand.tmp 40), (5, Operand.tmp 44), (6, Operand.tmp 48)], type := 78, pos := "ref.go:21", after := #[{ on := 0, ground := Ground.data }, { on := 4, ground := Ground.data }, { on := 7, ground := Ground.data }, { on := 11, ground := Ground.data }, { on := 14, ground := Ground.data }, { on := 18, ground := Ground.data }, { on := 22, ground := Ground.data }], guard := none }) rfl (fun K hK => ?_) AllReadyH.nil)
                    go_simp
                    refine hK.out _ _ (TS.below hS hlt ((Below.refl _ _).alloc (Nat.le_refl _) _)) (fun hh => ?_)
                    clear hK K hh
                    try simp only [Act.put, List.setIfInBounds_toArray, List.set_cons_zero, List.set_cons_succ]
                    refine wpAnyH_ready (rs := [24]) (by kernel_rfl) (by simp) (AllReadyH.cons (o := { dst := some 50, op := Op.call { callee := Callee.value (Operand.func 26), args := #[Operand.tmp 49], argTypes := #[78] }, type := 47, pos := "ref.go:21", after := #[{ on := 23, ground := Ground.data }, { on := 22, ground := Ground.chain }], guard := none }) rfl (fun K hK => ?_) AllReadyH.nil)
                    go_simp
                    go_at_call 26
                    have hJ := joinN_any [.slice ao cs.length cap, .slice o4 T1.length c4, .slice o7 ts.toList.length c7, .slice o11 T2.length c11, .slice o14 tf.toList.length c14, .slice o18 A8.length c18, .slice o22 B8.length c22] [cs, T1, ts.toList, T2, tf.toList, A8, B8] 7 47 x6 rfl (by decide) (Pcs.cons KC (Pcs.cons K4 (Pcs.cons K7 (Pcs.cons K11 (Pcs.cons K14 (Pcs.cons K18 (Pcs.cons K22 Pcs.nil))))))) hlen.out
                    rw [hfl.out] at hJ
                    refine hJ.mono ?_
                    rintro _ x8 ⟨ao9, ac9, rfl, hn, hb⟩
                    have HO9 := Lib.hid (ownsRow_mono hn hB.size)
                    have HB9 := Lib.hid (hB.trans (hb.mono hB.size))
                    replace hS := TS.below hS hlt hb
                    clear hn hb hJ
                    dsimp only
                    refine hK.out _ _ hS (fun hh => ?_)
                    clear hK K hh
                    try simp only [Act.put, List.setIfInBounds_toArray, List.set_cons_zero, List.set_cons_succ]
                    refine wpAnyH_take (i := 25) (oi := { dst := some 4, op := Op.assign (Operand.tmp 50), type := 47, pos := "ref.go:21", after := #[{ on := 24, ground := Ground.data }, { on := 24, ground := Ground.chain }, { on := 0, ground := Ground.phase }, { on := 1, ground := Ground.phase }, { on := 2, ground := Ground.phase }, { on := 3, ground := Ground.phase }, { on := 4, ground := Ground.phase }, { on := 5, ground := Ground.phase }, { on := 6, ground := Ground.phase }, { on := 7, ground := Ground.phase }, { on := 8, ground := Ground.phase }, { on := 9, ground := Ground.phase }, { on := 10, ground := Ground.phase }, { on := 11, ground := Ground.phase }, { on := 12, ground := Ground.phase }, { on := 13, ground := Ground.phase }, { on := 14, ground := Ground.phase }, { on := 15, ground := Ground.phase }, { on := 16, ground := Ground.phase }, { on := 17, ground := Ground.phase }, { on := 18, ground := Ground.phase }, { on := 19, ground := Ground.phase }, { on := 20, ground := Ground.phase }, { on := 21, ground := Ground.phase }, { on := 22, ground := Ground.phase }, { on := 23, ground := Ground.phase }, { on := 24, ground := Ground.phase }], guard := none }) (v := ?_) rfl (by kernel_rfl) (by kernel_rfl) (by kernel_rfl) (fun _ _ _ h => h) (Or.inl ⟨by rfl, ?_⟩) hS ?_
                    rotate_left
                    · intro w hSw; (try dsimp only at hSw); go_simp; try with_reducible rfl
                    try simp only [Act.put, List.setIfInBounds_toArray, List.set_cons_zero, List.set_cons_succ]
                    refine wpAnyH_done (by kernel_rfl) ?_ _
                    go_wp2_with fail
                    go_roundg (gk - 1)
                    case measure => go_light; omega
                    case rel =>
                      go_light
                      exact ⟨k + 1, C, ao9, ac9, by omega, by go_num, rfl, HCC, HFA, HO9, HB9⟩
                  · skip
                    go_simp
                    go_at_call 28
                    refine (hEb _).mono ?_
                    rintro _ x5 ⟨o22, c22, rfl, hn, hb⟩
                    have K22 := hn.rd
                    replace hS := TS.below hS hlt hb
                    replace KC := RdV.below KC hb
                    replace K7 := RdV.below K7 hb
                    replace K4 := RdV.below K4 hb
                    replace K11 := RdV.below K11 hb
                    replace K18 := RdV.below K18 hb
                    replace hlt := Nat.lt_of_lt_of_le hlt hb.size
                    replace hB := hB.trans (hb.mono hB.size)
                    clear hn hb
                    dsimp only
                    refine hK.out _ _ hS (fun hh => ?_)
                    clear hK K hh
                    try simp only [Act.put, List.setIfInBounds_toArray, List.set_cons_zero, List.set_cons_succ]
                    refine wpAnyH_ready (rs := [14]) (by kernel_rfl) (by simp) (AllReadyH.cons (o := { dst := some 40, op := Op.convert 9 47 (Operand.tmp 39), type := 47, pos := "ref.go:21", after := #[{ on := 13, ground := Ground.data }], guard := none }) rfl (fun K hK => ?_) AllReadyH.nil)
                    obtain ⟨o14, c14, x6, hr, K14, hb⟩ := strBytes_any tf x5 hsf
                    go_simp
                    clear hr
                    replace hS := TS.below hS hlt hb
                    replace KC := RdV.below KC hb
                    replace K7 := RdV.below K7 hb
                    replace K4 := RdV.below K4 hb
                    replace K11 := RdV.below K11 hb
                    replace K18 := RdV.below K18 hb
                    replace K22 := RdV.below K22 hb
                    replace hlt := Nat.lt_of_lt_of_le hlt hb.size
                    replace hB := hB.trans (hb.mono hB.size)
                    clear hb
                    refine hK.out _ _ hS (fun hh => ?_)
                    clear hK K hh
                    try simp only [Act.put, List.setIfInBounds_toArray, List.set_cons_zero, List.set_cons_succ]
                    refine wpAnyH_ready (rs := [23]) (by kernel_rfl) (by simp) (AllReadyH.cons (o := { dst := some 49, op := Op.buildSlice 78 7 #[(0, Operand.tmp 26), (1, Operand.tmp 30), (2, Operand.tmp 33), (3, Operand.tmp 37), (4, Operand.tmp 40), (5, Operand.tmp 44), (6, Operand.tmp 48)], type := 78, pos := "ref.go:21", after := #[{ on := 0, ground := Ground.data }, { on := 4, ground := Ground.data }, { on := 7, ground := Ground.data }, { on := 11, ground := Ground.data }, { on := 14, ground := Ground.data }, { on := 18, ground := Ground.data }, { on := 22, ground := Ground.data }], guard := none }) rfl (fun K hK => ?_) AllReadyH.nil)
                    go_simp
                    refine hK.out _ _ (TS.below hS hlt ((Below.refl _ _).alloc (Nat.le_refl _) _)) (fun hh => ?_)
                    clear hK K hh
                    try simp only [Act.put, List.setIfInBounds_toArray, List.set_cons_zero, List.set_cons_succ]
                    refine wpAnyH_ready (rs := [24]) (by kernel_rfl) (by simp) (AllReadyH.cons (o := { dst := some 50, op := Op.call { callee := Callee.value (Operand.func 26), args := #[Operand.tmp 49], argTypes := #[78] }, type := 47, pos := "ref.go:21", after := #[{ on := 23, ground := Ground.data }, { on := 22, ground := Ground.chain }], guard := none }) rfl (fun K hK => ?_) AllReadyH.nil)
                    go_simp
                    go_at_call 26
                    have hJ := joinN_any [.slice ao cs.length cap, .slice o4 T1.length c4, .slice o7 ts.toList.length c7, .slice o11 T2.length c11, .slice o14 tf.toList.length c14, .slice o18 A8.length c18, .slice o22 B8.length c22] [cs, T1, ts.toList, T2, tf.toList, A8, B8] 7 47 x6 rfl (by decide) (Pcs.cons KC (Pcs.cons K4 (Pcs.cons K7 (Pcs.cons K11 (Pcs.cons K14 (Pcs.cons K18 (Pcs.cons K22 Pcs.nil))))))) hlen.out
                    rw [hfl.out] at hJ
                    refine hJ.mono ?_
                    rintro _ x8 ⟨ao9, ac9, rfl, hn, hb⟩
                    have HO9 := Lib.hid (ownsRow_mono hn hB.size)
                    have HB9 := Lib.hid (hB.trans (hb.mono hB.size))
                    replace hS := TS.below hS hlt hb
                    clear hn hb hJ
                    dsimp only
                    refine hK.out _ _ hS (fun hh => ?_)
                    clear hK K hh
                    try simp only [Act.put, List.setIfInBounds_toArray, List.set_cons_zero, List.set_cons_succ]
                    refine wpAnyH_take (i := 25) (oi := { dst := some 4, op := Op.assign (Operand.tmp 50), type := 47, pos := "ref.go:21", after := #[{ on := 24, ground := Ground.data }, { on := 24, ground := Ground.chain }, { on := 0, ground := Ground.phase }, { on := 1, ground := Ground.phase }, { on := 2, ground := Ground.phase }, { on := 3, ground := Ground.phase }, { on := 4, ground := Ground.phase }, { on := 5, ground := Ground.phase }, { on := 6, ground := Ground.phase }, { on := 7, ground := Ground.phase }, { on := 8, ground := Ground.phase }, { on := 9, ground := Ground.phase }, { on := 10, ground := Ground.phase }, { on := 11, ground := Ground.phase }, { on := 12, ground := Ground.phase }, { on := 13, ground := Ground.phase }, { on := 14, ground := Ground.phase }, { on := 15, ground := Ground.phase }, { on := 16, ground := Ground.phase }, { on := 17, ground := Ground.phase }, { on := 18, ground := Ground.phase }, { on := 19, ground := Ground.phase }, { on := 20, ground := Ground.phase }, { on := 21, ground := Ground.phase }, { on := 22, ground := Ground.phase }, { on := 23, ground := Ground.phase }, { on := 24, ground := Ground.phase }], guard := none }) (v := ?_) rfl (by kernel_rfl) (by kernel_rfl) (by kernel_rfl) (fun _ _ _ h => h) (Or.inl ⟨by rfl, ?_⟩) hS ?_
                    rotate_left
                    · intro w hSw; (try dsimp only at hSw); go_simp; try with_reducible rfl
                    try simp only [Act.put, List.setIfInBounds_toArray, List.set_cons_zero, List.set_cons_succ]
                    refine wpAnyH_done (by kernel_rfl) ?_ _
                    go_wp2_with fail
                    go_roundg (gk - 1)
                    case measure => go_light; omega
                    case rel =>
                      go_light
                      exact ⟨k + 1, C, ao9, ac9, by omega, by go_num, rfl, HCC, HFA, HO9, HB9⟩
              · skip
                obtain ⟨o14, c14, x3, hr, K14, hb⟩ := strBytes_any tf x2 hsf
                go_simp
                clear hr
                replace hS := TS.below hS hlt hb
                replace KC := RdV.below KC hb
                replace K7 := RdV.below K7 hb
                replace K4 := RdV.below K4 hb
                replace hlt := Nat.lt_of_lt_of_le hlt hb.size
                replace hB := hB.trans (hb.mono hB.size)
                clear hb
                refine hK.out _ _ hS (fun hh => ?_)
                clear hK K hh
                try simp only [Act.put, List.setIfInBounds_toArray, List.set_cons_zero, List.set_cons_succ]
                refine wpAnyH_ready (rs := [11]) (by kernel_rfl) (by simp) (AllReadyH.cons (o := { dst := some 37, op := Op.call { callee := Callee.value (Operand.func 27), args := #[Operand.tmp 36], argTypes := #[3] }, type := 47, pos := "ref.go:21", after := #[{ on := 10, ground := Ground.data }, { on := 4, ground := Ground.chain }], guard := none }) rfl (fun K hK => ?_) AllReadyH.nil)
                go_simp
                go_at_call 27
                refine (hTf _).mono ?_
                rintro _ x4 ⟨o11, c11, rfl, hn, hb⟩
                have K11 := hn.rd
                replace hS := TS.below hS hlt hb
                replace KC := RdV.below KC hb
                replace K7 := RdV.below K7 hb
                replace K4 := RdV.below K4 hb
                replace K14 := RdV.below K14 hb
                replace hlt := Nat.lt_of_lt_of_le hlt hb.size
                replace hB := hB.trans (hb.mono hB.size)
                clear hn hb
                dsimp only
                refine hK.out _ _ hS (fun hh => ?_)
                clear hK K hh
                try simp only [Act.put, List.setIfInBounds_toArray, List.set_cons_zero, List.set_cons_succ]
                refine wpAnyH_ready (rs := [18]) (by kernel_rfl) (by simp) (AllReadyH.cons (o := { dst := some 44, op := Op.call { callee := Callee.value (Operand.func 28), args := #[Operand.tmp 43], argTypes := #[34] }, type := 47, pos := "ref.go:21", after := #[{ on := 17, ground := Ground.data }, { on := 11, ground := Ground.chain }], guard := none }) rfl (fun K hK => ?_) AllReadyH.nil)
                go_simp
                go_at_call 28
                refine (hEa _).mono ?_
                rintro _ x5 ⟨o18, c18, rfl, hn, hb⟩
                have K18 := hn.rd
                replace hS := TS.below hS hlt hb
                replace KC := RdV.below KC hb
                replace K7 := RdV.below K7 hb
                replace K4 := RdV.below K4 hb
                replace K14 := RdV.below K14 hb
                replace K11 := RdV.below K11 hb
                replace hlt := Nat.lt_of_lt_of_le hlt hb.size
                replace hB := hB.trans (hb.mono hB.size)
                clear hn hb
                dsimp only
                refine hK.out _ _ hS (fun hh => ?_)
                clear hK K hh
                try simp only [Act.put, List.setIfInBounds_toArray, List.set_cons_zero, List.set_cons_succ]
                refine wpAnyH_ready (rs := [22]) (by kernel_rfl) (by simp) (AllReadyH.cons (o := { dst := some 48, op := Op.call { callee := Callee.value (Operand.func 28), args := #[Operand.tmp 47], argTypes := #[34] }, type := 47, pos := "ref.go:21", after := #[{ on := 21, ground := Ground.data }, { on := 18, ground := Ground.chain }], guard := none }) rfl (fun K hK => ?_) AllReadyH.nil)
                go_simp
                go_at_call 28
                refine (hEb _).mono ?_
                rintro _ x6 ⟨o22, c22, rfl, hn, hb⟩
                have K22 := hn.rd
                replace hS := TS.below hS hlt hb
                replace KC := RdV.below KC hb
                replace K7 := RdV.below K7 hb
                replace K4 := RdV.below K4 hb
                replace K14 := RdV.below K14 hb
                replace K11 := RdV.below K11 hb
                replace K18 := RdV.below K18 hb
                replace hlt := Nat.lt_of_lt_of_le hlt hb.size
                replace hB := hB.trans (hb.mono hB.size)
                clear hn hb
                dsimp only
                refine hK.out _ _ hS (fun hh => ?_)
                clear hK K hh
                try simp only [Act.put, List.setIfInBounds_toArray, List.set_cons_zero, List.set_cons_succ]
                refine wpAnyH_ready (rs := [23]) (by kernel_rfl) (by simp) (AllReadyH.cons (o := { dst := some 49, op := Op.buildSlice 78 7 #[(0, Operand.tmp 26), (1, Operand.tmp 30), (2, Operand.tmp 33), (3, Operand.tmp 37), (4, Operand.tmp 40), (5, Operand.tmp 44), (6, Operand.tmp 48)], type := 78, pos := "ref.go:21", after := #[{ on := 0, ground := Ground.data }, { on := 4, ground := Ground.data }, { on := 7, ground := Ground.data }, { on := 11, ground := Ground.data }, { on := 14, ground := Ground.data }, { on := 18, ground := Ground.data }, { on := 22, ground := Ground.data }], guard := none }) rfl (fun K hK => ?_) AllReadyH.nil)
                go_simp
                refine hK.out _ _ (TS.below hS hlt ((Below.refl _ _).alloc (Nat.le_refl _) _)) (fun hh => ?_)
                clear hK K hh
                try simp only [Act.put, List.setIfInBounds_toArray, List.set_cons_zero, List.set_cons_succ]
                refine wpAnyH_ready (rs := [24]) (by kernel_rfl) (by simp) (AllReadyH.cons (o := { dst := some 50, op := Op.call { callee := Callee.value (Operand.func 26), args := #[Operand.tmp 49], argTypes := #[78] }, type := 47, pos := "ref.go:21", after := #[{ on := 23, ground := Ground.data }, { on := 22, ground := Ground.chain }], guard := none }) rfl (fun K hK => ?_) AllReadyH.nil)
                go_simp
                go_at_call 26
                have hJ := joinN_any [.slice ao cs.length cap, .slice o4 T1.length c4, .slice o7 ts.toList.length c7, .slice o11 T2.length c11, .slice o14 tf.toList.length c14, .slice o18 A8.length c18, .slice o22 B8.length c22] [cs, T1, ts.toList, T2, tf.toList, A8, B8] 7 47 x6 rfl (by decide) (Pcs.cons KC (Pcs.cons K4 (Pcs.cons K7 (Pcs.cons K11 (Pcs.cons K14 (Pcs.cons K18 (Pcs.cons K22 Pcs.nil))))))) hlen.out
                rw [hfl.out] at hJ
                refine hJ.mono ?_
                rintro _ x8 ⟨ao9, ac9, rfl, hn, hb⟩
                have HO9 := Lib.hid (ownsRow_mono hn hB.size)
                have HB9 := Lib.hid (hB.trans (hb.mono hB.size))
                replace hS := TS.below hS hlt hb
                clear hn hb hJ
                dsimp only
                refine hK.out _ _ hS (fun hh => ?_)
                clear hK K hh
                try simp only [Act.put, List.setIfInBounds_toArray, List.set_cons_zero, List.set_cons_succ]
                refine wpAnyH_take (i := 25) (oi := { dst := some 4, op := Op.assign (Operand.tmp 50), type := 47, pos := "ref.go:21", after := #[{ on := 24, ground := Ground.data }, { on := 24, ground := Ground.chain }, { on := 0, ground := Ground.phase }, { on := 1, ground := Ground.phase }, { on := 2, ground := Ground.phase }, { on := 3, ground := Ground.phase }, { on := 4, ground := Ground.phase }, { on := 5, ground := Ground.phase }, { on := 6, ground := Ground.phase }, { on := 7, ground := Ground.phase }, { on := 8, ground := Ground.phase }, { on := 9, ground := Ground.phase }, { on := 10, ground := Ground.phase }, { on := 11, ground := Ground.phase }, { on := 12, ground := Ground.phase }, { on := 13, ground := Ground.phase }, { on := 14, ground := Ground.phase }, { on := 15, ground := Ground.phase }, { on := 16, ground := Ground.phase }, { on := 17, ground := Ground.phase }, { on := 18, ground := Ground.phase }, { on := 19, ground := Ground.phase }, { on := 20, ground := Ground.phase }, { on := 21, ground := Ground.phase }, { on := 22, ground := Ground.phase }, { on := 23, ground := Ground.phase }, { on := 24, ground := Ground.phase }], guard := none }) (v := ?_) rfl (by kernel_rfl) (by kernel_rfl) (by kernel_rfl) (fun _ _ _ h => h) (Or.inl ⟨by rfl, ?_⟩) hS ?_
                rotate_left
                · intro w hSw; (try dsimp only at hSw); go_simp; try with_reducible rfl
                try simp only [Act.put, List.setIfInBounds_toArray, List.set_cons_zero, List.set_cons_succ]
                refine wpAnyH_done (by kernel_rfl) ?_ _
                go_wp2_with fail
                go_roundg (gk - 1)
                case measure => go_light; omega
                case rel =>
                  go_light
                  exact ⟨k + 1, C, ao9, ac9, by omega, by go_num, rfl, HCC, HFA, HO9, HB9⟩
            · skip
              obtain ⟨o14, c14, x2, hr, K14, hb⟩ := strBytes_any tf x1 hsf
              go_simp
              clear hr
              replace hS := TS.below hS hlt hb
              replace KC := RdV.below KC hb
              replace K7 := RdV.below K7 hb
              replace hlt := Nat.lt_of_lt_of_le hlt hb.size
              replace hB := hB.trans (hb.mono hB.size)
              clear hb
              refine hK.out _ _ hS (fun hh => ?_)
              clear hK K hh
              try simp only [Act.put, List.setIfInBounds_toArray, List.set_cons_zero, List.set_cons_succ]
              refine wpAnyH_ready (rs := [4]) (by kernel_rfl) (by simp) (AllReadyH.cons (o := { dst := some 30, op := Op.call { callee := Callee.value (Operand.func 27), args := #[Operand.tmp 29], argTypes := #[3] }, type := 47, pos := "ref.go:21", after := #[{ on := 3, ground := Ground.data }], guard := none }) rfl (fun K hK => ?_) AllReadyH.nil)
              go_simp
              go_at_call 27
              refine (hTs _).mono ?_
              rintro _ x3 ⟨o4, c4, rfl, hn, hb⟩
              have K4 := hn.rd
              replace hS := TS.below hS hlt hb
              replace KC := RdV.below KC hb
              replace K7 := RdV.below K7 hb
              replace K14 := RdV.below K14 hb
              replace hlt := Nat.lt_of_lt_of_le hlt hb.size
              replace hB := hB.trans (hb.mono hB.size)
              clear hn hb
              dsimp only
              refine hK.out _ _ hS (fun hh => ?_)
              clear hK K hh
              try simp only [Act.put, List.setIfInBounds_toArray, List.set_cons_zero, List.set_cons_succ]
              refine wpAnyH_ready (rs := [11]) (by kernel_rfl) (by simp) (AllReadyH.cons (o := { dst := some 37, op := Op.call { callee := Callee.value (Operand.func 27), args := #[Operand.tmp 36], argTypes := #[3] }, type := 47, pos := "ref.go:21", after := #[{ on := 10, ground := Ground.data }, { on := 4, ground := Ground.chain }], guard := none }) rfl (fun K hK => ?_) AllReadyH.nil)
              go_simp
              go_at_call 27
              refine (hTf _).mono ?_
              rintro _ x4 ⟨o11, c11, rfl, hn, hb⟩
              have K11 := hn.rd
              replace hS := TS.below hS hlt hb
              replace KC := RdV.below KC hb
              replace K7 := RdV.below K7 hb
              replace K14 := RdV.below K14 hb
              replace K4 := RdV.below K4 hb
              replace hlt := Nat.lt_of_lt_of_le hlt hb.size
              replace hB := hB.trans (hb.mono hB.size)
              clear hn hb
              dsimp only
              refine hK.out _ _ hS (fun hh => ?_)
              clear hK K hh
              try simp only [Act.put, List.setIfInBounds_toArray, List.set_cons_zero, List.set_cons_succ]
              refine wpAnyH_ready (rs := [18]) (by kernel_rfl) (by simp) (AllReadyH.cons (o := { dst := some 44, op := Op.call { callee := Callee.value (Operand.func 28), args := #[Operand.tmp 43], argTypes := #[34] }, type := 47, pos := "ref.go:21", after := #[{ on := 17, ground := Ground.data }, { on := 11, ground := Ground.chain }], guard := none }) rfl (fun K hK => ?_) AllReadyH.nil)
              go_simp
              go_at_call 28
              refine (hEa _).mono ?_
              rintro _ x5 ⟨o18, c18, rfl, hn, hb⟩
              have K18 := hn.rd
              replace hS := TS.below hS hlt hb
              replace KC := RdV.below KC hb
              replace K7 := RdV.below K7 hb
              replace K14 := RdV.below K14 hb
              replace K4 := RdV.below K4 hb
              replace K11 := RdV.below K11 hb
              replace hlt := Nat.lt_of_lt_of_le hlt hb.size
              replace hB := hB.trans (hb.mono hB.size)
              clear hn hb
              dsimp only
              refine hK.out _ _ hS (fun hh => ?_)
              clear hK K hh
              try simp only [Act.put, List.setIfInBounds_toArray, List.set_cons_zero, List.set_cons_succ]
              refine wpAnyH_ready (rs := [22]) (by kernel_rfl) (by simp) (AllReadyH.cons (o := { dst := some 48, op := Op.call { callee := Callee.value (Operand.func 28), args := #[Operand.tmp 47], argTypes := #[34] }, type := 47, pos := "ref.go:21", after := #[{ on := 21, ground := Ground.data }, { on := 18, ground := Ground.chain }], guard := none }) rfl (fun K hK => ?_) AllReadyH.nil)
              go_simp
              go_at_call 28
              refine (hEb _).mono ?_
              rintro _ x6 ⟨o22, c22, rfl, hn, hb⟩
              have K22 := hn.rd
              replace hS := TS.below hS hlt hb
              replace KC := RdV.below KC hb
              replace K7 := RdV.below K7 hb
              replace K14 := RdV.below K14 hb
              replace K4 := RdV.below K4 hb
              replace K11 := RdV.below K11 hb
              replace K18 := RdV.below K18 hb
              replace hlt := Nat.lt_of_lt_of_le hlt hb.size
              replace hB := hB.trans (hb.mono hB.size)
              clear hn hb
              dsimp only
              refine hK.out _ _ hS (fun hh => ?_)
              clear hK K hh
              try simp only [Act.put, List.setIfInBounds_toArray, List.set_cons_zero, List.set_cons_succ]
              refine wpAnyH_ready (rs := [23]) (by kernel_rfl) (by simp) (AllReadyH.cons (o := { dst := some 49, op := Op.buildSlice 78 7 #[(0, Operand.tmp 26), (1, Operand.tmp 30), (2, Operand.tmp 33), (3, Operand.tmp 37), (4, Operand.tmp 40), (5, Operand.tmp 44), (6, Operand.tmp 48)], type := 78, pos := "ref.go:21", after := #[{ on := 0, ground := Ground.data }, { on := 4, ground := Ground.data }, { on := 7, ground := Ground.data }, { on := 11, ground := Ground.data }, { on := 14, ground := Ground.data }, { on := 18, ground := Ground.data }, { on := 22, ground := Ground.data }], guard := none }) rfl (fun K hK => ?_) AllReadyH.nil)
              go_simp
              refine hK.out _ _ (TS.below hS hlt ((Below.refl _ _).alloc (Nat.le_refl _) _)) (fun hh => ?_)
              clear hK K hh
              try simp only [Act.put, List.setIfInBounds_toArray, List.set_cons_zero, List.set_cons_succ]
              refine wpAnyH_ready (rs := [24]) (by kernel_rfl) (by simp) (AllReadyH.cons (o := { dst := some 50, op := Op.call { callee := Callee.value (Operand.func 26), args := #[Operand.tmp 49], argTypes := #[78] }, type := 47, pos := "ref.go:21", after := #[{ on := 23, ground := Ground.data }, { on := 22, ground := Ground.chain }], guard := none }) rfl (fun K hK => ?_) AllReadyH.nil)
              go_simp
              go_at_call 26
              have hJ := joinN_any [.slice ao cs.length cap, .slice o4 T1.length c4, .slice o7 ts.toList.length c7, .slice o11 T2.length c11, .slice o14 tf.toList.length c14, .slice o18 A8.length c18, .slice o22 B8.length c22] [cs, T1, ts.toList, T2, tf.toList, A8, B8] 7 47 x6 rfl (by decide) (Pcs.cons KC (Pcs.cons K4 (Pcs.cons K7 (Pcs.cons K11 (Pcs.cons K14 (Pcs.cons K18 (Pcs.cons K22 Pcs.nil))))))) hlen.out
              rw [hfl.out] at hJ
              refine hJ.mono ?_
              rintro _ x8 ⟨ao9, ac9, rfl, hn, hb⟩
              have HO9 := Lib.hid (ownsRow_mono hn hB.size)
              have HB9 := Lib.hid (hB.trans (hb.mono hB.size))
              replace hS := TS.below hS hlt hb
              clear hn hb hJ
              dsimp only
              refine hK.out _ _ hS (fun hh => ?_)
              clear hK K hh
              try simp only [Act.put, List.setIfInBounds_toArray, List.set_cons_zero, List.set_cons_succ]
              refine wpAnyH_take (i := 25) (oi := { dst := some 4, op := Op.assign (Operand.tmp 50), type := 47, pos := "ref.go:21", after := #[{ on := 24, ground := Ground.data }, { on := 24, ground := Ground.chain }, { on := 0, ground := Ground.phase }, { on := 1, ground := Ground.phase }, { on := 2, ground := Ground.phase }, { on := 3, ground := Ground.phase }, { on := 4, ground := Ground.phase }, { on := 5, ground := Ground.phase }, { on := 6, ground := Ground.phase }, { on := 7, ground := Ground.phase }, { on := 8, ground := Ground.phase }, { on := 9, ground := Ground.phase }, { on := 10, ground := Ground.phase }, { on := 11, ground := Ground.phase }, { on := 12, ground := Ground.phase }, { on := 13, ground := Ground.phase }, { on := 14, ground := Ground.phase }, { on := 15, ground := Ground.phase }, { on := 16, ground := Ground.phase }, { on := 17, ground := Ground.phase }, { on := 18, ground := Ground.phase }, { on := 19, ground := Ground.phase }, { on := 20, ground := Ground.phase }, { on := 21, ground := Ground.phase }, { on := 22, ground := Ground.phase }, { on := 23, ground := Ground.phase }, { on := 24, ground := Ground.phase }], guard := none }) (v := ?_) rfl (by kernel_rfl) (by kernel_rfl) (by kernel_rfl) (fun _ _ _ h => h) (Or.inl ⟨by rfl, ?_⟩) hS ?_
              rotate_left
              · intro w hSw; (try dsimp only at hSw); go_simp; try with_reducible rfl
              try simp only [Act.put, List.setIfInBounds_toArray, List.set_cons_zero, List.set_cons_succ]
              refine wpAnyH_done (by kernel_rfl) ?_ _
              go_wp2_with fail
              go_roundg (gk - 1)
              case measure => go_light; omega
              case rel =>
                go_light
                exact ⟨k + 1, C, ao9, ac9, by omega, by go_num, rfl, HCC, HFA, HO9, HB9⟩
          · skip
            obtain ⟨o14, c14, x1, hr, K14, hb⟩ := strBytes_any tf x0 hsf
            go_simp
            clear hr
            replace hS := TS.below hS hlt hb
            replace KC := RdV.below KC hb
            replace hlt := Nat.lt_of_lt_of_le hlt hb.size
            replace hB := hB.trans (hb.mono hB.size)
            clear hb
            refine hK.out _ _ hS (fun hh => ?_)
            clear hK K hh
            try simp only [Act.put, List.setIfInBounds_toArray, List.set_cons_zero, List.set_cons_succ]
            refine wpAnyH_ready (rs := [4, 7]) (by kernel_rfl) (by simp) (AllReadyH.cons (o := { dst := some 30, op := Op.call { callee := Callee.value (Operand.func 27), args := #[Operand.tmp 29], argTypes := #[3] }, type := 47, pos := "ref.go:21", after := #[{ on := 3, ground := Ground.data }], guard := none }) rfl (fun K hK => ?_) (AllReadyH.cons (o := { dst := some 33, op := Op.convert 9 47 (Operand.tmp 32), type := 47, pos := "ref.go:21", after := #[{ on := 6, ground := Ground.data }], guard := none }) rfl (fun K hK => ?_) AllReadyH.nil))
            · skip
              go_simp
              go_at_call 27
              refine (hTs _).mono ?_
              rintro _ x2 ⟨o4, c4, rfl, hn, hb⟩
              have K4 := hn.rd
              replace hS := TS.below hS hlt hb
              replace KC := RdV.below KC hb
              replace K14 := RdV.below K14 hb
              replace hlt := Nat.lt_of_lt_of_le hlt hb.size
              replace hB := hB.trans (hb.mono hB.size)
              clear hn hb
              dsimp only
              refine hK.out _ _ hS (fun hh => ?_)
              clear hK K hh
              try simp only [Act.put, List.setIfInBounds_toArray, List.set_cons_zero, List.set_cons_succ]
              refine wpAnyH_ready (rs := [7, 11]) (by kernel_rfl) (by simp) (AllReadyH.cons (o := { dst := some 33, op := Op.convert 9 47 (Operand.tmp 32), type := 47, pos := "ref.go:21", after := #[{ on := 6, ground := Ground.data }], guard := none }) rfl (fun K hK => ?_) (AllReadyH.cons (o := { dst := some 37, op := Op.call { callee := Callee.value (Operand.func 27), args := #[Operand.tmp 36], argTypes := #[3] }, type := 47, pos := "ref.go:21", after := #[{ on := 10, ground := Ground.data }, { on := 4, ground := Ground.chain }], guard := none }) rfl (fun K hK => ?_) AllReadyH.nil))
              · skip
                obtain ⟨o7, c7, x3, hr, K7, hb⟩ := strBytes_any ts x2 hss
                go_simp
                clear hr
                replace hS := TS.below hS hlt hb
                replace KC := RdV.below KC hb
                replace K14 := RdV.below K14 hb
                replace K4 := RdV.below K4 hb
                replace hlt := Nat.lt_of_lt_of_le hlt hb.size
                replace hB := hB.trans (hb.mono hB.size)
                clear hb
                refine hK.out _ _ hS (fun hh => ?_)
                clear hK K hh
                try simp only [Act.put, List.setIfInBounds_toArray, List.set_cons_zero, List.set_cons_succ]
                refine wpAnyH_ready (rs := [11]) (by kernel_rfl) (by simp) (AllReadyH.cons (o := { dst := some 37, op := Op.call { callee := Callee.value (Operand.func 27), args := #[Operand.tmp 36], argTypes := #[3] }, type := 47, pos := "ref.go:21", after := #[{ on := 10, ground := Ground.data }, { on := 4, ground := Ground.chain }], guard := none }) rfl (fun K hK => ?_) AllReadyH.nil)
                go_simp
                go_at_call 27
                refine (hTf _).mono ?_
                rintro _ x4 ⟨o11, c11, rfl, hn, hb⟩
                have K11 := hn.rd
                replace hS := TS.below hS hlt hb
                replace KC := RdV.below KC hb
                replace K14 := RdV.below K14 hb
                replace K4 := RdV.below K4 hb
                replace K7 := RdV.below K7 hb
                replace hlt := Nat.lt_of_lt_of_le hlt hb.size
                replace hB := hB.trans (hb.mono hB.size)
                clear hn hb
                dsimp only
                refine hK.out _ _ hS (fun hh => ?_)
                clear hK K hh
                try simp only [Act.put, List.setIfInBounds_toArray, List.set_cons_zero, List.set_cons_succ]
                refine wpAnyH_ready (rs := [18]) (by kernel_rfl) (by simp) (AllReadyH.cons (o := { dst := some 44, op := Op.call { callee := Callee.value (Operand.func 28), args := #[Operand.tmp 43], argTypes := #[34] }, type := 47, pos := "ref.go:21", after := #[{ on := 17, ground := Ground.data }, { on := 11, ground := Ground.chain }], guard := none }) rfl (fun K hK => ?_) AllReadyH.nil)
                go_simp
                go_at_call 28
                refine (hEa _).mono ?_
                rintro _ x5 ⟨o18, c18, rfl, hn, hb⟩
                have K18 := hn.rd
                replace hS := TS.below hS hlt hb
                replace KC := RdV.below KC hb
                replace K14 := RdV.below K14 hb
                replace K4 := RdV.below K4 hb
                replace K7 := RdV.below K7 hb
                replace K11 := RdV.below K11 hb
                replace hlt := Nat.lt_of_lt_of_le hlt hb.size
                replace hB := hB.trans (hb.mono hB.size)
                clear hn hb
                dsimp only
                refine hK.out _ _ hS (fun hh => ?_)
                clear hK K hh
                try simp only [Act.put, List.setIfInBounds_toArray, List.set_cons_zero, List.set_cons_succ]
                refine wpAnyH_ready (rs := [22]) (by kernel_rfl) (by simp) (AllReadyH.cons (o := { dst := some 48, op := Op.call { callee := Callee.value (Operand.func 28), args := #[Operand.tmp 47], argTypes := #[34] }, type := 47, pos := "ref.go:21", after := #[{ on := 21, ground := Ground.data }, { on := 18, ground := Ground.chain }], guard := none }) rfl (fun K hK => ?_) AllReadyH.nil)
                go_simp
                go_at_call 28
                refine (hEb _).mono ?_
                rintro _ x6 ⟨o22, c22, rfl, hn, hb⟩
                have K22 := hn.rd
                replace hS := TS.below hS hlt hb
                replace KC := RdV.below KC hb
                replace K14 := RdV.below K14 hb
                replace K4 := RdV.below K4 hb
                replace K7 := RdV.below K7 hb
                replace K11 := RdV.below K11 hb
                replace K18 := RdV.below K18 hb
                replace hlt := Nat.lt_of_lt_of_le hlt hb.size
                replace hB := hB.trans (hb.mono hB.size)
                clear hn hb
                dsimp only
                refine hK.out _ _ hS (fun hh => ?_)
                clear hK K hh
                try simp only [Act.put, List.setIfInBounds_toArray, List.set_cons_zero, List.set_cons_succ]
                refine wpAnyH_ready (rs := [23]) (by kernel_rfl) (by simp) (AllReadyH.cons (o := { dst := some 49, op := Op.buildSlice 78 7 #[(0, Operand.tmp 26), (1, Operand.tmp 30), (2, Operand.tmp 33), (3, Operand.tmp 37), (4, Operand.tmp 40), (5, Operand.tmp 44), (6, Operand.tmp 48)], type := 78, pos := "ref.go:21", after := #[{ on := 0, ground := Ground.data }, { on := 4, ground := Ground.data }, { on := 7, ground := Ground.data }, { on := 11, ground := Ground.data }, { on := 14, ground := Ground.data }, { on := 18, ground := Ground.data }, { on := 22, ground := Ground.data }], guard := none }) rfl (fun K hK => ?_) AllReadyH.nil)
                go_simp
                refine hK.out _ _ (TS.below hS hlt ((Below.refl _ _).alloc (Nat.le_refl _) _)) (fun hh => ?_)
                clear hK K hh
                try simp only [Act.put, List.setIfInBounds_toArray, List.set_cons_zero, List.set_cons_succ]
                refine wpAnyH_ready (rs := [24]) (by kernel_rfl) (by simp) (AllReadyH.cons (o := { dst := some 50, op := Op.call { callee := Callee.value (Operand.func 26), args := #[Operand.tmp 49], argTypes := #[78] }, type := 47, pos := "ref.go:21", after := #[{ on := 23, ground := Ground.data }, { on := 22, ground := Ground.chain }], guard := none }) rfl (fun K hK => ?_) AllReadyH.nil)
                go_simp
                go_at_call 26
                have hJ := joinN_any [.slice ao cs.length cap, .slice o4 T1.length c4, .slice o7 ts.toList.length c7, .slice o11 T2.length c11, .slice o14 tf.toList.length c14, .slice o18 A8.length c18, .slice o22 B8.length c22] [cs, T1, ts.toList, T2, tf.toList, A8, B8] 7 47 x6 rfl (by decide) (Pcs.cons KC (Pcs.cons K4 (Pcs.cons K7 (Pcs.cons K11 (Pcs.cons K14 (Pcs.cons K18 (Pcs.cons K22 Pcs.nil))))))) hlen.out
                rw [hfl.out] at hJ
                refine hJ.mono ?_
                rintro _ x8 ⟨ao9, ac9, rfl, hn, hb⟩
                have HO9 := Lib.hid (ownsRow_mono hn hB.size)
                have HB9 := Lib.hid (hB.trans (hb.mono hB.size))
                replace hS := TS.below hS hlt hb
                clear hn hb hJ
                dsimp only
                refine hK.out _ _ hS (fun hh => ?_)
                clear hK K hh
                try simp only [Act.put, List.setIfInBounds_toArray, List.set_cons_zero, List.set_cons_succ]
                refine wpAnyH_take (i := 25) (oi := { dst := some 4, op := Op.assign (Operand.tmp 50), type := 47, pos := "ref.go:21", after := #[{ on := 24, ground := Ground.data }, { on := 24, ground := Ground.chain }, { on := 0, ground := Ground.phase }, { on := 1, ground := Ground.phase }, { on := 2, ground := Ground.phase }, { on := 3, ground := Ground.phase }, { on := 4, ground := Ground.phase }, { on := 5, ground := Ground.phase }, { on := 6, ground := Ground.phase }, { on := 7, ground := Ground.phase }, { on := 8, ground := Ground.phase }, { on := 9, ground := Ground.phase }, { on := 10, ground := Ground.phase }, { on := 11, ground := Ground.phase }, { on := 12, ground := Ground.phase }, { on := 13, ground := Ground.phase }, { on := 14, ground := Ground.phase }, { on := 15, ground := Ground.phase }, { on := 16, ground := Ground.phase }, { on := 17, ground := Ground.phase }, { on := 18, ground := Ground.phase }, { on := 19, ground := Ground.phase }, { on := 20, ground := Ground.phase }, { on := 21, ground := Ground.phase }, { on := 22, ground := Ground.phase }, { on := 23, ground := Ground.phase }, { on := 24, ground := Ground.phase }], guard := none }) (v := ?_) rfl (by kernel_rfl) (by kernel_rfl) (by kernel_rfl) (fun _ _ _ h => h) (Or.inl ⟨by rfl, ?_⟩) hS ?_
                rotate_left
                · intro w hSw; (try dsimp only at hSw); go_simp; try with_reducible rfl
                try simp only [Act.put, List.setIfInBounds_toArray, List.set_cons_zero, List.set_cons_succ]
                refine wpAnyH_done (by kernel_rfl) ?_ _
                go_wp2_with fail
                go_roundg (gk - 1)
                case measure => go_light; omega
                case rel =>
                  go_light
                  exact ⟨k + 1, C, ao9, ac9, by omega, by go_num, rfl, HCC, HFA, HO9, HB9⟩
              · skip
                go_simp
                go_at_call 27
                refine (hTf _).mono ?_
                rintro _ x3 ⟨o11, c11, rfl, hn, hb⟩
                have K11 := hn.rd
                replace hS := TS.below hS hlt hb
                replace KC := RdV.below KC hb
                replace K14 := RdV.below K14 hb
                replace K4 := RdV.below K4 hb
                replace hlt := Nat.lt_of_lt_of_le hlt hb.size
                replace hB := hB.trans (hb.mono hB.size)
                clear hn hb
                dsimp only
                refine hK.out _ _ hS (fun hh => ?_)
                clear hK K hh
                try simp only [Act.put, List.setIfInBounds_toArray, List.set_cons_zero, List.set_cons_succ]
                refine wpAnyH_ready (rs := [7, 18]) (by kernel_rfl) (by simp) (AllReadyH.cons (o := { dst := some 33, op := Op.convert 9 47 (Operand.tmp 32), type := 47, pos := "ref.go:21", after := #[{ on := 6, ground := Ground.data }], guard := none }) rfl (fun K hK => ?_) (AllReadyH.cons (o := { dst := some 44, op := Op.call { callee := Callee.value (Operand.func 28), args := #[Operand.tmp 43], argTypes := #[34] }, type := 47, pos := "ref.go:21", after := #[{ on := 17, ground := Ground.data }, { on := 11, ground := Ground.chain }], guard := none }) rfl (fun K hK => ?_) AllReadyH.nil))
                · skip
                  obtain ⟨o7, c7, x4, hr, K7, hb⟩ := strBytes_any ts x3 hss
                  go_simp
                  clear hr
                  replace hS := TS.below hS hlt hb
                  replace KC := RdV.below KC hb
                  replace K14 := RdV.below K14 hb
                  replace K4 := RdV.below K4 hb
                  replace K11 := RdV.below K11 hb
                  replace hlt := Nat.lt_of_lt_of_le hlt hb.size
                  replace hB := hB.trans (hb.mono hB.size)
                  clear hb
                  refine hK.out _ _ hS (fun hh => ?_)
                  clear hK K hh
                  try simp only [Act.put, List.setIfInBounds_toArray, List.set_cons_zero, List.set_cons_succ]
                  refine wpAnyH_ready (rs := [18]) (by kernel_rfl) (by simp) (AllReadyH.cons (o := { dst := some 44, op := Op.call { callee := Callee.value (Operand.func 28), args := #[Operand.tmp 43], argTypes := #[34] }, type := 47, pos := "ref.go:21", after := #[{ on := 17, ground := Ground.data }, { on := 11, ground := Ground.chain }], guard := none }) rfl (fun K hK => ?_) AllReadyH.nil)
                  go_simp
                  go_at_call 28
                  refine (hEa _).mono ?_
                  rintro _ x5 ⟨o18, c18, rfl, hn, hb⟩
                  have K18 := hn.rd
                  replace hS := TS.below hS hlt hb
                  replace KC := RdV.below KC hb
                  replace K14 := RdV.below K14 hb
                  replace K4 := RdV.below K4 hb
                  replace K11 := RdV.below K11 hb
                  replace K7 := RdV.below K7 hb
                  replace hlt := Nat.lt_of_lt_of_le hlt hb.size
                  replace hB := hB.trans (hb.mono hB.size)
                  clear hn hb
                  dsimp only
                  refine hK.out _ _ hS (fun hh => ?_)
                  clear hK K hh
                  try simp only [Act.put, List.setIfInBounds_toArray, List.set_cons_zero, List.set_cons_succ]
                  refine wpAnyH_ready (rs := [22]) (by kernel_rfl) (by simp) (AllReadyH.cons (o := { dst := some 48, op := Op.call { callee := Callee.value (Operand.func 28), args := #[Operand.tmp 47], argTypes := #[34] }, type := 47, pos := "ref.go:21", after := #[{ on := 21, ground := Ground.data }, { on := 18, ground := Ground.chain }], guard := none }) rfl (fun K hK => ?_) AllReadyH.nil)
                  go_simp
                  go_at_call 28
                  refine (hEb _).mono ?_
                  rintro _ x6 ⟨o22, c22, rfl, hn, hb⟩
                  have K22 := hn.rd
                  replace hS := TS.below hS hlt hb
                  replace KC := RdV.below KC hb
                  replace K14 := RdV.below K14 hb
                  replace K4 := RdV.below K4 hb
                  replace K11 := RdV.below K11 hb
                  replace K7 := RdV.below K7 hb
                  replace K18 := RdV.below K18 hb
                  replace hlt := Nat.lt_of_lt_of_le hlt hb.size
                  replace hB := hB.trans (hb.mono hB.size)
                  clear hn hb
                  dsimp only
                  refine hK.out _ _ hS (fun hh => ?_)
                  clear hK K hh
                  try simp only [Act.put, List.setIfInBounds_toArray, List.set_cons_zero, List.set_cons_succ]
                  refine wpAnyH_ready (rs := [23]) (by kernel_rfl) (by simp) (AllReadyH.cons (o := { dst := some 49, op := Op.buildSlice 78 7 #[(0, Operand.tmp 26), (1, Operand.tmp 30), (2, Operand.tmp 33), (3, Operand.tmp 37), (4, Operand.tmp 40), (5, Operand.tmp 44), (6, Operand.tmp 48)], type := 78, pos := "ref.go:21", after := #[{ on := 0, ground := Ground.data }, { on := 4, ground := Ground.data }, { on := 7, ground := Ground.data }, { on := 11, ground := Ground.data }, { on := 14, ground := Ground.data }, { on := 18, ground := Ground.data }, { on := 22, ground := Ground.data }], guard := none }) rfl (fun K hK => ?_) AllReadyH.nil)
                  go_simp
                  refine hK.out _ _ (TS.below hS hlt ((Below.refl _ _).alloc (Nat.le_refl _) _)) (fun hh => ?_)
                  clear hK K hh
                  try simp only [Act.put, List.setIfInBounds_toArray, List.set_cons_zero, List.set_cons_succ]
                  refine wpAnyH_ready (rs := [24]) (by kernel_rfl) (by simp) (AllReadyH.cons (o := { dst := some 50, op := Op.call { callee := Callee.value (Operand.func 26), args := #[Operand.tmp 49], argTypes := #[78] }, type := 47, pos := "ref.go:21", after := #[{ on := 23, ground := Ground.data }, { on := 22, ground := Ground.chain }], guard := none }) rfl (fun K hK => ?_) AllReadyH.nil)
                  go_simp
                  go_at_call 26
                  have hJ := joinN_any [.slice ao cs.length cap, .slice o4 T1.length c4, .slice o7 ts.toList.length c7, .slice o11 T2.length c11, .slice o14 tf.toList.length c14, .slice o18 A8.length c18, .slice o22 B8.length c22] [cs, T1, ts.toList, T2, tf.toList, A8, B8] 7 47 x6 rfl (by decide) (Pcs.cons KC (Pcs.cons K4 (Pcs.cons K7 (Pcs.cons K11 (Pcs.cons K14 (Pcs.cons K18 (Pcs.cons K22 Pcs.nil))))))) hlen.out
                  rw [hfl.out] at hJ
                  refine hJ.mono ?_
                  rintro _ x8 ⟨ao9, ac9, rfl, hn, hb⟩
                  have HO9 := Lib.hid (ownsRow_mono hn hB.size)
                  have HB9 := Lib.hid (hB.trans (hb.mono hB.size))
                  replace hS := TS.below hS hlt hb
                  clear hn hb hJ
                  dsimp only
                  refine hK.out _ _ hS (fun hh => ?_)
                  clear hK K hh
                  try simp only [Act.put, List.setIfInBounds_toArray, List.set_cons_zero, List.set_cons_succ]
                  refine wpAnyH_take (i := 25) (oi := { dst := some 4, op := Op.assign (Operand.tmp 50), type := 47, pos := "ref.go:21", after := #[{ on := 24, ground := Ground.data }, { on := 24, ground := Ground.chain }, { on := 0, ground := Ground.phase }, { on := 1, ground := Ground.phase }, { on := 2, ground := Ground.phase }, { on := 3, ground := Ground.phase }, { on := 4, ground := Ground.phase }, { on := 5, ground := Ground.phase }, { on := 6, ground := Ground.phase }, { on := 7, ground := Ground.phase }, { on := 8, ground := Ground.phase }, { on := 9, ground := Ground.phase }, { on := 10, ground := Ground.phase }, { on := 11, ground := Ground.phase }, { on := 12, ground := Ground.phase }, { on := 13, ground := Ground.phase }, { on := 14, ground := Ground.phase }, { on := 15, ground := Ground.phase }, { on := 16, ground := Ground.phase }, { on := 17, ground := Ground.phase }, { on := 18, ground := Ground.phase }, { on := 19, ground := Ground.phase }, { on := 20, ground := Ground.phase }, { on := 21, ground := Ground.phase }, { on := 22, ground := Ground.phase }, { on := 23, ground := Ground.phase }, { on := 24, ground := Ground.phase }], guard := none }) (v := ?_) rfl (by kernel_rfl) (by kernel_rfl) (by kernel_rfl) (fun _ _ _ h => h) (Or.inl ⟨by rfl, ?_⟩) hS ?_
                  rotate_left
                  · intro w hSw; (try dsimp only at hSw); go_simp; try with_reducible rfl
                  try simp only [Act.put, List.setIfInBounds_toArray, List.set_cons_zero, List.set_cons_succ]
                  refine wpAnyH_done (by kernel_rfl) ?_ _
                  go_wp2_with fail
                  go_roundg (gk - 1)
                  case measure => go_light; omega
                  case rel =>
                    go_light
                    exact ⟨k + 1, C, ao9, ac9, by omega, by go_num, rfl, HCC, HFA, HO9, HB9⟩
                · skip
                  go_simp
                  go_at_call 28
                  refine (hEa _).mono ?_
                  rintro _ x4 ⟨o18, c18, rfl, hn, hb⟩
                  have K18 := hn.rd
                  replace hS := TS.below hS hlt hb
                  replace KC := RdV.below KC hb
                  replace K14 := RdV.below K14 hb
                  replace K4 := RdV.below K4 hb
                  replace K11 := RdV.below K11 hb
                  replace hlt := Nat.lt_of_lt_of_le hlt hb.size
                  replace hB := hB.trans (hb.mono hB.size)
                  clear hn hb
                  dsimp only
                  refine hK.out _ _ hS (fun hh => ?_)
                  clear hK K hh
                  try simp only [Act.put, List.setIfInBounds_toArray, List.set_cons_zero, List.set_cons_succ]
                  refine wpAnyH_ready (rs := [7, 22]) (by kernel_rfl) (by simp) (AllReadyH.cons (o := { dst := some 33, op := Op.convert 9 47 (Operand.tmp 32), type := 47, pos := "ref.go:21", after := #[{ on := 6, ground := Ground.data }], guard := none }) rfl (fun K hK => ?_) (AllReadyH.cons (o := { dst := some 48, op := Op.call { callee := Callee.value (Operand.func 28), args := #[Operand.tmp 47], argTypes := #[34] }, type := 47, pos := "ref.go:21", after := #[{ on := 21, ground := Ground.data }, { on := 18, ground := Ground.chain }], guard := none }) rfl (fun K hK => ?_) AllReadyH.nil))
                  · skip
                    obtain ⟨o7, c7, x5, hr, K7, hb⟩ := strBytes_any ts x4 hss
                    go_simp
                    clear hr
                    replace hS := TS.below hS hlt hb
                    replace KC := RdV.below KC hb
                    replace K14 := RdV.below K14 hb
                    replace K4 := RdV.below K4 hb
                    replace K11 := RdV.below K11 hb
                    replace K18 := RdV.below K18 hb
                    replace hlt := Nat.lt_of_lt_of_le hlt hb.size
                    replace hB := hB.trans (hb.mono hB.size)
                    clear hb
                    refine hK.out _ _ hS (fun hh => ?_)
                    clear hK K hh
                    try simp only [Act.put, List.setIfInBounds_toArray, List.set_cons_zero, List.set_cons_succ]
                    refine wpAnyH_ready (rs := [22]) (by kernel_rfl) (by simp) (AllReadyH.cons (o := { dst := some 48, op := Op.call { callee := Callee.value (Operand.func 28), args := #[Operand.tmp 47], argTypes := #[34] }, type := 47, pos := "ref.go:21", after := #[{ on := 21, ground := Ground.data }, { on := 18, ground := Ground.chain }], guard := none }) rfl (fun K hK => ?_) AllReadyH.nil)
                    go_simp
                    go_at_call 28
                    refine (hEb _).mono ?_
                    rintro _ x6 ⟨o22, c22, rfl, hn, hb⟩
                    have K22 := hn.rd
                    replace hS := TS.below hS hlt hb
                    replace KC := RdV.below KC hb
                    replace K14 := RdV.below K14 hb
                    replace K4 := RdV.below K4 hb
                    replace K11 := RdV.below K11 hb
                    replace K18 := RdV.below K18 hb
                    replace K7 := RdV.below K7 hb
                    replace hlt := Nat.lt_of_lt_of_le hlt hb.size
                    replace hB := hB.trans (hb.mono hB.size)
                    clear hn hb
                    dsimp only
                    refine hK.out _ _ hS (fun hh => ?_)
                    clear hK K hh
                    try simp only [Act.put, List.setIfInBounds_toArray, List.set_cons_zero, List.set_cons_succ]
                    refine wpAnyH_ready (rs := [23]) (by kernel_rfl) (by simp) (AllReadyH.cons (o := { dst := some 49, op := Op.buildSlice 78 7 #[(0, Operand.tmp 26), (1, Operand.tmp 30), (2, Operand.tmp 33), (3, Operand.tmp 37), (4, Operand.tmp 40), (5, Operand.tmp 44), (6, Operand.tmp 48)], type := 78, pos := "ref.go:21", after := #[{ on := 0, ground := Ground.data }, { on := 4, ground := Ground.data }, { on := 7, ground := Ground.data }, { on := 11, ground := Ground.data }, { on := 14, ground := Ground.data }, { on := 18, ground := Ground.data }, { on := 22, ground := Ground.data }], guard := none }) rfl (fun K hK => ?_) AllReadyH.nil)
                    go_simp
                    refine hK.out _ _ (TS.below hS hlt ((Below.refl _ _).alloc (Nat.le_refl _) _)) (fun hh => ?_)
                    clear hK K hh
                    try simp only [Act.put, List.setIfInBounds_toArray, List.set_cons_zero, List.set_cons_succ]
                    refine wpAnyH_ready (rs := [24]) (by kernel_rfl) (by simp) (AllReadyH.cons (o := { dst := some 50, op := Op.call { callee := Callee.value (Operand.func 26), args := #[Operand.tmp 49], argTypes := #[78] }, type := 47, pos := "ref.go:21", after := #[{ on := 23, ground := Ground.data }, { on := 22, ground := Ground.chain }], guard := none }) rfl (fun K hK => ?_) AllReadyH.nil)
                    go_simp
                    go_at_call 26
                    have hJ := joinN_any [.slice ao cs.length cap, .slice o4 T1.length c4, .slice o7 ts.toList.length c7, .slice o11 T2.length c11, .slice o14 tf.toList.length c14, .slice o18 A8.length c18, .slice o22 B8.length c22] [cs, T1, ts.toList, T2, tf.toList, A8, B8] 7 47 x6 rfl (by decide) (Pcs.cons KC (Pcs.cons K4 (Pcs.cons K7 (Pcs.cons K11 (Pcs.cons K14 (Pcs.cons K18 (Pcs.cons K22 Pcs.nil))))))) hlen.out
                    rw [hfl.out] at hJ
                    refine hJ.mono ?_
                    rintro _ x8 ⟨ao9, ac9, rfl, hn, hb⟩
                    have HO9 := Lib.hid (ownsRow_mono hn hB.size)
                    have HB9 := Lib.hid (hB.trans (hb.mono hB.size))
                    replace hS := TS.below hS hlt hb
                    clear hn hb hJ
                    dsimp only
                    refine hK.out _ _ hS (fun hh => ?_)
                    clear hK K hh
                    try simp only [Act.put, List.setIfInBounds_toArray, List.set_cons_zero, List.set_cons_succ]
                    refine wpAnyH_take (i := 25) (oi := { dst := some 4, op := Op.assign (Operand.tmp 50), type := 47, pos := "ref.go:21", after := #[{ on := 24, ground := Ground.data }, { on := 24, ground := Ground.chain }, { on := 0, ground := Ground.phase }, { on := 1, ground := Ground.phase }, { on := 2, ground := Ground.phase }, { on := 3, ground := Ground.phase }, { on := 4, ground := Ground.phase }, { on := 5, ground := Ground.phase }, { on := 6, ground := Ground.phase }, { on := 7, ground := Ground.phase }, { on := 8, ground := Ground.phase }, { on := 9, ground := Ground.phase }, { on := 10, ground := Ground.phase }, { on := 11, ground := Ground.phase }, { on := 12, ground := Ground.phase }, { on := 13, ground := Ground.phase }, { on := 14, ground := Ground.phase }, { on := 15, ground := Ground.phase }, { on := 16, ground := Ground.phase }, { on := 17, ground := Ground.phase }, { on := 18, ground := Ground.phase }, { on := 19, ground := Ground.phase }, { on := 20, ground := Ground.phase }, { on := 21, ground := Ground.phase }, { on := 22, ground := Ground.phase }, { on := 23, ground := Ground.phase }, { on := 24, ground := Ground.phase }], guard := none }) (v := ?_) rfl (by kernel_rfl) (by kernel_rfl) (by kernel_rfl) (fun _ _ _ h => h) (Or.inl ⟨by rfl, ?_⟩) hS ?_
                    rotate_left
                    · intro w hSw; (try dsimp only at hSw); go_simp; try with_reducible rfl
                    try simp only [Act.put, List.setIfInBounds_toArray, List.set_cons_zero, List.set_cons_succ]
                    refine wpAnyH_done (by kernel_rfl) ?_ _
                    go_wp2_with fail
                    go_roundg (gk - 1)
                    case measure => go_light; omega
                    case rel =>
                      go_light
                      exact ⟨k + 1, C, ao9, ac9, by omega, by go_num, rfl, HCC, HFA, HO9, HB9⟩
                  · skip
                    go_simp
                    go_at_call 28
                    refine (hEb _).mono ?_
                    rintro _ x5 ⟨o22, c22, rfl, hn, hb⟩
                    have K22 := hn.rd
                    replace hS := TS.below hS hlt hb
                    replace KC := RdV.below KC hb
                    replace K14 := RdV.below K14 hb
                    replace K4 := RdV.below K4 hb
                    replace K11 := RdV.below K11 hb
                    replace K18 := RdV.below K18 hb
                    replace hlt := Nat.lt_of_lt_of_le hlt hb.size
                    replace hB := hB.trans (hb.mono hB.size)
                    clear hn hb
                    dsimp only
                    refine hK.out _ _ hS (fun hh => ?_)
                    clear hK K hh
                    try simp only [Act.put, List.setIfInBounds_toArray, List.set_cons_zero, List.set_cons_succ]
                    refine wpAnyH_ready (rs := [7]) (by kernel_rfl) (by simp) (AllReadyH.cons (o := { dst := some 33, op := Op.convert 9 47 (Operand.tmp 32), type := 47, pos := "ref.go:21", after := #[{ on := 6, ground := Ground.data }], guard := none }) rfl (fun K hK => ?_) AllReadyH.nil)
                    obtain ⟨o7, c7, x6, hr, K7, hb⟩ := strBytes_any ts x5 hss
                    go_simp
                    clear hr
                    replace hS := TS.below hS hlt hb
                    replace KC := RdV.below KC hb
                    replace K14 := RdV.below K14 hb
                    replace K4 := RdV.below K4 hb
                    replace K11 := RdV.below K11 hb
                    replace K18 := RdV.below K18 hb
                    replace K22 := RdV.below K22 hb
                    replace hlt := Nat.lt_of_lt_of_le hlt hb.size
                    replace hB := hB.trans (hb.mono hB.size)
                    clear hb
                    refine hK.out _ _ hS (fun hh => ?_)
                    clear hK K hh
                    try simp only [Act.put, List.setIfInBounds_toArray, List.set_cons_zero, List.set_cons_succ]
                    refine wpAnyH_ready (rs := [23]) (by kernel_rfl) (by simp) (AllReadyH.cons (o := { dst := some 49, op := Op.buildSlice 78 7 #[(0, Operand.tmp 26), (1, Operand.tmp 30), (2, Operand.tmp 33), (3, Operand.tmp 37), (4, Operand.tmp 40), (5, Operand.tmp 44), (6, Operand.tmp 48)], type := 78, pos := "ref.go:21", after := #[{ on := 0, ground := Ground.data }, { on := 4, ground := Ground.data }, { on := 7, ground := Ground.data }, { on := 11, ground := Ground.data }, { on := 14, ground := Ground.data }, { on := 18, ground := Ground.data }, { on := 22, ground := Ground.data }], guard := none }) rfl (fun K hK => ?_) AllReadyH.nil)
                    go_simp
                    refine hK.out _ _ (TS.below hS hlt ((Below.refl _ _).alloc (Nat.le_refl _) _)) (fun hh => ?_)
                    clear hK K hh
                    try simp only [Act.put, List.setIfInBounds_toArray, List.set_cons_zero, List.set_cons_succ]
                    refine wpAnyH_ready (rs := [24]) (by kernel_rfl) (by simp) (AllReadyH.cons (o := { dst := some 50, op := Op.call { callee := Callee.value (Operand.func 26), args := #[Operand.tmp 49], argTypes := #[78] }, type := 47, pos := "ref.go:21", after := #[{ on := 23, ground := Ground.data }, { on := 22, ground := Ground.chain }], guard := none }) rfl (fun K hK => ?_) AllReadyH.nil)
                    go_simp
                    go_at_call 26
                    have hJ := joinN_any [.slice ao cs.length cap, .slice o4 T1.length c4, .slice o7 ts.toList.length c7, .slice o11 T2.length c11, .slice o14 tf.toList.length c14, .slice o18 A8.length c18, .slice o22 B8.length c22] [cs, T1, ts.toList, T2, tf.toList, A8, B8] 7 47 x6 rfl (by decide) (Pcs.cons KC (Pcs.cons K4 (Pcs.cons K7 (Pcs.cons K11 (Pcs.cons K14 (Pcs.cons K18 (Pcs.cons K22 Pcs.nil))))))) hlen.out
                    rw [hfl.out] at hJ
                    refine hJ.mono ?_
                    rintro _ x8 ⟨ao9, ac9, rfl, hn, hb⟩
                    have HO9 := Lib.hid (ownsRow_mono hn hB.size)
                    have HB9 := Lib.hid (hB.trans (hb.mono hB.size))
                    replace hS := TS.below hS hlt hb
                    clear hn hb hJ
                    dsimp only
                    refine hK.out _ _ hS (fun hh => ?_)
                    clear hK K hh
                    try simp only [Act.put, List.setIfInBounds_toArray, List.set_cons_zero, List.set_cons_succ]
                    refine wpAnyH_take (i := 25) (oi := { dst := some 4, op := Op.assign (Operand.tmp 50), type := 47, pos := "ref.go:21", after := #[{ on := 24, ground := Ground.data }, { on := 24, ground := Ground.chain }, { on := 0, ground := Ground.phase }, { on := 1, ground := Ground.phase }, { on := 2, ground := Ground.phase }, { on := 3, ground := Ground.phase }, { on := 4, ground := Ground.phase }, { on := 5, ground := Ground.phase }, { on := 6, ground := Ground.phase }, { on := 7, ground := Ground.phase }, { on := 8, ground := Ground.phase }, { on := 9, ground := Ground.phase }, { on := 10, ground := Ground.phase }, { on := 11, ground := Ground.phase }, { on := 12, ground := Ground.phase }, { on := 13, ground := Ground.phase }, { on := 14, ground := Ground.phase }, { on := 15, ground := Ground.phase }, { on := 16, ground := Ground.phase }, { on := 17, ground := Ground.phase }, { on := 18, ground := Ground.phase }, { on := 19, ground := Ground.phase }, { on := 20, ground := Ground.phase }, { on := 21, ground := Ground.phase }, { on := 22, ground := Ground.phase }, { on := 23, ground := Ground.phase }, { on := 24, ground := Ground.phase }], guard := none }) (v := ?_) rfl (by kernel_rfl) (by kernel_rfl) (by kernel_rfl) (fun _ _ _ h => h) (Or.inl ⟨by rfl, ?_⟩) hS ?_
                    rotate_left
                    · intro w hSw; (try dsimp only at hSw); go_simp; try with_reducible rfl
                    try simp only [Act.put, List.setIfInBounds_toArray, List.set_cons_zero, List.set_cons_succ]
                    refine wpAnyH_done (by kernel_rfl) ?_ _
                    go_wp2_with fail
                    go_roundg (gk - 1)
                    case measure => go_light; omega
                    case rel =>
                      go_light
                      exact ⟨k + 1, C, ao9, ac9, by omega, by go_num, rfl, HCC, HFA, HO9, HB9⟩
            · skip
              obtain ⟨o7, c7, x2, hr, K7, hb⟩ := strBytes_any ts x1 hss
              go_simp
              clear hr
              replace hS := TS.below hS hlt hb
              replace KC := RdV.below KC hb
              replace K14 := RdV.below K14 hb
              replace hlt := Nat.lt_of_lt_of_le hlt hb.size
              replace hB := hB.trans (hb.mono hB.size)
              clear hb
              refine hK.out _ _ hS (fun hh => ?_)
              clear hK K hh
              try simp only [Act.put, List.setIfInBounds_toArray, List.set_cons_zero, List.set_cons_succ]
              refine wpAnyH_ready (rs := [4]) (by kernel_rfl) (by simp) (AllReadyH.cons (o := { dst := some 30, op := Op.call { callee := Callee.value (Operand.func 27), args := #[Operand.tmp 29], argTypes := #[3] }, type := 47, pos := "ref.go:21", after := #[{ on := 3, ground := Ground.data }], guard := none }) rfl (fun K hK => ?_) AllReadyH.nil)
              go_simp
              go_at_call 27
              refine (hTs _).mono ?_
              rintro _ x3 ⟨o4, c4, rfl, hn, hb⟩
              have K4 := hn.rd
              replace hS := TS.below hS hlt hb
              replace KC := RdV.below KC hb
              replace K14 := RdV.below K14 hb
              replace K7 := RdV.below K7 hb
              replace hlt := Nat.lt_of_lt_of_le hlt hb.size
              replace hB := hB.trans (hb.mono hB.size)
              clear hn hb
              dsimp only
              refine hK.out _ _ hS (fun hh => ?_)
              clear hK K hh
              try simp only [Act.put, List.setIfInBounds_toArray, List.set_cons_zero, List.set_cons_succ]
              refine wpAnyH_ready (rs := [11]) (by kernel_rfl) (by simp) (AllReadyH.cons (o := { dst := some 37, op := Op.call { callee := Callee.value (Operand.func 27), args := #[Operand.tmp 36], argTypes := #[3] }, type := 47, pos := "ref.go:21", after := #[{ on := 10, ground := Ground.data }, { on := 4, ground := Ground.chain }], guard := none }) rfl (fun K hK => ?_) AllReadyH.nil)
              go_simp
              go_at_call 27
              refine (hTf _).mono ?_
              rintro _ x4 ⟨o11, c11, rfl, hn, hb⟩
              have K11 := hn.rd
              replace hS := TS.below hS hlt hb
              replace KC := RdV.below KC hb
              replace K14 := RdV.below K14 hb
              replace K7 := RdV.below K7 hb
              replace K4 := RdV.below K4 hb
              replace hlt := Nat.lt_of_lt_of_le hlt hb.size
              replace hB := hB.trans (hb.mono hB.size)
              clear hn hb
              dsimp only
              refine hK.out _ _ hS (fun hh => ?_)
              clear hK K hh
              try simp only [Act.put, List.setIfInBounds_toArray, List.set_cons_zero, List.set_cons_succ]
              refine wpAnyH_ready (rs := [18]) (by kernel_rfl) (by simp) (AllReadyH.cons (o := { dst := some 44, op := Op.call { callee := Callee.value (Operand.func 28), args := #[Operand.tmp 43], argTypes := #[34] }, type := 47, pos := "ref.go:21", after := #[{ on := 17, ground := Ground.data }, { on := 11, ground := Ground.chain }], guard := none }) rfl (fun K hK => ?_) AllReadyH.nil)
              go_simp
              go_at_call 28
              refine (hEa _).mono ?_
              rintro _ x5 ⟨o18, c18, rfl, hn, hb⟩
              have K18 := hn.rd
              replace hS := TS.below hS hlt hb
              replace KC := RdV.below KC hb
              replace K14 := RdV.below K14 hb
              replace K7 := RdV.below K7 hb
              replace K4 := RdV.below K4 hb
              replace K11 := RdV.below K11 hb
              replace hlt := Nat.lt_of_lt_of_le hlt hb.size
              replace hB := hB.trans (hb.mono hB.size)
              clear hn hb
              dsimp only
              refine hK.out _ _ hS (fun hh => ?_)
              clear hK K hh
              try simp only [Act.put, List.setIfInBounds_toArray, List.set_cons_zero, List.set_cons_succ]
              refine wpAnyH_ready (rs := [22]) (by kernel_rfl) (by simp) (AllReadyH.cons (o := { dst := some 48, op := Op.call { callee := Callee.value (Operand.func 28), args := #[Operand.tmp 47], argTypes := #[34] }, type := 47, pos := "ref.go:21", after := #[{ on := 21, ground := Ground.data }, { on := 18, ground := Ground.chain }], guard := none }) rfl (fun K hK => ?_) AllReadyH.nil)
              go_simp
              go_at_call 28
              refine (hEb _).mono ?_
              rintro _ x6 ⟨o22, c22, rfl, hn, hb⟩
              have K22 := hn.rd
              replace hS := TS.below hS hlt hb
              replace KC := RdV.below KC hb
              replace K14 := RdV.below K14 hb
              replace K7 := RdV.below K7 hb
              replace K4 := RdV.below K4 hb
              replace K11 := RdV.below K11 hb
              replace K18 := RdV.below K18 hb
              replace hlt := Nat.lt_of_lt_of_le hlt hb.size
              replace hB := hB.trans (hb.mono hB.size)
              clear hn hb
              dsimp only
              refine hK.out _ _ hS (fun hh => ?_)
              clear hK K hh
              try simp only [Act.put, List.setIfInBounds_toArray, List.set_cons_zero, List.set_cons_succ]
              refine wpAnyH_ready (rs := [23]) (by kernel_rfl) (by simp) (AllReadyH.cons (o := { dst := some 49, op := Op.buildSlice 78 7 #[(0, Operand.tmp 26), (1, Operand.tmp 30), (2, Operand.tmp 33), (3, Operand.tmp 37), (4, Operand.tmp 40), (5, Operand.tmp 44), (6, Operand.tmp 48)], type := 78, pos := "ref.go:21", after := #[{ on := 0, ground := Ground.data }, { on := 4, ground := Ground.data }, { on := 7, ground := Ground.data }, { on := 11, ground := Ground.data }, { on := 14, ground := Ground.data }, { on := 18, ground := Ground.data }, { on := 22, ground := Ground.data }], guard := none }) rfl (fun K hK => ?_) AllReadyH.nil)
              go_simp
              refine hK.out _ _ (TS.below hS hlt ((Below.refl _ _).alloc (Nat.le_refl _) _)) (fun hh => ?_)
              clear hK K hh
              try simp only [Act.put, List.setIfInBounds_toArray, List.set_cons_zero, List.set_cons_succ]
              refine wpAnyH_ready (rs := [24]) (by kernel_rfl) (by simp) (AllReadyH.cons (o := { dst := some 50, op := Op.call { callee := Callee.value (Operand.func 26), args := #[Operand.tmp 49], argTypes := #[78] }, type := 47, pos := "ref.go:21", after := #[{ on := 23, ground := Ground.data }, { on := 22, ground := Ground.chain }], guard := none }) rfl (fun K hK => ?_) AllReadyH.nil)
              go_simp
              go_at_call 26
              have hJ := joinN_any [.slice ao cs.length cap, .slice o4 T1.length c4, .slice o7 ts.toList.length c7, .slice o11 T2.length c11, .slice o14 tf.toList.length c14, .slice o18 A8.length c18, .slice o22 B8.length c22] [cs, T1, ts.toList, T2, tf.toList, A8, B8] 7 47 x6 rfl (by decide) (Pcs.cons KC (Pcs.cons K4 (Pcs.cons K7 (Pcs.cons K11 (Pcs.cons K14 (Pcs.cons K18 (Pcs.cons K22 Pcs.nil))))))) hlen.out
              rw [hfl.out] at hJ
              refine hJ.mono ?_
              rintro _ x8 ⟨ao9, ac9, rfl, hn, hb⟩
              have HO9 := Lib.hid (ownsRow_mono hn hB.size)
              have HB9 := Lib.hid (hB.trans (hb.mono hB.size))
              replace hS := TS.below hS hlt hb
              clear hn hb hJ
              dsimp only
              refine hK.out _ _ hS (fun hh => ?_)
              clear hK K hh
              try simp only [Act.put, List.setIfInBounds_toArray, List.set_cons_zero, List.set_cons_succ]
              refine wpAnyH_take (i := 25) (oi := { dst := some 4, op := Op.assign (Operand.tmp 50), type := 47, pos := "ref.go:21", after := #[{ on := 24, ground := Ground.data }, { on := 24, ground := Ground.chain }, { on := 0, ground := Ground.phase }, { on := 1, ground := Ground.phase }, { on := 2, ground := Ground.phase }, { on := 3, ground := Ground.phase }, { on := 4, ground := Ground.phase }, { on := 5, ground := Ground.phase }, { on := 6, ground := Ground.phase }, { on := 7, ground := Ground.phase }, { on := 8, ground := Ground.phase }, { on := 9, ground := Ground.phase }, { on := 10, ground := Ground.phase }, { on := 11, ground := Ground.phase }, { on := 12, ground := Ground.phase }, { on := 13, ground := Ground.phase }, { on := 14, ground := Ground.phase }, { on := 15, ground := Ground.phase }, { on := 16, ground := Ground.phase }, { on := 17, ground := Ground.phase }, { on := 18, ground := Ground.phase }, { on := 19, ground := Ground.phase }, { on := 20, ground := Ground.phase }, { on := 21, ground := Ground.phase }, { on := 22, ground := Ground.phase }, { on := 23, ground := Ground.phase }, { on := 24, ground := Ground.phase }], guard := none }) (v := ?_) rfl (by kernel_rfl) (by kernel_rfl) (by kernel_rfl) (fun _ _ _ h => h) (Or.inl ⟨by rfl, ?_⟩) hS ?_
              rotate_left
              · intro w hSw; (try dsimp only at hSw); go_simp; try with_reducible rfl
              try simp only [Act.put, List.setIfInBounds_toArray, List.set_cons_zero, List.set_cons_succ]
              refine wpAnyH_done (by kernel_rfl) ?_ _
              go_wp2_with fail
              go_roundg (gk - 1)
              case measure => go_light; omega
              case rel =>
                go_light
                exact ⟨k + 1, C, ao9, ac9, by omega, by go_num, rfl, HCC, HFA, HO9, HB9⟩
        · have hg2 : (4000 : Int) < (tf.size : Int) := by omega
          have HE : Hid (encT l = none) := Lib.hid (encT_none HM.out (by unfold fitT; simp [h2]))
          go_wp2_with fail
          go_ret2
          exact ⟨HB.out.alloc HB.out.size _, .inl ⟨HE.out, by go_light; rfl⟩⟩
      · have hg1 : (4000 : Int) < (ts.size : Int) := by omega
        have HE : Hid (encT l = none) := Lib.hid (encT_none HM.out (by unfold fitT; simp [h1]))
        go_wp2_with fail
        go_ret2
        exact ⟨HB.out.alloc HB.out.size _, .inl ⟨HE.out, by go_light; rfl⟩⟩
end Go.Proofs.Ytmhmmnleijadnaa

