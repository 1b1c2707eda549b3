/- Texts of ours, behind one another: RDec08. No conditions but those that each states. -/
import Derived.Test.YthiojdkhapbbnaaDoorG12
import Derived.Test.YthiojdkhapbbnaaDoorG1
import Derived.Test.YthiojdkhapbbnaaDoorG13
import Derived.Test.YthiojdkhapbbnaaDoorG14
/- XRDec08: gristref08.Decode. (printed by gen_rdec08.py) -/
namespace Go.Proofs.YthiojdkhapbbnaaDoor
open Go.RowKit
set_option linter.unusedVariables false

theorem sum_read {b : List UInt8} (h : 4 ≤ b.length) : rdN 4 (b.drop (b.length - 4)) = crc (bodP b) ↔ sumP b = beN 4 (crc (bodP b)) := by
  have hl : (b.drop (b.length - 4)).length = 4 := by rw [List.length_drop]; omega
  constructor
  · intro e
    have h2 := beN_rdN 4 (b.drop (b.length - 4)) (by omega)
    rw [e, List.take_of_length_le (by omega)] at h2
    exact h2.symm
  · intro e
    have h2 := rd_beN 4 (crc (bodP b)) (crc_lt _) []
    rw [List.append_nil, ← e] at h2
    exact h2

set_option maxHeartbeats 600000 in
set_option maxRecDepth 100000 in
theorem rdecodeB_any (b : List UInt8) (v : Value) (w : World) (hl : b.length ≤ 17592186044400) (hr : Rd w v b) :
    Calls Tryd.prog 15 #[v] w fun e w' => PdEnd b w e w' := by
  obtain ⟨ao0, cap0, rfl, hnc, hcm⟩ := RdV.shape hr
  unfold maxLen at hcm
  have HR := Lib.hid hr
  by_cases h9 : b.length < 9
  · have HNO := Lib.hid (pdG_no_short h9)
    have h9i : (b.length : Int) < 9 := by omega
    clear hr
    go_enter Tryd.func15, Tryd.ntmps15
    go_wp2_with fail
    go_ret2
    exact PdEnd.bad (Below.refl _ _) HNO.out
  · obtain ⟨b0, off0, cp0, he0, _, _, hb0, _⟩ := RdV.some hr (by omega) (by decide)
    simp only [Value.slice.injEq, true_and] at he0
    obtain ⟨rfl, rfl⟩ := he0
    have hRA := readAt_any b 1 4 (by decide) (by omega) (by omega) _ w hr
    have h9i : ¬ (b.length : Int) < 9 := by omega
    obtain ⟨N, hN⟩ : ∃ N, N = nP b := ⟨_, rfl⟩
    have HNP := Lib.hid hN
    have hNl : N < 4294967296 := by rw [hN]; exact nP_lt b
    have hNw : IntKind.i64.wrap (N : Int) = (N : Int) := IntWalk.i64_in _ (by omega)
    have hNe : rdN 4 (b.drop 1) = N := hN.symm
    rw [hNe] at hRA
    clear hr hN hNe
    go_enter Tryd.func15, Tryd.ntmps15
    go_upto_region 4 with (go_at_call 29; refine hRA.mono ?_; rintro _ _ ⟨rfl, q1, rfl⟩)
    clear hRA
    have K5 := Lib.hid (show Rd (w.drewN q1) (.slice (some ⟨b0, off0, none⟩) b.length cap0) b from HR.out)
    have HB6 := Lib.hid (below_drewN (w := w) q1)
    generalize w.drewN q1 = w5 at *
    by_cases hNm : N ≤ b.length - 9
    · have hNi : ¬ (b.length : Int) - 9 < (N : Int) := by omega
      have hTl : (tP b).length = N := by unfold tP; rw [← HNP.out, List.length_take, List.length_drop]; omega
      have hT := cut_at K5.out 5 (5 + N) (by omega) (by omega) (by omega) (c := tP b) (by unfold tP; rw [← HNP.out]; congr 1; omega)
      have HV := Lib.hid (fun w' (h : Rd w' (.slice (some ⟨b0, off0, none⟩) b.length cap0) b) => cut_at h (5 + N) (b.length - 4) (by omega) (by omega) (by omega) (c := vP b) (by unfold vP; rw [← HNP.out]))
      have HVL : Hid ((vP b).length = b.length - 4 - (5 + N)) := Lib.hid (by unfold vP; rw [← HNP.out, List.length_take, List.length_drop]; omega)
      have hD := rdecode_any (tP b) _ w5 (by omega) hT
      rw [hTl] at hD
      clear hT hTl
      cases hdt : decS (tP b) with
      | none =>
        have HNO := Lib.hid (pdG_no_t (b := b) hdt)
        go_upto_region 7 with (go_at_call 30; refine hD.mono ?_; rintro e w6 ⟨hb6, h⟩; rw [hdt] at h; rcases h with ⟨_, rfl⟩ | ⟨_, _, _, h, _⟩; have HB7 := Lib.hid (HB6.out.trans (hb6.mono HB6.out.size)); clear hb6 hD; rotate_left 1; cases h)
        clear hdt
        go_wp2_with fail
        go_ret2
        exact PdEnd.bad HB7.out HNO.out
      | some t =>
        have HDT := Lib.hid hdt
        clear hdt
        go_upto_region 7 with (go_at_call 30; refine hD.mono ?_; rintro e w6 ⟨hb6, h⟩; rw [HDT.out] at h; rcases h with ⟨h, _⟩ | ⟨t2, tao, tcap, h, rfl, hts⟩; cases h; obtain rfl : t = t2 := (by simpa using h); have HB7 := Lib.hid (HB6.out.trans (hb6.mono HB6.out.size)); have HTS := Lib.hid hts; have K6 := Lib.hid (show Rd w6 (.slice (some ⟨b0, off0, none⟩) b.length cap0) b from RdV.below K5.out hb6); have H56 := Lib.hid hb6.size; clear hb6 hD h hts)
        have htl := encS_short (decS_some HDT.out).1
        have HTL := Lib.hid htl
        have hCD := fun w' (h2 : Rd w' (.slice (some ⟨b0, off0, none⟩) b.length cap0) b) => rdecodeC_any (kP b : Int) (t.length : Int) (vP b) _ w' (by unfold i64ok; have := kP_lt b; omega) (by unfold i64ok; omega) (by rw [HVL.out]; omega) (HV.out w' h2)
        have hb0c : w6.cell? ⟨b0, off0, none⟩ = some (.int .u8 (kP b : Int)) := by
          obtain ⟨b1, o1, c1, h1, h2⟩ := rdOne K6.out 0 (by omega)
          simp only [Value.slice.injEq, Option.some.injEq, Addr.mk.injEq] at h1
          obtain ⟨⟨rfl, rfl, _⟩, _, rfl⟩ := h1
          rw [Nat.add_zero] at h2
          rw [h2]
          unfold kP
          rw [getD_get b 0 0 (by omega)]
        have hkl := kP_lt b
        obtain ⟨k, hk⟩ : ∃ k, k = kP b := ⟨_, rfl⟩
        have HKP := Lib.hid hk
        rw [← hk] at hCD hb0c hkl
        obtain ⟨p, hp⟩ : ∃ p, p = dcP (k : Int) (t.length : Int) (vP b) := ⟨_, rfl⟩
        have HP2 := Lib.hid hp
        clear hp hk htl
        obtain ⟨m, hm⟩ : ∃ m, m = b.length - 4 := ⟨_, rfl⟩
        have HM := Lib.hid hm
        have hlo : (b.length : Int) - 4 = (m : Int) := by omega
        have h0b : 0 < b.length := by omega
        have h5N : IntKind.i64.wrap (5 + (N : Int)) = 5 + (N : Int) := IntWalk.i64_in _ (by omega)
        have h5t : (5 + (N : Int)).toNat = 5 + N := by omega
        have hkw : IntKind.i64.wrap (k : Int) = (k : Int) := IntWalk.i64_in _ (by omega)
        have hmw : IntKind.i64.wrap (m : Int) = (m : Int) := IntWalk.i64_in _ (by omega)
        have h0n : 0 ≤ 5 + (N : Int) := by omega
        have hmc : m ≤ cap0 := by omega
        have h5m : 5 + (N : Int) ≤ (m : Int) := by omega
        have hcN : ¬ cap0 = 5 + N := by omega
        have hV2 : b.length - 4 - (5 + N) = m - (5 + N) := by rw [hm]
        have hlt : b0 < w6.drew.heap.size := Nat.lt_of_lt_of_le hb0 (Nat.le_trans HB6.out.size H56.out)
        clear hm
        go_upto_region 9 with fail
        have hS : w6.drew.cell? ⟨b0, off0, none⟩ = some (.int .u8 (k : Int)) := hb0c
        have hC7 := hCD w6.drew K6.out
        have hB7 : Below w.heap.size w w6.drew := HB7.out.drew
        have hT7 : Tms w6.drew (.slice tao t.length tcap) t := HTS.out
        have hK7 : Rd w6.drew (.slice (some ⟨b0, off0, none⟩) b.length cap0) b := K6.out
        rw [HVL.out, hV2] at hC7
        refine wp_region_held_drew (S := fun wz => wz.cell? ⟨b0, off0, none⟩ = some (.int .u8 (k : Int))) (by kernel_rfl) hS (fun hh => ?_)
        clear hh hCD hb0c
        generalize w6.drew = x0 at *
        refine wpAnyH_take (i := 0) (oi := { dst := some 32, op := Op.move (Operand.tmp 0), type := 24, pos := "ref.go:52", after := #[], guard := none }) (v := ?_) rfl (by kernel_rfl) (by kernel_rfl) (by kernel_rfl) (fun _ _ _ h => h) (Or.inl ⟨by rfl, ?_⟩) hS ?_
        rotate_left
        · intro w hSw; (try dsimp only at hSw); go_simp; try with_reducible rfl
        try simp only [Act.put, List.setIfInBounds_toArray, List.set_cons_zero, List.set_cons_succ]
        refine wpAnyH_take (i := 1) (oi := { dst := some 33, op := Op.indexAddr 24 (Operand.tmp 32) (Operand.const (Value.int IntKind.i64 0)), type := 0, pos := "ref.go:52", after := #[{ on := 0, ground := Ground.data }], guard := none }) (v := ?_) rfl (by kernel_rfl) (by kernel_rfl) (by kernel_rfl) (fun _ _ _ h => h) (Or.inl ⟨by rfl, ?_⟩) hS ?_
        rotate_left
        · intro w hSw; (try dsimp only at hSw); go_simp; try with_reducible rfl
        try simp only [Act.put, List.setIfInBounds_toArray, List.set_cons_zero, List.set_cons_succ]
        refine wpAnyH_take (i := 2) (oi := { dst := some 34, op := Op.load 5 (Operand.tmp 33), type := 5, pos := "ref.go:52", after := #[{ on := 1, ground := Ground.data }], guard := none }) (v := ?_) rfl (by kernel_rfl) (by kernel_rfl) (by kernel_rfl) (fun _ _ _ h => h) (Or.inl ⟨by rfl, ?_⟩) hS ?_
        rotate_left
        · intro w hSw; (try dsimp only at hSw); go_simp; try with_reducible rfl
        try simp only [Act.put, List.setIfInBounds_toArray, List.set_cons_zero, List.set_cons_succ]
        refine wpAnyH_take (i := 3) (oi := { dst := some 35, op := Op.convert 5 3 (Operand.tmp 34), type := 3, pos := "ref.go:52", after := #[{ on := 2, ground := Ground.data }], guard := none }) (v := ?_) rfl (by kernel_rfl) (by kernel_rfl) (by kernel_rfl) (fun _ _ _ h => h) (Or.inl ⟨by rfl, ?_⟩) hS ?_
        rotate_left
        · intro w hSw; (try dsimp only at hSw); go_simp; try with_reducible rfl
        try simp only [Act.put, List.setIfInBounds_toArray, List.set_cons_zero, List.set_cons_succ]
        refine wpAnyH_take (i := 4) (oi := { dst := some 36, op := Op.move (Operand.tmp 5), type := 47, pos := "ref.go:52", after := #[], guard := none }) (v := ?_) rfl (by kernel_rfl) (by kernel_rfl) (by kernel_rfl) (fun _ _ _ h => h) (Or.inl ⟨by rfl, ?_⟩) hS ?_
        rotate_left
        · intro w hSw; (try dsimp only at hSw); go_simp; try with_reducible rfl
        try simp only [Act.put, List.setIfInBounds_toArray, List.set_cons_zero, List.set_cons_succ]
        refine wpAnyH_take (i := 5) (oi := { dst := some 37, op := Op.call { callee := Callee.builtin Builtin.len, args := #[Operand.tmp 36], argTypes := #[47] }, type := 3, pos := "ref.go:52", after := #[{ on := 4, ground := Ground.data }], guard := none }) (v := ?_) rfl (by kernel_rfl) (by kernel_rfl) (by kernel_rfl) (fun _ _ _ h => h) (Or.inl ⟨by rfl, ?_⟩) hS ?_
        rotate_left
        · intro w hSw; (try dsimp only at hSw); go_simp; try with_reducible rfl
        try simp only [Act.put, List.setIfInBounds_toArray, List.set_cons_zero, List.set_cons_succ]
        refine wpAnyH_take (i := 6) (oi := { dst := some 38, op := Op.move (Operand.tmp 0), type := 24, pos := "ref.go:52", after := #[], guard := none }) (v := ?_) rfl (by kernel_rfl) (by kernel_rfl) (by kernel_rfl) (fun _ _ _ h => h) (Or.inl ⟨by rfl, ?_⟩) hS ?_
        rotate_left
        · intro w hSw; (try dsimp only at hSw); go_simp; try with_reducible rfl
        try simp only [Act.put, List.setIfInBounds_toArray, List.set_cons_zero, List.set_cons_succ]
        refine wpAnyH_take (i := 7) (oi := { dst := some 39, op := Op.move (Operand.tmp 4), type := 3, pos := "ref.go:52", after := #[], guard := none }) (v := ?_) rfl (by kernel_rfl) (by kernel_rfl) (by kernel_rfl) (fun _ _ _ h => h) (Or.inl ⟨by rfl, ?_⟩) hS ?_
        rotate_left
        · intro w hSw; (try dsimp only at hSw); go_simp; try with_reducible rfl
        try simp only [Act.put, List.setIfInBounds_toArray, List.set_cons_zero, List.set_cons_succ]
        refine wpAnyH_take (i := 8) (oi := { dst := some 40, op := Op.binOp BinOp.add 3 (Operand.const (Value.int IntKind.i64 5)) (Operand.tmp 39) 3, type := 3, pos := "ref.go:52", after := #[{ on := 7, ground := Ground.data }], guard := none }) (v := ?_) rfl (by kernel_rfl) (by kernel_rfl) (by kernel_rfl) (fun _ _ _ h => h) (Or.inl ⟨by rfl, ?_⟩) hS ?_
        rotate_left
        · intro w hSw; (try dsimp only at hSw); go_simp; try with_reducible rfl
        try simp only [Act.put, List.setIfInBounds_toArray, List.set_cons_zero, List.set_cons_succ]
        refine wpAnyH_take (i := 9) (oi := { dst := some 41, op := Op.move (Operand.tmp 0), type := 24, pos := "ref.go:52", after := #[], guard := none }) (v := ?_) rfl (by kernel_rfl) (by kernel_rfl) (by kernel_rfl) (fun _ _ _ h => h) (Or.inl ⟨by rfl, ?_⟩) hS ?_
        rotate_left
        · intro w hSw; (try dsimp only at hSw); go_simp; try with_reducible rfl
        try simp only [Act.put, List.setIfInBounds_toArray, List.set_cons_zero, List.set_cons_succ]
        refine wpAnyH_take (i := 10) (oi := { dst := some 42, op := Op.call { callee := Callee.builtin Builtin.len, args := #[Operand.tmp 41], argTypes := #[24] }, type := 3, pos := "ref.go:52", after := #[{ on := 9, ground := Ground.data }], guard := none }) (v := ?_) rfl (by kernel_rfl) (by kernel_rfl) (by kernel_rfl) (fun _ _ _ h => h) (Or.inl ⟨by rfl, ?_⟩) hS ?_
        rotate_left
        · intro w hSw; (try dsimp only at hSw); go_simp; try with_reducible rfl
        try simp only [Act.put, List.setIfInBounds_toArray, List.set_cons_zero, List.set_cons_succ]
        refine wpAnyH_take (i := 11) (oi := { dst := some 43, op := Op.binOp BinOp.sub 3 (Operand.tmp 42) (Operand.const (Value.int IntKind.i64 4)) 3, type := 3, pos := "ref.go:52", after := #[{ on := 10, ground := Ground.data }], guard := none }) (v := ?_) rfl (by kernel_rfl) (by kernel_rfl) (by kernel_rfl) (fun _ _ _ h => h) (Or.inl ⟨by rfl, ?_⟩) hS ?_
        rotate_left
        · intro w hSw; (try dsimp only at hSw); go_simp; try with_reducible rfl
        try simp only [Act.put, List.setIfInBounds_toArray, List.set_cons_zero, List.set_cons_succ]
        refine wpAnyH_take (i := 12) (oi := { dst := some 44, op := Op.slice 24 (Operand.tmp 38) (some (Operand.tmp 40)) (some (Operand.tmp 43)) none, type := 24, pos := "ref.go:52", after := #[{ on := 6, ground := Ground.data }, { on := 8, ground := Ground.data }, { on := 11, ground := Ground.data }], guard := none }) (v := ?_) rfl (by kernel_rfl) (by kernel_rfl) (by kernel_rfl) (fun _ _ _ h => h) (Or.inl ⟨by rfl, ?_⟩) hS ?_
        rotate_left
        · intro w hSw; (try dsimp only at hSw); go_simp; try with_reducible rfl
        try simp only [Act.put, List.setIfInBounds_toArray, List.set_cons_zero, List.set_cons_succ]
        refine wpAnyH_ready (rs := [13]) (by kernel_rfl) (by simp) (AllReadyH.cons (o := { dst := some 45, op := Op.call { callee := Callee.value (Operand.func 31), args := #[Operand.tmp 35, Operand.tmp 37, Operand.tmp 44], argTypes := #[3, 3, 24] }, type := 60, pos := "ref.go:52", after := #[{ on := 3, ground := Ground.data }, { on := 5, ground := Ground.data }, { on := 12, ground := Ground.data }], guard := none }) rfl (fun K hK => ?_) AllReadyH.nil)
        go_simp
        go_at_call 31
        refine hC7.mono ?_
        rintro e y1 ⟨hb7, hu7, ao7, cap7, rfl, hv7⟩
        rw [← HP2.out] at hv7 ⊢
        have HB8 := Lib.hid (hB7.trans (hb7.mono hB7.size))
        have HV8 := Lib.hid hv7
        have HU := Lib.hid hu7
        have HT8 := Lib.hid (show Tms y1 (.slice tao t.length tcap) t from RdV.below hT7 hb7)
        have HK8 := Lib.hid (show Rd y1 (.slice (some ⟨b0, off0, none⟩) b.length cap0) b from RdV.below hK7 hb7)
        replace hS : y1.cell? ⟨b0, off0, none⟩ = some (.int .u8 (k : Int)) := ((Chg.ofBelowAny (S := fun _ => False) hb7).cell (p := ⟨b0, off0, none⟩) hlt (fun h => h)).trans hS
        clear hb7 hv7 hu7 hC7 hB7 hT7 hK7
        dsimp only
        refine hK.out _ _ hS (fun hh => ?_)
        clear hK K hh
        try simp only [Act.put, List.setIfInBounds_toArray, List.set_cons_zero, List.set_cons_succ]
        refine wpAnyH_take (i := 14) (oi := { dst := some 31, op := Op.move (Operand.tmp 45), type := 60, pos := "ref.go:52", after := #[{ on := 13, ground := Ground.data }], guard := none }) (v := ?_) rfl (by kernel_rfl) (by kernel_rfl) (by kernel_rfl) (fun _ _ _ h => h) (Or.inl ⟨by rfl, ?_⟩) hS ?_
        rotate_left
        · intro w hSw; (try dsimp only at hSw); go_simp; try with_reducible rfl
        try simp only [Act.put, List.setIfInBounds_toArray, List.set_cons_zero, List.set_cons_succ]
        refine wpAnyH_take (i := 15) (oi := { dst := some 46, op := Op.extract (Operand.tmp 31) 0, type := 48, pos := "ref.go:52", after := #[{ on := 14, ground := Ground.data }], guard := none }) (v := ?_) rfl (by kernel_rfl) (by kernel_rfl) (by kernel_rfl) (fun _ _ _ h => h) (Or.inl ⟨by rfl, ?_⟩) hS ?_
        rotate_left
        · intro w hSw; (try dsimp only at hSw); go_simp; try with_reducible rfl
        try simp only [Act.put, List.setIfInBounds_toArray, List.set_cons_zero, List.set_cons_succ]
        refine wpAnyH_take (i := 16) (oi := { dst := some 47, op := Op.extract (Operand.tmp 31) 1, type := 25, pos := "ref.go:52", after := #[{ on := 14, ground := Ground.data }, { on := 17, ground := Ground.gcOnly Departure.lateStores }], guard := none }) (v := ?_) rfl (by kernel_rfl) (by kernel_rfl) (by kernel_rfl) (fun _ _ _ h => h) (Or.inl ⟨by rfl, ?_⟩) hS ?_
        rotate_left
        · intro w hSw; (try dsimp only at hSw); go_simp; try with_reducible rfl
        try simp only [Act.put, List.setIfInBounds_toArray, List.set_cons_zero, List.set_cons_succ]
        refine wpAnyH_take (i := 17) (oi := { dst := some 7, op := Op.assign (Operand.tmp 46), type := 48, pos := "ref.go:52", after := #[{ on := 15, ground := Ground.data }, { on := 13, ground := Ground.chain }, { on := 0, ground := Ground.phase }, { on := 1, ground := Ground.phase }, { on := 2, ground := Ground.phase }, { on := 3, ground := Ground.phase }, { on := 4, ground := Ground.phase }, { on := 5, ground := Ground.phase }, { on := 6, ground := Ground.phase }, { on := 7, ground := Ground.phase }, { on := 8, ground := Ground.phase }, { on := 9, ground := Ground.phase }, { on := 10, ground := Ground.phase }, { on := 11, ground := Ground.phase }, { on := 12, ground := Ground.phase }, { on := 13, ground := Ground.phase }, { on := 14, ground := Ground.phase }, { on := 15, ground := Ground.phase }, { on := 16, ground := Ground.textOnly Departure.lateStores }], guard := none }) (v := ?_) rfl (by kernel_rfl) (by kernel_rfl) (by kernel_rfl) (fun _ _ _ h => h) (Or.inl ⟨by rfl, ?_⟩) hS ?_
        rotate_left
        · intro w hSw; (try dsimp only at hSw); go_simp; try with_reducible rfl
        try simp only [Act.put, List.setIfInBounds_toArray, List.set_cons_zero, List.set_cons_succ]
        refine wpAnyH_take (i := 18) (oi := { dst := some 6, op := Op.assign (Operand.tmp 47), type := 25, pos := "ref.go:52", after := #[{ on := 16, ground := Ground.data }, { on := 17, ground := Ground.chain }, { on := 0, ground := Ground.phase }, { on := 1, ground := Ground.phase }, { on := 2, ground := Ground.phase }, { on := 3, ground := Ground.phase }, { on := 4, ground := Ground.phase }, { on := 5, ground := Ground.phase }, { on := 6, ground := Ground.phase }, { on := 7, ground := Ground.phase }, { on := 8, ground := Ground.phase }, { on := 9, ground := Ground.phase }, { on := 10, ground := Ground.phase }, { on := 11, ground := Ground.phase }, { on := 12, ground := Ground.phase }, { on := 13, ground := Ground.phase }, { on := 14, ground := Ground.phase }, { on := 15, ground := Ground.phase }, { on := 16, ground := Ground.phase }, { on := 17, ground := Ground.phase }], guard := none }) (v := ?_) rfl (by kernel_rfl) (by kernel_rfl) (by kernel_rfl) (fun _ _ _ h => h) (Or.inl ⟨by rfl, ?_⟩) hS ?_
        rotate_left
        · intro w hSw; (try dsimp only at hSw); go_simp; try with_reducible rfl
        try simp only [Act.put, List.setIfInBounds_toArray, List.set_cons_zero, List.set_cons_succ]
        refine wpAnyH_done (by kernel_rfl) ?_ _
        clear hS hlt h5N h5t hkw h0n h5m hcN h0b hV2
        by_cases hm0 : p.2 = 0
        · obtain ⟨vs, e0⟩ := p
          dsimp only at hm0
          subst hm0
          dsimp only at *
          have hbl : (bodP b).length = m := by unfold bodP; rw [List.length_take, ← HM.out]; omega
          have hpr : Rd y1 (.slice (some ⟨b0, off0, none⟩) m cap0) (bodP b) := by
            have h := cut_at HK8.out 0 m (Nat.zero_le _) (by omega) (by omega) (c := bodP b) (by unfold bodP; rw [HM.out]; simp)
            rw [hbl] at h
            exact h
          have hSr := rsum_any (bodP b) _ y1 hpr
          have hRA2 := fun q => readAt_any b m 4 (by decide) (by omega) (by omega) _ (y1.drewN q) HK8.out
          have HSR := Lib.hid (sum_read (b := b) (by omega))
          rw [← HM.out] at HSR
          have hCl := crc_lt (bodP b)
          have HCR := Lib.hid (show crc (bodP b) = crc (bodP b) from rfl)
          have hNS : Hid (sumP b ≠ beN 4 (crc (bodP b)) → ∀ l, ¬ PdG b l) := Lib.hid (fun h => pdG_no_sum (b := b) h)
          clear hbl hpr HCR
          obtain ⟨C, hC⟩ : ∃ C, C = crc (bodP b) := ⟨_, rfl⟩
          obtain ⟨R, hR⟩ : ∃ R, R = rdN 4 (b.drop m) := ⟨_, rfl⟩
          have HCC := Lib.hid hC
          have HRR := Lib.hid hR
          rw [← hC] at hSr hCl
          simp only [← hR] at hRA2
          have hCw : IntKind.u64.wrap (C : Int) = (C : Int) := by rw [IntKind.wrap_u64]; omega
          clear hC hR
          by_cases hCR : C = R
          · have hCI : ((C : Int) != (R : Int)) = false := by simp [hCR]
            have HSE : Hid (sumP b = beN 4 (crc (bodP b))) := Lib.hid (HSR.out.1 (by rw [← HRR.out, ← HCC.out, hCR]))
            clear hCR HSR HCC HRR hNS
            go_upto_region 12 with (first
              | (go_at_call 12; refine hSr.mono ?_; rintro _ _ ⟨rfl, q2, rfl⟩)
              | (go_at_call 29; refine (hRA2 _).mono ?_; rintro _ _ ⟨rfl, q3, rfl⟩))
            have HCG : Hid (CdG (k : Int) (t.length : Int) (vP b) vs) := Lib.hid (by
              have h := dcP_CdG (k := (k : Int)) (n := (t.length : Int)) (b := vP b) (by rw [← HP2.out])
              rw [← HP2.out] at h
              exact h)
            have hvl : vs.length = t.length := by have := HCG.out.2.1; omega
            have HGD := Lib.hid (pdG_of (b := b) (t := t) (vs := vs) (by omega) HSE.out (by rw [← HNP.out]; exact hNm) HDT.out (by rw [← HKP.out]; exact HCG.out) (fun l' h' => HU.out vs l' HCG.out (by rw [HKP.out]; exact h')))
            have HLZ := Lib.hid (show (zipP t vs).length = t.length from zipP_len hvl.symm)
            have HVLn := Lib.hid hvl
            have HTN := Lib.hid HTL.out.2.2
            have HTN0 := Lib.hid HTL.out.2.1
            rw [hvl]
            have HV9 : Hid (Vals (y1.drewN (q2 + q3)) (.slice ao7 t.length cap7) vs) := Lib.hid (by have := HV8.out; rw [hvl] at this; exact this)
            have HT8 : Hid (Tms (y1.drewN (q2 + q3)) (.slice tao t.length tcap) t) := Lib.hid HT8.out
            clear hvl HV8 HU HCG HDT HSE HNP HKP HP2 HV HVL HR HM HB6 HB7 HTS K5 K6 H56 HTL HK8 hSr hRA2 hCl hCw hCI hmw hmc hlo
            have HB8 := Lib.hid (HB8.out.trans ((below_drewN (q2 + q3)).mono HB8.out.size))
            generalize y1.drewN (q2 + q3) = y2 at *
            obtain ⟨n, hn⟩ : ∃ n, n = t.length := ⟨_, rfl⟩
            have hn0 : 0 < n := by have := HTN0.out; omega
            have hn1 : n ≤ 1000 := by have := HTN.out; omega
            obtain ⟨tb, tf, tc, het, _, _, htb, htc⟩ := RdV.some HT8.out (by omega) (by decide)
            simp only [Value.slice.injEq, true_and] at het
            obtain ⟨rfl, rfl⟩ := het
            obtain ⟨vb, vf, vc, hev, _, _, hvb, hvc⟩ := RdV.some HV9.out (by have := HVLn.out; omega) (by decide)
            simp only [Value.slice.injEq] at hev
            obtain ⟨rfl, _, rfl⟩ := hev
            have HTC : Hid (∀ j, j < n → y2.cell? ⟨tb, tf + j, none⟩ = some (.int .i64 ((zipP t vs).getD j p0).t)) := Lib.hid (fun j hj => htc j _ (by
              have h1 : (zipP t vs)[j]? = some ((zipP t vs).getD j p0) := by rw [getD_get _ _ _ (by rw [HLZ.out]; omega)]; exact List.getElem?_eq_getElem _
              have h2 := congrArg (fun l => l[j]?) (tsP_zip (t := t) (v := vs) HVLn.out.symm)
              simp only [tsP, List.getElem?_map, h1, Option.map_some] at h2
              rw [List.getElem?_map, ← h2]
              rfl))
            have HVC : Hid (∀ j, j < n → y2.cell? ⟨vb, vf + j * 3, none⟩ = some (.int .i64 ((zipP t vs).getD j p0).v.k) ∧ y2.cell? ⟨vb, vf + j * 3 + 1, none⟩ = some (.int .u64 (((zipP t vs).getD j p0).v.b : Int)) ∧ y2.cell? ⟨vb, vf + j * 3 + 2, none⟩ = some (.string ((zipP t vs).getD j p0).v.t)) := Lib.hid (fun j hj => by
              have hj2 : j < vs.length := by rw [HVLn.out]; omega
              have h1 : (zipP t vs)[j]? = some ((zipP t vs).getD j p0) := by rw [getD_get _ _ _ (by rw [HLZ.out]; omega)]; exact List.getElem?_eq_getElem _
              have h2 := congrArg (fun l => l[j]?) (vsP_zip (t := t) (v := vs) HVLn.out.symm)
              simp only [vsP, List.getElem?_map, h1, Option.map_some] at h2
              have h3 : vs[j] = ((zipP t vs).getD j p0).v := by rw [List.getElem?_eq_getElem hj2] at h2; simpa using h2.symm
              have e0 := flat_at Va.cells 3 (fun _ => rfl) vs j hj2 0 (by omega)
              have e1 := flat_at Va.cells 3 (fun _ => rfl) vs j hj2 1 (by omega)
              have e2 := flat_at Va.cells 3 (fun _ => rfl) vs j hj2 2 (by omega)
              rw [h3] at e0 e1 e2
              have f0 := hvc _ _ e0
              have f1 := hvc _ _ e1
              have f2 := hvc _ _ e2
              exact ⟨f0, f1, f2⟩)
            rw [← hn] at HLZ HVLn HTN ⊢
            have HTn := Lib.hid hn
            clear hn htc hvc HT8 HV9
            obtain ⟨Z, hZ⟩ : ∃ Z, Z = zipP t vs := ⟨_, rfl⟩
            rw [← hZ] at HGD HLZ HTC HVC
            clear hZ
            obtain ⟨B0, hB0⟩ : ∃ B0, B0 = y2.heap.size := ⟨_, rfl⟩
            have HB0 := Lib.hid hB0
            rw [← hB0] at htb hvb
            clear hB0 HT8
            go_wp2_with fail
            go_loopg [8, 67] n (fun mm s8 s67 wr => ∃ (j : Nat) (ao : Option Addr) (cap : Nat), j + mm = n ∧ s67 = .int .i64 (j : Int) ∧ s8 = .slice ao j cap ∧ Hid (wr.ownsRow B0 42 4 (.slice ao j cap) j ((Z.take j).flatMap Pn.cells)) ∧ Hid (Below B0 y2 wr))
            case atStart => exact ⟨0, none, 0, by omega, rfl, rfl, Lib.hid (World.ownsRow_nil _ _ _ _), Lib.hid (Below.refl _ _)⟩
            case round =>
              obtain ⟨j, ao, cap, hj, rfl, rfl, HO, HBw⟩ := hrel
              by_cases h0 : gk = 0
              · obtain rfl : j = n := by omega
                have hPZ : Z.take j = Z := List.take_of_length_le (by rw [HLZ.out]; omega)
                rw [hPZ] at HO
                clear hj hPZ
                go_wp2_with fail
                go_ret2
                have hB := HB8.out.trans (HBw.out.mono (by rw [HB0.out]; exact HB8.out.size))
                have hv := RdV.ofOwns HO.out
                rw [← HLZ.out] at hv ⊢
                exact PdEnd.good hB HGD.out.1 HGD.out.2 hv
              · have hjn : j < n := by omega
                have hct : wr.cell? ⟨tb, tf + j, none⟩ = some (.int .i64 (Z.getD j p0).t) := (HBw.out.cell (p := ⟨tb, tf + j, none⟩) htb).trans (HTC.out j hjn)
                have hvv := HVC.out j hjn
                have hv0 := (HBw.out.cell (p := ⟨vb, vf + j * 3, none⟩) hvb).trans hvv.1
                have hv1 := (HBw.out.cell (p := ⟨vb, vf + j * 3 + 1, none⟩) hvb).trans hvv.2.1
                have hv2 := (HBw.out.cell (p := ⟨vb, vf + j * 3 + 2, none⟩) hvb).trans hvv.2.2
                have HNX : Hid ((Z.take (j + 1)).flatMap Pn.cells = (Z.take j).flatMap Pn.cells ++ (Z.getD j p0).cells) := Lib.hid (by
                  rw [take_more Z p0 j (by rw [HLZ.out]; exact hjn), flatP_snoc])
                clear hvv
                generalize Z.getD j p0 = u at *
                obtain ⟨ut, uk, ub, ux⟩ := u
                dsimp only at *
                generalize (Z.take j).flatMap Pn.cells = X at *
                go_upto_region 16 with fail
                have hod : wr.drew.ownsRow B0 42 4 (.slice ao j cap) j X := HO.out
                have hbd : Below B0 y2 wr.drew := HBw.out.drew
                have hsz : B0 ≤ wr.drew.heap.size := by rw [HB0.out]; exact HBw.out.size
                have htw : tb < wr.drew.heap.size := Nat.lt_of_lt_of_le htb hsz
                have hvw : vb < wr.drew.heap.size := Nat.lt_of_lt_of_le hvb hsz
                have hnt : ∀ i, (Value.slice ao j cap).ownBlock = some i → B0 ≤ i := fun i hi => (hod.lt i hi).1
                have h63 : j + 1 ≤ maxLen := by unfold maxLen; omega
                have hby : (j + 1) * 40 ≤ 140737488355328 := by omega
                have hba : ∀ o, B0 ≤ (wr.drew.alloc o).heap.size := fun o => by have e : (wr.drew.alloc o).heap.size = wr.drew.heap.size + 1 := World.size_alloc _ _; omega
                have hnb1 : ¬ (Value.slice ao j cap).ownBlock = some tb := fun h => by have := hnt _ h; omega
                have hnb2 : ¬ (Value.slice ao j cap).ownBlock = some vb := fun h => by have := hnt _ h; omega
                have e0 : wr.drew.cell? ⟨tb, tf + j, none⟩ = some (.int .i64 ut) := hct
                have e1 : wr.drew.cell? ⟨vb, vf + j * 3, none⟩ = some (.int .i64 uk) := hv0
                have e2 : wr.drew.cell? ⟨vb, vf + j * 3 + 1, none⟩ = some (.int .u64 (ub : Int)) := hv1
                have e3 : wr.drew.cell? ⟨vb, vf + j * 3 + 2, none⟩ = some (.string ux) := hv2
                clear hct hv0 hv1 hv2
                go_region_held3 (fun w' => w'.cell? ⟨tb, tf + j, none⟩ = some (.int .i64 ut) ∧ w'.cell? ⟨vb, vf + j * 3, none⟩ = some (.int .i64 uk) ∧ w'.cell? ⟨vb, vf + j * 3 + 1, none⟩ = some (.int .u64 (ub : Int)) ∧ w'.cell? ⟨vb, vf + j * 3 + 2, none⟩ = some (.string ux))
                  (first
                    | exact ⟨e0, e1, e2, e3⟩
                    | exact ⟨(World.cell?_alloc_past _ _ _ htw).trans e0, (World.cell?_alloc_past _ _ _ hvw).trans e1, (World.cell?_alloc_past _ _ _ hvw).trans e2, (World.cell?_alloc_past _ _ _ hvw).trans e3⟩
                    | exact ⟨(hCg.cell (p := ⟨tb, tf + j, none⟩) htw hnb1).trans e0, (hCg.cell (p := ⟨vb, vf + j * 3, none⟩) hvw hnb2).trans e1, (hCg.cell (p := ⟨vb, vf + j * 3 + 1, none⟩) hvw hnb2).trans e2, (hCg.cell (p := ⟨vb, vf + j * 3 + 2, none⟩) hvw hnb2).trans e3⟩)
                  ((refine step_append_rd (wr.drew.alloc _) rfl (.tmp 70) (.tmp 80) 22 rfl B0 42 (.agg #[.int .i64 0, .int .i64 0, .int .u64 0, .string .empty]) 4 40 Tryd.underlying22 infoPn rfl (by decide) (.slice ao j cap) j X rfl (hod.alloc _) (.slice (some ⟨wr.drew.heap.size, 0, none⟩) 1 1) 1 [.int .i64 ut, .int .i64 uk, .int .u64 (ub : Int), .string ux] rfl (RdV.lit _ _ _ 1 4 (by decide) rfl) (pn_one ⟨ut, uk, ub, ux⟩) h63 hby (hba _) ?_; intro ao6 cap6 w8 hg6; have HG := Lib.hid hg6.ofAlloc; have hCg := hg6.ofAlloc.chg; clear hg6))
                all_goals go_wp2
                go_roundg (gk - 1)
                case measure => go_light; omega
                case rel =>
                  go_light
                  have hg := HG.out
                  refine ⟨j + 1, ao6, cap6, by omega, by go_num, rfl, Lib.hid ?_, Lib.hid (hbd.trans (hg.chg.below hsz hnt))⟩
                  rw [HNX.out]
                  exact hg.owns
          · have hCI : ((C : Int) != (R : Int)) = true := by simp; omega
            have HNO := Lib.hid (hNS.out (fun h => hCR (by rw [HCC.out, HRR.out]; exact (HSR.out.2 h).symm)))
            clear hCR HSR HCC HRR hNS
            go_wp2_with (first
              | (go_at_call 12; refine hSr.mono ?_; rintro _ _ ⟨rfl, q2, rfl⟩)
              | (go_at_call 29; refine (hRA2 _).mono ?_; rintro _ _ ⟨rfl, q3, rfl⟩))
            go_ret2
            exact PdEnd.bad (HB8.out.trans ((below_drewN _).mono HB8.out.size)) HNO.out
        · have hno := dcP_no (by rw [← HP2.out]; exact hm0)
          rw [← HP2.out] at hno
          have HNO := Lib.hid (pdG_no_v HDT.out (by rw [← HKP.out]; exact hno.2))
          obtain ⟨vs, e0⟩ := p
          obtain ⟨rfl, _⟩ := hno
          clear hm0
          dsimp only at *
          go_wp2_with fail
          go_ret2
          exact PdEnd.bad HB8.out HNO.out
    · have hNi : (b.length : Int) - 9 < (N : Int) := by omega
      have HNO := Lib.hid (pdG_no_n (b := b) (by rw [← HNP.out]; omega))
      clear hNm
      go_wp2_with fail
      go_ret2
      exact PdEnd.bad HB6.out HNO.out
end Go.Proofs.YthiojdkhapbbnaaDoor

