/- BitsNil's walk: the nil writer and the nil reader do nothing, and what a writer gave away is its taker's own. -/
import Derived.Test.YtnocfepkjhdliaaReader
import Derived.Test.YtnocfepkjhdliaaOpen
import Derived.Test.YtnocfepkjhdliaaAwake03
import Derived.Deep.RegionHeld3
namespace Go.Proofs.Ytnocfepkjhdliaa
open Go.RowKit Go.ChangeShapes Go.WideShapes Go.ChangeAt
set_option linter.unusedVariables false
set_option linter.unusedSimpArgs false

theorem ownAt {w : World} {base : Nat} {v : Value} {bs : List UInt8} (h : Own w base v bs) (k : Nat) (hk : k < bs.length) :
    ∃ g cap, v = .slice (some ⟨g, 0, none⟩) bs.length cap ∧ base ≤ g ∧ g < w.heap.size ∧ w.cell? ⟨g, k, none⟩ = some (.int .u8 (bs[k].toNat : Int)) ∧ w.frozen? ⟨g, k, none⟩ = false ∧
      ∀ z : Int, 0 ≤ z → z < 256 → Own (w.setCell ⟨g, k, none⟩ (.int .u8 z)) base v (bs.set k (UInt8.ofNat z.toNat)) := by
  have h0 := h
  unfold Own at h
  rcases h.2 with ⟨_, h'⟩ | ⟨g, cap, cur, rfl, hb, _⟩
  · omega
  · refine ⟨g, cap, rfl, hb, (h.lt g rfl).2, ?_, h.frozenAt k, fun z h1 h2 => ?_⟩
    · rw [h.cellAt k (by omega)]
      simp [hk, bV]
    · have h3 := (h.stored k (.int .u8 z)).1
      unfold Own
      have e : bV (UInt8.ofNat z.toNat) = .int .u8 z := by simp [bV]; omega
      rw [List.length_set, List.map_set, e]
      exact h3

theorem bits8_take (bs : List UInt8) (k : Nat) (h : k < bs.length) : bits8 (bs.take (k + 1)) = bits8 (bs.take k) ++ bitsOf bs[k].toNat 8 := by
  rw [List.take_succ_eq_append_getElem h, bits8_append]; simp [bits8]
theorem bits8_len (bs : List UInt8) : (bits8 bs).length = 8 * bs.length := by
  induction bs with
  | nil => rfl
  | cons b r ih => rw [bits8_cons, List.length_append, length_bitsOf, ih, List.length_cons]; omega
theorem pack8_more (bs : List UInt8) : pack8 (bits8 bs ++ bitsOf 1 8) = bs ++ [1] := by
  rw [pack8_append _ _ (by rw [bits8_len]; omega), pack8_bits8, pack8_one _ (by intro h; have := congrArg List.length h; simp at this) (by simp)]
  rfl

set_option maxRecDepth 100000 in
set_option maxHeartbeats 1000000 in
theorem bitsNil_run (n : Int) (bs : List UInt8) (v : Value) (w : World) (hbs : bs.length ≤ 140737488351232) (hr : Rd w v bs) :
    Calls Try.prog 8 #[v, .int .i64 n] w fun e w' => e = .returned (.bool true) ∧ Below w.heap.size w w' := by
  obtain ⟨ao0, cap0, rfl, hlc, hcm⟩ := RdV.shape hr
  unfold maxLen at hcm
  go_enter Try.func8, Try.ntmps8
  go_wp2_with fail
  refine (awake_any w).mono ?_
  rintro e w1 ⟨rfl, hb1⟩
  have hr1 : Rd w1 (.slice ao0 bs.length cap0) bs := RdV.below hr hb1
  have HB1 := Lib.hid hb1
  clear hb1 hr
  go_wp2_with fail
  refine (putNil_any 1 n w1).mono ?_
  rintro e w2 ⟨rfl, rfl⟩
  go_wp2_with fail
  refine (newWriter_any w1).mono ?_
  rintro e w2 ⟨rfl, rfl⟩
  go_wp2_with fail
  go_loopg [8, 19] bs.length (fun m s8 s19 wr => ∃ k : Nat, k + m = bs.length ∧ s19 = .int .i64 k ∧ ∃ sv, Wr wr w1.heap.size sv (bits8 (bs.take k)) ∧ Below w1.heap.size w1 wr)
  case atStart => exact ⟨0, by omega, rfl, _, newWr_wr w1, (Below.refl _ _).alloc (Nat.le_refl _) _⟩
  case round =>
    obtain ⟨k, hk, rfl, sv, hwr, hbel⟩ := hrel
    by_cases h0 : gk = 0
    · obtain rfl : k = bs.length := by omega
      clear hk
      rw [List.take_length] at hwr
      have hbl := bits8_len bs
      have hby := bytes_any w1.heap.size sv (bits8 bs) wr (by omega) hwr
      rw [pack8_bits8] at hby
      have hsl : ∀ k, sv.ownBlock = some k → k < wr.heap.size := fun k hk => (hwr.2.2.2.2.lt k hk).2
      have hbk := hwr.lt
      obtain ⟨B3, hB3⟩ : ∃ B, B = wr.heap.size := ⟨_, rfl⟩
      rw [← hB3] at hsl hbk hby
      have HB := Lib.hid hbel
      have HW := Lib.hid hwr
      have HB3 := Lib.hid hB3
      clear hbel hwr hbl
      go_wp2_with fail
      refine hby.mono ?_
      rintro e w4 ⟨ao4, cap4, rfl, hown4, hb4⟩
      have hb4' : Below wr.heap.size wr w4 := by rw [← HB3.out]; exact hb4
      have hwr4 := Lib.hid (HW.out.below hb4')
      have hbel4 := Lib.hid (HB.out.trans (hb4'.mono HB.out.size))
      have hs4 := hb4'.size
      have hs3 : B3 ≤ w4.heap.size := by rw [HB3.out]; exact hs4
      clear hby HB HW hb4 hb4' hB3 hs4
      go_wp2_with fail
      go_loopg [10, 34] bs.length (fun m s10 s34 wr => ∃ k : Nat, k + m = bs.length ∧ s34 = .int .i64 k ∧ ∃ cs : List UInt8, cs.length = bs.length ∧ Own wr B3 (.slice ao4 bs.length cap4) cs ∧ Wr wr w1.heap.size sv (bits8 bs) ∧ Below w1.heap.size w1 wr ∧ B3 ≤ wr.heap.size)
      case atStart => exact ⟨0, by omega, rfl, bs, rfl, hown4, hwr4.out, hbel4.out, hs3⟩
      case round =>
        obtain ⟨k, hk, rfl, cs, hcl, hown, hwr, hbel, hs5⟩ := hrel
        clear h0
        by_cases h0 : gk = 0
        · obtain rfl : k = bs.length := by omega
          clear hk
          have HO := Lib.hid hown
          have HW := Lib.hid hwr
          have HB := Lib.hid hbel
          clear hown hwr hbel hown4 hwr4 hbel4
          go_wp2_with fail
          go_loopg [9, 44] 9 (fun m s9 s44 wr => ∃ k : Nat, k + m = 9 ∧ s44 = .int .i64 k ∧ ∃ ao cap xs, s9 = .slice ao (bs.length + k : Nat) cap ∧ wr.ownsRow B3 5 1 (.slice ao (bs.length + k : Nat) cap) (bs.length + k) xs ∧ Wr wr w1.heap.size sv (bits8 bs) ∧ Below w1.heap.size w1 wr ∧ B3 ≤ wr.heap.size)
          case atStart =>
            have ho := HO.out
            unfold Own at ho
            rw [hcl] at ho
            exact ⟨0, by omega, rfl, ao4, cap4, _, rfl, ho, HW.out, HB.out, hs5⟩
          case round =>
            obtain ⟨k, hk, rfl, ao5, cap5, xs5, rfl, hown, hwr, hbel, hown3⟩ := hrel
            clear h0
            by_cases h0 : gk = 0
            · obtain rfl : k = 9 := by omega
              clear hk
              have hbl := bits8_len bs
              have hput := put_any w1.heap.size 1 8 (by omega) (by omega) sv (bits8 bs) wr (by omega) (by omega) hwr
              have HW := Lib.hid hwr
              have HB := Lib.hid hbel
              clear hwr hbel hown HO
              go_wp2_with fail
              refine hput.mono ?_
              rintro e w7 ⟨rfl, sv7, hw7, hs7⟩
              have hb7 := HB.out.trans (hs7.below HW.out)
              have hr7 : Rd w7.drew (.slice ao0 bs.length cap0) bs := (RdV.below hr1 hb7).drew
              have hw7d : Wr w7.drew w1.heap.size sv7 (bits8 bs ++ bitsOf 1 8) := hw7
              have hby7 := bytes_any w1.heap.size sv7 _ w7.drew (by rw [List.length_append, length_bitsOf]; omega) hw7d
              rw [pack8_more] at hby7
              have HB7 := Lib.hid hb7
              clear hb7 hs7 hw7 hw7d HW HB hput hsl hbl
              have c7 := run_str hr7 30 5 9 Try.underlying30 Try.underlying5 Try.underlying9
              go_upto_region 23 with fail
              go_cut [4] (fun s4 wx => s4 = .bool true ∧ Below w.heap.size w wx)
              case first =>
                refine wp_region_held_drew (S := fun w' => (convert 30 9 (.slice ao0 bs.length cap0)).run Try.prog w' = Result.ok (Value.string (strOf bs)) w') (by kernel_rfl) c7 (fun hHeld => ?_)
                refine wpAnyH_take (i := 0) (oi := { dst := some 52, op := Op.move (Operand.tmp 5), type := 28, pos := "law.go:129", after := #[], guard := none }) (v := ?_) rfl (by kernel_rfl) (by kernel_rfl) (by kernel_rfl) (fun _ _ _ h => h) (Or.inl ⟨by rfl, ?_⟩) hHeld ?_
                rotate_left
                · intro w hSw; (try dsimp only at hSw); go_simp; try with_reducible rfl
                try simp only [Act.put, List.setIfInBounds_toArray, List.set_cons_zero, List.set_cons_succ]
                refine wpAnyH_ready (rs := [1]) (by kernel_rfl) (by simp) (AllReadyH.cons (o := { dst := some 53, op := Op.call { callee := Callee.value (Operand.func 17), args := #[Operand.tmp 52], argTypes := #[28] }, type := 3, pos := "law.go:129", after := #[{ on := 0, ground := Ground.data }], guard := none }) rfl (fun K hK => ?_) AllReadyH.nil)
                go_simp
                go_at_call 17
                refine (wlenNil_any _).mono ?_
                rintro e w8 ⟨rfl, rfl⟩
                dsimp only
                refine hK.out _ _ hHeld (fun hh => ?_)
                clear hK K hh
                try simp only [Act.put, List.setIfInBounds_toArray, List.set_cons_zero, List.set_cons_succ]
                refine wpAnyH_take (i := 2) (oi := { dst := some 54, op := Op.binOp BinOp.eql 3 (Operand.tmp 53) (Operand.const (Value.int IntKind.i64 0)) 3, type := 4, pos := "law.go:129", after := #[{ on := 1, ground := Ground.data }], guard := none }) (v := ?_) rfl (by kernel_rfl) (by kernel_rfl) (by kernel_rfl) (fun _ _ _ h => h) (Or.inl ⟨by rfl, ?_⟩) hHeld ?_
                rotate_left
                · intro w hSw; (try dsimp only at hSw); go_simp; try with_reducible rfl
                try simp only [Act.put, List.setIfInBounds_toArray, List.set_cons_zero, List.set_cons_succ]
                refine wpAnyH_take (i := 3) (oi := { dst := some 55, op := Op.move (Operand.tmp 54), type := 4, pos := "law.go:129", after := #[{ on := 2, ground := Ground.data }, { on := 1, ground := Ground.chain }], guard := none }) (v := ?_) rfl (by kernel_rfl) (by kernel_rfl) (by kernel_rfl) (fun _ _ _ h => h) (Or.inl ⟨by rfl, ?_⟩) hHeld ?_
                rotate_left
                · intro w hSw; (try dsimp only at hSw); go_simp; try with_reducible rfl
                try simp only [Act.put, List.setIfInBounds_toArray, List.set_cons_zero, List.set_cons_succ]
                refine wpAnyH_take (i := 4) (oi := { dst := some 56, op := Op.move (Operand.tmp 5), type := 28, pos := "law.go:129", after := #[{ on := 3, ground := Ground.guard }], guard := some (3, true) }) (v := ?_) rfl (by kernel_rfl) (by kernel_rfl) (by kernel_rfl) (fun _ _ _ h => h) (Or.inl ⟨by rfl, ?_⟩) hHeld ?_
                rotate_left
                · intro w hSw; (try dsimp only at hSw); go_simp; try with_reducible rfl
                try simp only [Act.put, List.setIfInBounds_toArray, List.set_cons_zero, List.set_cons_succ]
                refine wpAnyH_ready (rs := [5]) (by kernel_rfl) (by simp) (AllReadyH.cons (o := { dst := some 57, op := Op.call { callee := Callee.value (Operand.func 18), args := #[Operand.tmp 56], argTypes := #[28] }, type := 30, pos := "law.go:129", after := #[{ on := 4, ground := Ground.data }, { on := 3, ground := Ground.chain }, { on := 3, ground := Ground.guard }], guard := some (3, true) }) rfl (fun K hK => ?_) AllReadyH.nil)
                go_simp
                go_at_call 18
                refine (bytesNil_any _).mono ?_
                rintro e w8 ⟨rfl, rfl⟩
                dsimp only
                refine hK.out _ _ hHeld (fun hh => ?_)
                clear hK K hh
                try simp only [Act.put, List.setIfInBounds_toArray, List.set_cons_zero, List.set_cons_succ]
                refine wpAnyH_take (i := 6) (oi := { dst := some 58, op := Op.call { callee := Callee.builtin Builtin.len, args := #[Operand.tmp 57], argTypes := #[30] }, type := 3, pos := "law.go:129", after := #[{ on := 5, ground := Ground.data }, { on := 3, ground := Ground.guard }], guard := some (3, true) }) (v := ?_) rfl (by kernel_rfl) (by kernel_rfl) (by kernel_rfl) (fun _ _ _ h => h) (Or.inl ⟨by rfl, ?_⟩) hHeld ?_
                rotate_left
                · intro w hSw; (try dsimp only at hSw); go_simp; try with_reducible rfl
                try simp only [Act.put, List.setIfInBounds_toArray, List.set_cons_zero, List.set_cons_succ]
                refine wpAnyH_take (i := 7) (oi := { dst := some 59, op := Op.binOp BinOp.eql 3 (Operand.tmp 58) (Operand.const (Value.int IntKind.i64 0)) 3, type := 4, pos := "law.go:129", after := #[{ on := 6, ground := Ground.data }, { on := 3, ground := Ground.guard }], guard := some (3, true) }) (v := ?_) rfl (by kernel_rfl) (by kernel_rfl) (by kernel_rfl) (fun _ _ _ h => h) (Or.inl ⟨by rfl, ?_⟩) hHeld ?_
                rotate_left
                · intro w hSw; (try dsimp only at hSw); go_simp; try with_reducible rfl
                try simp only [Act.put, List.setIfInBounds_toArray, List.set_cons_zero, List.set_cons_succ]
                refine wpAnyH_take (i := 8) (oi := { dst := some 60, op := Op.pick (Operand.tmp 55) (Operand.tmp 59) (Operand.const (Value.bool false)), type := 4, pos := "law.go:129", after := #[{ on := 3, ground := Ground.data }, { on := 7, ground := Ground.data }], guard := none }) (v := ?_) rfl (by kernel_rfl) (by kernel_rfl) (by kernel_rfl) (fun _ _ _ h => h) (Or.inl ⟨by rfl, ?_⟩) hHeld ?_
                rotate_left
                · intro w hSw; (try dsimp only at hSw); go_simp; try with_reducible rfl
                try simp only [Act.put, List.setIfInBounds_toArray, List.set_cons_zero, List.set_cons_succ]
                refine wpAnyH_take (i := 9) (oi := { dst := some 61, op := Op.move (Operand.tmp 60), type := 4, pos := "law.go:129", after := #[{ on := 8, ground := Ground.data }, { on := 5, ground := Ground.chain }], guard := none }) (v := ?_) rfl (by kernel_rfl) (by kernel_rfl) (by kernel_rfl) (fun _ _ _ h => h) (Or.inl ⟨by rfl, ?_⟩) hHeld ?_
                rotate_left
                · intro w hSw; (try dsimp only at hSw); go_simp; try with_reducible rfl
                try simp only [Act.put, List.setIfInBounds_toArray, List.set_cons_zero, List.set_cons_succ]
                refine wpAnyH_take (i := 10) (oi := { dst := some 62, op := Op.move (Operand.tmp 6), type := 44, pos := "law.go:129", after := #[{ on := 9, ground := Ground.guard }], guard := some (9, true) }) (v := ?_) rfl (by kernel_rfl) (by kernel_rfl) (by kernel_rfl) (fun _ _ _ h => h) (Or.inl ⟨by rfl, ?_⟩) hHeld ?_
                rotate_left
                · intro w hSw; (try dsimp only at hSw); go_simp; try with_reducible rfl
                try simp only [Act.put, List.setIfInBounds_toArray, List.set_cons_zero, List.set_cons_succ]
                refine wpAnyH_take (i := 11) (oi := { dst := some 63, op := Op.move (Operand.tmp 1), type := 3, pos := "law.go:129", after := #[{ on := 9, ground := Ground.guard }], guard := some (9, true) }) (v := ?_) rfl (by kernel_rfl) (by kernel_rfl) (by kernel_rfl) (fun _ _ _ h => h) (Or.inl ⟨by rfl, ?_⟩) hHeld ?_
                rotate_left
                · intro w hSw; (try dsimp only at hSw); go_simp; try with_reducible rfl
                try simp only [Act.put, List.setIfInBounds_toArray, List.set_cons_zero, List.set_cons_succ]
                refine wpAnyH_ready (rs := [12]) (by kernel_rfl) (by simp) (AllReadyH.cons (o := { dst := some 64, op := Op.call { callee := Callee.value (Operand.func 27), args := #[Operand.tmp 62, Operand.tmp 63], argTypes := #[44, 3] }, type := 22, pos := "law.go:129", after := #[{ on := 10, ground := Ground.data }, { on := 11, ground := Ground.data }, { on := 9, ground := Ground.chain }, { on := 9, ground := Ground.guard }], guard := some (9, true) }) rfl (fun K hK => ?_) AllReadyH.nil)
                go_simp
                go_at_call 27
                refine (getNil_any n _).mono ?_
                rintro e w8 ⟨rfl, rfl⟩
                dsimp only
                refine hK.out _ _ hHeld (fun hh => ?_)
                clear hK K hh
                try simp only [Act.put, List.setIfInBounds_toArray, List.set_cons_zero, List.set_cons_succ]
                refine wpAnyH_take (i := 13) (oi := { dst := some 65, op := Op.binOp BinOp.eql 22 (Operand.tmp 64) (Operand.const (Value.int IntKind.u64 0)) 22, type := 4, pos := "law.go:129", after := #[{ on := 12, ground := Ground.data }, { on := 9, ground := Ground.guard }], guard := some (9, true) }) (v := ?_) rfl (by kernel_rfl) (by kernel_rfl) (by kernel_rfl) (fun _ _ _ h => h) (Or.inl ⟨by rfl, ?_⟩) hHeld ?_
                rotate_left
                · intro w hSw; (try dsimp only at hSw); go_simp; try with_reducible rfl
                try simp only [Act.put, List.setIfInBounds_toArray, List.set_cons_zero, List.set_cons_succ]
                refine wpAnyH_take (i := 14) (oi := { dst := some 66, op := Op.pick (Operand.tmp 61) (Operand.tmp 65) (Operand.const (Value.bool false)), type := 4, pos := "law.go:129", after := #[{ on := 9, ground := Ground.data }, { on := 13, ground := Ground.data }], guard := none }) (v := ?_) rfl (by kernel_rfl) (by kernel_rfl) (by kernel_rfl) (fun _ _ _ h => h) (Or.inl ⟨by rfl, ?_⟩) hHeld ?_
                rotate_left
                · intro w hSw; (try dsimp only at hSw); go_simp; try with_reducible rfl
                try simp only [Act.put, List.setIfInBounds_toArray, List.set_cons_zero, List.set_cons_succ]
                refine wpAnyH_take (i := 15) (oi := { dst := some 67, op := Op.move (Operand.tmp 66), type := 4, pos := "law.go:129", after := #[{ on := 14, ground := Ground.data }, { on := 12, ground := Ground.chain }], guard := none }) (v := ?_) rfl (by kernel_rfl) (by kernel_rfl) (by kernel_rfl) (fun _ _ _ h => h) (Or.inl ⟨by rfl, ?_⟩) hHeld ?_
                rotate_left
                · intro w hSw; (try dsimp only at hSw); go_simp; try with_reducible rfl
                try simp only [Act.put, List.setIfInBounds_toArray, List.set_cons_zero, List.set_cons_succ]
                refine wpAnyH_take (i := 16) (oi := { dst := some 68, op := Op.move (Operand.tmp 6), type := 44, pos := "law.go:129", after := #[{ on := 15, ground := Ground.guard }], guard := some (15, true) }) (v := ?_) rfl (by kernel_rfl) (by kernel_rfl) (by kernel_rfl) (fun _ _ _ h => h) (Or.inl ⟨by rfl, ?_⟩) hHeld ?_
                rotate_left
                · intro w hSw; (try dsimp only at hSw); go_simp; try with_reducible rfl
                try simp only [Act.put, List.setIfInBounds_toArray, List.set_cons_zero, List.set_cons_succ]
                refine wpAnyH_ready (rs := [17]) (by kernel_rfl) (by simp) (AllReadyH.cons (o := { dst := some 69, op := Op.call { callee := Callee.value (Operand.func 29), args := #[Operand.tmp 68], argTypes := #[44] }, type := 3, pos := "law.go:129", after := #[{ on := 16, ground := Ground.data }, { on := 15, ground := Ground.chain }, { on := 15, ground := Ground.guard }], guard := some (15, true) }) rfl (fun K hK => ?_) AllReadyH.nil)
                go_simp
                go_at_call 29
                refine (leftNil_any _).mono ?_
                rintro e w8 ⟨rfl, rfl⟩
                dsimp only
                refine hK.out _ _ hHeld (fun hh => ?_)
                clear hK K hh
                try simp only [Act.put, List.setIfInBounds_toArray, List.set_cons_zero, List.set_cons_succ]
                refine wpAnyH_take (i := 18) (oi := { dst := some 70, op := Op.binOp BinOp.eql 3 (Operand.tmp 69) (Operand.const (Value.int IntKind.i64 0)) 3, type := 4, pos := "law.go:129", after := #[{ on := 17, ground := Ground.data }, { on := 15, ground := Ground.guard }], guard := some (15, true) }) (v := ?_) rfl (by kernel_rfl) (by kernel_rfl) (by kernel_rfl) (fun _ _ _ h => h) (Or.inl ⟨by rfl, ?_⟩) hHeld ?_
                rotate_left
                · intro w hSw; (try dsimp only at hSw); go_simp; try with_reducible rfl
                try simp only [Act.put, List.setIfInBounds_toArray, List.set_cons_zero, List.set_cons_succ]
                refine wpAnyH_take (i := 19) (oi := { dst := some 71, op := Op.pick (Operand.tmp 67) (Operand.tmp 70) (Operand.const (Value.bool false)), type := 4, pos := "law.go:129", after := #[{ on := 15, ground := Ground.data }, { on := 18, ground := Ground.data }], guard := none }) (v := ?_) rfl (by kernel_rfl) (by kernel_rfl) (by kernel_rfl) (fun _ _ _ h => h) (Or.inl ⟨by rfl, ?_⟩) hHeld ?_
                rotate_left
                · intro w hSw; (try dsimp only at hSw); go_simp; try with_reducible rfl
                try simp only [Act.put, List.setIfInBounds_toArray, List.set_cons_zero, List.set_cons_succ]
                refine wpAnyH_take (i := 20) (oi := { dst := some 72, op := Op.move (Operand.tmp 71), type := 4, pos := "law.go:129", after := #[{ on := 19, ground := Ground.data }, { on := 17, ground := Ground.chain }], guard := none }) (v := ?_) rfl (by kernel_rfl) (by kernel_rfl) (by kernel_rfl) (fun _ _ _ h => h) (Or.inl ⟨by rfl, ?_⟩) hHeld ?_
                rotate_left
                · intro w hSw; (try dsimp only at hSw); go_simp; try with_reducible rfl
                try simp only [Act.put, List.setIfInBounds_toArray, List.set_cons_zero, List.set_cons_succ]
                refine wpAnyH_take (i := 21) (oi := { dst := some 73, op := Op.move (Operand.tmp 6), type := 44, pos := "law.go:129", after := #[{ on := 20, ground := Ground.guard }], guard := some (20, true) }) (v := ?_) rfl (by kernel_rfl) (by kernel_rfl) (by kernel_rfl) (fun _ _ _ h => h) (Or.inl ⟨by rfl, ?_⟩) hHeld ?_
                rotate_left
                · intro w hSw; (try dsimp only at hSw); go_simp; try with_reducible rfl
                try simp only [Act.put, List.setIfInBounds_toArray, List.set_cons_zero, List.set_cons_succ]
                refine wpAnyH_ready (rs := [22]) (by kernel_rfl) (by simp) (AllReadyH.cons (o := { dst := some 74, op := Op.call { callee := Callee.value (Operand.func 28), args := #[Operand.tmp 73], argTypes := #[44] }, type := 4, pos := "law.go:129", after := #[{ on := 21, ground := Ground.data }, { on := 20, ground := Ground.chain }, { on := 20, ground := Ground.guard }], guard := some (20, true) }) rfl (fun K hK => ?_) AllReadyH.nil)
                go_simp
                go_at_call 28
                refine (badNil_any _).mono ?_
                rintro e w8 ⟨rfl, rfl⟩
                dsimp only
                refine hK.out _ _ hHeld (fun hh => ?_)
                clear hK K hh
                try simp only [Act.put, List.setIfInBounds_toArray, List.set_cons_zero, List.set_cons_succ]
                refine wpAnyH_take (i := 23) (oi := { dst := some 75, op := Op.pick (Operand.tmp 72) (Operand.tmp 74) (Operand.const (Value.bool false)), type := 4, pos := "law.go:129", after := #[{ on := 20, ground := Ground.data }, { on := 22, ground := Ground.data }], guard := none }) (v := ?_) rfl (by kernel_rfl) (by kernel_rfl) (by kernel_rfl) (fun _ _ _ h => h) (Or.inl ⟨by rfl, ?_⟩) hHeld ?_
                rotate_left
                · intro w hSw; (try dsimp only at hSw); go_simp; try with_reducible rfl
                try simp only [Act.put, List.setIfInBounds_toArray, List.set_cons_zero, List.set_cons_succ]
                refine wpAnyH_take (i := 24) (oi := { dst := some 76, op := Op.move (Operand.tmp 75), type := 4, pos := "law.go:129", after := #[{ on := 23, ground := Ground.data }, { on := 22, ground := Ground.chain }], guard := none }) (v := ?_) rfl (by kernel_rfl) (by kernel_rfl) (by kernel_rfl) (fun _ _ _ h => h) (Or.inl ⟨by rfl, ?_⟩) hHeld ?_
                rotate_left
                · intro w hSw; (try dsimp only at hSw); go_simp; try with_reducible rfl
                try simp only [Act.put, List.setIfInBounds_toArray, List.set_cons_zero, List.set_cons_succ]
                refine wpAnyH_take (i := 25) (oi := { dst := some 77, op := Op.move (Operand.tmp 7), type := 28, pos := "law.go:129", after := #[{ on := 24, ground := Ground.guard }], guard := some (24, true) }) (v := ?_) rfl (by kernel_rfl) (by kernel_rfl) (by kernel_rfl) (fun _ _ _ h => h) (Or.inl ⟨by rfl, ?_⟩) hHeld ?_
                rotate_left
                · intro w hSw; (try dsimp only at hSw); go_simp; try with_reducible rfl
                try simp only [Act.put, List.setIfInBounds_toArray, List.set_cons_zero, List.set_cons_succ]
                refine wpAnyH_take (i := 27) (oi := { dst := some 79, op := Op.move (Operand.tmp 0), type := 30, pos := "law.go:129", after := #[{ on := 24, ground := Ground.guard }], guard := some (24, true) }) (v := ?_) rfl (by kernel_rfl) (by kernel_rfl) (by kernel_rfl) (fun _ _ _ h => h) (Or.inl ⟨by rfl, ?_⟩) hHeld ?_
                rotate_left
                · intro w hSw; (try dsimp only at hSw); go_simp; try with_reducible rfl
                try simp only [Act.put, List.setIfInBounds_toArray, List.set_cons_zero, List.set_cons_succ]
                refine wpAnyH_take (i := 28) (oi := { dst := some 80, op := Op.call { callee := Callee.builtin Builtin.len, args := #[Operand.tmp 79], argTypes := #[30] }, type := 3, pos := "law.go:129", after := #[{ on := 27, ground := Ground.data }, { on := 24, ground := Ground.guard }], guard := some (24, true) }) (v := ?_) rfl (by kernel_rfl) (by kernel_rfl) (by kernel_rfl) (fun _ _ _ h => h) (Or.inl ⟨by rfl, ?_⟩) hHeld ?_
                rotate_left
                · intro w hSw; (try dsimp only at hSw); go_simp; try with_reducible rfl
                try simp only [Act.put, List.setIfInBounds_toArray, List.set_cons_zero, List.set_cons_succ]
                refine wpAnyH_take (i := 31) (oi := { dst := some 83, op := Op.move (Operand.tmp 0), type := 30, pos := "law.go:129", after := #[{ on := 24, ground := Ground.guard }], guard := some (24, true) }) (v := ?_) rfl (by kernel_rfl) (by kernel_rfl) (by kernel_rfl) (fun _ _ _ h => h) (Or.inl ⟨by rfl, ?_⟩) hHeld ?_
                rotate_left
                · intro w hSw; (try dsimp only at hSw); go_simp; try with_reducible rfl
                try simp only [Act.put, List.setIfInBounds_toArray, List.set_cons_zero, List.set_cons_succ]
                refine wpAnyH_take (i := 32) (oi := { dst := some 84, op := Op.convert 30 9 (Operand.tmp 83), type := 9, pos := "law.go:129", after := #[{ on := 31, ground := Ground.data }, { on := 24, ground := Ground.guard }], guard := some (24, true) }) (v := ?_) rfl (by kernel_rfl) (by kernel_rfl) (by kernel_rfl) (fun _ _ _ h => h) (Or.inl ⟨by rfl, ?_⟩) hHeld ?_
                rotate_left
                · intro w hSw; (try dsimp only at hSw); go_simp; try with_reducible rfl
                try simp only [Act.put, List.setIfInBounds_toArray, List.set_cons_zero, List.set_cons_succ]
                refine wpAnyH_ready (rs := [26]) (by kernel_rfl) (by simp) (AllReadyH.cons (o := { dst := some 78, op := Op.call { callee := Callee.value (Operand.func 18), args := #[Operand.tmp 77], argTypes := #[28] }, type := 30, pos := "law.go:129", after := #[{ on := 25, ground := Ground.data }, { on := 24, ground := Ground.chain }, { on := 24, ground := Ground.guard }], guard := some (24, true) }) rfl (fun K hK => ?_) AllReadyH.nil)
                go_simp
                go_at_call 18
                refine hby7.mono ?_
                rintro e w9 ⟨ao9, cap9, rfl, ho9, hb9⟩
                obtain ⟨g, cap', he, -, -, -⟩ := ownAt ho9 bs.length (by simp)
                simp only [Value.slice.injEq, true_and] at he
                obtain ⟨rfl, rfl⟩ := he
                obtain ⟨_, _, he, hc1, hc2⟩ := RdV.shape ho9.rd.v
                simp only [Value.slice.injEq] at he
                obtain ⟨-, -, rfl⟩ := he
                rw [List.length_append, List.length_singleton] at hc1
                have hcapI : (bs.length : Int) ≤ (cap9 : Int) := by omega
                have hcap0 : ¬ cap9 = 0 := by omega
                have hcut := RdV.cut ho9.rd.v 0 bs.length (by omega) (by simp)
                rw [if_neg hcap0] at hcut
                simp only [Option.map_some, Nat.zero_mul, Addr.add, Nat.add_zero, Nat.sub_zero, List.drop_zero, Nat.mul_one, List.map_append] at hcut
                rw [List.take_left' (by simp)] at hcut
                have hcs := run_str (show Rd w9 (.slice (some ⟨g, 0, none⟩) bs.length cap9) bs from hcut) 30 5 9 Try.underlying30 Try.underlying5 Try.underlying9
                have hc9 := run_str (RdV.below hr7 hb9) 30 5 9 Try.underlying30 Try.underlying5 Try.underlying9
                dsimp only
                refine hK.out _ _ hc9 (fun hH9 => ?_)
                clear hK K
                try simp only [Act.put, List.setIfInBounds_toArray, List.set_cons_zero, List.set_cons_succ]
                clear hcut ho9 hby7
                refine wpAnyH_take (i := 29) (oi := { dst := some 81, op := Op.slice 30 (Operand.tmp 78) none (some (Operand.tmp 80)) none, type := 30, pos := "law.go:129", after := #[{ on := 26, ground := Ground.data }, { on := 28, ground := Ground.data }, { on := 24, ground := Ground.guard }], guard := some (24, true) }) (v := ?_) rfl (by kernel_rfl) (by kernel_rfl) (by kernel_rfl) (fun _ _ _ h => h) (Or.inl ⟨by rfl, ?_⟩) hH9 ?_
                rotate_left
                · intro w hSw; (try dsimp only at hSw); go_simp; try with_reducible rfl
                try simp only [Act.put, List.setIfInBounds_toArray, List.set_cons_zero, List.set_cons_succ]
                refine wpAnyH_ready (rs := [30]) (by kernel_rfl) (by simp) (AllReadyH.cons (o := { dst := some 82, op := Op.convert 30 9 (Operand.tmp 81), type := 9, pos := "law.go:129", after := #[{ on := 29, ground := Ground.data }, { on := 24, ground := Ground.guard }], guard := some (24, true) }) rfl (fun K hK => ?_) AllReadyH.nil)
                go_simp
                refine hK.out _ _ hc9 (fun hh => ?_)
                clear hK K hh
                try simp only [Act.put, List.setIfInBounds_toArray, List.set_cons_zero, List.set_cons_succ]
                refine wpAnyH_take (i := 33) (oi := { dst := some 85, op := Op.binOp BinOp.eql 9 (Operand.tmp 82) (Operand.tmp 84) 9, type := 4, pos := "law.go:129", after := #[{ on := 30, ground := Ground.data }, { on := 32, ground := Ground.data }, { on := 24, ground := Ground.guard }], guard := some (24, true) }) (v := ?_) rfl (by kernel_rfl) (by kernel_rfl) (by kernel_rfl) (fun _ _ _ h => h) (Or.inl ⟨by rfl, ?_⟩) hH9 ?_
                rotate_left
                · intro w hSw; (try dsimp only at hSw); go_simp; try with_reducible rfl
                try simp only [Act.put, List.setIfInBounds_toArray, List.set_cons_zero, List.set_cons_succ]
                refine wpAnyH_take (i := 34) (oi := { dst := some 86, op := Op.pick (Operand.tmp 76) (Operand.tmp 85) (Operand.const (Value.bool false)), type := 4, pos := "law.go:129", after := #[{ on := 24, ground := Ground.data }, { on := 33, ground := Ground.data }], guard := none }) (v := ?_) rfl (by kernel_rfl) (by kernel_rfl) (by kernel_rfl) (fun _ _ _ h => h) (Or.inl ⟨by rfl, ?_⟩) hH9 ?_
                rotate_left
                · intro w hSw; (try dsimp only at hSw); go_simp; try with_reducible rfl
                try simp only [Act.put, List.setIfInBounds_toArray, List.set_cons_zero, List.set_cons_succ]
                refine wpAnyH_take (i := 35) (oi := { dst := some 4, op := Op.assign (Operand.tmp 86), type := 4, pos := "law.go:129", after := #[{ on := 34, ground := Ground.data }, { on := 26, ground := Ground.chain }, { on := 0, ground := Ground.phase }, { on := 1, ground := Ground.phase }, { on := 2, ground := Ground.phase }, { on := 3, ground := Ground.phase }, { on := 4, ground := Ground.phase }, { on := 5, ground := Ground.phase }, { on := 6, ground := Ground.phase }, { on := 7, ground := Ground.phase }, { on := 8, ground := Ground.phase }, { on := 9, ground := Ground.phase }, { on := 10, ground := Ground.phase }, { on := 11, ground := Ground.phase }, { on := 12, ground := Ground.phase }, { on := 13, ground := Ground.phase }, { on := 14, ground := Ground.phase }, { on := 15, ground := Ground.phase }, { on := 16, ground := Ground.phase }, { on := 17, ground := Ground.phase }, { on := 18, ground := Ground.phase }, { on := 19, ground := Ground.phase }, { on := 20, ground := Ground.phase }, { on := 21, ground := Ground.phase }, { on := 22, ground := Ground.phase }, { on := 23, ground := Ground.phase }, { on := 24, ground := Ground.phase }, { on := 25, ground := Ground.phase }, { on := 26, ground := Ground.phase }, { on := 27, ground := Ground.phase }, { on := 28, ground := Ground.phase }, { on := 29, ground := Ground.phase }, { on := 30, ground := Ground.phase }, { on := 31, ground := Ground.phase }, { on := 32, ground := Ground.phase }, { on := 33, ground := Ground.phase }, { on := 34, ground := Ground.phase }], guard := none }) (v := ?_) rfl (by kernel_rfl) (by kernel_rfl) (by kernel_rfl) (fun _ _ _ h => h) (Or.inl ⟨by rfl, ?_⟩) hH9 ?_
                rotate_left
                · intro w hSw; (try dsimp only at hSw); go_simp; try with_reducible rfl
                try simp only [Act.put, List.setIfInBounds_toArray, List.set_cons_zero, List.set_cons_succ]
                refine wpAnyH_done (by kernel_rfl) ?_ _
                clear hc9 hcs hcapI hcap0 hc1 hc2 hHeld hH9 c7 hcl hr7 hs3 hs5 hown3 hbk h0 hlc hcm hr1
                have HB9 := Lib.hid hb9
                clear hb9
                all_goals (go_wp2_with fail; go_meet; go_light; exact ⟨by simp, HB1.out.trans ((HB7.out.trans ((Below.refl _ _).drew.trans (HB9.out.mono (Nat.le_refl _)) |>.mono HB7.out.size)).mono HB1.out.size)⟩)
              case rest =>
                obtain ⟨rfl, hbx⟩ := hcut
                have H2 := Lib.hid hbx
                clear hbx
                go_wp2
                go_ret
                exact ⟨rfl, H2.out⟩
            · have h63 : bs.length + k + 1 ≤ maxLen := by unfold maxLen; omega
              have hby : (bs.length + k + 1) * 1 ≤ 140737488355328 := by omega
              have hba : ∀ o, B3 ≤ (wr.alloc o).heap.size := fun o => by have := hown3; simp; omega
              have hlow : ∀ i, (Value.slice ao5 (bs.length + k : Nat) cap5).ownBlock = some i → B3 ≤ i := fun i hi => (hown.lt i hi).1
              have HW := Lib.hid hwr
              have HB := Lib.hid hbel
              clear hwr hbel HO
              go_wp2_with (at_builtin; refine wpList_append_rd _ rfl (.tmp 46) (.tmp 47) 30 rfl B3 5 (.int .u8 0) 1 1 Try.underlying30 infoU8 rfl (by decide) _ _ _ rfl (hown.alloc _) (.slice (some ⟨wr.heap.size, 0, none⟩) 1 1) 1 [_] rfl (RdV.one _ _ _) (one_one _ rfl) h63 hby (hba _) ?_; intro ao6 cap6 w6 hg6; have HG := Lib.hid hg6; clear hg6)
              go_roundg (gk - 1)
              case measure => go_light; omega
              case rel =>
                go_light
                have hg := HG.out.ofAlloc
                exact ⟨k + 1, by omega, by go_num, ao6, cap6, _, rfl, hg.owns, HW.out.keep hg.chg (fun h => by have := hlow _ h; omega) (fun i hi h => by have := hlow _ h; have := hsl i hi; omega),
                  HB.out.trans (hg.below HB.out.size (fun i hi => by have := hlow _ hi; omega)), (by have := hg.chg.size; omega)⟩
        · have hlt : k < cs.length := by omega
          obtain ⟨g, cap', he, hgb, hgl, hcv, hfz, hst⟩ := ownAt hown k hlt
          simp only [Value.slice.injEq] at he
          obtain ⟨rfl, -, rfl⟩ := he
          obtain ⟨x, hx⟩ : ∃ x : Int, x = (cs[k].toNat : Int) := ⟨_, rfl⟩
          have hx2 : x < 256 := by have := cs[k].toNat_lt; omega
          have hx0 : 0 ≤ x := by omega
          rw [← hx] at hcv
          clear hx
          have HC : ∀ u, Chg (fun i => i = g) wr (wr.setCell ⟨g, k, none⟩ u) := fun u => (Chg.refl (fun i => i = g) wr).setCell (p := ⟨g, k, none⟩) (fun _ => rfl) u
          have HW := Lib.hid hwr
          have HB := Lib.hid hbel
          clear hwr hbel hown hown4
          go_wp2_with fail
          go_roundg (gk - 1)
          case measure => go_light; omega
          case rel =>
            go_light
            exact ⟨k + 1, by omega, by go_num, _, by simp [hcl], hst _ (by omega) (by omega), HW.out.keep (HC _) (fun h => by omega) (fun i hi h => by have := hsl i hi; omega),
              HB.out.trans ((HC _).below HB.out.size (fun i hi => by omega)), (by have := (HC (.int .u8 0)).size; simp at this ⊢; omega)⟩
    · have hlt : k < bs.length := by omega
      obtain ⟨b, off, cap', he, hcv⟩ := rdOne (show Rd wr _ bs from RdV.below hr1 hbel) k hlt
      simp only [Value.slice.injEq, true_and] at he
      obtain ⟨rfl, rfl⟩ := he
      have htk := bits8_take bs k hlt
      have hlen := bits8_len (bs.take k)
      rw [List.length_take] at hlen
      obtain ⟨x, hx⟩ : ∃ x : Nat, x = bs[k].toNat := ⟨_, rfl⟩
      have hx2 : x < 256 := by rw [hx]; exact bs[k].toNat_lt
      rw [← hx] at hcv htk
      clear hx
      have hput := put_any w1.heap.size x 8 (by omega) (by omega) sv (bits8 (bs.take k)) wr (by omega) (by omega) hwr
      rw [← htk] at hput
      have hxw : IntKind.u64.wrap (x : Int) = (x : Int) := IntWalk.u64_in _ (by omega)
      have HW := Lib.hid hwr
      have HB := Lib.hid hbel
      clear htk hlen hwr hbel
      go_wp2_with fail
      refine hput.mono ?_
      rintro e w4 ⟨rfl, sv4, hw4, hs4⟩
      have HW4 := Lib.hid hw4
      have HB4 := Lib.hid (HB.out.trans (hs4.below HW.out))
      clear hw4 hs4 HW HB hput
      go_wp2
      go_roundg (gk - 1)
      case measure => go_light; omega
      case rel =>
        go_light
        exact ⟨k + 1, by omega, by go_num, sv4, HW4.out, HB4.out⟩

theorem bitsNil_walk {H : Type} (enc : TypeId × Value → H) (W : World) (base : Nat) (v0 v1 : Value) (d0 d1 : DataW H) (p0 p1 : List MemPlace)
    (o0 : Value.okWide Try.prog W .any base 30 v0) (o1 : Value.okWide Try.prog W .any base 3 v1)
    (t0 : DataW.Trod enc Try.prog W 0 (fun _ => true) true 30 v0 d0 p0) (t1 : DataW.Trod enc Try.prog W 0 (fun _ => true) true 3 v1 d1 p1)
    (hsz : (DataW.weightsEach Try.prog [30, 3] [d0, d1]).all (· ≤ reachBytes) = true) :
    Calls Try.prog 8 #[v0, v1] W fun e W' => e = .returned (.bool true) ∧ Below W.heap.size W W' := by
  obtain ⟨a1, rfl, rfl, rfl, w1⟩ := open_int Try.underlying3 o1 t1
  obtain ⟨bs, hr, _, hd⟩ := open_bytes o0 t0
  have hb := sized_bytes (v := v0) (bs := bs) (d := d0) (by
    simp only [DataW.weightsEach, List.append_nil, List.all_append, Bool.and_eq_true] at hsz
    exact hsz.1) hd
  exact bitsNil_run _ bs v0 W hb hr

end Go.Proofs.Ytnocfepkjhdliaa

