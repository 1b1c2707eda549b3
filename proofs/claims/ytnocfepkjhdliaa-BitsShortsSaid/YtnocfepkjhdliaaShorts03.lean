/- BitsShorts' walk: every number has its short bytes, which are read back, whatever stands behind. -/
import Derived.Test.YtnocfepkjhdliaaShort
import Derived.Test.YtnocfepkjhdliaaOpen
import Derived.Test.YtnocfepkjhdliaaAwake03
import Derived.Deep.RegionHeld3
namespace Go.Proofs.Ytnocfepkjhdliaa
open Go.RowKit Go.ChangeShapes Go.WideShapes Go.ChangeAt
set_option linter.unusedVariables false
set_option linter.unusedSimpArgs false

set_option maxHeartbeats 1000000 in
theorem bitsShorts_run (n : Nat) (hn : n < 18446744073709551616) (bs : List UInt8) (v : Value) (w : World) (hbs : bs.length ≤ 140737488351232) (hr : Rd w v bs) :
    Calls Try.prog 5 #[.int .u64 n, v] w fun e w' => e = .returned (.bool true) ∧ Below w.heap.size w w' := by
  have hlen := short_len n 10 (Nat.lt_of_lt_of_le hn (by decide)) (by omega)
  go_enter Try.func5, Try.ntmps5
  go_wp2_with fail
  refine (awake_any w).mono ?_
  rintro e w1 ⟨rfl, hb1⟩
  have hr1 : Rd w1 v bs := RdV.below hr hb1
  have HB1 := Lib.hid hb1
  clear hb1 hr
  go_wp2_with fail
  refine (short_any n hn w1).mono ?_
  rintro e w2 ⟨ao2, cap2, rfl, ho2, hb2⟩
  have hr2 : Rd w2 v bs := RdV.below hr1 hb2
  have HB2 := Lib.hid hb2
  have HO2 := Lib.hid ho2
  clear hb2 hr1
  have h63 : 0 + (short n).length ≤ maxLen := by unfold maxLen; omega
  have hby : (0 + (short n).length) * 1 ≤ 140737488355328 := by omega
  have h632 : (short n).length + bs.length ≤ maxLen := by unfold maxLen; omega
  have hby2 : ((short n).length + bs.length) * 1 ≤ 140737488355328 := by omega
  have hbase : w2.heap.size ≤ (w2.alloc (.cells #[] 5)).heap.size := by simp
  have hlow2 : ∀ k, (Value.slice (some ⟨w2.heap.size, 0, none⟩) 0 0).ownBlock = some k → w2.heap.size ≤ k := fun k hk => by simp [Value.ownBlock] at hk; omega
  go_wp2_with (first
    | (at_builtin; refine wpList_append_rd _ rfl (.tmp 17) (.tmp 18) 30 rfl w2.heap.size 5 (.int .u8 0) 1 1 Try.underlying30 infoU8 rfl (by decide) (.slice (some ⟨w2.heap.size, 0, none⟩) 0 0) 0 [] rfl (World.ownsRow_lit w2 #[] 0 (Nat.le_refl _) (by simp [maxLen]) rfl) _ _ _ rfl (ho2.rd.v.alloc _) (bV_one _) h63 hby hbase ?_; intro ao3 cap3 w3 hg3; simp only [Nat.zero_add, List.nil_append] at hg3; have hb3 : Below w2.heap.size w2 w3 := (((Below.refl _ _).alloc (Nat.le_refl _) _).trans (hg3.below (by simp) hlow2)); have hr3 := hr2.v.below hb3; have ho3 := hg3.owns; have hs3 := hb3.size)
    | (at_builtin; refine wpList_append_rd _ rfl (.tmp 19) (.tmp 20) 30 rfl w2.heap.size 5 (.int .u8 0) 1 1 Try.underlying30 infoU8 rfl (by decide) _ _ _ rfl ho3 _ _ _ rfl hr3 (bV_one _) h632 hby2 hs3 ?_; intro ao4 cap4 w4 hg4))
  have hb4 : Below w2.heap.size w2 w4 := hb3.trans (hg4.below hb3.size (fun k hk => (ho3.lt k hk).1))
  have hr4 : Rd w4 v bs := hr2.v.below hb4
  have hrd4 : Rd w4 (.slice ao4 ((short n).length + bs.length) cap4) (short n ++ bs) := by
    have h := RdV.ofOwns hg4.owns
    unfold Rd
    rw [List.length_append, List.map_append]
    exact h
  have hcall := readShort_any _ (short n ++ bs) w4 (by rw [List.length_append]; omega) hrd4
  rw [rs_short n hn bs] at hcall
  have HO4 := Lib.hid (ho2.rd.v.below hb4)
  have HB4 := Lib.hid (HB1.out.trans ((HB2.out.trans (hb4.mono HB2.out.size)).mono HB1.out.size))
  have hs4 := hb4.size
  clear hg3 hb3 hr3 ho3 hs3 hg4 hrd4 hb4 hlow2 hbase h63 hby h632 hby2 hr2 ho2 HO2 HB2 HB1
  refine hcall.mono ?_
  rintro e w5 ⟨rfl, rfl⟩
  clear hcall
  go_wp2_with fail
  refine (readShort_any v bs w4 (by omega) hr4).mono ?_
  rintro e w5 ⟨rfl, rfl⟩
  go_wp2_with fail
  refine (rreadShort_any v bs w4 (by omega) hr4).mono ?_
  rintro e w5 ⟨rfl, hb5⟩
  have hs5 : Rd w5.drew (.slice ao2 (short n).length cap2) (short n) := HO4.out.below hb5.drew
  have HB5 := Lib.hid (HB4.out.trans (hb5.mono HB4.out.size))
  clear hb5 hr4 HB4 HO4
  have c5 := run_str hs5 30 5 9 Try.underlying30 Try.underlying5 Try.underlying9
  obtain ⟨p, hp⟩ : ∃ p, p = rs bs 0 0 := ⟨_, rfl⟩
  rw [← hp]
  clear hp
  have hself : ((strOf (short n)).toList == (strOf (short n)).toList) = true := by simp
  have hself2 : (short n == short n) = true := by simp
  go_upto_region 7 with fail
  go_cut [4] (fun s4 wx => s4 = .bool true ∧ Below w.heap.size w wx)
  case first =>
    refine wp_region_held_drew (S := fun w' => (convert 30 9 (.slice ao2 (short n).length cap2)).run Try.prog w' = Result.ok (Value.string (strOf (short n))) w') (by kernel_rfl) c5 (fun hHeld => ?_)
    refine wpAnyH_take (i := 0) (oi := { dst := some 35, op := Op.move (Operand.tmp 5), type := 30, pos := "law.go:106", after := #[], guard := none }) (v := ?_) rfl (by kernel_rfl) (by kernel_rfl) (by kernel_rfl) (fun _ _ _ h => h) (Or.inl ⟨by rfl, ?_⟩) hHeld ?_
    rotate_left
    · intro w hSw; (try dsimp only at hSw); go_simp; try with_reducible rfl
    try simp only [Act.put, List.setIfInBounds_toArray, List.set_cons_zero, List.set_cons_succ]
    refine wpAnyH_take (i := 2) (oi := { dst := some 37, op := Op.move (Operand.tmp 0), type := 22, pos := "law.go:106", after := #[], guard := none }) (v := ?_) rfl (by kernel_rfl) (by kernel_rfl) (by kernel_rfl) (fun _ _ _ h => h) (Or.inl ⟨by rfl, ?_⟩) hHeld ?_
    rotate_left
    · intro w hSw; (try dsimp only at hSw); go_simp; try with_reducible rfl
    try simp only [Act.put, List.setIfInBounds_toArray, List.set_cons_zero, List.set_cons_succ]
    refine wpAnyH_take (i := 1) (oi := { dst := some 36, op := Op.convert 30 9 (Operand.tmp 35), type := 9, pos := "law.go:106", after := #[{ on := 0, ground := Ground.data }], guard := none }) (v := ?_) rfl (by kernel_rfl) (by kernel_rfl) (by kernel_rfl) (fun _ _ _ h => h) (Or.inl ⟨by rfl, ?_⟩) hHeld ?_
    rotate_left
    · intro w hSw; (try dsimp only at hSw); go_simp; try with_reducible rfl
    try simp only [Act.put, List.setIfInBounds_toArray, List.set_cons_zero, List.set_cons_succ]
    refine wpAnyH_ready (rs := [3]) (by kernel_rfl) (by simp) (AllReadyH.cons rfl (fun K hK => ?_) AllReadyH.nil)
    go_simp
    go_at_call 23
    refine (rshort_any n hn _).mono ?_
    rintro e w6 ⟨ao6, cap6, rfl, ho6, hb6⟩
    have c6 := run_str ho6.rd 30 5 9 Try.underlying30 Try.underlying5 Try.underlying9
    have c7 := run_str (hs5.v.below hb6) 30 5 9 Try.underlying30 Try.underlying5 Try.underlying9
    dsimp only
    refine hK.out _ _ c7 (fun hH6 => ?_)
    clear hK K
    try simp only [Act.put, List.setIfInBounds_toArray, List.set_cons_zero, List.set_cons_succ]
    refine wpAnyH_ready (rs := [4]) (by kernel_rfl) (by simp) (AllReadyH.cons rfl (fun K hK => ?_) AllReadyH.nil)
    go_simp
    refine hK.out _ _ c7 (fun hH7 => ?_)
    clear hK K
    try simp only [Act.put, List.setIfInBounds_toArray, List.set_cons_zero, List.set_cons_succ]
    refine wpAnyH_take (i := 5) (oi := { dst := some 40, op := Op.binOp BinOp.eql 9 (Operand.tmp 36) (Operand.tmp 39) 9, type := 4, pos := "law.go:106", after := #[{ on := 1, ground := Ground.data }, { on := 4, ground := Ground.data }], guard := none }) (v := ?_) rfl (by kernel_rfl) (by kernel_rfl) (by kernel_rfl) (fun _ _ _ h => h) (Or.inl ⟨by rfl, ?_⟩) hH7 ?_
    rotate_left
    · intro w hSw; (try dsimp only at hSw); go_simp; try with_reducible rfl
    try simp only [Act.put, List.setIfInBounds_toArray, List.set_cons_zero, List.set_cons_succ]
    refine wpAnyH_take (i := 6) (oi := { dst := some 41, op := Op.move (Operand.tmp 40), type := 4, pos := "law.go:106", after := #[{ on := 5, ground := Ground.data }, { on := 3, ground := Ground.chain }], guard := none }) (v := ?_) rfl (by kernel_rfl) (by kernel_rfl) (by kernel_rfl) (fun _ _ _ h => h) (Or.inl ⟨by rfl, ?_⟩) hH7 ?_
    rotate_left
    · intro w hSw; (try dsimp only at hSw); go_simp; try with_reducible rfl
    try simp only [Act.put, List.setIfInBounds_toArray, List.set_cons_zero, List.set_cons_succ]
    refine wpAnyH_take (i := 7) (oi := { dst := some 42, op := Op.move (Operand.tmp 6), type := 22, pos := "law.go:106", after := #[{ on := 6, ground := Ground.guard }], guard := some (6, true) }) (v := ?_) rfl (by kernel_rfl) (by kernel_rfl) (by kernel_rfl) (fun _ _ _ h => h) (Or.inl ⟨by rfl, ?_⟩) hH7 ?_
    rotate_left
    · intro w hSw; (try dsimp only at hSw); go_simp; try with_reducible rfl
    try simp only [Act.put, List.setIfInBounds_toArray, List.set_cons_zero, List.set_cons_succ]
    refine wpAnyH_take (i := 8) (oi := { dst := some 43, op := Op.move (Operand.tmp 0), type := 22, pos := "law.go:106", after := #[{ on := 6, ground := Ground.guard }], guard := some (6, true) }) (v := ?_) rfl (by kernel_rfl) (by kernel_rfl) (by kernel_rfl) (fun _ _ _ h => h) (Or.inl ⟨by rfl, ?_⟩) hH7 ?_
    rotate_left
    · intro w hSw; (try dsimp only at hSw); go_simp; try with_reducible rfl
    try simp only [Act.put, List.setIfInBounds_toArray, List.set_cons_zero, List.set_cons_succ]
    refine wpAnyH_take (i := 9) (oi := { dst := some 44, op := Op.binOp BinOp.eql 22 (Operand.tmp 42) (Operand.tmp 43) 22, type := 4, pos := "law.go:106", after := #[{ on := 7, ground := Ground.data }, { on := 8, ground := Ground.data }, { on := 6, ground := Ground.guard }], guard := some (6, true) }) (v := ?_) rfl (by kernel_rfl) (by kernel_rfl) (by kernel_rfl) (fun _ _ _ h => h) (Or.inl ⟨by rfl, ?_⟩) hH7 ?_
    rotate_left
    · intro w hSw; (try dsimp only at hSw); go_simp; try with_reducible rfl
    try simp only [Act.put, List.setIfInBounds_toArray, List.set_cons_zero, List.set_cons_succ]
    refine wpAnyH_take (i := 10) (oi := { dst := some 45, op := Op.pick (Operand.tmp 41) (Operand.tmp 44) (Operand.const (Value.bool false)), type := 4, pos := "law.go:106", after := #[{ on := 6, ground := Ground.data }, { on := 9, ground := Ground.data }], guard := none }) (v := ?_) rfl (by kernel_rfl) (by kernel_rfl) (by kernel_rfl) (fun _ _ _ h => h) (Or.inl ⟨by rfl, ?_⟩) hH7 ?_
    rotate_left
    · intro w hSw; (try dsimp only at hSw); go_simp; try with_reducible rfl
    try simp only [Act.put, List.setIfInBounds_toArray, List.set_cons_zero, List.set_cons_succ]
    refine wpAnyH_take (i := 11) (oi := { dst := some 46, op := Op.move (Operand.tmp 45), type := 4, pos := "law.go:106", after := #[{ on := 10, ground := Ground.data }, { on := 6, ground := Ground.chain }], guard := none }) (v := ?_) rfl (by kernel_rfl) (by kernel_rfl) (by kernel_rfl) (fun _ _ _ h => h) (Or.inl ⟨by rfl, ?_⟩) hH7 ?_
    rotate_left
    · intro w hSw; (try dsimp only at hSw); go_simp; try with_reducible rfl
    try simp only [Act.put, List.setIfInBounds_toArray, List.set_cons_zero, List.set_cons_succ]
    refine wpAnyH_take (i := 12) (oi := { dst := some 47, op := Op.move (Operand.tmp 7), type := 3, pos := "law.go:106", after := #[{ on := 11, ground := Ground.guard }], guard := some (11, true) }) (v := ?_) rfl (by kernel_rfl) (by kernel_rfl) (by kernel_rfl) (fun _ _ _ h => h) (Or.inl ⟨by rfl, ?_⟩) hH7 ?_
    rotate_left
    · intro w hSw; (try dsimp only at hSw); go_simp; try with_reducible rfl
    try simp only [Act.put, List.setIfInBounds_toArray, List.set_cons_zero, List.set_cons_succ]
    refine wpAnyH_take (i := 13) (oi := { dst := some 48, op := Op.move (Operand.tmp 5), type := 30, pos := "law.go:106", after := #[{ on := 11, ground := Ground.guard }], guard := some (11, true) }) (v := ?_) rfl (by kernel_rfl) (by kernel_rfl) (by kernel_rfl) (fun _ _ _ h => h) (Or.inl ⟨by rfl, ?_⟩) hH7 ?_
    rotate_left
    · intro w hSw; (try dsimp only at hSw); go_simp; try with_reducible rfl
    try simp only [Act.put, List.setIfInBounds_toArray, List.set_cons_zero, List.set_cons_succ]
    refine wpAnyH_take (i := 14) (oi := { dst := some 49, op := Op.call { callee := Callee.builtin Builtin.len, args := #[Operand.tmp 48], argTypes := #[30] }, type := 3, pos := "law.go:106", after := #[{ on := 13, ground := Ground.data }, { on := 11, ground := Ground.guard }], guard := some (11, true) }) (v := ?_) rfl (by kernel_rfl) (by kernel_rfl) (by kernel_rfl) (fun _ _ _ h => h) (Or.inl ⟨by rfl, ?_⟩) hH7 ?_
    rotate_left
    · intro w hSw; (try dsimp only at hSw); go_simp; try with_reducible rfl
    try simp only [Act.put, List.setIfInBounds_toArray, List.set_cons_zero, List.set_cons_succ]
    refine wpAnyH_take (i := 15) (oi := { dst := some 50, op := Op.binOp BinOp.eql 3 (Operand.tmp 47) (Operand.tmp 49) 3, type := 4, pos := "law.go:106", after := #[{ on := 12, ground := Ground.data }, { on := 14, ground := Ground.data }, { on := 11, ground := Ground.guard }], guard := some (11, true) }) (v := ?_) rfl (by kernel_rfl) (by kernel_rfl) (by kernel_rfl) (fun _ _ _ h => h) (Or.inl ⟨by rfl, ?_⟩) hH7 ?_
    rotate_left
    · intro w hSw; (try dsimp only at hSw); go_simp; try with_reducible rfl
    try simp only [Act.put, List.setIfInBounds_toArray, List.set_cons_zero, List.set_cons_succ]
    refine wpAnyH_take (i := 16) (oi := { dst := some 51, op := Op.pick (Operand.tmp 46) (Operand.tmp 50) (Operand.const (Value.bool false)), type := 4, pos := "law.go:106", after := #[{ on := 11, ground := Ground.data }, { on := 15, ground := Ground.data }], guard := none }) (v := ?_) rfl (by kernel_rfl) (by kernel_rfl) (by kernel_rfl) (fun _ _ _ h => h) (Or.inl ⟨by rfl, ?_⟩) hH7 ?_
    rotate_left
    · intro w hSw; (try dsimp only at hSw); go_simp; try with_reducible rfl
    try simp only [Act.put, List.setIfInBounds_toArray, List.set_cons_zero, List.set_cons_succ]
    refine wpAnyH_take (i := 17) (oi := { dst := some 52, op := Op.move (Operand.tmp 51), type := 4, pos := "law.go:106", after := #[{ on := 16, ground := Ground.data }, { on := 11, ground := Ground.chain }], guard := none }) (v := ?_) rfl (by kernel_rfl) (by kernel_rfl) (by kernel_rfl) (fun _ _ _ h => h) (Or.inl ⟨by rfl, ?_⟩) hH7 ?_
    rotate_left
    · intro w hSw; (try dsimp only at hSw); go_simp; try with_reducible rfl
    try simp only [Act.put, List.setIfInBounds_toArray, List.set_cons_zero, List.set_cons_succ]
    refine wpAnyH_take (i := 18) (oi := { dst := some 53, op := Op.move (Operand.tmp 8), type := 22, pos := "law.go:106", after := #[{ on := 17, ground := Ground.guard }], guard := some (17, true) }) (v := ?_) rfl (by kernel_rfl) (by kernel_rfl) (by kernel_rfl) (fun _ _ _ h => h) (Or.inl ⟨by rfl, ?_⟩) hH7 ?_
    rotate_left
    · intro w hSw; (try dsimp only at hSw); go_simp; try with_reducible rfl
    try simp only [Act.put, List.setIfInBounds_toArray, List.set_cons_zero, List.set_cons_succ]
    refine wpAnyH_take (i := 19) (oi := { dst := some 54, op := Op.move (Operand.tmp 10), type := 22, pos := "law.go:106", after := #[{ on := 17, ground := Ground.guard }], guard := some (17, true) }) (v := ?_) rfl (by kernel_rfl) (by kernel_rfl) (by kernel_rfl) (fun _ _ _ h => h) (Or.inl ⟨by rfl, ?_⟩) hH7 ?_
    rotate_left
    · intro w hSw; (try dsimp only at hSw); go_simp; try with_reducible rfl
    try simp only [Act.put, List.setIfInBounds_toArray, List.set_cons_zero, List.set_cons_succ]
    refine wpAnyH_take (i := 20) (oi := { dst := some 55, op := Op.binOp BinOp.eql 22 (Operand.tmp 53) (Operand.tmp 54) 22, type := 4, pos := "law.go:106", after := #[{ on := 18, ground := Ground.data }, { on := 19, ground := Ground.data }, { on := 17, ground := Ground.guard }], guard := some (17, true) }) (v := ?_) rfl (by kernel_rfl) (by kernel_rfl) (by kernel_rfl) (fun _ _ _ h => h) (Or.inl ⟨by rfl, ?_⟩) hH7 ?_
    rotate_left
    · intro w hSw; (try dsimp only at hSw); go_simp; try with_reducible rfl
    try simp only [Act.put, List.setIfInBounds_toArray, List.set_cons_zero, List.set_cons_succ]
    refine wpAnyH_take (i := 21) (oi := { dst := some 56, op := Op.pick (Operand.tmp 52) (Operand.tmp 55) (Operand.const (Value.bool false)), type := 4, pos := "law.go:106", after := #[{ on := 17, ground := Ground.data }, { on := 20, ground := Ground.data }], guard := none }) (v := ?_) rfl (by kernel_rfl) (by kernel_rfl) (by kernel_rfl) (fun _ _ _ h => h) (Or.inl ⟨by rfl, ?_⟩) hH7 ?_
    rotate_left
    · intro w hSw; (try dsimp only at hSw); go_simp; try with_reducible rfl
    try simp only [Act.put, List.setIfInBounds_toArray, List.set_cons_zero, List.set_cons_succ]
    refine wpAnyH_take (i := 22) (oi := { dst := some 57, op := Op.move (Operand.tmp 56), type := 4, pos := "law.go:106", after := #[{ on := 21, ground := Ground.data }, { on := 17, ground := Ground.chain }], guard := none }) (v := ?_) rfl (by kernel_rfl) (by kernel_rfl) (by kernel_rfl) (fun _ _ _ h => h) (Or.inl ⟨by rfl, ?_⟩) hH7 ?_
    rotate_left
    · intro w hSw; (try dsimp only at hSw); go_simp; try with_reducible rfl
    try simp only [Act.put, List.setIfInBounds_toArray, List.set_cons_zero, List.set_cons_succ]
    refine wpAnyH_take (i := 23) (oi := { dst := some 58, op := Op.move (Operand.tmp 9), type := 3, pos := "law.go:106", after := #[{ on := 22, ground := Ground.guard }], guard := some (22, true) }) (v := ?_) rfl (by kernel_rfl) (by kernel_rfl) (by kernel_rfl) (fun _ _ _ h => h) (Or.inl ⟨by rfl, ?_⟩) hH7 ?_
    rotate_left
    · intro w hSw; (try dsimp only at hSw); go_simp; try with_reducible rfl
    try simp only [Act.put, List.setIfInBounds_toArray, List.set_cons_zero, List.set_cons_succ]
    refine wpAnyH_take (i := 24) (oi := { dst := some 59, op := Op.move (Operand.tmp 11), type := 3, pos := "law.go:106", after := #[{ on := 22, ground := Ground.guard }], guard := some (22, true) }) (v := ?_) rfl (by kernel_rfl) (by kernel_rfl) (by kernel_rfl) (fun _ _ _ h => h) (Or.inl ⟨by rfl, ?_⟩) hH7 ?_
    rotate_left
    · intro w hSw; (try dsimp only at hSw); go_simp; try with_reducible rfl
    try simp only [Act.put, List.setIfInBounds_toArray, List.set_cons_zero, List.set_cons_succ]
    refine wpAnyH_take (i := 25) (oi := { dst := some 60, op := Op.binOp BinOp.eql 3 (Operand.tmp 58) (Operand.tmp 59) 3, type := 4, pos := "law.go:106", after := #[{ on := 23, ground := Ground.data }, { on := 24, ground := Ground.data }, { on := 22, ground := Ground.guard }], guard := some (22, true) }) (v := ?_) rfl (by kernel_rfl) (by kernel_rfl) (by kernel_rfl) (fun _ _ _ h => h) (Or.inl ⟨by rfl, ?_⟩) hH7 ?_
    rotate_left
    · intro w hSw; (try dsimp only at hSw); go_simp; try with_reducible rfl
    try simp only [Act.put, List.setIfInBounds_toArray, List.set_cons_zero, List.set_cons_succ]
    refine wpAnyH_take (i := 26) (oi := { dst := some 61, op := Op.pick (Operand.tmp 57) (Operand.tmp 60) (Operand.const (Value.bool false)), type := 4, pos := "law.go:106", after := #[{ on := 22, ground := Ground.data }, { on := 25, ground := Ground.data }], guard := none }) (v := ?_) rfl (by kernel_rfl) (by kernel_rfl) (by kernel_rfl) (fun _ _ _ h => h) (Or.inl ⟨by rfl, ?_⟩) hH7 ?_
    rotate_left
    · intro w hSw; (try dsimp only at hSw); go_simp; try with_reducible rfl
    try simp only [Act.put, List.setIfInBounds_toArray, List.set_cons_zero, List.set_cons_succ]
    refine wpAnyH_take (i := 27) (oi := { dst := some 4, op := Op.assign (Operand.tmp 61), type := 4, pos := "law.go:106", after := #[{ on := 26, ground := Ground.data }, { on := 22, ground := Ground.chain }, { on := 0, ground := Ground.phase }, { on := 1, ground := Ground.phase }, { on := 2, ground := Ground.phase }, { on := 3, ground := Ground.phase }, { on := 4, ground := Ground.phase }, { on := 5, ground := Ground.phase }, { on := 6, ground := Ground.phase }, { on := 7, ground := Ground.phase }, { on := 8, ground := Ground.phase }, { on := 9, ground := Ground.phase }, { on := 10, ground := Ground.phase }, { on := 11, ground := Ground.phase }, { on := 12, ground := Ground.phase }, { on := 13, ground := Ground.phase }, { on := 14, ground := Ground.phase }, { on := 15, ground := Ground.phase }, { on := 16, ground := Ground.phase }, { on := 17, ground := Ground.phase }, { on := 18, ground := Ground.phase }, { on := 19, ground := Ground.phase }, { on := 20, ground := Ground.phase }, { on := 21, ground := Ground.phase }, { on := 22, ground := Ground.phase }, { on := 23, ground := Ground.phase }, { on := 24, ground := Ground.phase }, { on := 25, ground := Ground.phase }, { on := 26, ground := Ground.phase }], guard := none }) (v := ?_) rfl (by kernel_rfl) (by kernel_rfl) (by kernel_rfl) (fun _ _ _ h => h) (Or.inl ⟨by rfl, ?_⟩) hH7 ?_
    rotate_left
    · intro w hSw; (try dsimp only at hSw); go_simp; try with_reducible rfl
    try simp only [Act.put, List.setIfInBounds_toArray, List.set_cons_zero, List.set_cons_succ]
    refine wpAnyH_done (by kernel_rfl) ?_ _
    all_goals (go_wp2_with fail; go_meet; go_light; exact ⟨by simp, HB5.out.trans ((Below.refl _ _).drew.trans (hb6.mono HB5.out.size))⟩)
  case rest =>
    obtain ⟨rfl, hbx⟩ := hcut
    have H2 := Lib.hid hbx
    clear hbx
    go_wp2
    go_ret
    exact ⟨rfl, H2.out⟩

theorem bitsShorts_walk {H : Type} (enc : TypeId × Value → H) (W : World) (base : Nat) (v0 v1 : Value) (d0 d1 : DataW H) (p0 p1 : List MemPlace)
    (o0 : Value.okWide Try.prog W .any base 22 v0) (o1 : Value.okWide Try.prog W .any base 30 v1)
    (t0 : DataW.Trod enc Try.prog W 0 (fun _ => true) true 22 v0 d0 p0) (t1 : DataW.Trod enc Try.prog W 0 (fun _ => true) true 30 v1 d1 p1)
    (hsz : (DataW.weightsEach Try.prog [22, 30] [d0, d1]).all (· ≤ reachBytes) = true) :
    Calls Try.prog 5 #[v0, v1] W fun e W' => e = .returned (.bool true) ∧ Below W.heap.size W W' := by
  obtain ⟨a0, rfl, rfl, rfl, w0⟩ := open_int Try.underlying22 o0 t0
  have hy := wf_u64' w0
  obtain ⟨m, rfl⟩ := Int.eq_ofNat_of_zero_le hy.1
  obtain ⟨bs, hr, _, hd⟩ := open_bytes o1 t1
  have hb := sized_bytes (v := v1) (bs := bs) (d := d1) (by
    simp only [DataW.weightsEach, List.append_nil, List.all_append, Bool.and_eq_true] at hsz
    exact hsz.2) hd
  exact bitsShorts_run m (by omega) bs v1 W hb hr

end Go.Proofs.Ytnocfepkjhdliaa
