/- CondTimes. Printed by gen_times20.py. -/
import Derived.Test.YtjifgipkfkhnpaaTimesP20
import Derived.Test.YtjifgipkfkhnpaaTakes
namespace Go.Proofs.Ytjifgipkfkhnpaa
open Go.RowKit Go.ChangeShapes Go.WideShapes Go.ChangeAt
set_option linter.unusedVariables false

set_option maxHeartbeats 4000000 in
set_option maxRecDepth 100000 in
theorem condTimes_run (n t : Int) (rn : ByteArray) (ts : List Tg) (fs : List Fd) (t0 : Int) (tv fv : Value) (w : World) (hT : RdV w 2 tv ts.length (ts.flatMap Tg.cells)) (hF : RdV w 4 fv fs.length (fs.flatMap Fd.cells))
    (hn1 : -9223372036854775808 ≤ n) (hn2 : n ≤ 9223372036854775807) (ht1 : -9223372036854775808 ≤ t) (ht2 : t ≤ 9223372036854775807) :
    Calls Try.prog 5 #[.int .i64 n, .int .i64 t, .agg #[.string rn, tv, fv, .int .i64 t0]] w fun e w' => e = .returned (.bool true) ∧ Below w.heap.size w w' := by
  obtain ⟨ta, tc, rfl, hq1, hq2⟩ := RdV.shape hT
  obtain ⟨fa, fc, rfl, hf1, hf2⟩ := RdV.shape hF
  have hA := fun (w : World) => awake20_any w
  obtain ⟨wA, hwA⟩ : ∃ wA, wA = w.alloc (.cells #[.string rn, .slice ta ts.length tc, .slice fa fs.length fc, .int .i64 t0] 28) := ⟨_, rfl⟩
  have hbA : Below w.heap.size w wA := by rw [hwA]; exact (Below.refl _ _).alloc (Nat.le_refl _) _
  have k0 : wA.cell? ⟨w.heap.size, 0, none⟩ = some (.string rn) := by rw [hwA]; simp
  have k1 : wA.cell? ⟨w.heap.size, 1, none⟩ = some (.slice ta ts.length tc) := by rw [hwA]; simp
  have k2 : wA.cell? ⟨w.heap.size, 2, none⟩ = some (.slice fa fs.length fc) := by rw [hwA]; simp
  have k3 : wA.cell? ⟨w.heap.size, 3, none⟩ = some (.int .i64 t0) := by rw [hwA]; simp
  have hfz : wA.frozen? ⟨w.heap.size, 3, none⟩ = false := by rw [hwA]; exact World.frozen?_alloc_at _ _ _ _ rfl
  have HW := Lib.hid hwA
  have HBA := Lib.hid hbA
  clear hwA hbA
  go_enter Try.func5, Try.ntmps5
  go_upto_region 1 with fail
  rw [← HW.out]
  go_upto_region 4 with (go_at_call 8; refine (hA _).mono ?_; rintro _ w2 ⟨rfl, hb2⟩; have g3 := (hb2.cell (World.block_lt_of_cell? _ _ k3)).trans k3; have gf := (hb2.frozen (World.block_lt_of_cell? _ _ k3)).trans hfz; have HB2 := Lib.hid hb2; clear hb2)
  obtain ⟨w3, hw3⟩ : ∃ w3, w3 = w2.setCell ⟨w.heap.size, 3, none⟩ (.int .i64 t) := ⟨_, rfl⟩
  have hb3 : Below w.heap.size w w3 := by rw [hw3]; exact (HBA.out.trans (HB2.out.mono HBA.out.size)).setCell (Nat.le_refl _) _
  have hsz3 : w3.heap.size = w2.heap.size := by rw [hw3]; simp [World.setCell]
  have m0 : w3.cell? ⟨w.heap.size, 0, none⟩ = some (.string rn) := by rw [hw3]; exact (World.cell?_setCell_other _ _ _ _ (by simp)).trans ((HB2.out.cell (World.block_lt_of_cell? _ _ k0)).trans k0)
  have m1 : w3.cell? ⟨w.heap.size, 1, none⟩ = some (.slice ta ts.length tc) := by rw [hw3]; exact (World.cell?_setCell_other _ _ _ _ (by simp)).trans ((HB2.out.cell (World.block_lt_of_cell? _ _ k1)).trans k1)
  have m2 : w3.cell? ⟨w.heap.size, 2, none⟩ = some (.slice fa fs.length fc) := by rw [hw3]; exact (World.cell?_setCell_other _ _ _ _ (by simp)).trans ((HB2.out.cell (World.block_lt_of_cell? _ _ k2)).trans k2)
  have m3 : w3.cell? ⟨w.heap.size, 3, none⟩ = some (.int .i64 t) := by rw [hw3]; exact World.cell?_setCell_same _ _ _ g3
  have hHl : ∀ k, k < 6 → (w3.alloc (.cells #[.bool (t == n), .bool (t != n), .bool (decide (t < n)), .bool (decide (t ≤ n)), .bool (decide (n < t)), .bool (decide (n ≤ t))] 4)).cell? ⟨w3.heap.size, k, none⟩ = some (.bool (hAt t n k)) := by
    intro k hk
    rw [World.cell?_alloc_new]
    have : k = 0 ∨ k = 1 ∨ k = 2 ∨ k = 3 ∨ k = 4 ∨ k = 5 := by omega
    rcases this with rfl | rfl | rfl | rfl | rfl | rfl <;> rfl
  have HT3 := Lib.hid (hT.below hb3)
  have HF3 := Lib.hid (hF.below hb3)
  have HB3 := Lib.hid hb3
  have HM := Lib.hid (⟨m0, m1, m2, m3⟩ : w3.cell? ⟨w.heap.size, 0, none⟩ = some (.string rn) ∧ w3.cell? ⟨w.heap.size, 1, none⟩ = some (.slice ta ts.length tc) ∧ w3.cell? ⟨w.heap.size, 2, none⟩ = some (.slice fa fs.length fc) ∧ w3.cell? ⟨w.heap.size, 3, none⟩ = some (.int .i64 t))
  have HH := Lib.hid hHl
  have HE := Lib.hid hw3
  clear hb3 hsz3 m0 m1 m2 m3 hHl k0 k1 k2 k3 g3 gf hfz HW HBA hw3 hT hF
  rw [← HE.out]
  clear HE
  go_upto_region 5 with fail
  have HB4 := Lib.hid (HB3.out.alloc HB3.out.size (.cells #[.bool (t == n), .bool (t != n), .bool (decide (t < n)), .bool (decide (t ≤ n)), .bool (decide (n < t)), .bool (decide (n ≤ t))] 4))
  have h34 : Below w3.heap.size w3 (w3.alloc (.cells #[.bool (t == n), .bool (t != n), .bool (decide (t < n)), .bool (decide (t ≤ n)), .bool (decide (n < t)), .bool (decide (n ≤ t))] 4)) := (Below.refl _ _).alloc (Nat.le_refl _) _
  have HT4 := Lib.hid (HT3.out.below h34)
  have HF4 := Lib.hid (HF3.out.below h34)
  have q4 : ∀ (bk o : Nat) (u : Value), w3.cell? ⟨bk, o, none⟩ = some u → _ := fun bk o u q => (h34.cell (World.block_lt_of_cell? _ _ q)).trans q
  have HM4 := Lib.hid (⟨q4 _ _ _ HM.out.1, q4 _ _ _ HM.out.2.1, q4 _ _ _ HM.out.2.2.1, q4 _ _ _ HM.out.2.2.2⟩ : _ ∧ _ ∧ _ ∧ _)
  clear HT3 HF3 HM HB3 h34 q4
  generalize w3.alloc (.cells #[.bool (t == n), .bool (t != n), .bool (decide (t < n)), .bool (decide (t ≤ n)), .bool (decide (n < t)), .bool (decide (n ≤ t))] 4) = w4 at *
  generalize w3.heap.size = Bh at *
  go_wp2_with fail
  go_loopg [37] 6 (fun m s37 wr => ∃ k : Nat, k + m = 6 ∧ s37 = .int .i64 (k : Int) ∧ Hid (Below w4.heap.size w4 wr))
  case atStart => exact ⟨0, rfl, rfl, Lib.hid (Below.refl _ _)⟩
  case round =>
    obtain ⟨k, hk, rfl, HB⟩ := hrel
    by_cases h0 : gk = 0
    · obtain rfl : k = 6 := by omega
      go_wp2_with fail
      go_ret
      exact ⟨rfl, HB4.out.trans (HB.out.mono HB4.out.size)⟩
    · have hlt : k < 6 := by omega
      go_upto_region 8 with fail
      go_cut [9] (fun s9 wx => ∃ (b : Nat) (bk : Nat), s9 = .slice (some ⟨bk, 0, none⟩) 1 1 ∧ Hid (wrap64 (b : Int) = n) ∧ Hid (RdF wx (.slice (some ⟨bk, 0, none⟩) 1 1) (oneF k b)) ∧ Hid (Below wr.heap.size wr wx))
      case first =>
        obtain ⟨bn, hbn1, hbn2⟩ := u64_back n hn1 hn2
        have : k = 0 ∨ k = 1 ∨ k = 2 ∨ k = 3 ∨ k = 4 ∨ k = 5 := by omega
        rcases this with rfl | rfl | rfl | rfl | rfl | rfl
        all_goals go_wp2_with fail
        all_goals go_meet
        all_goals go_light
        all_goals (
          refine ⟨bn, _, rfl, Lib.hid hbn2, ?_, ?_⟩
          · refine Lib.hid ?_
            exact times_lit2 wr _ _ bn
          · exact Lib.hid (((Below.refl _ _).alloc (Nat.le_refl _) _).alloc (by simp) _))
      case rest =>
      obtain ⟨b, bk, rfl, HBn, HRF, HBx⟩ := hcut
      obtain ⟨va, vb, hV⟩ : ∃ va vb, rg (sp true (oneF k b) (-9223372036854775808) 9223372036854775807) = (va, vb) := ⟨_, _, rfl⟩
      have hR : k ≠ 1 → hAt t n k = (decide (va ≤ t) && decide (t ≤ vb)) := fun h1 => by
        have := rg_times k b n t hlt h1 HBn.out hn1 hn2 ht1 ht2
        unfold rgT at this
        rwa [hV] at this
      have hSp := spanT_any (oneF k b) _ _ HRF.out
      rw [hV] at hSp
      have HR := Lib.hid hR
      clear hR hV
      go_upto_region 10 with (go_at_call 10; refine hSp.mono ?_; rintro _ wy ⟨rfl, hby⟩; have HBy := Lib.hid hby; clear hby)
      have h4y : Below w4.heap.size w4 wy := (HB.out.trans (HBx.out.mono HB.out.size)).trans (HBy.out.mono (HB.out.trans (HBx.out.mono HB.out.size)).size)
      have hHo := fun (w1 : World) (h1 : Below wy.heap.size wy w1) => holdsT_any ⟨rn, ts, fs, t, []⟩ (oneF k b) (.slice (some ⟨bk, 0, none⟩) 1 1) _ _ (.slice none 0 0) w1 ((HRF.out.below HBy.out).below h1) ⟨(HT4.out.below h4y).below h1, (HF4.out.below h4y).below h1, RdV.nil _ _⟩
      rw [hl_times _ k b n hlt HBn.out] at hHo
      dsimp only at hHo
      have hcell := HH.out k hlt
      generalize hAt t n k = h at *
      have hK : ∀ w' : World, Below wy.heap.size wy w' → w'.cell? ⟨w.heap.size, 0, none⟩ = some (.string rn) ∧ w'.cell? ⟨w.heap.size, 1, none⟩ = some (.slice ta ts.length tc) ∧ w'.cell? ⟨w.heap.size, 2, none⟩ = some (.slice fa fs.length fc) ∧ w'.cell? ⟨w.heap.size, 3, none⟩ = some (.int .i64 t) ∧ w'.cell? ⟨Bh, k, none⟩ = some (.bool h) := fun w' h =>
        have q : ∀ (bk o : Nat) (u : Value), w4.cell? ⟨bk, o, none⟩ = some u → w'.cell? ⟨bk, o, none⟩ = some u := fun bk o u q => (h.cell (World.block_lt_of_cell? _ _ ((h4y.cell (World.block_lt_of_cell? _ _ q)).trans q))).trans ((h4y.cell (World.block_lt_of_cell? _ _ q)).trans q)
        ⟨q _ _ _ HM4.out.1, q _ _ _ HM4.out.2.1, q _ _ _ HM4.out.2.2.1, q _ _ _ HM4.out.2.2.2, q _ _ _ hcell⟩
      have HK := Lib.hid hK
      have HHo := Lib.hid hHo
      have HY := Lib.hid h4y
      have hB0 : Below wy.heap.size wy wy.drew := (Below.refl _ _).drew
      have hki : (k : Int) < 6 := by omega
      clear hK hHo h4y hcell HBn HRF HBx HBy hSp
      by_cases hk1 : k = 1
      · subst hk1
        refine wp_region_held_drew (S := fun w' => w'.cell? ⟨w.heap.size, 0, none⟩ = some (.string rn) ∧ w'.cell? ⟨w.heap.size, 1, none⟩ = some (.slice ta ts.length tc) ∧ w'.cell? ⟨w.heap.size, 2, none⟩ = some (.slice fa fs.length fc) ∧ w'.cell? ⟨w.heap.size, 3, none⟩ = some (.int .i64 t) ∧ w'.cell? ⟨Bh, 1, none⟩ = some (.bool h)) (by kernel_rfl) (HK.out _ hB0) (fun hS => ?_)
        refine wpAnyH_take (i := 0) (oi := { dst := some 54, op := Op.move (Operand.tmp 9), type := 34, pos := "law.go:86", after := #[], guard := none }) (v := ?_) rfl (by kernel_rfl) (by kernel_rfl) (by kernel_rfl) (fun _ _ _ h => h) (Or.inl ⟨by rfl, ?_⟩) hS ?_
        rotate_left
        · intro w hSw; (try dsimp only at hSw); go_simp; try with_reducible rfl
        try simp only [Act.put, List.setIfInBounds_toArray, List.set_cons_zero, List.set_cons_succ]
        refine wpAnyH_take (i := 1) (oi := { dst := some 55, op := Op.load 28 (Operand.tmp 5), type := 28, pos := "law.go:86", after := #[], guard := none }) (v := ?_) rfl (by kernel_rfl) (by kernel_rfl) (by kernel_rfl) (fun _ _ _ h => h) (Or.inl ⟨by rfl, ?_⟩) hS ?_
        rotate_left
        · intro w hSw; (try dsimp only at hSw); go_simp; try with_reducible rfl
        try simp only [Act.put, List.setIfInBounds_toArray, List.set_cons_zero, List.set_cons_succ]
        refine wpAnyH_take (i := 3) (oi := { dst := some 57, op := Op.move (Operand.tmp 7), type := 47, pos := "law.go:86", after := #[], guard := none }) (v := ?_) rfl (by kernel_rfl) (by kernel_rfl) (by kernel_rfl) (fun _ _ _ h => h) (Or.inl ⟨by rfl, ?_⟩) hS ?_
        rotate_left
        · intro w hSw; (try dsimp only at hSw); go_simp; try with_reducible rfl
        try simp only [Act.put, List.setIfInBounds_toArray, List.set_cons_zero, List.set_cons_succ]
        refine wpAnyH_take (i := 4) (oi := { dst := some 58, op := Op.move (Operand.tmp 8), type := 3, pos := "law.go:86", after := #[], guard := none }) (v := ?_) rfl (by kernel_rfl) (by kernel_rfl) (by kernel_rfl) (fun _ _ _ h => h) (Or.inl ⟨by rfl, ?_⟩) hS ?_
        rotate_left
        · intro w hSw; (try dsimp only at hSw); go_simp; try with_reducible rfl
        try simp only [Act.put, List.setIfInBounds_toArray, List.set_cons_zero, List.set_cons_succ]
        refine wpAnyH_take (i := 5) (oi := { dst := some 59, op := Op.indexAddr 47 (Operand.tmp 57) (Operand.tmp 58), type := 0, pos := "law.go:86", after := #[{ on := 3, ground := Ground.data }, { on := 4, ground := Ground.data }], guard := none }) (v := ?_) rfl (by kernel_rfl) (by kernel_rfl) (by kernel_rfl) (fun _ _ _ h => h) (Or.inl ⟨by rfl, ?_⟩) hS ?_
        rotate_left
        · intro w hSw; (try dsimp only at hSw); go_simp; try with_reducible rfl
        try simp only [Act.put, List.setIfInBounds_toArray, List.set_cons_zero, List.set_cons_succ]
        refine wpAnyH_take (i := 6) (oi := { dst := some 60, op := Op.load 4 (Operand.tmp 59), type := 4, pos := "law.go:86", after := #[{ on := 5, ground := Ground.data }], guard := none }) (v := ?_) rfl (by kernel_rfl) (by kernel_rfl) (by kernel_rfl) (fun _ _ _ h => h) (Or.inl ⟨by rfl, ?_⟩) hS ?_
        rotate_left
        · intro w hSw; (try dsimp only at hSw); go_simp; try with_reducible rfl
        try simp only [Act.put, List.setIfInBounds_toArray, List.set_cons_zero, List.set_cons_succ]
        refine wpAnyH_ready (rs := [2]) (by kernel_rfl) (by simp) (AllReadyH.cons (o := { dst := some 56, op := Op.call { callee := Callee.value (Operand.func 13), args := #[Operand.tmp 54, Operand.tmp 55, Operand.const (Value.slice none 0 0)], argTypes := #[34, 28, 29] }, type := 4, pos := "law.go:86", after := #[{ on := 0, ground := Ground.data }, { on := 1, ground := Ground.data }], guard := none }) rfl (fun K hK => ?_) AllReadyH.nil)
        go_simp
        go_at_call 13
        refine (HHo.out _ hB0).mono ?_
        rintro _ w5 ⟨rfl, hb5⟩
        have hB5 : Below wy.heap.size wy w5 := hB0.trans (hb5.mono hB0.size)
        clear hb5
        dsimp only
        refine hK.out _ _ (HK.out _ hB5) (fun hh => ?_)
        replace hS := hh
        clear hK K hh
        try simp only [Act.put, List.setIfInBounds_toArray, List.set_cons_zero, List.set_cons_succ]
        refine wpAnyH_take (i := 7) (oi := { dst := some 61, op := Op.binOp BinOp.neq 4 (Operand.tmp 56) (Operand.tmp 60) 4, type := 4, pos := "law.go:86", after := #[{ on := 2, ground := Ground.data }, { on := 6, ground := Ground.data }], guard := none }) (v := .bool false) rfl (by kernel_rfl) (by kernel_rfl) (by kernel_rfl) (fun _ _ _ h => h) (Or.inl ⟨by rfl, fun w hSw => by (try dsimp only at hSw); first | (go_simp; done) | (go_simp; first | omega | simp [])⟩) hS ?_
        try simp only [Act.put, List.setIfInBounds_toArray, List.set_cons_zero, List.set_cons_succ]
        refine wpAnyH_take (i := 8) (oi := { dst := some 62, op := Op.move (Operand.tmp 61), type := 4, pos := "law.go:86", after := #[{ on := 7, ground := Ground.data }, { on := 2, ground := Ground.chain }], guard := none }) (v := ?_) rfl (by kernel_rfl) (by kernel_rfl) (by kernel_rfl) (fun _ _ _ h => h) (Or.inl ⟨by rfl, ?_⟩) hS ?_
        rotate_left
        · intro w hSw; (try dsimp only at hSw); go_simp; try with_reducible rfl
        try simp only [Act.put, List.setIfInBounds_toArray, List.set_cons_zero, List.set_cons_succ]
        refine wpAnyH_take (i := 9) (oi := { dst := some 63, op := Op.move (Operand.tmp 8), type := 3, pos := "law.go:86", after := #[{ on := 8, ground := Ground.guard }], guard := some (8, false) }) (v := ?_) rfl (by kernel_rfl) (by kernel_rfl) (by kernel_rfl) (fun _ _ _ h => h) (Or.inl ⟨by rfl, ?_⟩) hS ?_
        rotate_left
        · intro w hSw; (try dsimp only at hSw); go_simp; try with_reducible rfl
        try simp only [Act.put, List.setIfInBounds_toArray, List.set_cons_zero, List.set_cons_succ]
        refine wpAnyH_take (i := 10) (oi := { dst := some 64, op := Op.binOp BinOp.neq 3 (Operand.tmp 63) (Operand.const (Value.int IntKind.i64 1)) 3, type := 4, pos := "law.go:86", after := #[{ on := 9, ground := Ground.data }, { on := 8, ground := Ground.guard }], guard := some (8, false) }) (v := .bool false) rfl (by kernel_rfl) (by kernel_rfl) (by kernel_rfl) (fun _ _ _ h => h) (Or.inl ⟨by rfl, fun w hSw => by (try dsimp only at hSw); first | (go_simp; done) | (go_simp; first | omega | simp [])⟩) hS ?_
        try simp only [Act.put, List.setIfInBounds_toArray, List.set_cons_zero, List.set_cons_succ]
        refine wpAnyH_take (i := 11) (oi := { dst := some 65, op := Op.move (Operand.tmp 64), type := 4, pos := "law.go:86", after := #[{ on := 10, ground := Ground.data }, { on := 8, ground := Ground.chain }, { on := 8, ground := Ground.guard }], guard := some (8, false) }) (v := ?_) rfl (by kernel_rfl) (by kernel_rfl) (by kernel_rfl) (fun _ _ _ h => h) (Or.inl ⟨by rfl, ?_⟩) hS ?_
        rotate_left
        · intro w hSw; (try dsimp only at hSw); go_simp; try with_reducible rfl
        try simp only [Act.put, List.setIfInBounds_toArray, List.set_cons_zero, List.set_cons_succ]
        refine wpAnyH_take (i := 12) (oi := { dst := some 66, op := Op.move (Operand.tmp 1), type := 2, pos := "law.go:86", after := #[{ on := 11, ground := Ground.guard }], guard := some (11, true) }) (v := undef) rfl (by kernel_rfl) (by kernel_rfl) (by kernel_rfl) (fun _ _ _ h => h) (Or.inr ⟨by rfl, rfl⟩) hS ?_
        try simp only [Act.put, List.setIfInBounds_toArray, List.set_cons_zero, List.set_cons_succ]
        refine wpAnyH_take (i := 13) (oi := { dst := some 67, op := Op.move (Operand.tmp 10), type := 2, pos := "law.go:86", after := #[{ on := 11, ground := Ground.guard }], guard := some (11, true) }) (v := undef) rfl (by kernel_rfl) (by kernel_rfl) (by kernel_rfl) (fun _ _ _ h => h) (Or.inr ⟨by rfl, rfl⟩) hS ?_
        try simp only [Act.put, List.setIfInBounds_toArray, List.set_cons_zero, List.set_cons_succ]
        refine wpAnyH_take (i := 14) (oi := { dst := some 68, op := Op.binOp BinOp.geq 2 (Operand.tmp 66) (Operand.tmp 67) 2, type := 4, pos := "law.go:86", after := #[{ on := 12, ground := Ground.data }, { on := 13, ground := Ground.data }, { on := 11, ground := Ground.guard }], guard := some (11, true) }) (v := undef) rfl (by kernel_rfl) (by kernel_rfl) (by kernel_rfl) (fun _ _ _ h => h) (Or.inr ⟨by rfl, rfl⟩) hS ?_
        try simp only [Act.put, List.setIfInBounds_toArray, List.set_cons_zero, List.set_cons_succ]
        refine wpAnyH_take (i := 15) (oi := { dst := some 69, op := Op.move (Operand.tmp 68), type := 4, pos := "law.go:86", after := #[{ on := 14, ground := Ground.data }, { on := 11, ground := Ground.chain }, { on := 11, ground := Ground.guard }], guard := some (11, true) }) (v := undef) rfl (by kernel_rfl) (by kernel_rfl) (by kernel_rfl) (fun _ _ _ h => h) (Or.inr ⟨by rfl, rfl⟩) hS ?_
        try simp only [Act.put, List.setIfInBounds_toArray, List.set_cons_zero, List.set_cons_succ]
        refine wpAnyH_take (i := 16) (oi := { dst := some 70, op := Op.move (Operand.tmp 1), type := 2, pos := "law.go:86", after := #[{ on := 15, ground := Ground.guard }], guard := some (15, true) }) (v := undef) rfl (by kernel_rfl) (by kernel_rfl) (by kernel_rfl) (fun _ _ _ h => h) (Or.inr ⟨by rfl, rfl⟩) hS ?_
        try simp only [Act.put, List.setIfInBounds_toArray, List.set_cons_zero, List.set_cons_succ]
        refine wpAnyH_take (i := 17) (oi := { dst := some 71, op := Op.move (Operand.tmp 11), type := 2, pos := "law.go:86", after := #[{ on := 15, ground := Ground.guard }], guard := some (15, true) }) (v := undef) rfl (by kernel_rfl) (by kernel_rfl) (by kernel_rfl) (fun _ _ _ h => h) (Or.inr ⟨by rfl, rfl⟩) hS ?_
        try simp only [Act.put, List.setIfInBounds_toArray, List.set_cons_zero, List.set_cons_succ]
        refine wpAnyH_take (i := 18) (oi := { dst := some 72, op := Op.binOp BinOp.leq 2 (Operand.tmp 70) (Operand.tmp 71) 2, type := 4, pos := "law.go:86", after := #[{ on := 16, ground := Ground.data }, { on := 17, ground := Ground.data }, { on := 15, ground := Ground.guard }], guard := some (15, true) }) (v := undef) rfl (by kernel_rfl) (by kernel_rfl) (by kernel_rfl) (fun _ _ _ h => h) (Or.inr ⟨by rfl, rfl⟩) hS ?_
        try simp only [Act.put, List.setIfInBounds_toArray, List.set_cons_zero, List.set_cons_succ]
        refine wpAnyH_take (i := 19) (oi := { dst := some 73, op := Op.pick (Operand.tmp 69) (Operand.tmp 72) (Operand.const (Value.bool false)), type := 4, pos := "law.go:86", after := #[{ on := 15, ground := Ground.data }, { on := 18, ground := Ground.data }, { on := 11, ground := Ground.guard }], guard := some (11, true) }) (v := undef) rfl (by kernel_rfl) (by kernel_rfl) (by kernel_rfl) (fun _ _ _ h => h) (Or.inr ⟨by rfl, rfl⟩) hS ?_
        try simp only [Act.put, List.setIfInBounds_toArray, List.set_cons_zero, List.set_cons_succ]
        refine wpAnyH_take (i := 20) (oi := { dst := some 74, op := Op.move (Operand.tmp 7), type := 47, pos := "law.go:86", after := #[{ on := 11, ground := Ground.guard }], guard := some (11, true) }) (v := undef) rfl (by kernel_rfl) (by kernel_rfl) (by kernel_rfl) (fun _ _ _ h => h) (Or.inr ⟨by rfl, rfl⟩) hS ?_
        try simp only [Act.put, List.setIfInBounds_toArray, List.set_cons_zero, List.set_cons_succ]
        refine wpAnyH_take (i := 21) (oi := { dst := some 75, op := Op.move (Operand.tmp 8), type := 3, pos := "law.go:86", after := #[{ on := 11, ground := Ground.guard }], guard := some (11, true) }) (v := undef) rfl (by kernel_rfl) (by kernel_rfl) (by kernel_rfl) (fun _ _ _ h => h) (Or.inr ⟨by rfl, rfl⟩) hS ?_
        try simp only [Act.put, List.setIfInBounds_toArray, List.set_cons_zero, List.set_cons_succ]
        refine wpAnyH_take (i := 22) (oi := { dst := some 76, op := Op.indexAddr 47 (Operand.tmp 74) (Operand.tmp 75), type := 0, pos := "law.go:86", after := #[{ on := 20, ground := Ground.data }, { on := 21, ground := Ground.data }, { on := 11, ground := Ground.guard }], guard := some (11, true) }) (v := undef) rfl (by kernel_rfl) (by kernel_rfl) (by kernel_rfl) (fun _ _ _ h => h) (Or.inr ⟨by rfl, rfl⟩) hS ?_
        try simp only [Act.put, List.setIfInBounds_toArray, List.set_cons_zero, List.set_cons_succ]
        refine wpAnyH_take (i := 23) (oi := { dst := some 77, op := Op.load 4 (Operand.tmp 76), type := 4, pos := "law.go:86", after := #[{ on := 22, ground := Ground.data }, { on := 11, ground := Ground.guard }], guard := some (11, true) }) (v := undef) rfl (by kernel_rfl) (by kernel_rfl) (by kernel_rfl) (fun _ _ _ h => h) (Or.inr ⟨by rfl, rfl⟩) hS ?_
        try simp only [Act.put, List.setIfInBounds_toArray, List.set_cons_zero, List.set_cons_succ]
        refine wpAnyH_take (i := 24) (oi := { dst := some 78, op := Op.binOp BinOp.neq 4 (Operand.tmp 73) (Operand.tmp 77) 4, type := 4, pos := "law.go:86", after := #[{ on := 19, ground := Ground.data }, { on := 23, ground := Ground.data }, { on := 11, ground := Ground.guard }], guard := some (11, true) }) (v := undef) rfl (by kernel_rfl) (by kernel_rfl) (by kernel_rfl) (fun _ _ _ h => h) (Or.inr ⟨by rfl, rfl⟩) hS ?_
        try simp only [Act.put, List.setIfInBounds_toArray, List.set_cons_zero, List.set_cons_succ]
        refine wpAnyH_take (i := 25) (oi := { dst := some 79, op := Op.pick (Operand.tmp 65) (Operand.tmp 78) (Operand.const (Value.bool false)), type := 4, pos := "law.go:86", after := #[{ on := 11, ground := Ground.data }, { on := 24, ground := Ground.data }, { on := 8, ground := Ground.guard }], guard := some (8, false) }) (v := ?_) rfl (by kernel_rfl) (by kernel_rfl) (by kernel_rfl) (fun _ _ _ h => h) (Or.inl ⟨by rfl, ?_⟩) hS ?_
        rotate_left
        · intro w hSw; (try dsimp only at hSw); go_simp; try with_reducible rfl
        try simp only [Act.put, List.setIfInBounds_toArray, List.set_cons_zero, List.set_cons_succ]
        refine wpAnyH_take (i := 26) (oi := { dst := some 80, op := Op.pick (Operand.tmp 62) (Operand.const (Value.bool true)) (Operand.tmp 79), type := 4, pos := "law.go:86", after := #[{ on := 8, ground := Ground.data }, { on := 25, ground := Ground.data }], guard := none }) (v := ?_) rfl (by kernel_rfl) (by kernel_rfl) (by kernel_rfl) (fun _ _ _ h => h) (Or.inl ⟨by rfl, ?_⟩) hS ?_
        rotate_left
        · intro w hSw; (try dsimp only at hSw); go_simp; try with_reducible rfl
        try simp only [Act.put, List.setIfInBounds_toArray, List.set_cons_zero, List.set_cons_succ]
        refine wpAnyH_done (by kernel_rfl) ?_ _
        go_wp2_with fail
        go_roundg (gk - 1)
        case measure => go_light; omega
        case rel =>
          go_light
          exact ⟨2, by omega, by go_num, Lib.hid (HY.out.trans (hB5.mono HY.out.size))⟩
      · have hh2 := HR.out hk1
        by_cases ha : va ≤ t
        · have hh3 : decide (t ≤ vb) = h := by rw [hh2, decide_eq_true ha]; rfl
          clear hh2
          refine wp_region_held_drew (S := fun w' => w'.cell? ⟨w.heap.size, 0, none⟩ = some (.string rn) ∧ w'.cell? ⟨w.heap.size, 1, none⟩ = some (.slice ta ts.length tc) ∧ w'.cell? ⟨w.heap.size, 2, none⟩ = some (.slice fa fs.length fc) ∧ w'.cell? ⟨w.heap.size, 3, none⟩ = some (.int .i64 t) ∧ w'.cell? ⟨Bh, k, none⟩ = some (.bool h)) (by kernel_rfl) (HK.out _ hB0) (fun hS => ?_)
          refine wpAnyH_take (i := 0) (oi := { dst := some 54, op := Op.move (Operand.tmp 9), type := 34, pos := "law.go:86", after := #[], guard := none }) (v := ?_) rfl (by kernel_rfl) (by kernel_rfl) (by kernel_rfl) (fun _ _ _ h => h) (Or.inl ⟨by rfl, ?_⟩) hS ?_
          rotate_left
          · intro w hSw; (try dsimp only at hSw); go_simp; try with_reducible rfl
          try simp only [Act.put, List.setIfInBounds_toArray, List.set_cons_zero, List.set_cons_succ]
          refine wpAnyH_take (i := 1) (oi := { dst := some 55, op := Op.load 28 (Operand.tmp 5), type := 28, pos := "law.go:86", after := #[], guard := none }) (v := ?_) rfl (by kernel_rfl) (by kernel_rfl) (by kernel_rfl) (fun _ _ _ h => h) (Or.inl ⟨by rfl, ?_⟩) hS ?_
          rotate_left
          · intro w hSw; (try dsimp only at hSw); go_simp; try with_reducible rfl
          try simp only [Act.put, List.setIfInBounds_toArray, List.set_cons_zero, List.set_cons_succ]
          refine wpAnyH_take (i := 3) (oi := { dst := some 57, op := Op.move (Operand.tmp 7), type := 47, pos := "law.go:86", after := #[], guard := none }) (v := ?_) rfl (by kernel_rfl) (by kernel_rfl) (by kernel_rfl) (fun _ _ _ h => h) (Or.inl ⟨by rfl, ?_⟩) hS ?_
          rotate_left
          · intro w hSw; (try dsimp only at hSw); go_simp; try with_reducible rfl
          try simp only [Act.put, List.setIfInBounds_toArray, List.set_cons_zero, List.set_cons_succ]
          refine wpAnyH_take (i := 4) (oi := { dst := some 58, op := Op.move (Operand.tmp 8), type := 3, pos := "law.go:86", after := #[], guard := none }) (v := ?_) rfl (by kernel_rfl) (by kernel_rfl) (by kernel_rfl) (fun _ _ _ h => h) (Or.inl ⟨by rfl, ?_⟩) hS ?_
          rotate_left
          · intro w hSw; (try dsimp only at hSw); go_simp; try with_reducible rfl
          try simp only [Act.put, List.setIfInBounds_toArray, List.set_cons_zero, List.set_cons_succ]
          refine wpAnyH_take (i := 5) (oi := { dst := some 59, op := Op.indexAddr 47 (Operand.tmp 57) (Operand.tmp 58), type := 0, pos := "law.go:86", after := #[{ on := 3, ground := Ground.data }, { on := 4, ground := Ground.data }], guard := none }) (v := ?_) rfl (by kernel_rfl) (by kernel_rfl) (by kernel_rfl) (fun _ _ _ h => h) (Or.inl ⟨by rfl, ?_⟩) hS ?_
          rotate_left
          · intro w hSw; (try dsimp only at hSw); go_simp; try with_reducible rfl
          try simp only [Act.put, List.setIfInBounds_toArray, List.set_cons_zero, List.set_cons_succ]
          refine wpAnyH_take (i := 6) (oi := { dst := some 60, op := Op.load 4 (Operand.tmp 59), type := 4, pos := "law.go:86", after := #[{ on := 5, ground := Ground.data }], guard := none }) (v := ?_) rfl (by kernel_rfl) (by kernel_rfl) (by kernel_rfl) (fun _ _ _ h => h) (Or.inl ⟨by rfl, ?_⟩) hS ?_
          rotate_left
          · intro w hSw; (try dsimp only at hSw); go_simp; try with_reducible rfl
          try simp only [Act.put, List.setIfInBounds_toArray, List.set_cons_zero, List.set_cons_succ]
          refine wpAnyH_ready (rs := [2]) (by kernel_rfl) (by simp) (AllReadyH.cons (o := { dst := some 56, op := Op.call { callee := Callee.value (Operand.func 13), args := #[Operand.tmp 54, Operand.tmp 55, Operand.const (Value.slice none 0 0)], argTypes := #[34, 28, 29] }, type := 4, pos := "law.go:86", after := #[{ on := 0, ground := Ground.data }, { on := 1, ground := Ground.data }], guard := none }) rfl (fun K hK => ?_) AllReadyH.nil)
          go_simp
          go_at_call 13
          refine (HHo.out _ hB0).mono ?_
          rintro _ w5 ⟨rfl, hb5⟩
          have hB5 : Below wy.heap.size wy w5 := hB0.trans (hb5.mono hB0.size)
          clear hb5
          dsimp only
          refine hK.out _ _ (HK.out _ hB5) (fun hh => ?_)
          replace hS := hh
          clear hK K hh
          try simp only [Act.put, List.setIfInBounds_toArray, List.set_cons_zero, List.set_cons_succ]
          refine wpAnyH_take (i := 7) (oi := { dst := some 61, op := Op.binOp BinOp.neq 4 (Operand.tmp 56) (Operand.tmp 60) 4, type := 4, pos := "law.go:86", after := #[{ on := 2, ground := Ground.data }, { on := 6, ground := Ground.data }], guard := none }) (v := .bool false) rfl (by kernel_rfl) (by kernel_rfl) (by kernel_rfl) (fun _ _ _ h => h) (Or.inl ⟨by rfl, fun w hSw => by (try dsimp only at hSw); first | (go_simp; done) | (go_simp; first | omega | simp [])⟩) hS ?_
          try simp only [Act.put, List.setIfInBounds_toArray, List.set_cons_zero, List.set_cons_succ]
          refine wpAnyH_take (i := 8) (oi := { dst := some 62, op := Op.move (Operand.tmp 61), type := 4, pos := "law.go:86", after := #[{ on := 7, ground := Ground.data }, { on := 2, ground := Ground.chain }], guard := none }) (v := ?_) rfl (by kernel_rfl) (by kernel_rfl) (by kernel_rfl) (fun _ _ _ h => h) (Or.inl ⟨by rfl, ?_⟩) hS ?_
          rotate_left
          · intro w hSw; (try dsimp only at hSw); go_simp; try with_reducible rfl
          try simp only [Act.put, List.setIfInBounds_toArray, List.set_cons_zero, List.set_cons_succ]
          refine wpAnyH_take (i := 9) (oi := { dst := some 63, op := Op.move (Operand.tmp 8), type := 3, pos := "law.go:86", after := #[{ on := 8, ground := Ground.guard }], guard := some (8, false) }) (v := ?_) rfl (by kernel_rfl) (by kernel_rfl) (by kernel_rfl) (fun _ _ _ h => h) (Or.inl ⟨by rfl, ?_⟩) hS ?_
          rotate_left
          · intro w hSw; (try dsimp only at hSw); go_simp; try with_reducible rfl
          try simp only [Act.put, List.setIfInBounds_toArray, List.set_cons_zero, List.set_cons_succ]
          refine wpAnyH_take (i := 10) (oi := { dst := some 64, op := Op.binOp BinOp.neq 3 (Operand.tmp 63) (Operand.const (Value.int IntKind.i64 1)) 3, type := 4, pos := "law.go:86", after := #[{ on := 9, ground := Ground.data }, { on := 8, ground := Ground.guard }], guard := some (8, false) }) (v := .bool true) rfl (by kernel_rfl) (by kernel_rfl) (by kernel_rfl) (fun _ _ _ h => h) (Or.inl ⟨by rfl, fun w hSw => by (try dsimp only at hSw); first | (go_simp; done) | (go_simp; first | omega | simp [hk1])⟩) hS ?_
          try simp only [Act.put, List.setIfInBounds_toArray, List.set_cons_zero, List.set_cons_succ]
          refine wpAnyH_take (i := 11) (oi := { dst := some 65, op := Op.move (Operand.tmp 64), type := 4, pos := "law.go:86", after := #[{ on := 10, ground := Ground.data }, { on := 8, ground := Ground.chain }, { on := 8, ground := Ground.guard }], guard := some (8, false) }) (v := ?_) rfl (by kernel_rfl) (by kernel_rfl) (by kernel_rfl) (fun _ _ _ h => h) (Or.inl ⟨by rfl, ?_⟩) hS ?_
          rotate_left
          · intro w hSw; (try dsimp only at hSw); go_simp; try with_reducible rfl
          try simp only [Act.put, List.setIfInBounds_toArray, List.set_cons_zero, List.set_cons_succ]
          refine wpAnyH_take (i := 12) (oi := { dst := some 66, op := Op.move (Operand.tmp 1), type := 2, pos := "law.go:86", after := #[{ on := 11, ground := Ground.guard }], guard := some (11, true) }) (v := ?_) rfl (by kernel_rfl) (by kernel_rfl) (by kernel_rfl) (fun _ _ _ h => h) (Or.inl ⟨by rfl, ?_⟩) hS ?_
          rotate_left
          · intro w hSw; (try dsimp only at hSw); go_simp; try with_reducible rfl
          try simp only [Act.put, List.setIfInBounds_toArray, List.set_cons_zero, List.set_cons_succ]
          refine wpAnyH_take (i := 13) (oi := { dst := some 67, op := Op.move (Operand.tmp 10), type := 2, pos := "law.go:86", after := #[{ on := 11, ground := Ground.guard }], guard := some (11, true) }) (v := ?_) rfl (by kernel_rfl) (by kernel_rfl) (by kernel_rfl) (fun _ _ _ h => h) (Or.inl ⟨by rfl, ?_⟩) hS ?_
          rotate_left
          · intro w hSw; (try dsimp only at hSw); go_simp; try with_reducible rfl
          try simp only [Act.put, List.setIfInBounds_toArray, List.set_cons_zero, List.set_cons_succ]
          refine wpAnyH_take (i := 14) (oi := { dst := some 68, op := Op.binOp BinOp.geq 2 (Operand.tmp 66) (Operand.tmp 67) 2, type := 4, pos := "law.go:86", after := #[{ on := 12, ground := Ground.data }, { on := 13, ground := Ground.data }, { on := 11, ground := Ground.guard }], guard := some (11, true) }) (v := .bool true) rfl (by kernel_rfl) (by kernel_rfl) (by kernel_rfl) (fun _ _ _ h => h) (Or.inl ⟨by rfl, fun w hSw => by (try dsimp only at hSw); first | (go_simp; done) | (go_simp; first | omega | simp [ha])⟩) hS ?_
          try simp only [Act.put, List.setIfInBounds_toArray, List.set_cons_zero, List.set_cons_succ]
          refine wpAnyH_take (i := 15) (oi := { dst := some 69, op := Op.move (Operand.tmp 68), type := 4, pos := "law.go:86", after := #[{ on := 14, ground := Ground.data }, { on := 11, ground := Ground.chain }, { on := 11, ground := Ground.guard }], guard := some (11, true) }) (v := ?_) rfl (by kernel_rfl) (by kernel_rfl) (by kernel_rfl) (fun _ _ _ h => h) (Or.inl ⟨by rfl, ?_⟩) hS ?_
          rotate_left
          · intro w hSw; (try dsimp only at hSw); go_simp; try with_reducible rfl
          try simp only [Act.put, List.setIfInBounds_toArray, List.set_cons_zero, List.set_cons_succ]
          refine wpAnyH_take (i := 16) (oi := { dst := some 70, op := Op.move (Operand.tmp 1), type := 2, pos := "law.go:86", after := #[{ on := 15, ground := Ground.guard }], guard := some (15, true) }) (v := ?_) rfl (by kernel_rfl) (by kernel_rfl) (by kernel_rfl) (fun _ _ _ h => h) (Or.inl ⟨by rfl, ?_⟩) hS ?_
          rotate_left
          · intro w hSw; (try dsimp only at hSw); go_simp; try with_reducible rfl
          try simp only [Act.put, List.setIfInBounds_toArray, List.set_cons_zero, List.set_cons_succ]
          refine wpAnyH_take (i := 17) (oi := { dst := some 71, op := Op.move (Operand.tmp 11), type := 2, pos := "law.go:86", after := #[{ on := 15, ground := Ground.guard }], guard := some (15, true) }) (v := ?_) rfl (by kernel_rfl) (by kernel_rfl) (by kernel_rfl) (fun _ _ _ h => h) (Or.inl ⟨by rfl, ?_⟩) hS ?_
          rotate_left
          · intro w hSw; (try dsimp only at hSw); go_simp; try with_reducible rfl
          try simp only [Act.put, List.setIfInBounds_toArray, List.set_cons_zero, List.set_cons_succ]
          refine wpAnyH_take (i := 18) (oi := { dst := some 72, op := Op.binOp BinOp.leq 2 (Operand.tmp 70) (Operand.tmp 71) 2, type := 4, pos := "law.go:86", after := #[{ on := 16, ground := Ground.data }, { on := 17, ground := Ground.data }, { on := 15, ground := Ground.guard }], guard := some (15, true) }) (v := ?_) rfl (by kernel_rfl) (by kernel_rfl) (by kernel_rfl) (fun _ _ _ h => h) (Or.inl ⟨by rfl, ?_⟩) hS ?_
          rotate_left
          · intro w hSw; (try dsimp only at hSw); go_simp; try with_reducible rfl
          try simp only [Act.put, List.setIfInBounds_toArray, List.set_cons_zero, List.set_cons_succ]
          refine wpAnyH_take (i := 19) (oi := { dst := some 73, op := Op.pick (Operand.tmp 69) (Operand.tmp 72) (Operand.const (Value.bool false)), type := 4, pos := "law.go:86", after := #[{ on := 15, ground := Ground.data }, { on := 18, ground := Ground.data }, { on := 11, ground := Ground.guard }], guard := some (11, true) }) (v := ?_) rfl (by kernel_rfl) (by kernel_rfl) (by kernel_rfl) (fun _ _ _ h => h) (Or.inl ⟨by rfl, ?_⟩) hS ?_
          rotate_left
          · intro w hSw; (try dsimp only at hSw); go_simp; try with_reducible rfl
          try simp only [Act.put, List.setIfInBounds_toArray, List.set_cons_zero, List.set_cons_succ]
          refine wpAnyH_take (i := 20) (oi := { dst := some 74, op := Op.move (Operand.tmp 7), type := 47, pos := "law.go:86", after := #[{ on := 11, ground := Ground.guard }], guard := some (11, true) }) (v := ?_) rfl (by kernel_rfl) (by kernel_rfl) (by kernel_rfl) (fun _ _ _ h => h) (Or.inl ⟨by rfl, ?_⟩) hS ?_
          rotate_left
          · intro w hSw; (try dsimp only at hSw); go_simp; try with_reducible rfl
          try simp only [Act.put, List.setIfInBounds_toArray, List.set_cons_zero, List.set_cons_succ]
          refine wpAnyH_take (i := 21) (oi := { dst := some 75, op := Op.move (Operand.tmp 8), type := 3, pos := "law.go:86", after := #[{ on := 11, ground := Ground.guard }], guard := some (11, true) }) (v := ?_) rfl (by kernel_rfl) (by kernel_rfl) (by kernel_rfl) (fun _ _ _ h => h) (Or.inl ⟨by rfl, ?_⟩) hS ?_
          rotate_left
          · intro w hSw; (try dsimp only at hSw); go_simp; try with_reducible rfl
          try simp only [Act.put, List.setIfInBounds_toArray, List.set_cons_zero, List.set_cons_succ]
          refine wpAnyH_take (i := 22) (oi := { dst := some 76, op := Op.indexAddr 47 (Operand.tmp 74) (Operand.tmp 75), type := 0, pos := "law.go:86", after := #[{ on := 20, ground := Ground.data }, { on := 21, ground := Ground.data }, { on := 11, ground := Ground.guard }], guard := some (11, true) }) (v := ?_) rfl (by kernel_rfl) (by kernel_rfl) (by kernel_rfl) (fun _ _ _ h => h) (Or.inl ⟨by rfl, ?_⟩) hS ?_
          rotate_left
          · intro w hSw; (try dsimp only at hSw); go_simp; try with_reducible rfl
          try simp only [Act.put, List.setIfInBounds_toArray, List.set_cons_zero, List.set_cons_succ]
          refine wpAnyH_take (i := 23) (oi := { dst := some 77, op := Op.load 4 (Operand.tmp 76), type := 4, pos := "law.go:86", after := #[{ on := 22, ground := Ground.data }, { on := 11, ground := Ground.guard }], guard := some (11, true) }) (v := ?_) rfl (by kernel_rfl) (by kernel_rfl) (by kernel_rfl) (fun _ _ _ h => h) (Or.inl ⟨by rfl, ?_⟩) hS ?_
          rotate_left
          · intro w hSw; (try dsimp only at hSw); go_simp; try with_reducible rfl
          try simp only [Act.put, List.setIfInBounds_toArray, List.set_cons_zero, List.set_cons_succ]
          refine wpAnyH_take (i := 24) (oi := { dst := some 78, op := Op.binOp BinOp.neq 4 (Operand.tmp 73) (Operand.tmp 77) 4, type := 4, pos := "law.go:86", after := #[{ on := 19, ground := Ground.data }, { on := 23, ground := Ground.data }, { on := 11, ground := Ground.guard }], guard := some (11, true) }) (v := .bool false) rfl (by kernel_rfl) (by kernel_rfl) (by kernel_rfl) (fun _ _ _ h => h) (Or.inl ⟨by rfl, fun w hSw => by (try dsimp only at hSw); first | (go_simp; done) | (go_simp; first | omega | simp [])⟩) hS ?_
          try simp only [Act.put, List.setIfInBounds_toArray, List.set_cons_zero, List.set_cons_succ]
          refine wpAnyH_take (i := 25) (oi := { dst := some 79, op := Op.pick (Operand.tmp 65) (Operand.tmp 78) (Operand.const (Value.bool false)), type := 4, pos := "law.go:86", after := #[{ on := 11, ground := Ground.data }, { on := 24, ground := Ground.data }, { on := 8, ground := Ground.guard }], guard := some (8, false) }) (v := ?_) rfl (by kernel_rfl) (by kernel_rfl) (by kernel_rfl) (fun _ _ _ h => h) (Or.inl ⟨by rfl, ?_⟩) hS ?_
          rotate_left
          · intro w hSw; (try dsimp only at hSw); go_simp; try with_reducible rfl
          try simp only [Act.put, List.setIfInBounds_toArray, List.set_cons_zero, List.set_cons_succ]
          refine wpAnyH_take (i := 26) (oi := { dst := some 80, op := Op.pick (Operand.tmp 62) (Operand.const (Value.bool true)) (Operand.tmp 79), type := 4, pos := "law.go:86", after := #[{ on := 8, ground := Ground.data }, { on := 25, ground := Ground.data }], guard := none }) (v := ?_) rfl (by kernel_rfl) (by kernel_rfl) (by kernel_rfl) (fun _ _ _ h => h) (Or.inl ⟨by rfl, ?_⟩) hS ?_
          rotate_left
          · intro w hSw; (try dsimp only at hSw); go_simp; try with_reducible rfl
          try simp only [Act.put, List.setIfInBounds_toArray, List.set_cons_zero, List.set_cons_succ]
          refine wpAnyH_done (by kernel_rfl) ?_ _
          go_wp2_with fail
          go_roundg (gk - 1)
          case measure => go_light; omega
          case rel =>
            go_light
            exact ⟨k + 1, by omega, by go_num, Lib.hid (HY.out.trans (hB5.mono HY.out.size))⟩
        · obtain rfl : h = false := by rw [hh2, decide_eq_false ha]; rfl
          clear hh2
          refine wp_region_held_drew (S := fun w' => w'.cell? ⟨w.heap.size, 0, none⟩ = some (.string rn) ∧ w'.cell? ⟨w.heap.size, 1, none⟩ = some (.slice ta ts.length tc) ∧ w'.cell? ⟨w.heap.size, 2, none⟩ = some (.slice fa fs.length fc) ∧ w'.cell? ⟨w.heap.size, 3, none⟩ = some (.int .i64 t) ∧ w'.cell? ⟨Bh, k, none⟩ = some (.bool false)) (by kernel_rfl) (HK.out _ hB0) (fun hS => ?_)
          refine wpAnyH_take (i := 0) (oi := { dst := some 54, op := Op.move (Operand.tmp 9), type := 34, pos := "law.go:86", after := #[], guard := none }) (v := ?_) rfl (by kernel_rfl) (by kernel_rfl) (by kernel_rfl) (fun _ _ _ h => h) (Or.inl ⟨by rfl, ?_⟩) hS ?_
          rotate_left
          · intro w hSw; (try dsimp only at hSw); go_simp; try with_reducible rfl
          try simp only [Act.put, List.setIfInBounds_toArray, List.set_cons_zero, List.set_cons_succ]
          refine wpAnyH_take (i := 1) (oi := { dst := some 55, op := Op.load 28 (Operand.tmp 5), type := 28, pos := "law.go:86", after := #[], guard := none }) (v := ?_) rfl (by kernel_rfl) (by kernel_rfl) (by kernel_rfl) (fun _ _ _ h => h) (Or.inl ⟨by rfl, ?_⟩) hS ?_
          rotate_left
          · intro w hSw; (try dsimp only at hSw); go_simp; try with_reducible rfl
          try simp only [Act.put, List.setIfInBounds_toArray, List.set_cons_zero, List.set_cons_succ]
          refine wpAnyH_take (i := 3) (oi := { dst := some 57, op := Op.move (Operand.tmp 7), type := 47, pos := "law.go:86", after := #[], guard := none }) (v := ?_) rfl (by kernel_rfl) (by kernel_rfl) (by kernel_rfl) (fun _ _ _ h => h) (Or.inl ⟨by rfl, ?_⟩) hS ?_
          rotate_left
          · intro w hSw; (try dsimp only at hSw); go_simp; try with_reducible rfl
          try simp only [Act.put, List.setIfInBounds_toArray, List.set_cons_zero, List.set_cons_succ]
          refine wpAnyH_take (i := 4) (oi := { dst := some 58, op := Op.move (Operand.tmp 8), type := 3, pos := "law.go:86", after := #[], guard := none }) (v := ?_) rfl (by kernel_rfl) (by kernel_rfl) (by kernel_rfl) (fun _ _ _ h => h) (Or.inl ⟨by rfl, ?_⟩) hS ?_
          rotate_left
          · intro w hSw; (try dsimp only at hSw); go_simp; try with_reducible rfl
          try simp only [Act.put, List.setIfInBounds_toArray, List.set_cons_zero, List.set_cons_succ]
          refine wpAnyH_take (i := 5) (oi := { dst := some 59, op := Op.indexAddr 47 (Operand.tmp 57) (Operand.tmp 58), type := 0, pos := "law.go:86", after := #[{ on := 3, ground := Ground.data }, { on := 4, ground := Ground.data }], guard := none }) (v := ?_) rfl (by kernel_rfl) (by kernel_rfl) (by kernel_rfl) (fun _ _ _ h => h) (Or.inl ⟨by rfl, ?_⟩) hS ?_
          rotate_left
          · intro w hSw; (try dsimp only at hSw); go_simp; try with_reducible rfl
          try simp only [Act.put, List.setIfInBounds_toArray, List.set_cons_zero, List.set_cons_succ]
          refine wpAnyH_take (i := 6) (oi := { dst := some 60, op := Op.load 4 (Operand.tmp 59), type := 4, pos := "law.go:86", after := #[{ on := 5, ground := Ground.data }], guard := none }) (v := ?_) rfl (by kernel_rfl) (by kernel_rfl) (by kernel_rfl) (fun _ _ _ h => h) (Or.inl ⟨by rfl, ?_⟩) hS ?_
          rotate_left
          · intro w hSw; (try dsimp only at hSw); go_simp; try with_reducible rfl
          try simp only [Act.put, List.setIfInBounds_toArray, List.set_cons_zero, List.set_cons_succ]
          refine wpAnyH_ready (rs := [2]) (by kernel_rfl) (by simp) (AllReadyH.cons (o := { dst := some 56, op := Op.call { callee := Callee.value (Operand.func 13), args := #[Operand.tmp 54, Operand.tmp 55, Operand.const (Value.slice none 0 0)], argTypes := #[34, 28, 29] }, type := 4, pos := "law.go:86", after := #[{ on := 0, ground := Ground.data }, { on := 1, ground := Ground.data }], guard := none }) rfl (fun K hK => ?_) AllReadyH.nil)
          go_simp
          go_at_call 13
          refine (HHo.out _ hB0).mono ?_
          rintro _ w5 ⟨rfl, hb5⟩
          have hB5 : Below wy.heap.size wy w5 := hB0.trans (hb5.mono hB0.size)
          clear hb5
          dsimp only
          refine hK.out _ _ (HK.out _ hB5) (fun hh => ?_)
          replace hS := hh
          clear hK K hh
          try simp only [Act.put, List.setIfInBounds_toArray, List.set_cons_zero, List.set_cons_succ]
          refine wpAnyH_take (i := 7) (oi := { dst := some 61, op := Op.binOp BinOp.neq 4 (Operand.tmp 56) (Operand.tmp 60) 4, type := 4, pos := "law.go:86", after := #[{ on := 2, ground := Ground.data }, { on := 6, ground := Ground.data }], guard := none }) (v := .bool false) rfl (by kernel_rfl) (by kernel_rfl) (by kernel_rfl) (fun _ _ _ h => h) (Or.inl ⟨by rfl, fun w hSw => by (try dsimp only at hSw); first | (go_simp; done) | (go_simp; first | omega | simp [])⟩) hS ?_
          try simp only [Act.put, List.setIfInBounds_toArray, List.set_cons_zero, List.set_cons_succ]
          refine wpAnyH_take (i := 8) (oi := { dst := some 62, op := Op.move (Operand.tmp 61), type := 4, pos := "law.go:86", after := #[{ on := 7, ground := Ground.data }, { on := 2, ground := Ground.chain }], guard := none }) (v := ?_) rfl (by kernel_rfl) (by kernel_rfl) (by kernel_rfl) (fun _ _ _ h => h) (Or.inl ⟨by rfl, ?_⟩) hS ?_
          rotate_left
          · intro w hSw; (try dsimp only at hSw); go_simp; try with_reducible rfl
          try simp only [Act.put, List.setIfInBounds_toArray, List.set_cons_zero, List.set_cons_succ]
          refine wpAnyH_take (i := 9) (oi := { dst := some 63, op := Op.move (Operand.tmp 8), type := 3, pos := "law.go:86", after := #[{ on := 8, ground := Ground.guard }], guard := some (8, false) }) (v := ?_) rfl (by kernel_rfl) (by kernel_rfl) (by kernel_rfl) (fun _ _ _ h => h) (Or.inl ⟨by rfl, ?_⟩) hS ?_
          rotate_left
          · intro w hSw; (try dsimp only at hSw); go_simp; try with_reducible rfl
          try simp only [Act.put, List.setIfInBounds_toArray, List.set_cons_zero, List.set_cons_succ]
          refine wpAnyH_take (i := 10) (oi := { dst := some 64, op := Op.binOp BinOp.neq 3 (Operand.tmp 63) (Operand.const (Value.int IntKind.i64 1)) 3, type := 4, pos := "law.go:86", after := #[{ on := 9, ground := Ground.data }, { on := 8, ground := Ground.guard }], guard := some (8, false) }) (v := .bool true) rfl (by kernel_rfl) (by kernel_rfl) (by kernel_rfl) (fun _ _ _ h => h) (Or.inl ⟨by rfl, fun w hSw => by (try dsimp only at hSw); first | (go_simp; done) | (go_simp; first | omega | simp [hk1])⟩) hS ?_
          try simp only [Act.put, List.setIfInBounds_toArray, List.set_cons_zero, List.set_cons_succ]
          refine wpAnyH_take (i := 11) (oi := { dst := some 65, op := Op.move (Operand.tmp 64), type := 4, pos := "law.go:86", after := #[{ on := 10, ground := Ground.data }, { on := 8, ground := Ground.chain }, { on := 8, ground := Ground.guard }], guard := some (8, false) }) (v := ?_) rfl (by kernel_rfl) (by kernel_rfl) (by kernel_rfl) (fun _ _ _ h => h) (Or.inl ⟨by rfl, ?_⟩) hS ?_
          rotate_left
          · intro w hSw; (try dsimp only at hSw); go_simp; try with_reducible rfl
          try simp only [Act.put, List.setIfInBounds_toArray, List.set_cons_zero, List.set_cons_succ]
          refine wpAnyH_take (i := 12) (oi := { dst := some 66, op := Op.move (Operand.tmp 1), type := 2, pos := "law.go:86", after := #[{ on := 11, ground := Ground.guard }], guard := some (11, true) }) (v := ?_) rfl (by kernel_rfl) (by kernel_rfl) (by kernel_rfl) (fun _ _ _ h => h) (Or.inl ⟨by rfl, ?_⟩) hS ?_
          rotate_left
          · intro w hSw; (try dsimp only at hSw); go_simp; try with_reducible rfl
          try simp only [Act.put, List.setIfInBounds_toArray, List.set_cons_zero, List.set_cons_succ]
          refine wpAnyH_take (i := 13) (oi := { dst := some 67, op := Op.move (Operand.tmp 10), type := 2, pos := "law.go:86", after := #[{ on := 11, ground := Ground.guard }], guard := some (11, true) }) (v := ?_) rfl (by kernel_rfl) (by kernel_rfl) (by kernel_rfl) (fun _ _ _ h => h) (Or.inl ⟨by rfl, ?_⟩) hS ?_
          rotate_left
          · intro w hSw; (try dsimp only at hSw); go_simp; try with_reducible rfl
          try simp only [Act.put, List.setIfInBounds_toArray, List.set_cons_zero, List.set_cons_succ]
          refine wpAnyH_take (i := 14) (oi := { dst := some 68, op := Op.binOp BinOp.geq 2 (Operand.tmp 66) (Operand.tmp 67) 2, type := 4, pos := "law.go:86", after := #[{ on := 12, ground := Ground.data }, { on := 13, ground := Ground.data }, { on := 11, ground := Ground.guard }], guard := some (11, true) }) (v := .bool false) rfl (by kernel_rfl) (by kernel_rfl) (by kernel_rfl) (fun _ _ _ h => h) (Or.inl ⟨by rfl, fun w hSw => by (try dsimp only at hSw); first | (go_simp; done) | (go_simp; first | omega | simp [ha])⟩) hS ?_
          try simp only [Act.put, List.setIfInBounds_toArray, List.set_cons_zero, List.set_cons_succ]
          refine wpAnyH_take (i := 15) (oi := { dst := some 69, op := Op.move (Operand.tmp 68), type := 4, pos := "law.go:86", after := #[{ on := 14, ground := Ground.data }, { on := 11, ground := Ground.chain }, { on := 11, ground := Ground.guard }], guard := some (11, true) }) (v := ?_) rfl (by kernel_rfl) (by kernel_rfl) (by kernel_rfl) (fun _ _ _ h => h) (Or.inl ⟨by rfl, ?_⟩) hS ?_
          rotate_left
          · intro w hSw; (try dsimp only at hSw); go_simp; try with_reducible rfl
          try simp only [Act.put, List.setIfInBounds_toArray, List.set_cons_zero, List.set_cons_succ]
          refine wpAnyH_take (i := 16) (oi := { dst := some 70, op := Op.move (Operand.tmp 1), type := 2, pos := "law.go:86", after := #[{ on := 15, ground := Ground.guard }], guard := some (15, true) }) (v := undef) rfl (by kernel_rfl) (by kernel_rfl) (by kernel_rfl) (fun _ _ _ h => h) (Or.inr ⟨by rfl, rfl⟩) hS ?_
          try simp only [Act.put, List.setIfInBounds_toArray, List.set_cons_zero, List.set_cons_succ]
          refine wpAnyH_take (i := 17) (oi := { dst := some 71, op := Op.move (Operand.tmp 11), type := 2, pos := "law.go:86", after := #[{ on := 15, ground := Ground.guard }], guard := some (15, true) }) (v := undef) rfl (by kernel_rfl) (by kernel_rfl) (by kernel_rfl) (fun _ _ _ h => h) (Or.inr ⟨by rfl, rfl⟩) hS ?_
          try simp only [Act.put, List.setIfInBounds_toArray, List.set_cons_zero, List.set_cons_succ]
          refine wpAnyH_take (i := 18) (oi := { dst := some 72, op := Op.binOp BinOp.leq 2 (Operand.tmp 70) (Operand.tmp 71) 2, type := 4, pos := "law.go:86", after := #[{ on := 16, ground := Ground.data }, { on := 17, ground := Ground.data }, { on := 15, ground := Ground.guard }], guard := some (15, true) }) (v := undef) rfl (by kernel_rfl) (by kernel_rfl) (by kernel_rfl) (fun _ _ _ h => h) (Or.inr ⟨by rfl, rfl⟩) hS ?_
          try simp only [Act.put, List.setIfInBounds_toArray, List.set_cons_zero, List.set_cons_succ]
          refine wpAnyH_take (i := 19) (oi := { dst := some 73, op := Op.pick (Operand.tmp 69) (Operand.tmp 72) (Operand.const (Value.bool false)), type := 4, pos := "law.go:86", after := #[{ on := 15, ground := Ground.data }, { on := 18, ground := Ground.data }, { on := 11, ground := Ground.guard }], guard := some (11, true) }) (v := ?_) rfl (by kernel_rfl) (by kernel_rfl) (by kernel_rfl) (fun _ _ _ h => h) (Or.inl ⟨by rfl, ?_⟩) hS ?_
          rotate_left
          · intro w hSw; (try dsimp only at hSw); go_simp; try with_reducible rfl
          try simp only [Act.put, List.setIfInBounds_toArray, List.set_cons_zero, List.set_cons_succ]
          refine wpAnyH_take (i := 20) (oi := { dst := some 74, op := Op.move (Operand.tmp 7), type := 47, pos := "law.go:86", after := #[{ on := 11, ground := Ground.guard }], guard := some (11, true) }) (v := ?_) rfl (by kernel_rfl) (by kernel_rfl) (by kernel_rfl) (fun _ _ _ h => h) (Or.inl ⟨by rfl, ?_⟩) hS ?_
          rotate_left
          · intro w hSw; (try dsimp only at hSw); go_simp; try with_reducible rfl
          try simp only [Act.put, List.setIfInBounds_toArray, List.set_cons_zero, List.set_cons_succ]
          refine wpAnyH_take (i := 21) (oi := { dst := some 75, op := Op.move (Operand.tmp 8), type := 3, pos := "law.go:86", after := #[{ on := 11, ground := Ground.guard }], guard := some (11, true) }) (v := ?_) rfl (by kernel_rfl) (by kernel_rfl) (by kernel_rfl) (fun _ _ _ h => h) (Or.inl ⟨by rfl, ?_⟩) hS ?_
          rotate_left
          · intro w hSw; (try dsimp only at hSw); go_simp; try with_reducible rfl
          try simp only [Act.put, List.setIfInBounds_toArray, List.set_cons_zero, List.set_cons_succ]
          refine wpAnyH_take (i := 22) (oi := { dst := some 76, op := Op.indexAddr 47 (Operand.tmp 74) (Operand.tmp 75), type := 0, pos := "law.go:86", after := #[{ on := 20, ground := Ground.data }, { on := 21, ground := Ground.data }, { on := 11, ground := Ground.guard }], guard := some (11, true) }) (v := ?_) rfl (by kernel_rfl) (by kernel_rfl) (by kernel_rfl) (fun _ _ _ h => h) (Or.inl ⟨by rfl, ?_⟩) hS ?_
          rotate_left
          · intro w hSw; (try dsimp only at hSw); go_simp; try with_reducible rfl
          try simp only [Act.put, List.setIfInBounds_toArray, List.set_cons_zero, List.set_cons_succ]
          refine wpAnyH_take (i := 23) (oi := { dst := some 77, op := Op.load 4 (Operand.tmp 76), type := 4, pos := "law.go:86", after := #[{ on := 22, ground := Ground.data }, { on := 11, ground := Ground.guard }], guard := some (11, true) }) (v := ?_) rfl (by kernel_rfl) (by kernel_rfl) (by kernel_rfl) (fun _ _ _ h => h) (Or.inl ⟨by rfl, ?_⟩) hS ?_
          rotate_left
          · intro w hSw; (try dsimp only at hSw); go_simp; try with_reducible rfl
          try simp only [Act.put, List.setIfInBounds_toArray, List.set_cons_zero, List.set_cons_succ]
          refine wpAnyH_take (i := 24) (oi := { dst := some 78, op := Op.binOp BinOp.neq 4 (Operand.tmp 73) (Operand.tmp 77) 4, type := 4, pos := "law.go:86", after := #[{ on := 19, ground := Ground.data }, { on := 23, ground := Ground.data }, { on := 11, ground := Ground.guard }], guard := some (11, true) }) (v := .bool false) rfl (by kernel_rfl) (by kernel_rfl) (by kernel_rfl) (fun _ _ _ h => h) (Or.inl ⟨by rfl, fun w hSw => by (try dsimp only at hSw); first | (go_simp; done) | (go_simp; first | omega | simp [])⟩) hS ?_
          try simp only [Act.put, List.setIfInBounds_toArray, List.set_cons_zero, List.set_cons_succ]
          refine wpAnyH_take (i := 25) (oi := { dst := some 79, op := Op.pick (Operand.tmp 65) (Operand.tmp 78) (Operand.const (Value.bool false)), type := 4, pos := "law.go:86", after := #[{ on := 11, ground := Ground.data }, { on := 24, ground := Ground.data }, { on := 8, ground := Ground.guard }], guard := some (8, false) }) (v := ?_) rfl (by kernel_rfl) (by kernel_rfl) (by kernel_rfl) (fun _ _ _ h => h) (Or.inl ⟨by rfl, ?_⟩) hS ?_
          rotate_left
          · intro w hSw; (try dsimp only at hSw); go_simp; try with_reducible rfl
          try simp only [Act.put, List.setIfInBounds_toArray, List.set_cons_zero, List.set_cons_succ]
          refine wpAnyH_take (i := 26) (oi := { dst := some 80, op := Op.pick (Operand.tmp 62) (Operand.const (Value.bool true)) (Operand.tmp 79), type := 4, pos := "law.go:86", after := #[{ on := 8, ground := Ground.data }, { on := 25, ground := Ground.data }], guard := none }) (v := ?_) rfl (by kernel_rfl) (by kernel_rfl) (by kernel_rfl) (fun _ _ _ h => h) (Or.inl ⟨by rfl, ?_⟩) hS ?_
          rotate_left
          · intro w hSw; (try dsimp only at hSw); go_simp; try with_reducible rfl
          try simp only [Act.put, List.setIfInBounds_toArray, List.set_cons_zero, List.set_cons_succ]
          refine wpAnyH_done (by kernel_rfl) ?_ _
          go_wp2_with fail
          go_roundg (gk - 1)
          case measure => go_light; omega
          case rel =>
            go_light
            exact ⟨k + 1, by omega, by go_num, Lib.hid (HY.out.trans (hB5.mono HY.out.size))⟩
end Go.Proofs.Ytjifgipkfkhnpaa

