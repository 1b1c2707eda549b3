/- gristref13.Decode. (printed by gen_rtdec.py) -/
import Derived.Test.YtmhmmnleijadnaaTombInj
import Derived.Test.YtmhmmnleijadnaaOurs13
import Derived.Test.YtmhmmnleijadnaaReadAt
import Derived.Test.YtmhmmnleijadnaaTakes
import Derived.Test.YtmhmmnleijadnaaTDec13
namespace Go.Proofs.Ytmhmmnleijadnaa
open Go.RowKit Go.ChangeShapes Go.WideShapes Go.ChangeAt
set_option linter.unusedVariables false

theorem readAtB_any (bs : List UInt8) (at0 n : Nat) (a m : Int) (ha : a = (at0 : Int)) (hm : m = (n : Int)) (hn : n ≤ 8) (hat : at0 + n ≤ bs.length) (hl : bs.length ≤ 140737488355328) (v : Value) (w : World) (hr : Rd w v bs) :
    Calls Try.prog 34 #[v, .int .i64 a, .int .i64 m] w fun e w' => e = .returned (.int .u64 ((rdN n (bs.drop at0) : Nat) : Int)) ∧ Below w.heap.size w w' := by
  subst ha
  subst hm
  refine (readAt_any bs at0 n hn hat hl v w hr).mono ?_
  rintro e w' ⟨rfl, m, rfl⟩
  exact ⟨rfl, rfl, rfl, rfl, Nat.le_refl _, fun _ _ => rfl⟩

def TAi (w : World) (B : Nat) (r : List UInt8) (i : Nat) : Prop :=
  w.cell? ⟨B, 0, none⟩ = some (.string (nI r i 0)) ∧ w.cell? ⟨B, 1, none⟩ = some (.string (nI r i 1)) ∧ (∀ j, j < 2 → w.frozen? ⟨B, j, none⟩ = false)
theorem TAi.start (w : World) (r : List UInt8) : TAi (w.alloc (.cells #[.string ⟨#[]⟩, .string ⟨#[]⟩] 68)) w.heap.size r 0 :=
  ⟨by simp [World.cell?_alloc_new, nI], by simp [World.cell?_alloc_new, nI], fun j hj => by simp [go_sem]⟩
theorem TAi.below {w w' : World} {B : Nat} {r : List UInt8} {i : Nat} (h : TAi w B r i) (hl : B < w.heap.size) (hb : Below w.heap.size w w') : TAi w' B r i :=
  ⟨(hb.cell (p := ⟨B, 0, none⟩) hl).trans h.1, (hb.cell (p := ⟨B, 1, none⟩) hl).trans h.2.1, fun j hj => (hb.frozen (p := ⟨B, j, none⟩) hl).trans (h.2.2 j hj)⟩
theorem TAi.at {w : World} {B : Nat} {r : List UInt8} {i : Nat} (h : TAi w B r i) (hi : i < 2) : (∃ u, w.cell? ⟨B, i, none⟩ = some (.string u)) ∧ w.frozen? ⟨B, i, none⟩ = false := by
  rcases (show i = 0 ∨ i = 1 by omega) with rfl | rfl
  · exact ⟨⟨_, h.1⟩, h.2.2 0 (by omega)⟩
  · exact ⟨⟨_, h.2.1⟩, h.2.2 1 (by omega)⟩
theorem TAi.step {w : World} {B : Nat} {r : List UInt8} {i : Nat} (h : TAi w B r i) (hi : i < 2) : TAi (w.setCell ⟨B, i, none⟩ (.string (nameS (rI r i)))) B r (i + 1) := by
  obtain ⟨h0, h1, hf⟩ := h
  rcases (show i = 0 ∨ i = 1 by omega) with rfl | rfl
  · refine ⟨?_, ?_, fun j hj => ?_⟩
    · simp [go_sem, h0, nI]
    · simp [go_sem, h1, nI]
    · simp [go_sem, hf j hj]
  · refine ⟨?_, ?_, fun j hj => ?_⟩
    · simp [go_sem, h0, nI]
    · simp [go_sem, h1, nI]
    · simp [go_sem, hf j hj]
def TA (B : Nat) (s f : ByteArray) (w : World) : Prop := w.cell? ⟨B, 0, none⟩ = some (.string s) ∧ w.cell? ⟨B, 1, none⟩ = some (.string f)
theorem TA.below {B : Nat} {s f : ByteArray} {w w' : World} (h : TA B s f w) (hl : B < w.heap.size) (hb : Below w.heap.size w w') : TA B s f w' :=
  ⟨(hb.cell (p := ⟨B, 0, none⟩) hl).trans h.1, (hb.cell (p := ⟨B, 1, none⟩) hl).trans h.2⟩

set_option maxHeartbeats 4000000 in
set_option maxRecDepth 100000 in
theorem rtdecode_any (bs : List UInt8) (v : Value) (w : World) (hl : bs.length ≤ 100000000) (hr : Rd w v bs) :
    Calls Try.prog 19 #[v] w fun e w' => TdEnd bs w e w' := by
  obtain ⟨ao0, cap0, rfl, hnc, hcm⟩ := RdV.shape hr
  unfold maxLen at hcm
  have HR := Lib.hid hr
  clear hr
  go_enter Try.func19, Try.ntmps19
  go_wp2_with fail
  go_loopg [4, 5] bs.length (fun m s4 s5 wr => ∃ (A : Nat) (l : List Tm) (ao : Option Addr) (cap : Nat), A + m = bs.length ∧ s5 = .int .i64 (A : Int) ∧ s4 = .slice ao l.length cap ∧ Hid (TdSo bs l (bs.drop A)) ∧ Hid (wr.ownsRow w.heap.size 32 4 (.slice ao l.length cap) l.length (l.flatMap Tm.cells)) ∧ Hid (Below w.heap.size w wr))
  case atStart => exact ⟨0, [], none, 0, by omega, rfl, rfl, Lib.hid (TdSo.start bs), Lib.hid (World.ownsRow_nil _ _ _ _), Lib.hid (Below.refl _ _)⟩
  case round =>
    obtain ⟨A, l, ao, cap, hm, rfl, rfl, HS, HO, HB⟩ := hrel
    have hAle : A ≤ bs.length := by omega
    have HLL : Hid (20 * l.length ≤ bs.length) := Lib.hid (by
      have h1 := congrArg List.length HS.out.1
      have h2 := encTs_len_le l
      rw [List.length_append] at h1
      omega)
    have HM := Lib.hid hm
    by_cases h0 : gk = 0
    · have hA : ¬ (A : Int) < (bs.length : Int) := by omega
      have HG : Hid (TdGood bs l) := Lib.hid (by
        have h1 := HS.out
        rw [show A = bs.length by omega, List.drop_length] at h1
        exact h1.done)
      clear hm h0
      go_wp2_with fail
      go_ret2
      exact ⟨HB.out, .inr ⟨l, ao, cap, HG.out, by go_light; rfl, RdV.ofOwns HO.out⟩⟩
    · have hA : (A : Int) < (bs.length : Int) := by omega
      have HNE : Hid (bs.drop A ≠ []) := Lib.hid (fun e => by have := congrArg List.length e; simp at this; omega)
      have HTB := Lib.hid (TAi.start wr (bs.drop A))
      have HB1 := Lib.hid (HB.out.alloc HB.out.size (.cells #[.string ⟨#[]⟩, .string ⟨#[]⟩] 68))
      have HO1 := Lib.hid (HO.out.alloc (.cells #[.string ⟨#[]⟩, .string ⟨#[]⟩] 68))
      have HKb : Hid (∀ j, (Value.slice ao l.length cap).ownBlock = some j → j ≠ wr.heap.size) := Lib.hid (fun j hj e => by have := (World.ownsRow.lt HO.out j hj).2; omega)
      have HBl : Hid (wr.heap.size < (wr.alloc (.cells #[.string ⟨#[]⟩, .string ⟨#[]⟩] 68)).heap.size) := Lib.hid (by simp)
      have HBw := Lib.hid HB.out.size
      clear hm h0
      go_wp2_with fail
      generalize wr.alloc (.cells #[.string ⟨#[]⟩, .string ⟨#[]⟩] 68) = wt at *
      clear HB HO
      generalize wr.heap.size = B at *
      obtain ⟨g0, hg0⟩ : ∃ g, g = gk := ⟨gk, rfl⟩
      subst hg0
      obtain ⟨r, hr⟩ : ∃ r, r = bs.drop A := ⟨_, rfl⟩
      rw [← hr] at HNE HTB HS
      have HRR := Lib.hid hr
      clear hr
      go_loopg [5, 13] 2 (fun m s5 s13 wx => ∃ (i C : Nat), i + m = 2 ∧ s13 = .int .i64 (i : Int) ∧ s5 = .int .i64 (C : Int) ∧ C ≤ bs.length ∧ A ≤ C ∧ Hid (0 < i → A < C) ∧ Hid (bs.drop C = rI r i) ∧ Hid (∀ j, j < i → nameOk (rI r j)) ∧ Hid (TAi wx B r i) ∧ Hid (wx.ownsRow w.heap.size 32 4 (.slice ao l.length cap) l.length (l.flatMap Tm.cells)) ∧ Hid (Below w.heap.size w wx) ∧ Hid (B < wx.heap.size))
      case atStart => exact ⟨0, A, by omega, rfl, rfl, hAle, by omega, Lib.hid (fun h => by omega), Lib.hid HRR.out.symm, Lib.hid (fun j hj => by omega), HTB, HO1, HB1, HBl⟩
      case round =>
        clear HTB HO1 HB1 HBl
        obtain ⟨i, C, hi, rfl, rfl, hC, hAC, HAC, HQ, HN, HTB, HO, HB, HBl⟩ := hrel
        by_cases h1 : gk = 0
        · obtain rfl : i = 2 := by omega
          clear hi
          have HN0 : Hid (nameOk r) := Lib.hid (HN.out 0 (by omega))
          have HN1 : Hid (nameOk (nameR r)) := Lib.hid (HN.out 1 (by omega))
          have HQL : Hid ((bs.drop C).length = bs.length - C) := Lib.hid (by simp)
          by_cases h16 : bs.length < C + 16
          · have HBAD := Lib.hid (HS.out.bad2 HN0.out HN1.out (by have := HQ.out; have h3 := HQL.out; rw [this] at h3; show (rI r 2).length < 16; omega))
            have h16I : (bs.length : Int) < (C : Int) + 16 := by omega
            clear h16
            go_wp2_with fail
            go_ret2
            exact ⟨HB.out, .inl ⟨HBAD.out, by go_light; rfl⟩⟩
          · have h16I : ¬ (bs.length : Int) < (C : Int) + 16 := by omega
            have hi1 := i64_wrap (rdN 8 (bs.drop C) : Int)
            have hi2 := i64_wrap (rdN 8 (bs.drop (C + 8)) : Int)
            have HOK : Hid (i64ok (sI (rdN 8 (bs.drop C) : Int)) ∧ i64ok (sI (rdN 8 (bs.drop (C + 8)) : Int))) := Lib.hid ⟨sI_ok _, sI_ok _⟩
            have HT : Hid (TdSo bs (l ++ [⟨nameS r, nameS (nameR r), sI (rdN 8 (bs.drop C) : Int), sI (rdN 8 (bs.drop (C + 8)) : Int)⟩]) (bs.drop (C + 16))) := Lib.hid (by
              have hq : bs.drop C = nameR (nameR r) := HQ.out
              have h8 : bs.drop (C + 8) = (nameR (nameR r)).drop 8 := by rw [← hq, List.drop_drop]
              have h16 : bs.drop (C + 16) = (nameR (nameR r)).drop 16 := by rw [← hq, List.drop_drop]
              have hl := HQL.out
              rw [hq] at hl
              have ho := HOK.out
              rw [hq, h8] at ho
              rw [hq, h8, h16]
              exact HS.out.next (tomb_eq HN0.out HN1.out (by omega)) (tomb_fit HN0.out HN1.out _ _) ho)
            obtain ⟨ns, hns⟩ : ∃ ns, ns = nameS r := ⟨_, rfl⟩
            obtain ⟨nf, hnf⟩ : ∃ nf, nf = nameS (nameR r) := ⟨_, rfl⟩
            rw [← hns, ← hnf] at HT
            have hS0 : TA B ns nf wr := ⟨by rw [HTB.out.1, hns]; simp [nI, rI], by rw [HTB.out.2.1, hnf]; simp [nI, rI]⟩
            have HBS := Lib.hid HBl.out
            have hRA1 := fun w => readAtB_any bs C 8 (C : Int) 8 rfl rfl (by omega) (by omega) (by omega) (.slice ao0 bs.length cap0) w
            have hRA2 := fun w => readAtB_any bs (C + 8) 8 ((C : Int) + 8) 8 (by omega) rfl (by omega) (by omega) (by omega) (.slice ao0 bs.length cap0) w
            have HLt : Hid (bs.length - (C + 16) < g0) := Lib.hid (by have h1 := HM.out; omega)
            have HLe : Hid (C + 16 ≤ bs.length) := Lib.hid (by omega)
            have hww : IntKind.i64.wrap ((C : Int) + 8) = (C : Int) + 8 := IntWalk.i64_in _ (by omega)
            have hww2 : IntKind.i64.wrap ((C : Int) + 16) = (C : Int) + 16 := IntWalk.i64_in _ (by omega)
            clear h16 hns hnf HS HN HNE HAC HQ HQL HOK HN0 HN1 HRR HTB
            generalize sI (rdN 8 (bs.drop C) : Int) = ta at *
            generalize sI (rdN 8 (bs.drop (C + 8)) : Int) = tb at *
            generalize rdN 8 (bs.drop C) = V1 at *
            generalize rdN 8 (bs.drop (C + 8)) = V2 at *
            go_upto_region 18 with fail
            have hS := hS0.below HBl.out (Below.refl _ _).drew
            have hlt := Nat.lt_of_lt_of_le HBl.out (Below.refl wr.heap.size wr).drew.size
            have hB := HB.out.drew
            have KC : RdV wr.drew 1 (.slice ao0 bs.length cap0) bs.length (bs.map bV) := RdV.below HR.out.v hB
            have HOd : Hid (wr.drew.ownsRow w.heap.size 32 4 (.slice ao l.length cap) l.length (l.flatMap Tm.cells)) := Lib.hid ((Chg.ofBelowAny (S := fun _ => False) (Below.refl wr.heap.size wr).drew).owns HO.out (fun _ _ h => h))
            have hnk : ∀ k, (Value.slice ao l.length cap).ownBlock = some k → k ≠ B := HKb.out
            clear hS0 HBS HB HO HBl HR
            refine wp_region_held_drew (S := fun w' => w'.cell? ⟨B, 0, none⟩ = some (.string ns) ∧ w'.cell? ⟨B, 1, none⟩ = some (.string nf)) (by kernel_rfl) hS (fun hh => ?_)
            clear hh
            generalize wr.drew = x0 at *
            refine wpAnyH_take (i := 0) (oi := { dst := some 57, op := Op.move (Operand.tmp 4), type := 22, pos := "ref.go:44", after := #[], guard := none }) (v := ?_) rfl (by kernel_rfl) (by kernel_rfl) (by kernel_rfl) (fun _ _ _ h => h) (Or.inl ⟨by rfl, ?_⟩) hS ?_
            rotate_left
            · intro w hSw; (try dsimp only at hSw); go_simp; try with_reducible rfl
            try simp only [Act.put, List.setIfInBounds_toArray, List.set_cons_zero, List.set_cons_succ]
            refine wpAnyH_take (i := 1) (oi := { dst := some 58, op := Op.indexAddr 68 (Operand.tmp 6) (Operand.const (Value.int IntKind.i64 0)), type := 0, pos := "ref.go:44", after := #[], guard := none }) (v := ?_) rfl (by kernel_rfl) (by kernel_rfl) (by kernel_rfl) (fun _ _ _ h => h) (Or.inl ⟨by rfl, ?_⟩) hS ?_
            rotate_left
            · intro w hSw; (try dsimp only at hSw); go_simp; try with_reducible rfl
            try simp only [Act.put, List.setIfInBounds_toArray, List.set_cons_zero, List.set_cons_succ]
            refine wpAnyH_take (i := 2) (oi := { dst := some 59, op := Op.load 9 (Operand.tmp 58), type := 9, pos := "ref.go:44", after := #[{ on := 1, ground := Ground.data }], guard := none }) (v := ?_) rfl (by kernel_rfl) (by kernel_rfl) (by kernel_rfl) (fun _ _ _ h => h) (Or.inl ⟨by rfl, ?_⟩) hS ?_
            rotate_left
            · intro w hSw; (try dsimp only at hSw); go_simp; try with_reducible rfl
            try simp only [Act.put, List.setIfInBounds_toArray, List.set_cons_zero, List.set_cons_succ]
            refine wpAnyH_take (i := 3) (oi := { dst := some 60, op := Op.indexAddr 68 (Operand.tmp 6) (Operand.const (Value.int IntKind.i64 1)), type := 0, pos := "ref.go:44", after := #[], guard := none }) (v := ?_) rfl (by kernel_rfl) (by kernel_rfl) (by kernel_rfl) (fun _ _ _ h => h) (Or.inl ⟨by rfl, ?_⟩) hS ?_
            rotate_left
            · intro w hSw; (try dsimp only at hSw); go_simp; try with_reducible rfl
            try simp only [Act.put, List.setIfInBounds_toArray, List.set_cons_zero, List.set_cons_succ]
            refine wpAnyH_take (i := 4) (oi := { dst := some 61, op := Op.load 9 (Operand.tmp 60), type := 9, pos := "ref.go:44", after := #[{ on := 3, ground := Ground.data }], guard := none }) (v := ?_) rfl (by kernel_rfl) (by kernel_rfl) (by kernel_rfl) (fun _ _ _ h => h) (Or.inl ⟨by rfl, ?_⟩) hS ?_
            rotate_left
            · intro w hSw; (try dsimp only at hSw); go_simp; try with_reducible rfl
            try simp only [Act.put, List.setIfInBounds_toArray, List.set_cons_zero, List.set_cons_succ]
            refine wpAnyH_take (i := 5) (oi := { dst := some 62, op := Op.move (Operand.tmp 0), type := 47, pos := "ref.go:44", after := #[], guard := none }) (v := ?_) rfl (by kernel_rfl) (by kernel_rfl) (by kernel_rfl) (fun _ _ _ h => h) (Or.inl ⟨by rfl, ?_⟩) hS ?_
            rotate_left
            · intro w hSw; (try dsimp only at hSw); go_simp; try with_reducible rfl
            try simp only [Act.put, List.setIfInBounds_toArray, List.set_cons_zero, List.set_cons_succ]
            refine wpAnyH_take (i := 6) (oi := { dst := some 63, op := Op.move (Operand.tmp 5), type := 3, pos := "ref.go:44", after := #[], guard := none }) (v := ?_) rfl (by kernel_rfl) (by kernel_rfl) (by kernel_rfl) (fun _ _ _ h => h) (Or.inl ⟨by rfl, ?_⟩) hS ?_
            rotate_left
            · intro w hSw; (try dsimp only at hSw); go_simp; try with_reducible rfl
            try simp only [Act.put, List.setIfInBounds_toArray, List.set_cons_zero, List.set_cons_succ]
            refine wpAnyH_take (i := 9) (oi := { dst := some 66, op := Op.move (Operand.tmp 0), type := 47, pos := "ref.go:44", after := #[], guard := none }) (v := ?_) rfl (by kernel_rfl) (by kernel_rfl) (by kernel_rfl) (fun _ _ _ h => h) (Or.inl ⟨by rfl, ?_⟩) hS ?_
            rotate_left
            · intro w hSw; (try dsimp only at hSw); go_simp; try with_reducible rfl
            try simp only [Act.put, List.setIfInBounds_toArray, List.set_cons_zero, List.set_cons_succ]
            refine wpAnyH_take (i := 10) (oi := { dst := some 67, op := Op.move (Operand.tmp 5), type := 3, pos := "ref.go:44", after := #[], guard := none }) (v := ?_) rfl (by kernel_rfl) (by kernel_rfl) (by kernel_rfl) (fun _ _ _ h => h) (Or.inl ⟨by rfl, ?_⟩) hS ?_
            rotate_left
            · intro w hSw; (try dsimp only at hSw); go_simp; try with_reducible rfl
            try simp only [Act.put, List.setIfInBounds_toArray, List.set_cons_zero, List.set_cons_succ]
            refine wpAnyH_take (i := 11) (oi := { dst := some 68, op := Op.binOp BinOp.add 3 (Operand.tmp 67) (Operand.const (Value.int IntKind.i64 8)) 3, type := 3, pos := "ref.go:44", after := #[{ on := 10, ground := Ground.data }], guard := none }) (v := ?_) rfl (by kernel_rfl) (by kernel_rfl) (by kernel_rfl) (fun _ _ _ h => h) (Or.inl ⟨by rfl, ?_⟩) hS ?_
            rotate_left
            · intro w hSw; (try dsimp only at hSw); go_simp; try with_reducible rfl
            try simp only [Act.put, List.setIfInBounds_toArray, List.set_cons_zero, List.set_cons_succ]
            refine wpAnyH_ready (rs := [7]) (by kernel_rfl) (by simp) (AllReadyH.cons (o := { dst := some 64, op := Op.call { callee := Callee.value (Operand.func 34), args := #[Operand.tmp 62, Operand.tmp 63, Operand.const (Value.int IntKind.i64 8)], argTypes := #[47, 3, 3] }, type := 34, pos := "ref.go:44", after := #[{ on := 5, ground := Ground.data }, { on := 6, ground := Ground.data }], guard := none }) rfl (fun K hK => ?_) AllReadyH.nil)
            go_simp
            go_at_call 34
            refine (hRA1 _ KC).mono ?_
            rintro _ x1 ⟨rfl, hb⟩
            replace hS := TA.below hS hlt hb
            replace KC := RdV.below KC hb
            replace HOd := Lib.hid ((Chg.ofBelowAny (S := fun _ => False) hb).owns HOd.out (fun _ _ h => h))
            replace hlt := Nat.lt_of_lt_of_le hlt hb.size
            replace hB := hB.trans (hb.mono hB.size)
            clear hb
            dsimp only
            refine hK.out _ _ hS (fun hh => ?_)
            clear hK K hh
            try simp only [Act.put, List.setIfInBounds_toArray, List.set_cons_zero, List.set_cons_succ]
            refine wpAnyH_take (i := 8) (oi := { dst := some 65, op := Op.convert 34 2 (Operand.tmp 64), type := 2, pos := "ref.go:44", after := #[{ on := 7, ground := Ground.data }], guard := none }) (v := ?_) rfl (by kernel_rfl) (by kernel_rfl) (by kernel_rfl) (fun _ _ _ h => h) (Or.inl ⟨by rfl, ?_⟩) hS ?_
            rotate_left
            · intro w hSw; (try dsimp only at hSw); go_simp; try with_reducible rfl
            try simp only [Act.put, List.setIfInBounds_toArray, List.set_cons_zero, List.set_cons_succ]
            refine wpAnyH_ready (rs := [12]) (by kernel_rfl) (by simp) (AllReadyH.cons (o := { dst := some 69, op := Op.call { callee := Callee.value (Operand.func 34), args := #[Operand.tmp 66, Operand.tmp 68, Operand.const (Value.int IntKind.i64 8)], argTypes := #[47, 3, 3] }, type := 34, pos := "ref.go:44", after := #[{ on := 9, ground := Ground.data }, { on := 11, ground := Ground.data }, { on := 7, ground := Ground.chain }], guard := none }) rfl (fun K hK => ?_) AllReadyH.nil)
            go_simp
            go_at_call 34
            refine (hRA2 _ KC).mono ?_
            rintro _ x2 ⟨rfl, hb⟩
            replace hS := TA.below hS hlt hb
            replace KC := RdV.below KC hb
            replace HOd := Lib.hid ((Chg.ofBelowAny (S := fun _ => False) hb).owns HOd.out (fun _ _ h => h))
            replace hlt := Nat.lt_of_lt_of_le hlt hb.size
            replace hB := hB.trans (hb.mono hB.size)
            clear hb
            dsimp only
            refine hK.out _ _ hS (fun hh => ?_)
            clear hK K hh
            try simp only [Act.put, List.setIfInBounds_toArray, List.set_cons_zero, List.set_cons_succ]
            refine wpAnyH_take (i := 13) (oi := { dst := some 70, op := Op.convert 34 2 (Operand.tmp 69), type := 2, pos := "ref.go:44", after := #[{ on := 12, ground := Ground.data }], guard := none }) (v := ?_) rfl (by kernel_rfl) (by kernel_rfl) (by kernel_rfl) (fun _ _ _ h => h) (Or.inl ⟨by rfl, ?_⟩) hS ?_
            rotate_left
            · intro w hSw; (try dsimp only at hSw); go_simp; try with_reducible rfl
            try simp only [Act.put, List.setIfInBounds_toArray, List.set_cons_zero, List.set_cons_succ]
            refine wpAnyH_take (i := 14) (oi := { dst := some 71, op := Op.build 32 #[(0, Operand.tmp 59), (1, Operand.tmp 61), (2, Operand.tmp 65), (3, Operand.tmp 70)], type := 32, pos := "ref.go:44", after := #[{ on := 2, ground := Ground.data }, { on := 4, ground := Ground.data }, { on := 8, ground := Ground.data }, { on := 13, ground := Ground.data }], guard := none }) (v := ?_) rfl (by kernel_rfl) (by kernel_rfl) (by kernel_rfl) (fun _ _ _ h => h) (Or.inl ⟨by rfl, ?_⟩) hS ?_
            rotate_left
            · intro w hSw; (try dsimp only at hSw); go_simp; try with_reducible rfl
            try simp only [Act.put, List.setIfInBounds_toArray, List.set_cons_zero, List.set_cons_succ]
            refine wpAnyH_ready (rs := [15]) (by kernel_rfl) (by simp) (AllReadyH.cons (o := { dst := some 72, op := Op.buildSlice 22 1 #[(0, Operand.tmp 71)], type := 22, pos := "ref.go:44", after := #[{ on := 14, ground := Ground.data }], guard := none }) rfl (fun K hK => ?_) AllReadyH.nil)
            go_simp
            refine hK.out _ _ (TA.below hS hlt ((Below.refl _ _).alloc (Nat.le_refl _) _)) (fun hh => ?_)
            replace hS := hh
            clear hK K hh
            try simp only [Act.put, List.setIfInBounds_toArray, List.set_cons_zero, List.set_cons_succ]
            refine wpAnyH_ready (rs := [16]) (by kernel_rfl) (by simp) (AllReadyH.cons (o := { dst := some 73, op := Op.call { callee := Callee.builtin Builtin.append, args := #[Operand.tmp 57, Operand.tmp 72], argTypes := #[22, 22] }, type := 22, pos := "ref.go:44", after := #[{ on := 0, ground := Ground.data }, { on := 15, ground := Ground.data }, { on := 12, ground := Ground.chain }], guard := none }) rfl (fun K hK => ?_) AllReadyH.nil)
            refine step_append_rd (x2.alloc (.cells #[.string ns, .string nf, .int .i64 ta, .int .i64 tb] 32)) rfl (.tmp 57) (.tmp 72) 22 rfl w.heap.size 32 (.agg #[.string .empty, .string .empty, .int .i64 0, .int .i64 0]) 4 48 Try.underlying22 infoTombR rfl (by decide) (.slice ao l.length cap) l.length (l.flatMap Tm.cells) rfl (HOd.out.alloc _) (.slice (some ⟨x2.heap.size, 0, none⟩) 1 1) 1 [.string ns, .string nf, .int .i64 ta, .int .i64 tb] rfl (RdV.lit _ _ _ 1 4 (by decide) rfl) (tm_one _ _ _ _) (by have := HLL.out; unfold maxLen; omega) (by have := HLL.out; omega) (by have := hB.size; simp only [World.size_alloc]; omega) ?_
            intro ao6 cap6 w8 hg6
            have HG := Lib.hid hg6.ofAlloc
            have hS8 : TA B ns nf w8 := by
              have hn : ¬ (Value.slice ao l.length cap).ownBlock = some B := fun e => hnk B e rfl
              have hc := hg6.chg
              have hlt2 : B < (x2.alloc (.cells #[.string ns, .string nf, .int .i64 ta, .int .i64 tb] 32)).heap.size := by simp only [World.size_alloc]; omega
              exact ⟨(hc.cell (p := ⟨B, 0, none⟩) hlt2 hn).trans hS.1, (hc.cell (p := ⟨B, 1, none⟩) hlt2 hn).trans hS.2⟩
            clear hg6
            refine hK.out _ _ hS8 (fun hh => ?_)
            replace hS := hS8
            clear hK K hh hS8
            try simp only [Act.put, List.setIfInBounds_toArray, List.set_cons_zero, List.set_cons_succ]
            refine wpAnyH_take (i := 17) (oi := { dst := some 4, op := Op.assign (Operand.tmp 73), type := 22, pos := "ref.go:44", after := #[{ on := 16, ground := Ground.data }, { on := 16, ground := Ground.chain }, { on := 0, ground := Ground.phase }, { on := 1, ground := Ground.phase }, { on := 2, ground := Ground.phase }, { on := 3, ground := Ground.phase }, { on := 4, ground := Ground.phase }, { on := 5, ground := Ground.phase }, { on := 6, ground := Ground.phase }, { on := 7, ground := Ground.phase }, { on := 8, ground := Ground.phase }, { on := 9, ground := Ground.phase }, { on := 10, ground := Ground.phase }, { on := 11, ground := Ground.phase }, { on := 12, ground := Ground.phase }, { on := 13, ground := Ground.phase }, { on := 14, ground := Ground.phase }, { on := 15, ground := Ground.phase }, { on := 16, ground := Ground.phase }], guard := none }) (v := ?_) rfl (by kernel_rfl) (by kernel_rfl) (by kernel_rfl) (fun _ _ _ h => h) (Or.inl ⟨by rfl, ?_⟩) hS ?_
            rotate_left
            · intro w hSw; (try dsimp only at hSw); go_simp; try with_reducible rfl
            try simp only [Act.put, List.setIfInBounds_toArray, List.set_cons_zero, List.set_cons_succ]
            refine wpAnyH_done (by kernel_rfl) ?_ _
            go_wp2_with fail
            go_roundg (bs.length - (C + 16))
            case measure => exact HLt.out
            case rel =>
              go_light
              have hle := HLe.out
              refine ⟨C + 16, l ++ [⟨ns, nf, ta, tb⟩], ao6, cap6, by omega, by first | rfl | (congr 1), by simp, HT, Lib.hid ?_, Lib.hid (hB.trans (HG.out.below hB.size (fun j hj => (World.ownsRow.lt HOd.out j hj).1)))⟩
              have := HG.out.owns
              rw [List.length_append, List.flatMap_append]
              exact this
        · have hi2 : i < 2 := by omega
          have hidx1 : (0 : Int) ≤ (i : Int) := by omega
          have hidx2 : (i : Int) < 2 := by omega
          obtain ⟨q, hq⟩ : ∃ q, q = bs.drop C := ⟨_, rfl⟩
          have HQL : Hid (q.length = bs.length - C) := Lib.hid (by rw [hq]; simp)
          have HQD := Lib.hid hq
          rw [← hq] at HQ
          clear hq
          have HBADN : Hid (¬ nameOk q → ∀ l', ¬ TdGood bs l') := Lib.hid (fun hnq => by
            have hq := HQ.out
            rcases (show i = 0 ∨ i = 1 by omega) with rfl | rfl
            · exact HS.out.bad0 HNE.out (by rw [hq] at hnq; exact hnq)
            · exact HS.out.bad1 (HN.out 0 (by omega)) (by rw [hq] at hnq; exact hnq))
          by_cases h2 : bs.length < C + 2
          · have h2I : (bs.length : Int) < (C : Int) + 2 := by omega
            have HBAD : Hid (∀ l', ¬ TdGood bs l') := Lib.hid (HBADN.out (fun h => by have h1 := h.1; have h3 := HQL.out; omega))
            clear h2
            go_wp2_with fail
            go_ret2
            exact ⟨HB.out, .inl ⟨HBAD.out, by go_light; rfl⟩⟩
          · have h2I : ¬ (bs.length : Int) < (C : Int) + 2 := by omega
            have HNL := Lib.hid (rdN_lt 2 q)
            have hRA := readAtB_any bs C 2 (C : Int) 2 rfl rfl (by omega) (by omega) (by omega) (.slice ao0 bs.length cap0) _ (RdV.below HR.out.v HB.out)
            rw [← HQD.out] at hRA
            have HNK : Hid (nameOk q ↔ 2 + rdN 2 q ≤ q.length ∧ rdN 2 q ≤ 4000) := Lib.hid Iff.rfl
            have HSN : Hid (nameS q = strOf ((q.drop 2).take (rdN 2 q)) ∧ nameR q = q.drop (2 + rdN 2 q)) := Lib.hid ⟨rfl, rfl⟩
            have hn16 : rdN 2 q < 65536 := HNL.out
            clear HNL h2
            generalize rdN 2 q = n at *
            go_wp2_with fail
            refine hRA.mono ?_
            rintro _ w5 ⟨rfl, hb5⟩
            have HB5 := Lib.hid (HB.out.trans (hb5.mono HB.out.size))
            have HTB5 := Lib.hid (HTB.out.below HBl.out hb5)
            have HO5 := Lib.hid ((Chg.ofBelowAny (S := fun _ => False) hb5).owns HO.out (fun _ _ h => h))
            have HBl5 := Lib.hid (Nat.lt_of_lt_of_le HBl.out hb5.size)
            clear hb5 hRA
            by_cases hno : nameOk q
            · obtain ⟨hn1, hn2⟩ := HNK.out.1 hno
              have hql := HQL.out
              have hn1b : C + 2 + n ≤ bs.length := by omega
              have hn1I : ¬ (bs.length : Int) < (C : Int) + 2 + (n : Int) := by omega
              have hn2I : ¬ (4000 : Int) < (n : Int) := by omega
              obtain ⟨⟨u0, c0⟩, f0⟩ := HTB5.out.at hi2
              have hb1 : ∀ w, (Instr.sliceBounds true bs.length cap0 (some (.int .i64 ((C : Int) + 2))) (some (.int .i64 ((C : Int) + 2 + (n : Int)))) none).run Try.prog w = .ok (C + 2, C + 2 + n, cap0) w := fun w => by
                have h7 := bounds_both (P := Try.prog) (w := w) bs.length cap0 .i64 .i64 (C + 2) (C + 2 + n) (by omega) (by omega)
                simpa using h7
              have hRw : Rd w5 (.slice ao0 bs.length cap0) bs := RdV.below HR.out.v HB5.out
              have HSTEP : Hid (TAi (w5.setCell ⟨B, i, none⟩ (.string (nameS q))) B r (i + 1)) := Lib.hid (by rw [HQ.out]; exact TAi.step HTB5.out hi2)
              have HCH : Hid (Chg (fun k => k = B) w5 (w5.setCell ⟨B, i, none⟩ (.string (nameS q)))) := Lib.hid ((Chg.refl (fun k => k = B) w5).setCell (p := ⟨B, i, none⟩) (fun _ => rfl) _)
              have HBN : Hid (Below w.heap.size w (w5.setCell ⟨B, i, none⟩ (.string (nameS q)))) := Lib.hid (HB5.out.setCell (p := ⟨B, i, none⟩) HBw.out _)
              have HON := Lib.hid (HCH.out.owns HO5.out (fun k hk e => HKb.out k hk e))
              have HBLN : Hid (B < (w5.setCell ⟨B, i, none⟩ (.string (nameS q))).heap.size) := Lib.hid (Nat.lt_of_lt_of_le HBl5.out HCH.out.size)
              have HQN : Hid (bs.drop (C + 2 + n) = rI r (i + 1)) := Lib.hid (by
                show _ = nameR (rI r i)
                rw [← HQ.out, HSN.out.2, HQD.out, List.drop_drop]
                congr 1
                omega)
              have HNO := Lib.hid hno
              have HNN : Hid (∀ j, j < i + 1 → nameOk (rI r j)) := Lib.hid (fun j hj => by
                by_cases e : j = i
                · subst e; rw [← HQ.out]; exact HNO.out
                · exact HN.out j (by omega))
              have HNS : Hid (strOf ((bs.drop (C + 2)).take n) = nameS q) := Lib.hid (by rw [HSN.out.1, HQD.out, List.drop_drop])
              have hlei : C + 2 + n ≤ bs.length := hn1b
              clear hno hn1 hql HTB5 HTB HN HQ HO5 HO HB5 HB HBl5 HBl HCH HBADN HNK HSN HNO HNE HQL HQD HAC
              go_wp2_with (with_reducible refine wpList_slice_rd _ rfl (.tmp 37) (some (.tmp 39)) (some (.tmp 43)) 47 rfl 5 1 (.int .u8 0) 1 Try.underlying47 infoU8 _ _ _ _ rfl hRw.v (C + 2) (C + 2 + n) ?hb (by omega) hlei ?hk)
              case hb => exact hb1 _
              case hk =>
              intro ao1 c1 hr1 _
              have hpl : ((bs.drop (C + 2)).take n).length = n := by simp; omega
              have hr2 : Rd w5 (.slice ao1 n c1) ((bs.drop (C + 2)).take n) := by
                unfold Rd
                rw [hpl, List.map_take, List.map_drop]
                exact hr1
              have hcv := run_str (P := Try.prog) hr2 47 5 9 Try.underlying47 Try.underlying5 Try.underlying9
              rw [HNS.out] at hcv
              clear hpl hr2 hr1 hRw hb1
              go_wp2_with fail
              go_roundg (gk - 1)
              case measure => go_light; omega
              case rel =>
                go_light
                exact ⟨i + 1, C + 2 + n, by omega, by go_num, by congr 1, hlei, by omega, Lib.hid (fun _ => by omega), HQN, HNN, HSTEP, HON, HBN, HBLN⟩
            · have HBAD := Lib.hid (HBADN.out hno)
              by_cases hn4 : 4000 < n
              · have hn2I : (4000 : Int) < (n : Int) := by omega
                clear hno HNK
                go_wp2_with fail
                go_ret2
                exact ⟨HB5.out, .inl ⟨HBAD.out, by go_light; rfl⟩⟩
              · have hn2I : ¬ (4000 : Int) < (n : Int) := by omega
                have hn1I : (bs.length : Int) < (C : Int) + 2 + (n : Int) := by
                  have h5 := HNK.out
                  have h6 := HQL.out
                  by_cases h4 : 2 + n ≤ q.length
                  · exact absurd (h5.2 ⟨h4, by omega⟩) hno
                  · omega
                clear hno hn4 HNK
                go_wp2_with fail
                go_ret2
                exact ⟨HB5.out, .inl ⟨HBAD.out, by go_light; rfl⟩⟩
end Go.Proofs.Ytmhmmnleijadnaa

