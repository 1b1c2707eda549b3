/- Texts of ours, behind one another: Enc08. No conditions but those that each states. -/
import Derived.Test.YthcgalpabjjkoaaDoorG1
import Derived.Test.YthcgalpabjjkoaaDoorG10
import Derived.Test.YthcgalpabjjkoaaDoorG5
import Derived.Test.YthcgalpabjjkoaaDoorG9
import Derived.Test.YthcgalpabjjkoaaDoorG2
import Derived.Test.YthcgalpabjjkoaaDoorG8
import Derived.OwnWalk
/- XEnc08: block.Encode. -/
namespace Go.Proofs.YthcgalpabjjkoaaDoor
open Go.RowKit
set_option linter.unusedVariables false

section
variable {P : Program}
/-- 'make([]T, n)' as one step of a region that draws its order. -/
theorem step_make (w : World) {ops : Array Oper} {o : Oper} {a : Act} {K : Act → World → Prop} {Q : Exit → Act → World → Prop} {E : Prop} (hgd : o.guard = none) (l c : Operand) (t : TypeId)
    (hop : o.op = .makeSlice t l c) (base : Nat) (e : TypeId) (i : TypeInfo) (z : Value) (size : Nat) (h1 : P.underlying t = some (.slice e)) (h2 : P.info? e = some i) (h3 : i.zero = some z) (h4 : i.size = size)
    (kl kc : IntKind) (n : Nat) (hl : a.eval l = .int kl (n : Int)) (hc : a.eval c = .int kc (n : Int)) (b2 : i.bytes * n ≤ 281474976710656) (b3 : n ≤ maxLen) (b4 : base ≤ w.heap.size)
    (hK : ∀ w', w'.ownsRow base e size (.slice (some ⟨w.heap.size, 0, none⟩) n n) n (madeCells z.cells (n * size)).toList → w.grownBy w' none → K (a.put o.dst (.slice (some ⟨w.heap.size, 0, none⟩) n n)) w') :
    if Region.wanted o (yielded ops a.tmps) = true then Oper.wp P o a w K Q else E := by
  have hw : Region.wanted o (yielded ops a.tmps) = true := by simp [Region.wanted, hgd]
  rw [if_pos hw]
  obtain ⟨w', hrun, r1, r2⟩ := run_make_full (P := P) w base t e i z size h1 h2 h3 h4 kl kc n b2 b3 b4
  unfold Oper.wp
  simp [execOp, hop, hl, hc, hrun, Result.andThen]
  exact hK w' r1 r2
end
theorem tms_zeros (n : Nat) : (madeCells (Value.int .i64 0).cells (n * 1)).toList = (List.replicate n (0 : Int)).map tV := by
  rw [Nat.mul_one, List.map_replicate]
  exact toList_madeCells_one _ _
theorem val_zeros (n : Nat) : (madeCells (Value.agg #[.int .i64 0, .int .u64 0, .string .empty]).cells (n * 3)).toList = (List.replicate n v0).flatMap Va.cells := by
  have hc : (Value.agg #[.int .i64 0, .int .u64 0, .string .empty]).cells = #[.int .i64 0, .int .u64 0, .string .empty] := rfl
  rw [hc]
  induction n with
  | zero => simp [madeCells]
  | succ n ih =>
    rw [List.replicate_succ', List.flatMap_append, ← ih]
    have e : (n + 1) * 3 = n * 3 + 1 + 1 + 1 := by omega
    have m0 : n * 3 % 3 = 0 := by omega
    have m1 : (n * 3 + 1) % 3 = 1 := by omega
    have m2 : (n * 3 + 1 + 1) % 3 = 2 := by omega
    rw [e]
    simp only [madeCells, Array.toList_map, Array.toList_range, List.range_succ, List.map_append, List.append_assoc]
    congr 1
    have s3 : (#[Value.int .i64 0, .int .u64 0, .string .empty] : Array Value).size = 3 := rfl
    have m3 : (n * 3 + 2) % 3 = 2 := by omega
    simp only [List.map_cons, List.map_nil, s3, m0, m1, m3]
    rfl
theorem take_set_next {α : Type} : ∀ (l : List α) (k : Nat) (x : α), k < l.length → (l.set k x).take (k + 1) = l.take k ++ [x]
  | [], _, _, h => by simp at h
  | _ :: _, 0, _, _ => by simp
  | y :: r, k + 1, x, h => by
    rw [List.set_cons_succ, List.take_succ_cons, List.take_succ_cons, List.cons_append, take_set_next r k x (by simpa using h)]
theorem set3_flat (u : Va) : ∀ (V : List Va) (k : Nat), k < V.length → (((V.flatMap Va.cells).set (k * 3) (.int .i64 u.k)).set (k * 3 + 1) (.int .u64 (u.b : Int))).set (k * 3 + 2) (.string u.t) = (V.set k u).flatMap Va.cells
  | [], _, h => by simp at h
  | v :: r, 0, _ => by simp [Va.cells]
  | v :: r, k + 1, h => by
    have ih := set3_flat u r k (by simpa using h)
    rw [List.set_cons_succ, List.flatMap_cons, List.flatMap_cons, ← ih]
    rw [show (k + 1) * 3 = k * 3 + 3 by omega]
    simp [Va.cells]
theorem own_set3 {w : World} {base g n : Nat} {V : List Va} (h : w.ownsRow base 27 3 (.slice (some ⟨g, 0, none⟩) n n) n (V.flatMap Va.cells)) (k : Nat) (u : Va) (hk : k < V.length) :
    (((w.setCell ⟨g, k * 3, none⟩ (.int .i64 u.k)).setCell ⟨g, k * 3 + 1, none⟩ (.int .u64 (u.b : Int))).setCell ⟨g, k * 3 + 2, none⟩ (.string u.t)).ownsRow base 27 3 (.slice (some ⟨g, 0, none⟩) n n) n ((V.set k u).flatMap Va.cells) := by
  have h1 := (h.stored (k * 3) (.int .i64 u.k)).1
  have h2 := (h1.stored (k * 3 + 1) (.int .u64 (u.b : Int))).1
  have h3 := (h2.stored (k * 3 + 2) (.string u.t)).1
  rw [set3_flat u V k hk] at h3
  exact h3
theorem own_get3 {w : World} {base g n : Nat} {V : List Va} (h : w.ownsRow base 27 3 (.slice (some ⟨g, 0, none⟩) n n) n (V.flatMap Va.cells)) (k : Nat) (hk : k < V.length) (hn : V.length = n) :
    w.cell? ⟨g, k * 3, none⟩ = some (.int .i64 (V.getD k v0).k) ∧ w.cell? ⟨g, k * 3 + 1, none⟩ = some (.int .u64 ((V.getD k v0).b : Int)) ∧ w.cell? ⟨g, k * 3 + 2, none⟩ = some (.string (V.getD k v0).t) := by
  have e0 := flat_at Va.cells 3 (fun _ => rfl) V k hk 0 (by omega)
  have e1 := flat_at Va.cells 3 (fun _ => rfl) V k hk 1 (by omega)
  have e2 := flat_at Va.cells 3 (fun _ => rfl) V k hk 2 (by omega)
  rw [getD_get V k v0 hk]
  refine ⟨?_, ?_, ?_⟩
  · rw [h.cellAt (k * 3) (by omega)]; exact e0
  · rw [h.cellAt (k * 3 + 1) (by omega)]; exact e1
  · rw [h.cellAt (k * 3 + 2) (by omega)]; exact e2

@[reducible, go_sem] def opEnc080 : Oper := { dst := some 12, op := Op.move (Operand.tmp 0), type := 24, pos := "block.go:31", after := #[], guard := none }
@[reducible, go_sem] def opEnc081 : Oper := { dst := some 13, op := Op.call { callee := Callee.builtin Builtin.len, args := #[Operand.tmp 12], argTypes := #[24] }, type := 3, pos := "block.go:31", after := #[{ on := 0, ground := Ground.data }], guard := none }
@[reducible, go_sem] def opEnc082 : Oper := { dst := some 15, op := Op.move (Operand.tmp 0), type := 24, pos := "block.go:31", after := #[], guard := none }
@[reducible, go_sem] def opEnc083 : Oper := { dst := some 16, op := Op.call { callee := Callee.builtin Builtin.len, args := #[Operand.tmp 15], argTypes := #[24] }, type := 3, pos := "block.go:31", after := #[{ on := 3, ground := Ground.data }], guard := none }
@[reducible, go_sem] def opEnc084 : Oper := { dst := some 14, op := Op.makeSlice 76 (Operand.tmp 13) (Operand.tmp 13), type := 76, pos := "block.go:31", after := #[{ on := 1, ground := Ground.data }, { on := 1, ground := Ground.data }], guard := none }
@[reducible, go_sem] def opEnc085 : Oper := { dst := some 17, op := Op.makeSlice 77 (Operand.tmp 16) (Operand.tmp 16), type := 77, pos := "block.go:31", after := #[{ on := 4, ground := Ground.data }, { on := 4, ground := Ground.data }], guard := none }
@[reducible, go_sem] def opEnc086 : Oper := { dst := some 4, op := Op.assign (Operand.tmp 14), type := 76, pos := "block.go:31", after := #[{ on := 2, ground := Ground.data }, { on := 0, ground := Ground.phase }, { on := 1, ground := Ground.phase }, { on := 2, ground := Ground.phase }, { on := 3, ground := Ground.textOnly Departure.lateStores }, { on := 4, ground := Ground.textOnly Departure.lateStoresUnsure }, { on := 5, ground := Ground.textOnly Departure.lateStoresUnsure }], guard := none }
@[reducible, go_sem] def opEnc087 : Oper := { dst := some 5, op := Op.assign (Operand.tmp 17), type := 77, pos := "block.go:31", after := #[{ on := 5, ground := Ground.data }, { on := 6, ground := Ground.chain }, { on := 0, ground := Ground.phase }, { on := 1, ground := Ground.phase }, { on := 2, ground := Ground.phase }, { on := 3, ground := Ground.phase }, { on := 4, ground := Ground.phase }, { on := 5, ground := Ground.phase }, { on := 6, ground := Ground.phase }], guard := none }
@[reducible, go_sem] def opEnc088 : Oper := { dst := some 52, op := Op.move (Operand.tmp 5), type := 77, pos := "block.go:43", after := #[], guard := none }
@[reducible, go_sem] def opEnc089 : Oper := { dst := some 53, op := Op.indexAddr 77 (Operand.tmp 52) (Operand.const (Value.int IntKind.i64 0)), type := 0, pos := "block.go:43", after := #[{ on := 0, ground := Ground.data }], guard := none }
@[reducible, go_sem] def opEnc0810 : Oper := { dst := some 54, op := Op.fieldAddr 27 (Operand.tmp 53) 0, type := 0, pos := "block.go:43", after := #[{ on := 1, ground := Ground.data }], guard := none }
@[reducible, go_sem] def opEnc0811 : Oper := { dst := some 55, op := Op.load 3 (Operand.tmp 54), type := 3, pos := "block.go:43", after := #[{ on := 2, ground := Ground.data }], guard := none }
@[reducible, go_sem] def opEnc0812 : Oper := { dst := some 56, op := Op.convert 3 5 (Operand.tmp 55), type := 5, pos := "block.go:43", after := #[{ on := 3, ground := Ground.data }], guard := none }
@[reducible, go_sem] def opEnc0813 : Oper := { dst := some 58, op := Op.move (Operand.tmp 8), type := 33, pos := "block.go:43", after := #[], guard := none }
@[reducible, go_sem] def opEnc0814 : Oper := { dst := some 59, op := Op.call { callee := Callee.builtin Builtin.len, args := #[Operand.tmp 58], argTypes := #[33] }, type := 3, pos := "block.go:43", after := #[{ on := 6, ground := Ground.data }], guard := none }
@[reducible, go_sem] def opEnc0815 : Oper := { dst := some 60, op := Op.convert 3 25 (Operand.tmp 59), type := 25, pos := "block.go:43", after := #[{ on := 7, ground := Ground.data }], guard := none }
@[reducible, go_sem] def opEnc0816 : Oper := { dst := some 57, op := Op.buildSlice 33 1 #[(0, Operand.tmp 56)], type := 33, pos := "block.go:43", after := #[{ on := 4, ground := Ground.data }], guard := none }
@[reducible, go_sem] def opEnc0817 : Oper := { dst := some 61, op := Op.call { callee := Callee.value (Operand.func 33), args := #[Operand.tmp 60, Operand.const (Value.int IntKind.i64 4)], argTypes := #[25, 3] }, type := 33, pos := "block.go:43", after := #[{ on := 8, ground := Ground.data }], guard := none }
@[reducible, go_sem] def opEnc0818 : Oper := { dst := some 62, op := Op.call { callee := Callee.builtin Builtin.append, args := #[Operand.tmp 57, Operand.tmp 61], argTypes := #[33, 33] }, type := 33, pos := "block.go:43", after := #[{ on := 5, ground := Ground.data }, { on := 9, ground := Ground.data }, { on := 9, ground := Ground.chain }], guard := none }
@[reducible, go_sem] def opEnc0819 : Oper := { dst := some 11, op := Op.assign (Operand.tmp 62), type := 33, pos := "block.go:43", after := #[{ on := 10, ground := Ground.data }, { on := 10, ground := Ground.chain }, { on := 0, ground := Ground.phase }, { on := 1, ground := Ground.phase }, { on := 2, ground := Ground.phase }, { on := 3, ground := Ground.phase }, { on := 4, ground := Ground.phase }, { on := 5, ground := Ground.phase }, { on := 6, ground := Ground.phase }, { on := 7, ground := Ground.phase }, { on := 8, ground := Ground.phase }, { on := 9, ground := Ground.phase }, { on := 10, ground := Ground.phase }], guard := none }
@[reducible, go_sem] def opEnc0820 : Oper := { dst := some 25, op := Op.move (Operand.tmp 4), type := 76, pos := "block.go:33", after := #[], guard := none }
@[reducible, go_sem] def opEnc0821 : Oper := { dst := some 26, op := Op.move (Operand.tmp 6), type := 3, pos := "block.go:33", after := #[], guard := none }
@[reducible, go_sem] def opEnc0822 : Oper := { dst := some 27, op := Op.move (Operand.tmp 5), type := 77, pos := "block.go:33", after := #[{ on := 9, ground := Ground.gcOnly Departure.lateStores }], guard := none }
@[reducible, go_sem] def opEnc0823 : Oper := { dst := some 28, op := Op.move (Operand.tmp 6), type := 3, pos := "block.go:33", after := #[{ on := 9, ground := Ground.gcOnly Departure.lateStores }], guard := none }
@[reducible, go_sem] def opEnc0824 : Oper := { dst := some 29, op := Op.fieldAddr 29 (Operand.tmp 7) 0, type := 0, pos := "block.go:33", after := #[], guard := none }
@[reducible, go_sem] def opEnc0825 : Oper := { dst := some 30, op := Op.load 2 (Operand.tmp 29), type := 2, pos := "block.go:33", after := #[{ on := 4, ground := Ground.data }], guard := none }
@[reducible, go_sem] def opEnc0826 : Oper := { dst := some 31, op := Op.fieldAddr 29 (Operand.tmp 7) 1, type := 0, pos := "block.go:33", after := #[{ on := 9, ground := Ground.gcOnly Departure.lateStores }], guard := none }
@[reducible, go_sem] def opEnc0827 : Oper := { dst := some 32, op := Op.load 27 (Operand.tmp 31), type := 27, pos := "block.go:33", after := #[{ on := 6, ground := Ground.data }, { on := 9, ground := Ground.gcOnly Departure.lateStores }], guard := none }
@[reducible, go_sem] def opEnc0828 : Oper := { dst := some 33, op := Op.indexAddr 76 (Operand.tmp 25) (Operand.tmp 26), type := 0, pos := "block.go:33", after := #[{ on := 0, ground := Ground.data }, { on := 1, ground := Ground.data }, { on := 0, ground := Ground.phase }, { on := 1, ground := Ground.phase }, { on := 2, ground := Ground.textOnly Departure.lateStores }, { on := 3, ground := Ground.textOnly Departure.lateStores }, { on := 4, ground := Ground.phase }, { on := 5, ground := Ground.phase }, { on := 6, ground := Ground.textOnly Departure.lateStores }, { on := 7, ground := Ground.textOnly Departure.lateStores }], guard := none }
@[reducible, go_sem] def opEnc0829 : Oper := { dst := none, op := Op.store 2 (Operand.tmp 33) (Operand.tmp 30), type := 0, pos := "block.go:33", after := #[{ on := 8, ground := Ground.data }, { on := 5, ground := Ground.data }, { on := 0, ground := Ground.phase }, { on := 1, ground := Ground.phase }, { on := 2, ground := Ground.textOnly Departure.lateStores }, { on := 3, ground := Ground.textOnly Departure.lateStores }, { on := 4, ground := Ground.phase }, { on := 5, ground := Ground.phase }, { on := 6, ground := Ground.textOnly Departure.lateStores }, { on := 7, ground := Ground.textOnly Departure.lateStores }], guard := none }
@[reducible, go_sem] def opEnc0830 : Oper := { dst := some 34, op := Op.indexAddr 77 (Operand.tmp 27) (Operand.tmp 28), type := 0, pos := "block.go:33", after := #[{ on := 2, ground := Ground.data }, { on := 3, ground := Ground.data }, { on := 0, ground := Ground.phase }, { on := 1, ground := Ground.phase }, { on := 2, ground := Ground.phase }, { on := 3, ground := Ground.phase }, { on := 4, ground := Ground.phase }, { on := 5, ground := Ground.phase }, { on := 6, ground := Ground.phase }, { on := 7, ground := Ground.phase }, { on := 8, ground := Ground.phase }, { on := 9, ground := Ground.phase }], guard := none }
@[reducible, go_sem] def opEnc0831 : Oper := { dst := none, op := Op.store 27 (Operand.tmp 34) (Operand.tmp 32), type := 0, pos := "block.go:33", after := #[{ on := 10, ground := Ground.data }, { on := 7, ground := Ground.data }, { on := 9, ground := Ground.chain }, { on := 0, ground := Ground.phase }, { on := 1, ground := Ground.phase }, { on := 2, ground := Ground.phase }, { on := 3, ground := Ground.phase }, { on := 4, ground := Ground.phase }, { on := 5, ground := Ground.phase }, { on := 6, ground := Ground.phase }, { on := 7, ground := Ground.phase }, { on := 8, ground := Ground.phase }, { on := 9, ground := Ground.phase }], guard := none }
set_option maxHeartbeats 4000000 in
set_option maxRecDepth 100000 in
theorem encodeB_any (l : List Pn) (v : Value) (w : World) (hok : ∀ p ∈ l, p.ok) (hl : l.length * 40 ≤ 140737488351232) (ht : Tab w) (hr : Pns w v l) :
    Calls Tryd.prog 16 #[v] w fun e w' => BeEnd l w e w' := by
  obtain ⟨ao0, cap0, rfl, hnc, hcm⟩ := RdV.shape hr
  unfold maxLen at hcm
  obtain ⟨n, hnl⟩ : ∃ n, n = l.length := ⟨_, rfl⟩
  have HN := Lib.hid hnl
  have HR := Lib.hid hr
  have HOK := Lib.hid hok
  have HTB := Lib.hid ht
  rw [← hnl] at hnc hl HR ⊢
  clear hr hnl hok ht
  obtain ⟨i0, hi0, hz0, hz1, hz2⟩ := info_parts infoI64
  obtain ⟨j0, hj0, hy0, hy1, hy2⟩ := info_parts infoVal
  have h63 : n ≤ maxLen := by unfold maxLen; omega
  have b8 : i0.bytes * n ≤ 281474976710656 := by rw [hz2]; omega
  have b32 : j0.bytes * n ≤ 281474976710656 := by rw [hy2]; omega
  have HI := Lib.hid (And.intro hi0 (And.intro hz0 hz1))
  have HJ := Lib.hid (And.intro hj0 (And.intro hy0 hy1))
  clear hi0 hz0 hz1 hz2 hj0 hy0 hy1 hy2
  go_enter Tryd.func16, Tryd.ntmps16
  go_upto_region 1 with fail
  go_cut [4, 5] (fun s4 s5 wx => ∃ g1 g2, s4 = .slice (some ⟨g1, 0, none⟩) n n ∧ s5 = .slice (some ⟨g2, 0, none⟩) n n ∧ Hid (wx.ownsRow w.heap.size 2 1 (.slice (some ⟨g1, 0, none⟩) n n) n ((List.replicate n (0 : Int)).map tV)) ∧ Hid (wx.ownsRow w.heap.size 27 3 (.slice (some ⟨g2, 0, none⟩) n n) n ((List.replicate n v0).flatMap Va.cells)) ∧ g1 ≠ g2 ∧ Hid (Below w.heap.size w wx))
  case first =>
    have hS : True := trivial
    have hB : Below w.heap.size w w.drew := (Below.refl _ _).drew
    refine wp_region_held_drew (S := fun _ => True) (by kernel_rfl) hS (fun hh => ?_)
    clear hh
    generalize w.drew = x0 at *
    refine ts 0 opEnc080 hS ?_
    refine ts 1 opEnc081 hS ?_
    refine ts 3 opEnc082 hS ?_
    refine ts 4 opEnc083 hS ?_
    refine wpAnyH_ready (rs := [2, 5]) (by kernel_rfl) (by simp) (AllReadyH.cons (o := opEnc084) rfl (fun K hK => ?_) (AllReadyH.cons (o := opEnc085) rfl (fun K hK => ?_) AllReadyH.nil))
    · skip
      refine step_make x0 rfl (.tmp 13) (.tmp 13) 76 rfl w.heap.size 2 i0 (.int .i64 0) 1 Tryd.underlying76 HI.out.1 HI.out.2.1 HI.out.2.2 .i64 .i64 n rfl rfl b8 h63 hB.size ?_
      intro x1 hn hg
      rw [tms_zeros] at hn
      have hc : Chg (fun _ => False) x0 x1 := (Chg.refl (fun _ => False) x0).grown hg (fun k _ h => by cases h)
      replace hB := hB.trans (hc.below hB.size (fun _ h => h.elim))
      have HO := hn
      clear hn hg hc
      generalize hgg : x0.heap.size = gg1 at *
      clear hgg
      refine hK.out _ _ trivial (fun hh => ?_)
      clear hK K hh
      try simp only [Act.put, List.setIfInBounds_toArray, List.set_cons_zero, List.set_cons_succ]
      refine ts 6 opEnc086 hS ?_
      refine wpAnyH_ready (rs := [5]) (by kernel_rfl) (by simp) (AllReadyH.cons (o := opEnc085) rfl (fun K hK => ?_) AllReadyH.nil)
      refine step_make x1 rfl (.tmp 16) (.tmp 16) 77 rfl w.heap.size 27 j0 (.agg #[.int .i64 0, .int .u64 0, .string .empty]) 3 Tryd.underlying77 HJ.out.1 HJ.out.2.1 HJ.out.2.2 .i64 .i64 n rfl rfl b32 h63 hB.size ?_
      intro x2 hn hg
      rw [val_zeros] at hn
      have hc : Chg (fun _ => False) x1 x2 := (Chg.refl (fun _ => False) x1).grown hg (fun k _ h => by cases h)
      replace hB := hB.trans (hc.below hB.size (fun _ h => h.elim))
      have hlt := (HO.lt _ rfl).2
      replace HO := hc.owns HO (fun _ _ h => h)
      skip
      have HP := hn
      clear hn hg hc
      generalize x1.heap.size = gg2 at *
      refine hK.out _ _ trivial (fun hh => ?_)
      clear hK K hh
      try simp only [Act.put, List.setIfInBounds_toArray, List.set_cons_zero, List.set_cons_succ]
      refine ts 7 opEnc087 hS ?_
      refine wpAnyH_done (by kernel_rfl) ?_ _
      go_wp2_with fail
      go_meet
      go_light
      exact ⟨gg1, gg2, rfl, rfl, Lib.hid HO, Lib.hid HP, by omega, Lib.hid hB⟩
    · skip
      refine step_make x0 rfl (.tmp 16) (.tmp 16) 77 rfl w.heap.size 27 j0 (.agg #[.int .i64 0, .int .u64 0, .string .empty]) 3 Tryd.underlying77 HJ.out.1 HJ.out.2.1 HJ.out.2.2 .i64 .i64 n rfl rfl b32 h63 hB.size ?_
      intro x1 hn hg
      rw [val_zeros] at hn
      have hc : Chg (fun _ => False) x0 x1 := (Chg.refl (fun _ => False) x0).grown hg (fun k _ h => by cases h)
      replace hB := hB.trans (hc.below hB.size (fun _ h => h.elim))
      have HP := hn
      clear hn hg hc
      generalize hgg : x0.heap.size = gg2 at *
      clear hgg
      refine hK.out _ _ trivial (fun hh => ?_)
      clear hK K hh
      try simp only [Act.put, List.setIfInBounds_toArray, List.set_cons_zero, List.set_cons_succ]
      refine wpAnyH_ready (rs := [2]) (by kernel_rfl) (by simp) (AllReadyH.cons (o := opEnc084) rfl (fun K hK => ?_) AllReadyH.nil)
      refine step_make x1 rfl (.tmp 13) (.tmp 13) 76 rfl w.heap.size 2 i0 (.int .i64 0) 1 Tryd.underlying76 HI.out.1 HI.out.2.1 HI.out.2.2 .i64 .i64 n rfl rfl b8 h63 hB.size ?_
      intro x2 hn hg
      rw [tms_zeros] at hn
      have hc : Chg (fun _ => False) x1 x2 := (Chg.refl (fun _ => False) x1).grown hg (fun k _ h => by cases h)
      replace hB := hB.trans (hc.below hB.size (fun _ h => h.elim))
      have hlt := (HP.lt _ rfl).2
      replace HP := hc.owns HP (fun _ _ h => h)
      skip
      have HO := hn
      clear hn hg hc
      generalize x1.heap.size = gg1 at *
      refine hK.out _ _ trivial (fun hh => ?_)
      clear hK K hh
      try simp only [Act.put, List.setIfInBounds_toArray, List.set_cons_zero, List.set_cons_succ]
      refine ts 6 opEnc086 hS ?_
      refine ts 7 opEnc087 hS ?_
      refine wpAnyH_done (by kernel_rfl) ?_ _
      go_wp2_with fail
      go_meet
      go_light
      exact ⟨gg1, gg2, rfl, rfl, Lib.hid HO, Lib.hid HP, by omega, Lib.hid hB⟩
  case rest =>
  obtain ⟨g1, g2, rfl, rfl, HO, HP, hg12, HB⟩ := hcut
  go_wp2_with fail
  go_loopg [6, 7, 20] n (fun m s6 s7 s20 wr => ∃ (k : Nat) (T : List Int) (V : List Va), k + m = n ∧ s20 = .int .i64 (k : Int) ∧ Hid (T.length = n ∧ T.take k = (tsP l).take k) ∧ Hid (V.length = n ∧ V.take k = (vsP l).take k) ∧ Hid (wr.ownsRow w.heap.size 2 1 (.slice (some ⟨g1, 0, none⟩) n n) n (T.map tV)) ∧ Hid (wr.ownsRow w.heap.size 27 3 (.slice (some ⟨g2, 0, none⟩) n n) n (V.flatMap Va.cells)) ∧ Hid (Below w.heap.size w wr))
  case atStart => exact ⟨0, List.replicate n 0, List.replicate n v0, by omega, rfl, Lib.hid ⟨List.length_replicate, rfl⟩, Lib.hid ⟨List.length_replicate, rfl⟩, HO, HP, HB⟩
  case round =>
    obtain ⟨k, T, V, hk, rfl, HT, HV, HOt, HOv, HBw⟩ := hrel
    clear HO HP HB
    by_cases h0 : gk = 0
    · obtain rfl : k = n := by omega
      have e1 : T = tsP l := by
        have h := HT.out.2
        rw [List.take_of_length_le (by rw [HT.out.1]; exact Nat.le_refl _), List.take_of_length_le (by rw [tsP_len, ← HN.out]; exact Nat.le_refl _)] at h
        exact h
      have e2 : V = vsP l := by
        have h := HV.out.2
        rw [List.take_of_length_le (by rw [HV.out.1]; exact Nat.le_refl _), List.take_of_length_le (by rw [vsP_len, ← HN.out]; exact Nat.le_refl _)] at h
        exact h
      subst e1
      subst e2
      have HTm := Lib.hid (show Tms wr (.slice (some ⟨g1, 0, none⟩) k k) (tsP l) from by have h := RdV.ofOwns HOt.out; unfold Tms; rw [HT.out.1]; exact h)
      have HVm := Lib.hid (show Vals wr (.slice (some ⟨g2, 0, none⟩) k k) (vsP l) from by have h := RdV.ofOwns HOv.out; unfold Vals; rw [HV.out.1]; exact h)
      have HKT := Lib.hid (tsP_ok HOK.out)
      have HKV := Lib.hid (vsP_ok HOK.out)
      have HTW := Lib.hid (HTB.out.below HBw.out)
      have hE1 := encode_any (tsP l) (.slice (some ⟨g1, 0, none⟩) k k) wr HKT.out HTm.out
      clear HT HV HOt HOv hk h0 HR HI HJ b8 b32 hg12
      cases hes : encS (tsP l) with
      | none =>
        have HES := Lib.hid hes
        go_upto_region 8 with (go_at_call 36; refine hE1.mono ?_; rintro e w2 ⟨hb2, h⟩; rw [HES.out] at h; rcases h with ⟨_, rfl⟩ | ⟨_, _, _, h, _⟩; have HB2 := Lib.hid (HBw.out.trans (hb2.mono HBw.out.size)); clear hb2 hE1; rotate_left 1; cases h)
        go_wp2_with fail
        go_ret2
        refine ⟨HB2.out, none, 0, ?_, ?_⟩
        · rw [encP_times HES.out]; go_light; rfl
        · rw [encP_times HES.out]; exact Own.nil _ _
      | some t =>
        have HES := Lib.hid hes
        go_upto_region 8 with (go_at_call 36; refine hE1.mono ?_; rintro e w2 ⟨hb2, h⟩; rw [HES.out] at h; rcases h with ⟨h, _⟩ | ⟨t2, ao, ac, h, h9, h11, rfl, ho⟩; cases h; obtain rfl : t = t2 := (by simpa using h); have HB2 := Lib.hid (HBw.out.trans (hb2.mono HBw.out.size)); have HO2 := Lib.hid ho; have HV2 := Lib.hid (HVm.out.below hb2); have HT2 := Lib.hid (HTW.out.below hb2); have H9 := Lib.hid h9; clear hb2 hE1 ho h h9 h11)
        have hE2 := encodeC_any (vsP l) (.slice (some ⟨g2, 0, none⟩) k k) w2 HKV.out HT2.out HV2.out
        obtain ⟨p, hp⟩ : ∃ p, p = encC (vsP l) := ⟨_, rfl⟩
        have HPE := Lib.hid hp
        clear hp hes
        go_upto_region 11 with (go_at_call 37; refine hE2.mono ?_; rintro e w3 ⟨hb3, ao3, ac3, rfl, ho3⟩; rw [← HPE.out] at ho3 ⊢; have HB3 := Lib.hid (HB2.out.trans (hb3.mono HB2.out.size)); have HO3 := Lib.hid ho3; have HV3 := Lib.hid (HV2.out.below hb3); have HT3 := Lib.hid (show Rd w3 (.slice ao t.length ac) t from RdV.below HO2.out.rd.v hb3); clear hb3 hE2 ho3)
        obtain ⟨vb, m⟩ := p
        try dsimp only at *
        by_cases hm : m = 0
        · subst hm
          have hkd := encC_kind HPE.out.symm
          have hk0 : 0 < k := by have := (encC_fits HPE.out.symm).1; rw [vsP_len, ← HN.out] at this; omega
          obtain ⟨b1, off1, c2, he1, hb1, hv0, hv1, hv2⟩ := val_at HV3.out 0 (by have := (encC_fits HPE.out.symm).1; omega)
          have HEP := Lib.hid (encP_ok HES.out HPE.out.symm)
          have HVB := Lib.hid (encC_short HKV.out HPE.out.symm)
          obtain ⟨kn, hkn⟩ : ∃ kn : Nat, ((vsP l).getD 0 v0).k = (kn : Int) := Int.eq_ofNat_of_zero_le (by omega)
          rw [hkn] at hkd hv0 HEP
          simp only [Value.slice.injEq, Option.some.injEq, Addr.mk.injEq, and_true] at he1
          obtain ⟨⟨rfl, rfl⟩, he9, rfl⟩ := he1
          simp only [Nat.zero_mul, Nat.add_zero] at hv0
          clear hkn he9 hv1 hv2
          have hkm : IntKind.u8.wrap (kn : Int) = (kn : Int) := IntWalk.u8_in _ (by omega)
          have HKX : Hid (bV (UInt8.ofNat kn) = .int .u8 (kn : Int)) := Lib.hid (by unfold bV; rw [UInt8.toNat_ofNat']; congr 1 <;> omega)
          have hT4 := fun w => tailn_any t.length 4 (by decide) (by decide) (by have := H9.out; omega) w
          have HBD : Hid (bodB (kn : Int) t vb = UInt8.ofNat kn :: (beN 4 t.length ++ (t ++ vb))) := Lib.hid (by unfold bodB; simp)
          have HF4 : Hid ((beN 4 t.length).length = 4) := Lib.hid (beN_len _ _)
          have HDL : Hid ((bodB (kn : Int) t vb).length = 5 + (t.length + vb.length)) := Lib.hid (bodB_len _ _ _)
          generalize beN 4 t.length = F4 at *
          generalize bodB (kn : Int) t vb = D at *
          rw [HF4.out] at hT4
          simp only [show ((4 : Nat) : Int) = 4 from rfl] at hT4
          have hlw : IntKind.u64.wrap (t.length : Int) = (t.length : Int) := by have := H9.out; rw [IntKind.wrap_u64]; omega
          have HKD := Lib.hid hkd
          obtain ⟨H5, hH5⟩ : ∃ H5, H5 = UInt8.ofNat kn :: F4 := ⟨_, rfl⟩
          have HH5 := Lib.hid hH5
          have HL5 : Hid (H5.length = 5) := Lib.hid (by rw [hH5, List.length_cons, HF4.out])
          clear hH5
          go_upto_region 13 with fail
          go_cut [11] (fun s11 wx => ∃ ad cd, s11 = .slice ad 5 cd ∧ Hid (wx.ownsRow w3.heap.size 5 1 (.slice ad 5 cd) 5 (H5.map bV)) ∧ Hid (Below w3.heap.size w3 wx))
          case first =>
            have hS : w3.drew.cell? ⟨g2, 0, none⟩ = some (.int .i64 (kn : Int)) := hv0
            have hlt : g2 < w3.drew.heap.size := hb1
            have hB : Below w3.heap.size w3 w3.drew := (Below.refl _ _).drew
            have hg23 : Hid (g2 < w3.heap.size) := Lib.hid hb1
            clear hv0 hb1 hkd
            refine wp_region_held_drew (S := fun w' => w'.cell? ⟨g2, 0, none⟩ = some (.int .i64 (kn : Int))) (by kernel_rfl) hS (fun hh => ?_)
            clear hh
            generalize w3.drew = y0 at *
            refine ts 0 opEnc088 hS ?_
            refine ts 1 opEnc089 hS ?_
            refine ts 2 opEnc0810 hS ?_
            refine ts 3 opEnc0811 hS ?_
            refine ts 4 opEnc0812 hS ?_
            refine ts 6 opEnc0813 hS ?_
            refine ts 7 opEnc0814 hS ?_
            refine ts 8 opEnc0815 hS ?_
            refine wpAnyH_ready (rs := [5, 9]) (by kernel_rfl) (by simp) (AllReadyH.cons (o := opEnc0816) rfl (fun K hK => ?_) (AllReadyH.cons (o := opEnc0817) rfl (fun K hK => ?_) AllReadyH.nil))
            · skip
              go_simp
              refine hK.out _ _ ((((Below.refl _ _).alloc (Nat.le_refl _) _).cell (p := ⟨g2, 0, none⟩) hlt).trans hS) (fun hh => ?_)
              clear hK K hh
              have hb : Below y0.heap.size y0 (y0.alloc (.cells #[.int .u8 (kn : Int)] 5)) := (Below.refl _ _).alloc (Nat.le_refl _) _
              have K5 : (y0.alloc (.cells #[.int .u8 (kn : Int)] 5)).ownsRow w3.heap.size 5 1 (.slice (some ⟨y0.heap.size, 0, none⟩) 1 1) 1 [.int .u8 (kn : Int)] := World.ownsRow_lit y0 _ 1 hB.size (by decide) rfl
              replace hS := (hb.cell (p := ⟨g2, 0, none⟩) hlt).trans hS
              replace hlt := Nat.lt_of_lt_of_le hlt hb.size
              replace hB := hB.trans (hb.mono hB.size)
              clear hb
              generalize y0.alloc (.cells #[.int .u8 (kn : Int)] 5) = y1 at *
              generalize y0.heap.size = g5 at *
              try simp only [Act.put, List.setIfInBounds_toArray, List.set_cons_zero, List.set_cons_succ]
              refine wpAnyH_ready (rs := [9]) (by kernel_rfl) (by simp) (AllReadyH.cons (o := opEnc0817) rfl (fun K hK => ?_) AllReadyH.nil)
              go_simp
              go_at_call 33
              (with_reducible refine (hT4 _).mono ?_)
              rintro _ y2 ⟨o9, c9, rfl, hn, hb⟩
              have K9 : RdV y2 1 (.slice o9 4 c9) 4 (F4.map bV) := by have h := hn.rd.v; rw [HF4.out] at h; exact h
              replace hS := (hb.cell (p := ⟨g2, 0, none⟩) hlt).trans hS
              replace K5 := (Chg.ofBelowAny (S := fun _ => False) hb).owns K5 (fun _ _ h => h)
              replace hlt := Nat.lt_of_lt_of_le hlt hb.size
              replace hB := hB.trans (hb.mono hB.size)
              clear hn hb
              dsimp only
              refine hK.out _ _ hS (fun hh => ?_)
              clear hK K hh
              try simp only [Act.put, List.setIfInBounds_toArray, List.set_cons_zero, List.set_cons_succ]
              refine wpAnyH_ready (rs := [10]) (by kernel_rfl) (by simp) (AllReadyH.cons (o := opEnc0818) rfl (fun K hK => ?_) AllReadyH.nil)
              refine step_append_rd y2 rfl (.tmp 57) (.tmp 61) 33 rfl w3.heap.size 5 (.int .u8 0) 1 1 Tryd.underlying33 infoU8 rfl (by decide) (.slice (some ⟨g5, 0, none⟩) 1 1) 1 [.int .u8 (kn : Int)] rfl K5 (.slice o9 4 c9) 4 (F4.map bV) rfl K9 (bV_one _) (by decide) (by decide) hB.size ?_
              intro ad cd y3 hg
              have hb : Below w3.heap.size y2 y3 := hg.below hB.size (fun j hj => (World.ownsRow.lt K5 j hj).1)
              have HD5 : Hid (y3.ownsRow w3.heap.size 5 1 (.slice ad 5 cd) 5 (H5.map bV)) := Lib.hid (by rw [HH5.out, List.map_cons, HKX.out]; exact hg.owns)
              have HB5 := Lib.hid (hB.trans hb)
              replace hS : y3.cell? ⟨g2, 0, none⟩ = some (.int .i64 (kn : Int)) := (hb.cell (p := ⟨g2, 0, none⟩) hg23.out).trans hS
              clear hg hb K5 K9
              refine hK.out _ _ hS (fun hh => ?_)
              clear hK K hh
              try simp only [Act.put, List.setIfInBounds_toArray, List.set_cons_zero, List.set_cons_succ]
              refine ts 11 opEnc0819 hS ?_
              refine wpAnyH_done (by kernel_rfl) ?_ _
              clear hS
              go_wp2_with fail
              go_meet
              go_light
              exact ⟨ad, cd, rfl, HD5, HB5⟩
            · skip
              go_simp
              go_at_call 33
              (with_reducible refine (hT4 _).mono ?_)
              rintro _ y1 ⟨o9, c9, rfl, hn, hb⟩
              have K9 : RdV y1 1 (.slice o9 4 c9) 4 (F4.map bV) := by have h := hn.rd.v; rw [HF4.out] at h; exact h
              replace hS := (hb.cell (p := ⟨g2, 0, none⟩) hlt).trans hS
              replace hlt := Nat.lt_of_lt_of_le hlt hb.size
              replace hB := hB.trans (hb.mono hB.size)
              clear hn hb
              dsimp only
              refine hK.out _ _ hS (fun hh => ?_)
              clear hK K hh
              try simp only [Act.put, List.setIfInBounds_toArray, List.set_cons_zero, List.set_cons_succ]
              refine wpAnyH_ready (rs := [5]) (by kernel_rfl) (by simp) (AllReadyH.cons (o := opEnc0816) rfl (fun K hK => ?_) AllReadyH.nil)
              go_simp
              refine hK.out _ _ ((((Below.refl _ _).alloc (Nat.le_refl _) _).cell (p := ⟨g2, 0, none⟩) hlt).trans hS) (fun hh => ?_)
              clear hK K hh
              have hb : Below y1.heap.size y1 (y1.alloc (.cells #[.int .u8 (kn : Int)] 5)) := (Below.refl _ _).alloc (Nat.le_refl _) _
              have K5 : (y1.alloc (.cells #[.int .u8 (kn : Int)] 5)).ownsRow w3.heap.size 5 1 (.slice (some ⟨y1.heap.size, 0, none⟩) 1 1) 1 [.int .u8 (kn : Int)] := World.ownsRow_lit y1 _ 1 hB.size (by decide) rfl
              replace hS := (hb.cell (p := ⟨g2, 0, none⟩) hlt).trans hS
              replace K9 := RdV.below K9 hb
              replace hlt := Nat.lt_of_lt_of_le hlt hb.size
              replace hB := hB.trans (hb.mono hB.size)
              clear hb
              generalize y1.alloc (.cells #[.int .u8 (kn : Int)] 5) = y2 at *
              generalize y1.heap.size = g5 at *
              try simp only [Act.put, List.setIfInBounds_toArray, List.set_cons_zero, List.set_cons_succ]
              refine wpAnyH_ready (rs := [10]) (by kernel_rfl) (by simp) (AllReadyH.cons (o := opEnc0818) rfl (fun K hK => ?_) AllReadyH.nil)
              refine step_append_rd y2 rfl (.tmp 57) (.tmp 61) 33 rfl w3.heap.size 5 (.int .u8 0) 1 1 Tryd.underlying33 infoU8 rfl (by decide) (.slice (some ⟨g5, 0, none⟩) 1 1) 1 [.int .u8 (kn : Int)] rfl K5 (.slice o9 4 c9) 4 (F4.map bV) rfl K9 (bV_one _) (by decide) (by decide) hB.size ?_
              intro ad cd y3 hg
              have hb : Below w3.heap.size y2 y3 := hg.below hB.size (fun j hj => (World.ownsRow.lt K5 j hj).1)
              have HD5 : Hid (y3.ownsRow w3.heap.size 5 1 (.slice ad 5 cd) 5 (H5.map bV)) := Lib.hid (by rw [HH5.out, List.map_cons, HKX.out]; exact hg.owns)
              have HB5 := Lib.hid (hB.trans hb)
              replace hS : y3.cell? ⟨g2, 0, none⟩ = some (.int .i64 (kn : Int)) := (hb.cell (p := ⟨g2, 0, none⟩) hg23.out).trans hS
              clear hg hb K5 K9
              refine hK.out _ _ hS (fun hh => ?_)
              clear hK K hh
              try simp only [Act.put, List.setIfInBounds_toArray, List.set_cons_zero, List.set_cons_succ]
              refine ts 11 opEnc0819 hS ?_
              refine wpAnyH_done (by kernel_rfl) ?_ _
              clear hS
              go_wp2_with fail
              go_meet
              go_light
              exact ⟨ad, cd, rfl, HD5, HB5⟩
          case rest =>
          obtain ⟨ad, cd, rfl, HD5, HB5⟩ := hcut
          have HOW : Hid (Own wc w3.heap.size (.slice ad 5 cd) H5) := Lib.hid (by unfold Own; rw [HL5.out]; exact HD5.out)
          obtain ⟨E1, hE1⟩ : ∃ E1, E1 = H5 ++ t := ⟨_, rfl⟩
          have HE1 := Lib.hid hE1
          have HDE : Hid (D = E1 ++ vb) := Lib.hid (by rw [hE1, HH5.out, HBD.out]; simp)
          have HEL : Hid (E1.length = 5 + t.length) := Lib.hid (by rw [hE1, List.length_append, HL5.out])
          have HSL : Hid (sealB D = D ++ beN 4 (crc D)) := Lib.hid rfl
          have hcl := crc_lt D
          have hT5 := fun w => tailn_any (crc D) 4 (by decide) (by decide) (by omega) w
          have HC4 : Hid ((beN 4 (crc D)).length = 4) := Lib.hid (beN_len _ _)
          have hsA := fun v w h => sum_any D v w h
          have hcw : IntKind.u64.wrap ((crc D : Nat) : Int) = ((crc D : Nat) : Int) := by rw [IntKind.wrap_u64]; omega
          have hs1 : Hid (H5.length + t.length ≤ 140737488355328) := Lib.hid (by have := HL5.out; have := H9.out; omega)
          have hs2 : Hid (E1.length + vb.length ≤ 140737488355328) := Lib.hid (by have := HEL.out; have := H9.out; have := HVB.out; omega)
          have hs3 : Hid (D.length + (beN 4 (crc D)).length ≤ 140737488355328) := Lib.hid (by have := HDL.out; have := HC4.out; have := H9.out; have := HVB.out; omega)
          simp only [show ((4 : Nat) : Int) = 4 from rfl] at hT5
          rw [HSL.out] at HEP
          clear hE1 hT4 hlw hkm hkd hb1 hv0
          generalize beN 4 (crc D) = C4 at *
          generalize crc D = S4 at *
          have KT1 := Lib.hid (show Rd wc (.slice ao t.length ac) t from RdV.below HT3.out.v HB5.out)
          go_upto_region 15 with (first
            | (at_builtin; refine wpList_append_bs _ rfl (.tmp 63) (.tmp 64) rfl w3.heap.size (.slice ad 5 cd) H5 rfl HOW.out (.slice ao t.length ac) t rfl KT1.out hs1.out HB5.out.size ?_; intro ao6 cap6 w6 hg6; rw [← HE1.out] at hg6 ⊢; have HO6 := Lib.hid hg6.owns; have HB6 := Lib.hid (HB5.out.trans (hg6.below HB5.out.size (fun j hj => (World.ownsRow.lt HOW.out j hj).1))); have KV6 := Lib.hid (show Rd w6 (.slice ao3 vb.length ac3) vb from RdV.below HO3.out.rd.v HB6.out); clear hg6)
            | (at_builtin; refine wpList_append_bs _ rfl (.tmp 65) (.tmp 66) rfl w3.heap.size (.slice ao6 E1.length cap6) E1 rfl HO6.out (.slice ao3 vb.length ac3) vb rfl KV6.out hs2.out HB6.out.size ?_; intro ao7 cap7 w7 hg7; rw [← HDE.out] at hg7 ⊢; have HO7 := Lib.hid (show Own w7 w3.heap.size (.slice ao7 D.length cap7) D from hg7.owns); have HB7 := Lib.hid (HB6.out.trans (hg7.below HB6.out.size (fun j hj => (World.ownsRow.lt HO6.out j hj).1))); clear hg7))
          have hs := hsA _ w7 HO7.out.rd
          clear hsA
          have HBW := Lib.hid (HB3.out.trans (HB7.out.mono HB3.out.size))
          go_wp2_with (first
            | (go_at_call 17; refine hs.mono ?_; rintro _ w8 ⟨rfl, q8, rfl⟩; have HO8 := Lib.hid (show Own (w7.drewN q8) w3.heap.size (.slice ao7 D.length cap7) D from HO7.out); have HB8 := Lib.hid (below_dr HBW.out q8); have HC8 := Lib.hid (below_dr HB7.out q8); clear hs)
            | (go_at_call 33; (with_reducible refine (hT5 _).mono ?_); rintro _ w9 ⟨o9, c9, rfl, hn9, hb9⟩; have HK9 := Lib.hid hn9.rd; have HO9 := Lib.hid (show Own w9 w3.heap.size (.slice ao7 D.length cap7) D from (Chg.ofBelowAny (S := fun _ => False) hb9).owns HO8.out (fun _ _ h => h)); have HB9 := Lib.hid (HB8.out.trans (hb9.mono HB8.out.size)); have HC9 := Lib.hid (HC8.out.trans (hb9.mono HC8.out.size)); clear hT5 hn9 hb9)
            | (at_builtin; refine wpList_append_bs _ rfl (.tmp 68) (.tmp 72) rfl w3.heap.size (.slice ao7 D.length cap7) D rfl HO9.out (.slice o9 C4.length c9) C4 rfl HK9.out hs3.out HC9.out.size ?_; intro ao10 cap10 w10 hg10; have HO10 := Lib.hid (ownsRow_mono hg10.owns HB3.out.size); have HB10 := Lib.hid (HB9.out.trans (hg10.below HB9.out.size (fun j hj => Nat.le_trans HB3.out.size (World.ownsRow.lt HO9.out j hj).1))); clear hg10))
          go_ret2
          refine ⟨HB10.out, ao10, cap10, ?_, ?_⟩
          · rw [HEP.out, show (D ++ C4, (0 : Nat)).1.length = D.length + C4.length from List.length_append]; rfl
          · rw [HEP.out]; exact HO10.out
        · have hmI : ((m : Int) != 0) = true := by simp; omega
          have hPV := encP_vals HES.out (by rw [← HPE.out]; exact hm)
          rw [← HPE.out] at hPV
          have HPV := Lib.hid hPV
          clear hPV
          go_wp2_with fail
          go_ret2
          refine ⟨HB3.out, none, 0, ?_, ?_⟩
          · rw [HPV.out]; go_light; rfl
          · rw [HPV.out]; exact Own.nil _ _
    · have hkn : k < n := by omega
      have HKL : Hid (k < l.length) := Lib.hid (by rw [← HN.out]; exact hkn)
      obtain ⟨b, off, c1, he, hb0, e0, e1, e2, e3⟩ := pn_at HR.out k HKL.out
      simp only [Value.slice.injEq] at he
      obtain ⟨rfl, he9, rfl⟩ := he
      clear he9
      have hS0 : CP b (off + k * 4) _ _ _ _ w := ⟨e0, e1, e2, e3⟩
      have hS1 := hS0.below hb0 HBw.out
      obtain ⟨d0, d1, d2, d3⟩ := hS1
      have HT9 := Lib.hid (tsP_get l k HKL.out)
      have HV9 : Hid ((vsP l).getD k v0 = ⟨(l.getD k p0).v.k, (l.getD k p0).v.b, (l.getD k p0).v.t⟩) := Lib.hid (vsP_get l k HKL.out)
      generalize (l.getD k p0).t = pt at *
      generalize (l.getD k p0).v.k = pk at *
      generalize (l.getD k p0).v.b = pb at *
      generalize (l.getD k p0).v.t = px at *
      clear e0 e1 e2 e3 hS0
      go_upto_region 5 with fail
      have hS : (wr.alloc (.cells #[.int .i64 pt, .int .i64 pk, .int .u64 (pb : Int), .string px] 29)).drew.cell? ⟨wr.heap.size, 0, none⟩ = some (.int .i64 pt) ∧ (wr.alloc (.cells #[.int .i64 pt, .int .i64 pk, .int .u64 (pb : Int), .string px] 29)).drew.cell? ⟨wr.heap.size, 1, none⟩ = some (.int .i64 pk) ∧ (wr.alloc (.cells #[.int .i64 pt, .int .i64 pk, .int .u64 (pb : Int), .string px] 29)).drew.cell? ⟨wr.heap.size, 2, none⟩ = some (.int .u64 (pb : Int)) ∧ (wr.alloc (.cells #[.int .i64 pt, .int .i64 pk, .int .u64 (pb : Int), .string px] 29)).drew.cell? ⟨wr.heap.size, 3, none⟩ = some (.string px) := by
        refine ⟨?_, ?_, ?_, ?_⟩ <;> exact World.cell?_alloc_new _ _ _ _
      have hB : Below w.heap.size w (wr.alloc (.cells #[.int .i64 pt, .int .i64 pk, .int .u64 (pb : Int), .string px] 29)).drew := (HBw.out.alloc HBw.out.size _).drew
      have hHt : (wr.alloc (.cells #[.int .i64 pt, .int .i64 pk, .int .u64 (pb : Int), .string px] 29)).drew.ownsRow w.heap.size 2 1 (.slice (some ⟨g1, 0, none⟩) n n) n (T.map tV) := (Chg.ofBelowAny (S := fun _ => False) (Below.refl _ _).drew).owns (World.ownsRow.alloc HOt.out _) (fun _ _ h => h)
      have hHv : (wr.alloc (.cells #[.int .i64 pt, .int .i64 pk, .int .u64 (pb : Int), .string px] 29)).drew.ownsRow w.heap.size 27 3 (.slice (some ⟨g2, 0, none⟩) n n) n (V.flatMap Va.cells) := (Chg.ofBelowAny (S := fun _ => False) (Below.refl _ _).drew).owns (World.ownsRow.alloc HOv.out _) (fun _ _ h => h)
      have hP1 : g1 < wr.heap.size ∧ w.heap.size ≤ g1 := ⟨(HOt.out.lt _ rfl).2, (HOt.out.lt _ rfl).1⟩
      have hP2 : g2 < wr.heap.size ∧ w.heap.size ≤ g2 := ⟨(HOv.out.lt _ rfl).2, (HOv.out.lt _ rfl).1⟩
      have hPl : wr.heap.size < (wr.alloc (.cells #[.int .i64 pt, .int .i64 pk, .int .u64 (pb : Int), .string px] 29)).drew.heap.size := by show _ < (wr.alloc _).heap.size; simp
      have HLT := Lib.hid HT.out.1
      have HLV := Lib.hid HV.out.1
      clear d0 d1 d2 d3 HOt HOv HBw
      refine wp_region_held_drew (S := fun w' => w'.cell? ⟨wr.heap.size, 0, none⟩ = some (.int .i64 pt) ∧ w'.cell? ⟨wr.heap.size, 1, none⟩ = some (.int .i64 pk) ∧ w'.cell? ⟨wr.heap.size, 2, none⟩ = some (.int .u64 (pb : Int)) ∧ w'.cell? ⟨wr.heap.size, 3, none⟩ = some (.string px)) (by kernel_rfl) hS (fun hh => ?_)
      clear hh
      generalize (wr.alloc (.cells #[.int .i64 pt, .int .i64 pk, .int .u64 (pb : Int), .string px] 29)).drew = x0 at *
      generalize wr.heap.size = PP at *
      refine ts 0 opEnc0820 hS ?_
      refine ts 1 opEnc0821 hS ?_
      refine ts 2 opEnc0822 hS ?_
      refine ts 3 opEnc0823 hS ?_
      refine ts 4 opEnc0824 hS ?_
      refine ts 5 opEnc0825 hS ?_
      refine ts 6 opEnc0826 hS ?_
      refine ts 7 opEnc0827 hS ?_
      refine ts 8 opEnc0828 hS ?_
      refine wpAnyH_ready (rs := [9]) (by kernel_rfl) (by simp) (AllReadyH.cons (o := opEnc0829) rfl (fun K hK => ?_) AllReadyH.nil)
      have hgc : x0.cell? ⟨g1, k, none⟩ = some (.int .i64 (T.getD k 0)) := by
        rw [hHt.cellAt k (by omega)]
        have := HLT.out
        simp [hkn, this, tV]
      have hgf := hHt.frozenAt k
      go_simp
      have hst : (x0.setCell ⟨g1, k, none⟩ (.int .i64 pt)).ownsRow w.heap.size 2 1 (.slice (some ⟨g1, 0, none⟩) n n) n ((T.map tV).set k (tV pt)) := (hHt.stored k (tV pt)).1
      have hc : Chg (fun j => j = g1) x0 (x0.setCell ⟨g1, k, none⟩ (.int .i64 pt)) := (Chg.refl (fun j => j = g1) x0).setCell (p := ⟨g1, k, none⟩) (fun _ => rfl) _
      have hS2 := And.intro ((hc.cell (p := ⟨PP, 0, none⟩) hPl (by show ¬ PP = g1; omega)).trans hS.1) (And.intro ((hc.cell (p := ⟨PP, 1, none⟩) hPl (by show ¬ PP = g1; omega)).trans hS.2.1) (And.intro ((hc.cell (p := ⟨PP, 2, none⟩) hPl (by show ¬ PP = g1; omega)).trans hS.2.2.1) ((hc.cell (p := ⟨PP, 3, none⟩) hPl (by show ¬ PP = g1; omega)).trans hS.2.2.2)))
      refine hK.out _ _ hS2 (fun hh => ?_)
      clear hK K hh
      replace hHv := hc.owns hHv (fun j hj e => by cases hj; exact hg12 e.symm)
      replace hS := hS2
      replace hPl := Nat.lt_of_lt_of_le hPl hc.size
      replace hB := hB.setCell (p := ⟨g1, k, none⟩) hP1.2 (.int .i64 pt)
      replace hHt := hst
      skip
      clear hst hc hgc hgf hS2
      generalize x0.setCell ⟨g1, k, none⟩ (.int .i64 pt) = z1 at *
      try simp only [Act.put, List.setIfInBounds_toArray, List.set_cons_zero, List.set_cons_succ]
      refine ts 10 opEnc0830 hS ?_
      refine wpAnyH_ready (rs := [11]) (by kernel_rfl) (by simp) (AllReadyH.cons (o := opEnc0831) rfl (fun K hK => ?_) AllReadyH.nil)
      obtain ⟨hgc0, hgc1, hgc2⟩ := own_get3 hHv k (by rw [HLV.out]; exact hkn) HLV.out
      have hgf0 := hHv.frozenAt (k * 3)
      have hgf1 := hHv.frozenAt (k * 3 + 1)
      have hgf2 := hHv.frozenAt (k * 3 + 2)
      go_simp
      have hst : (((z1.setCell ⟨g2, k * 3, none⟩ (.int .i64 pk)).setCell ⟨g2, k * 3 + 1, none⟩ (.int .u64 (pb : Int))).setCell ⟨g2, k * 3 + 2, none⟩ (.string px)).ownsRow w.heap.size 27 3 (.slice (some ⟨g2, 0, none⟩) n n) n ((V.set k ⟨pk, pb, px⟩).flatMap Va.cells) := own_set3 hHv k ⟨pk, pb, px⟩ (by rw [HLV.out]; exact hkn)
      have hc : Chg (fun j => j = g2) z1 (((z1.setCell ⟨g2, k * 3, none⟩ (.int .i64 pk)).setCell ⟨g2, k * 3 + 1, none⟩ (.int .u64 (pb : Int))).setCell ⟨g2, k * 3 + 2, none⟩ (.string px)) := (((Chg.refl (fun j => j = g2) z1).setCell (p := ⟨g2, k * 3, none⟩) (fun _ => rfl) _).setCell (p := ⟨g2, k * 3 + 1, none⟩) (fun _ => rfl) _).setCell (p := ⟨g2, k * 3 + 2, none⟩) (fun _ => rfl) _
      have hS2 := And.intro ((hc.cell (p := ⟨PP, 0, none⟩) hPl (by show ¬ PP = g2; omega)).trans hS.1) (And.intro ((hc.cell (p := ⟨PP, 1, none⟩) hPl (by show ¬ PP = g2; omega)).trans hS.2.1) (And.intro ((hc.cell (p := ⟨PP, 2, none⟩) hPl (by show ¬ PP = g2; omega)).trans hS.2.2.1) ((hc.cell (p := ⟨PP, 3, none⟩) hPl (by show ¬ PP = g2; omega)).trans hS.2.2.2)))
      refine hK.out _ _ hS2 (fun hh => ?_)
      clear hK K hh
      replace hHt := hc.owns hHt (fun j hj e => by cases hj; exact hg12 e)
      replace hB := ((hB.setCell (p := ⟨g2, k * 3, none⟩) hP2.2 (.int .i64 pk)).setCell (p := ⟨g2, k * 3 + 1, none⟩) hP2.2 (.int .u64 (pb : Int))).setCell (p := ⟨g2, k * 3 + 2, none⟩) hP2.2 (.string px)
      replace hHv := hst
      clear hst hc hgc0 hgc1 hgc2 hgf0 hgf1 hgf2 hS2 hS hPl
      generalize ((z1.setCell ⟨g2, k * 3, none⟩ (.int .i64 pk)).setCell ⟨g2, k * 3 + 1, none⟩ (.int .u64 (pb : Int))).setCell ⟨g2, k * 3 + 2, none⟩ (.string px) = z2 at *
      have HHt := Lib.hid hHt
      have HHv := Lib.hid hHv
      have HHB := Lib.hid hB
      clear hHt hHv hB
      try simp only [Act.put, List.setIfInBounds_toArray, List.set_cons_zero, List.set_cons_succ]
      refine wpAnyH_done (by kernel_rfl) ?_ _
      go_wp2_with fail
      go_roundg (gk - 1)
      case measure => go_light; omega
      case rel =>
        go_light
        refine ⟨k + 1, T.set k pt, V.set k ⟨pk, pb, px⟩, by omega, by go_num, Lib.hid ⟨by rw [List.length_set]; exact HLT.out, ?_⟩, Lib.hid ⟨by rw [List.length_set]; exact HLV.out, ?_⟩, Lib.hid ?_, HHv, HHB⟩
        · rw [take_set_next T k pt (by rw [HLT.out]; exact hkn), HT.out.2, ← HT9.out, take_more (tsP l) 0 k (by rw [tsP_len]; exact HKL.out)]
        · rw [take_set_next V k _ (by rw [HLV.out]; exact hkn), HV.out.2, ← HV9.out, take_more (vsP l) v0 k (by rw [vsP_len]; exact HKL.out)]
        · rw [List.map_set]; exact HHt.out
end Go.Proofs.YthcgalpabjjkoaaDoor

