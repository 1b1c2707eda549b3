/- CondJoins. Printed by gen_joins20.py. -/
import Derived.Test.YtjifgipkfkhnpaaTags20
import Derived.Test.YtjifgipkfkhnpaaTakes
namespace Go.Proofs.Ytjifgipkfkhnpaa
open Go.RowKit Go.ChangeShapes Go.WideShapes Go.ChangeAt
set_option linter.unusedVariables false

def leafO (op : Int) : Lf := ⟨op, { data := #[] }, { data := #[] }, 0, 0, { data := #[] }⟩
/-- One new condition with these parts. -/
theorem rdF_one (op : Int) (F : Fo) (a : Option Addr) (n k : Nat) (w : World) (h : RdF w (.slice a n k) F) :
    RdF (w.alloc (.cells #[.int .i64 op, .string { data := #[] }, .string { data := #[] }, .int .i64 0, .int .u64 0, .string { data := #[] }, .slice a n k] 45)) (.slice (some ⟨w.heap.size, 0, none⟩) 1 1) (.cons (leafO op) F .nil) := by
  have h2 := h.below (show Below w.heap.size w (w.alloc (.cells #[.int .i64 op, .string { data := #[] }, .string { data := #[] }, .int .i64 0, .int .u64 0, .string { data := #[] }, .slice a n k] 45)) from (Below.refl _ _).alloc (Nat.le_refl _) _)
  obtain ⟨xs, h3, h4⟩ := h2
  exact ⟨[(leafO op, .slice a n k)], RdV.lit w _ _ 1 7 (by decide) rfl, .slice a n k, xs, [], rfl, h3, h4, rfl⟩
theorem RdF.two {w : World} {a : Option Addr} {n cap : Nat} {c1 c2 : Lf} {p1 p2 : Fo} (h : RdF w (.slice a n cap) (.cons c1 p1 (.cons c2 p2 .nil))) :
    ∃ b off, n = 2 ∧ a = some ⟨b, off, none⟩ ∧ 2 ≤ cap ∧ RdF w (.slice (some ⟨b, off, none⟩) 1 cap) (.cons c1 p1 .nil) ∧ RdF w (.slice (some ⟨b, off + 7, none⟩) 1 (cap - 1)) (.cons c2 p2 .nil) := by
  obtain ⟨xs, hr, q1, l1, xs1, rfl, h1, h2, q2, l2, xs2, rfl, h3, h4, h5⟩ := h
  have h5' : xs2 = [] := h5
  subst h5'
  obtain ⟨b, off, cap', he, hn, hm, hb, hc⟩ := RdV.some hr (by simp) (by decide)
  simp only [Value.slice.injEq] at he
  obtain ⟨rfl, rfl, rfl⟩ := he
  have hn' : 2 ≤ cap := hn
  refine ⟨b, off, rfl, rfl, hn', ?_, ?_⟩
  · have := RdV.cut hr 0 1 (by omega) (by simp)
    rw [if_neg (by omega)] at this
    exact ⟨[(c1, q1)], by simpa [Addr.add, lcells] using this, q1, l1, [], rfl, h1, h2, rfl⟩
  · have := RdV.cut hr 1 2 (by omega) (by simp)
    rw [if_neg (by omega)] at this
    exact ⟨[(c2, q2)], by simpa [Addr.add, lcells] using this, q2, l2, [], rfl, h3, h4, rfl⟩

set_option maxHeartbeats 4000000 in
set_option maxRecDepth 100000 in
theorem condJoins_run (c1 c2 : Lf) (p1 p2 : Fo) (E : Env) (pv1 pv2 tv fv nv : Value) (w : World) (hF1 : RdF w pv1 p1) (hF2 : RdF w pv2 p2) (hE : EnvAt w E tv fv nv) :
    Calls Try.prog 4 #[cV c1 pv1, cV c2 pv2, .agg #[.string E.nm, tv, fv, .int .i64 E.time], nv] w fun e w' => e = .returned (.bool true) ∧ Below w.heap.size w w' := by
  have hF1' := hF1
  have hF2' := hF2
  obtain ⟨x1, hx1, hy1⟩ := hF1'
  obtain ⟨x2, hx2, hy2⟩ := hF2'
  obtain ⟨qa1, qc1, rfl, ha1, ha2⟩ := RdV.shape hx1
  obtain ⟨qa2, qc2, rfl, ha3, ha4⟩ := RdV.shape hx2
  generalize x1.length = qn1 at *
  generalize x2.length = qn2 at *
  obtain ⟨ta, tc, rfl, hq1, hq2⟩ := RdV.shape hE.t
  obtain ⟨fa, fc, rfl, hf1, hf2⟩ := RdV.shape hE.f
  obtain ⟨na, nc, rfl, hm1, hm2⟩ := RdV.shape hE.n
  clear hx1 hx2 hy1 hy2
  have hA := fun (w : World) => awake20_any w
  unfold cV
  obtain ⟨wA, hwA⟩ : ∃ wA, wA = ((w.alloc (.cells #[.int .i64 c1.op, .string c1.nm, .string c1.sg, .int .i64 c1.k, .int .u64 (c1.b : Int), .string c1.t, .slice qa1 qn1 qc1] 43)).alloc (.cells #[.int .i64 c2.op, .string c2.nm, .string c2.sg, .int .i64 c2.k, .int .u64 (c2.b : Int), .string c2.t, .slice qa2 qn2 qc2] 43)).alloc (.cells #[.string E.nm, .slice ta E.tags.length tc, .slice fa E.fds.length fc, .int .i64 E.time] 28) := ⟨_, rfl⟩
  have hbA : Below w.heap.size w wA := by rw [hwA]; exact (((Below.refl _ _).alloc (Nat.le_refl _) _).alloc (by simp) _).alloc (by simp <;> omega) _
  have hS : wA.cell? ⟨w.heap.size, 0, none⟩ = some (.int .i64 c1.op) ∧ wA.cell? ⟨w.heap.size, 1, none⟩ = some (.string c1.nm) ∧ wA.cell? ⟨w.heap.size, 2, none⟩ = some (.string c1.sg) ∧ wA.cell? ⟨w.heap.size, 3, none⟩ = some (.int .i64 c1.k) ∧ wA.cell? ⟨w.heap.size, 4, none⟩ = some (.int .u64 (c1.b : Int)) ∧ wA.cell? ⟨w.heap.size, 5, none⟩ = some (.string c1.t) ∧ wA.cell? ⟨w.heap.size, 6, none⟩ = some (.slice qa1 qn1 qc1) ∧ wA.cell? ⟨w.heap.size + 1, 0, none⟩ = some (.int .i64 c2.op) ∧ wA.cell? ⟨w.heap.size + 1, 1, none⟩ = some (.string c2.nm) ∧ wA.cell? ⟨w.heap.size + 1, 2, none⟩ = some (.string c2.sg) ∧ wA.cell? ⟨w.heap.size + 1, 3, none⟩ = some (.int .i64 c2.k) ∧ wA.cell? ⟨w.heap.size + 1, 4, none⟩ = some (.int .u64 (c2.b : Int)) ∧ wA.cell? ⟨w.heap.size + 1, 5, none⟩ = some (.string c2.t) ∧ wA.cell? ⟨w.heap.size + 1, 6, none⟩ = some (.slice qa2 qn2 qc2) ∧ wA.cell? ⟨w.heap.size + 1 + 1, 0, none⟩ = some (.string E.nm) ∧ wA.cell? ⟨w.heap.size + 1 + 1, 1, none⟩ = some (.slice ta E.tags.length tc) ∧ wA.cell? ⟨w.heap.size + 1 + 1, 2, none⟩ = some (.slice fa E.fds.length fc) ∧ wA.cell? ⟨w.heap.size + 1 + 1, 3, none⟩ = some (.int .i64 E.time) := by
    have p1 : ∀ (w : World) (o : Obj) (n i : Nat), n < w.heap.size → (w.alloc o).cell? ⟨n, i, none⟩ = w.cell? ⟨n, i, none⟩ := fun w o n i h => World.cell?_alloc_past _ _ _ h
    rw [hwA]
    refine ⟨?_, ?_, ?_, ?_, ?_, ?_, ?_, ?_, ?_, ?_, ?_, ?_, ?_, ?_, ?_, ?_, ?_, ?_⟩
    iterate 7 (rw [p1 _ _ _ _ (by simp <;> omega), p1 _ _ _ _ (by simp)]; simp)
    iterate 7 (rw [p1 _ _ _ _ (by simp)]; exact World.cell?_alloc_at _ _ _ _ (by simp))
    iterate 4 exact World.cell?_alloc_at _ _ _ _ (by simp)
  have hk : ∀ w' : World, Below wA.heap.size wA w' → w'.cell? ⟨w.heap.size, 0, none⟩ = some (.int .i64 c1.op) ∧ w'.cell? ⟨w.heap.size, 1, none⟩ = some (.string c1.nm) ∧ w'.cell? ⟨w.heap.size, 2, none⟩ = some (.string c1.sg) ∧ w'.cell? ⟨w.heap.size, 3, none⟩ = some (.int .i64 c1.k) ∧ w'.cell? ⟨w.heap.size, 4, none⟩ = some (.int .u64 (c1.b : Int)) ∧ w'.cell? ⟨w.heap.size, 5, none⟩ = some (.string c1.t) ∧ w'.cell? ⟨w.heap.size, 6, none⟩ = some (.slice qa1 qn1 qc1) ∧ w'.cell? ⟨w.heap.size + 1, 0, none⟩ = some (.int .i64 c2.op) ∧ w'.cell? ⟨w.heap.size + 1, 1, none⟩ = some (.string c2.nm) ∧ w'.cell? ⟨w.heap.size + 1, 2, none⟩ = some (.string c2.sg) ∧ w'.cell? ⟨w.heap.size + 1, 3, none⟩ = some (.int .i64 c2.k) ∧ w'.cell? ⟨w.heap.size + 1, 4, none⟩ = some (.int .u64 (c2.b : Int)) ∧ w'.cell? ⟨w.heap.size + 1, 5, none⟩ = some (.string c2.t) ∧ w'.cell? ⟨w.heap.size + 1, 6, none⟩ = some (.slice qa2 qn2 qc2) ∧ w'.cell? ⟨w.heap.size + 1 + 1, 0, none⟩ = some (.string E.nm) ∧ w'.cell? ⟨w.heap.size + 1 + 1, 1, none⟩ = some (.slice ta E.tags.length tc) ∧ w'.cell? ⟨w.heap.size + 1 + 1, 2, none⟩ = some (.slice fa E.fds.length fc) ∧ w'.cell? ⟨w.heap.size + 1 + 1, 3, none⟩ = some (.int .i64 E.time) := fun w' h =>
    have q : ∀ (bk o : Nat) (u : Value), wA.cell? ⟨bk, o, none⟩ = some u → w'.cell? ⟨bk, o, none⟩ = some u := fun bk o u q => (h.cell (World.block_lt_of_cell? _ _ q)).trans q
    let ⟨z0, z1, z2, z3, z4, z5, z6, z7, z8, z9, z10, z11, z12, z13, z14, z15, z16, z17⟩ := hS
    ⟨q _ _ _ z0, q _ _ _ z1, q _ _ _ z2, q _ _ _ z3, q _ _ _ z4, q _ _ _ z5, q _ _ _ z6, q _ _ _ z7, q _ _ _ z8, q _ _ _ z9, q _ _ _ z10, q _ _ _ z11, q _ _ _ z12, q _ _ _ z13, q _ _ _ z14, q _ _ _ z15, q _ _ _ z16, q _ _ _ z17⟩
  have HK := Lib.hid hk
  have HE := Lib.hid (hE.below hbA)
  have HW := Lib.hid hwA
  have HBA := Lib.hid hbA
  have hl : ∀ w1 : World, Below wA.heap.size wA w1 → RdF (w1.alloc (.cells #[.int .i64 c1.op, .string c1.nm, .string c1.sg, .int .i64 c1.k, .int .u64 (c1.b : Int), .string c1.t, .slice qa1 qn1 qc1, .int .i64 c2.op, .string c2.nm, .string c2.sg, .int .i64 c2.k, .int .u64 (c2.b : Int), .string c2.t, .slice qa2 qn2 qc2] 43)) (.slice (some ⟨w1.heap.size, 0, none⟩) 2 2) (.cons c1 p1 (.cons c2 p2 .nil)) := fun w1 h => by
    have hb2 := (hbA.trans (h.mono hbA.size)).alloc (hbA.trans (h.mono hbA.size)).size (.cells #[.int .i64 c1.op, .string c1.nm, .string c1.sg, .int .i64 c1.k, .int .u64 (c1.b : Int), .string c1.t, .slice qa1 qn1 qc1, .int .i64 c2.op, .string c2.nm, .string c2.sg, .int .i64 c2.k, .int .u64 (c2.b : Int), .string c2.t, .slice qa2 qn2 qc2] 43)
    obtain ⟨l1, g1, g2⟩ := hF1.below hb2
    obtain ⟨l2, g3, g4⟩ := hF2.below hb2
    exact ⟨[(c1, .slice qa1 qn1 qc1), (c2, .slice qa2 qn2 qc2)], RdV.lit w1 _ _ 2 7 (by decide) rfl, .slice qa1 qn1 qc1, l1, _, rfl, g1, g2, .slice qa2 qn2 qc2, l2, [], rfl, g3, g4, rfl⟩
  have HL := Lib.hid hl
  clear hF1 hF2 hE hbA hwA hS hk hl
  have hFew := fun (w1 : World) (h : Below wA.heap.size wA w1) => few_any _ _ _ (HL.out w1 h)
  by_cases hfew : 0 ≤ leftF (.cons c1 p1 (.cons c2 p2 .nil)) 3000
  · have h3 : (Fo.cons c1 p1 (.cons c2 p2 .nil)).sz ≤ 3000 := by have := leftF_few _ 3000 hfew; omega
    have e : decide (0 ≤ leftF (.cons c1 p1 (.cons c2 p2 .nil)) 3000) = true := decide_eq_true hfew
    rw [e] at hFew
    have HFew := Lib.hid hFew
    have HC := Lib.hid (show ∀ (w1 : World), Below wA.heap.size wA w1 → Calls Try.prog 11 #[.slice (some ⟨w1.heap.size, 0, none⟩) 2 2] (w1.alloc (.cells #[.int .i64 c1.op, .string c1.nm, .string c1.sg, .int .i64 c1.k, .int .u64 (c1.b : Int), .string c1.t, .slice qa1 qn1 qc1, .int .i64 c2.op, .string c2.nm, .string c2.sg, .int .i64 c2.k, .int .u64 (c2.b : Int), .string c2.t, .slice qa2 qn2 qc2] 43)) fun e w' => ∃ ao cap, e = .returned (.slice ao 2 cap) ∧ RdF w' (.slice ao 2 cap) (.cons c1 p1 (.cons c2 p2 .nil)) ∧ Below (w1.alloc (.cells #[.int .i64 c1.op, .string c1.nm, .string c1.sg, .int .i64 c1.k, .int .u64 (c1.b : Int), .string c1.t, .slice qa1 qn1 qc1, .int .i64 c2.op, .string c2.nm, .string c2.sg, .int .i64 c2.k, .int .u64 (c2.b : Int), .string c2.t, .slice qa2 qn2 qc2] 43)).heap.size (w1.alloc (.cells #[.int .i64 c1.op, .string c1.nm, .string c1.sg, .int .i64 c1.k, .int .u64 (c1.b : Int), .string c1.t, .slice qa1 qn1 qc1, .int .i64 c2.op, .string c2.nm, .string c2.sg, .int .i64 c2.k, .int .u64 (c2.b : Int), .string c2.t, .slice qa2 qn2 qc2] 43)) w' from fun w1 h => condsR_any _ _ _ h3 (HL.out w1 h))
    have HH := Lib.hid (fun (w1 : World) (v : Value) (F : Fo) (h : RdF w1 v F) (hb : Below wA.heap.size wA w1) => holdsT_any E F v _ _ _ w1 h (HE.out.below hb))
    clear hFew hfew e h3 HE HL
    go_enter Try.func4, Try.ntmps4
    go_upto_region 1 with fail
    rw [← HW.out]
    clear HW
    go_upto_region 3 with (first
      | (go_at_call 8; refine (hA _).mono ?_; rintro _ w2 ⟨rfl, hb2⟩; have HB2 := Lib.hid hb2; obtain ⟨z0, z1, z2, z3, z4, z5, z6, z7, z8, z9, z10, z11, z12, z13, z14, z15, z16, z17⟩ := HK.out _ HB2.out; clear hb2)
      | (go_at_call 9; refine (HFew.out _ HB2.out).mono ?_; rintro _ w3 ⟨rfl, hw3⟩; rw [hw3]; clear hw3 w3))
    clear z0 z1 z2 z3 z4 z5 z6 z7 z8 z9 z10 z11 z12 z13 z14 z15 z16 z17
    have HB3 := Lib.hid (HB2.out.alloc HB2.out.size (.cells #[.int .i64 c1.op, .string c1.nm, .string c1.sg, .int .i64 c1.k, .int .u64 (c1.b : Int), .string c1.t, .slice qa1 qn1 qc1, .int .i64 c2.op, .string c2.nm, .string c2.sg, .int .i64 c2.k, .int .u64 (c2.b : Int), .string c2.t, .slice qa2 qn2 qc2] 43))
    generalize w2.alloc (.cells #[.int .i64 c1.op, .string c1.nm, .string c1.sg, .int .i64 c1.k, .int .u64 (c1.b : Int), .string c1.t, .slice qa1 qn1 qc1, .int .i64 c2.op, .string c2.nm, .string c2.sg, .int .i64 c2.k, .int .u64 (c2.b : Int), .string c2.t, .slice qa2 qn2 qc2] 43) = w3 at *
    obtain ⟨z0, z1, z2, z3, z4, z5, z6, z7, z8, z9, z10, z11, z12, z13, z14, z15, z16, z17⟩ := HK.out _ HB3.out
    go_upto_region 4 with (go_at_call 11; refine (HC.out _ HB3.out).mono ?_; rintro _ w4 ⟨ao, cap, rfl, hr4, hb4⟩; have HR4 := Lib.hid hr4; have hb4' : Below wA.heap.size wA w4 := (HB3.out.alloc HB3.out.size (.cells #[.int .i64 c1.op, .string c1.nm, .string c1.sg, .int .i64 c1.k, .int .u64 (c1.b : Int), .string c1.t, .slice qa1 qn1 qc1, .int .i64 c2.op, .string c2.nm, .string c2.sg, .int .i64 c2.k, .int .u64 (c2.b : Int), .string c2.t, .slice qa2 qn2 qc2] 43)).trans (hb4.mono (HB3.out.alloc HB3.out.size (.cells #[.int .i64 c1.op, .string c1.nm, .string c1.sg, .int .i64 c1.k, .int .u64 (c1.b : Int), .string c1.t, .slice qa1 qn1 qc1, .int .i64 c2.op, .string c2.nm, .string c2.sg, .int .i64 c2.k, .int .u64 (c2.b : Int), .string c2.t, .slice qa2 qn2 qc2] 43)).size); have HB4 := Lib.hid hb4'; clear hr4 hb4 hb4')
    clear z0 z1 z2 z3 z4 z5 z6 z7 z8 z9 z10 z11 z12 z13 z14 z15 z16 z17 HC HFew HB3 HB2 hA
    have hk4 : ∀ w' : World, Below wA.heap.size wA w' → w'.cell? ⟨w.heap.size + 1 + 1, 0, none⟩ = some (.string E.nm) ∧ w'.cell? ⟨w.heap.size + 1 + 1, 1, none⟩ = some (.slice ta E.tags.length tc) ∧ w'.cell? ⟨w.heap.size + 1 + 1, 2, none⟩ = some (.slice fa E.fds.length fc) ∧ w'.cell? ⟨w.heap.size + 1 + 1, 3, none⟩ = some (.int .i64 E.time) := fun w' h =>
      let ⟨z0, z1, z2, z3, z4, z5, z6, z7, z8, z9, z10, z11, z12, z13, z14, z15, z16, z17⟩ := HK.out w' h
      ⟨z14, z15, z16, z17⟩
    have HK4 := Lib.hid hk4
    clear HK hk4
    obtain ⟨lb, lo, he2, rfl, hcap, hr1, hr2⟩ := HR4.out.two
    have HR1 := Lib.hid hr1
    have HR2 := Lib.hid hr2
    clear hr1 hr2 he2
    have hb0 : Below wA.heap.size wA w4.drew := HB4.out.drew
    have hA0 : Below w4.heap.size w4 w4.drew := (Below.refl _ _).drew
    have HHx := Lib.hid (show ∀ (w1 : World), Below wA.heap.size wA w1 → RdF w1 (.slice (some ⟨lb, lo, none⟩) 1 cap) (.cons c1 p1 .nil) → Calls Try.prog 13 #[.slice (some ⟨lb, lo, none⟩) 1 cap, .agg #[.string E.nm, .slice ta E.tags.length tc, .slice fa E.fds.length fc, .int .i64 E.time], .slice na E.names.length nc] w1 fun e w' => e = .returned (.bool (oneH E c1 p1)) ∧ Below w1.heap.size w1 w' from fun w1 hb h => by
      have := HH.out w1 _ _ h hb
      have e : hl E true (.cons c1 p1 .nil) = oneH E c1 p1 := by rw [hl_all]; simp [hl]
      rwa [e] at this)
    have HHy := Lib.hid (show ∀ (w1 : World), Below wA.heap.size wA w1 → RdF w1 (.slice (some ⟨lb, lo + 7, none⟩) 1 (cap - 1)) (.cons c2 p2 .nil) → Calls Try.prog 13 #[.slice (some ⟨lb, lo + 7, none⟩) 1 (cap - 1), .agg #[.string E.nm, .slice ta E.tags.length tc, .slice fa E.fds.length fc, .int .i64 E.time], .slice na E.names.length nc] w1 fun e w' => e = .returned (.bool (oneH E c2 p2)) ∧ Below w1.heap.size w1 w' from fun w1 hb h => by
      have := HH.out w1 _ _ h hb
      have e : hl E true (.cons c2 p2 .nil) = oneH E c2 p2 := by rw [hl_all]; simp [hl]
      rwa [e] at this)
    have HHa := Lib.hid (show ∀ (w1 : World) (v : Value), RdF w1 v (.cons (leafO 1) (.cons c1 p1 (.cons c2 p2 .nil)) .nil) → Below wA.heap.size wA w1 → Calls Try.prog 13 #[v, .agg #[.string E.nm, .slice ta E.tags.length tc, .slice fa E.fds.length fc, .int .i64 E.time], .slice na E.names.length nc] w1 fun e w' => e = .returned (.bool (oneH E c1 p1 && oneH E c2 p2)) ∧ Below w1.heap.size w1 w' from fun w1 v h hb => by
      have := HH.out w1 _ _ h hb
      have e : hl E true (.cons (leafO 1) (.cons c1 p1 (.cons c2 p2 .nil)) .nil) = (oneH E c1 p1 && oneH E c2 p2) := by
        rw [hl_all, show oneH E (leafO 1) (.cons c1 p1 (.cons c2 p2 .nil)) = hl E true (.cons c1 p1 (.cons c2 p2 .nil)) from rfl, hl_all, hl_all]; simp [hl]
      rwa [e] at this)
    have HHo := Lib.hid (show ∀ (w1 : World) (v : Value), RdF w1 v (.cons (leafO 2) (.cons c1 p1 (.cons c2 p2 .nil)) .nil) → Below wA.heap.size wA w1 → Calls Try.prog 13 #[v, .agg #[.string E.nm, .slice ta E.tags.length tc, .slice fa E.fds.length fc, .int .i64 E.time], .slice na E.names.length nc] w1 fun e w' => e = .returned (.bool (oneH E c1 p1 || oneH E c2 p2)) ∧ Below w1.heap.size w1 w' from fun w1 v h hb => by
      have := HH.out w1 _ _ h hb
      have e : hl E true (.cons (leafO 2) (.cons c1 p1 (.cons c2 p2 .nil)) .nil) = (oneH E c1 p1 || oneH E c2 p2) := by
        rw [hl_all, show oneH E (leafO 2) (.cons c1 p1 (.cons c2 p2 .nil)) = hl E false (.cons c1 p1 (.cons c2 p2 .nil)) from rfl, hl_any, hl_any]; simp [hl]
      rwa [e] at this)
    have HHd := Lib.hid (show ∀ (w1 : World) (v : Value), RdF w1 v (.cons (leafO 1) (.cons (leafO 2) (.cons (leafO 1) (.cons c1 p1 (.cons c2 p2 .nil)) .nil) .nil) .nil) → Below wA.heap.size wA w1 → Calls Try.prog 13 #[v, .agg #[.string E.nm, .slice ta E.tags.length tc, .slice fa E.fds.length fc, .int .i64 E.time], .slice na E.names.length nc] w1 fun e w' => e = .returned (.bool (oneH E c1 p1 && oneH E c2 p2)) ∧ Below w1.heap.size w1 w' from fun w1 v h hb => by
      have := HH.out w1 _ _ h hb
      have e : hl E true (.cons (leafO 1) (.cons (leafO 2) (.cons (leafO 1) (.cons c1 p1 (.cons c2 p2 .nil)) .nil) .nil) .nil) = (oneH E c1 p1 && oneH E c2 p2) := by
        rw [hl_all, show oneH E (leafO 1) (.cons (leafO 2) (.cons (leafO 1) (.cons c1 p1 (.cons c2 p2 .nil)) .nil) .nil) = hl E true (.cons (leafO 2) (.cons (leafO 1) (.cons c1 p1 (.cons c2 p2 .nil)) .nil) .nil) from rfl, hl_all,
          show oneH E (leafO 2) (.cons (leafO 1) (.cons c1 p1 (.cons c2 p2 .nil)) .nil) = hl E false (.cons (leafO 1) (.cons c1 p1 (.cons c2 p2 .nil)) .nil) from rfl, hl_any,
          show oneH E (leafO 1) (.cons c1 p1 (.cons c2 p2 .nil)) = hl E true (.cons c1 p1 (.cons c2 p2 .nil)) from rfl, hl_all, hl_all]; simp [hl]
      rwa [e] at this)
    have HHl := Lib.hid (show ∀ (w1 : World), RdF w1 (.slice (some ⟨lb, lo, none⟩) 2 cap) (.cons c1 p1 (.cons c2 p2 .nil)) → Below wA.heap.size wA w1 → Calls Try.prog 13 #[.slice (some ⟨lb, lo, none⟩) 2 cap, .agg #[.string E.nm, .slice ta E.tags.length tc, .slice fa E.fds.length fc, .int .i64 E.time], .slice na E.names.length nc] w1 fun e w' => e = .returned (.bool (oneH E c1 p1 && oneH E c2 p2)) ∧ Below w1.heap.size w1 w' from fun w1 h hb => by
      have := HH.out w1 _ _ h hb
      have e : hl E true (.cons c1 p1 (.cons c2 p2 .nil)) = (oneH E c1 p1 && oneH E c2 p2) := by
        rw [hl_all, hl_all]; simp [hl]
      rwa [e] at this)
    clear HH
    generalize oneH E c1 p1 = BA at *
    generalize oneH E c2 p2 = BB at *
    refine wp_region_held_drew (S := fun w' => w'.cell? ⟨w.heap.size + 1 + 1, 0, none⟩ = some (.string E.nm) ∧ w'.cell? ⟨w.heap.size + 1 + 1, 1, none⟩ = some (.slice ta E.tags.length tc) ∧ w'.cell? ⟨w.heap.size + 1 + 1, 2, none⟩ = some (.slice fa E.fds.length fc) ∧ w'.cell? ⟨w.heap.size + 1 + 1, 3, none⟩ = some (.int .i64 E.time)) (by kernel_rfl) (HK4.out _ hb0) (fun hS => ?_)
    refine wpAnyH_take (i := 0) (oi := { dst := some 29, op := Op.move (Operand.tmp 9), type := 34, pos := "law.go:69", after := #[], guard := none }) (v := ?_) rfl (by kernel_rfl) (by kernel_rfl) (by kernel_rfl) (fun _ _ _ h => h) (Or.inl ⟨by rfl, ?_⟩) hS ?_
    rotate_left
    · intro w hSw; (try dsimp only at hSw); go_simp; try with_reducible rfl
    try simp only [Act.put, List.setIfInBounds_toArray, List.set_cons_zero, List.set_cons_succ]
    refine wpAnyH_take (i := 1) (oi := { dst := some 30, op := Op.slice 34 (Operand.tmp 29) none (some (Operand.const (Value.int IntKind.i64 1))) none, type := 34, pos := "law.go:69", after := #[{ on := 0, ground := Ground.data }], guard := none }) (v := .slice (some ⟨lb, lo, none⟩) 1 cap) rfl (by kernel_rfl) (by kernel_rfl) (by kernel_rfl) (fun _ _ _ h => h) (yields_slice (by rfl) (.tmp 29) none (some (.const (.int .i64 1))) 34 rfl 45 7 (.agg #[.int .i64 0, .string .empty, .string .empty, .int .i64 0, .int .u64 0, .string .empty, .slice none 0 0]) 96 Try.underlying34 infoCond (some ⟨lb, lo, none⟩) 2 cap rfl 0 1 (fun w => bounds_hi _ _ .i64 1 (by omega)) _ (by rw [if_neg (by omega)]; rfl)) hS ?_
    try simp only [Act.put, List.setIfInBounds_toArray, List.set_cons_zero, List.set_cons_succ]
    refine wpAnyH_take (i := 2) (oi := { dst := some 31, op := Op.load 28 (Operand.tmp 6), type := 28, pos := "law.go:69", after := #[], guard := none }) (v := ?_) rfl (by kernel_rfl) (by kernel_rfl) (by kernel_rfl) (fun _ _ _ h => h) (Or.inl ⟨by rfl, ?_⟩) hS ?_
    rotate_left
    · intro w hSw; (try dsimp only at hSw); go_simp; try with_reducible rfl
    try simp only [Act.put, List.setIfInBounds_toArray, List.set_cons_zero, List.set_cons_succ]
    refine wpAnyH_take (i := 3) (oi := { dst := some 32, op := Op.move (Operand.tmp 3), type := 29, pos := "law.go:69", after := #[], guard := none }) (v := ?_) rfl (by kernel_rfl) (by kernel_rfl) (by kernel_rfl) (fun _ _ _ h => h) (Or.inl ⟨by rfl, ?_⟩) hS ?_
    rotate_left
    · intro w hSw; (try dsimp only at hSw); go_simp; try with_reducible rfl
    try simp only [Act.put, List.setIfInBounds_toArray, List.set_cons_zero, List.set_cons_succ]
    refine wpAnyH_take (i := 5) (oi := { dst := some 34, op := Op.move (Operand.tmp 9), type := 34, pos := "law.go:69", after := #[], guard := none }) (v := ?_) rfl (by kernel_rfl) (by kernel_rfl) (by kernel_rfl) (fun _ _ _ h => h) (Or.inl ⟨by rfl, ?_⟩) hS ?_
    rotate_left
    · intro w hSw; (try dsimp only at hSw); go_simp; try with_reducible rfl
    try simp only [Act.put, List.setIfInBounds_toArray, List.set_cons_zero, List.set_cons_succ]
    refine wpAnyH_take (i := 6) (oi := { dst := some 35, op := Op.slice 34 (Operand.tmp 34) (some (Operand.const (Value.int IntKind.i64 1))) none none, type := 34, pos := "law.go:69", after := #[{ on := 5, ground := Ground.data }], guard := none }) (v := .slice (some ⟨lb, lo + 7, none⟩) 1 (cap - 1)) rfl (by kernel_rfl) (by kernel_rfl) (by kernel_rfl) (fun _ _ _ h => h) (yields_slice (by rfl) (.tmp 34) (some (.const (.int .i64 1))) none 34 rfl 45 7 (.agg #[.int .i64 0, .string .empty, .string .empty, .int .i64 0, .int .u64 0, .string .empty, .slice none 0 0]) 96 Try.underlying34 infoCond (some ⟨lb, lo, none⟩) 2 cap rfl 1 2 (fun w => bounds_lo _ _ .i64 1 (by omega)) _ (by rw [if_neg (by omega)]; rfl)) hS ?_
    try simp only [Act.put, List.setIfInBounds_toArray, List.set_cons_zero, List.set_cons_succ]
    refine wpAnyH_take (i := 7) (oi := { dst := some 36, op := Op.load 28 (Operand.tmp 6), type := 28, pos := "law.go:69", after := #[], guard := none }) (v := ?_) rfl (by kernel_rfl) (by kernel_rfl) (by kernel_rfl) (fun _ _ _ h => h) (Or.inl ⟨by rfl, ?_⟩) hS ?_
    rotate_left
    · intro w hSw; (try dsimp only at hSw); go_simp; try with_reducible rfl
    try simp only [Act.put, List.setIfInBounds_toArray, List.set_cons_zero, List.set_cons_succ]
    refine wpAnyH_take (i := 8) (oi := { dst := some 37, op := Op.move (Operand.tmp 3), type := 29, pos := "law.go:69", after := #[], guard := none }) (v := ?_) rfl (by kernel_rfl) (by kernel_rfl) (by kernel_rfl) (fun _ _ _ h => h) (Or.inl ⟨by rfl, ?_⟩) hS ?_
    rotate_left
    · intro w hSw; (try dsimp only at hSw); go_simp; try with_reducible rfl
    try simp only [Act.put, List.setIfInBounds_toArray, List.set_cons_zero, List.set_cons_succ]
    refine wpAnyH_ready (rs := [4]) (by kernel_rfl) (by simp) (AllReadyH.cons (o := { dst := some 33, op := Op.call { callee := Callee.value (Operand.func 13), args := #[Operand.tmp 30, Operand.tmp 31, Operand.tmp 32], argTypes := #[34, 28, 29] }, type := 4, pos := "law.go:69", after := #[{ on := 1, ground := Ground.data }, { on := 2, ground := Ground.data }, { on := 3, ground := Ground.data }], guard := none }) rfl (fun K hK => ?_) AllReadyH.nil)
    go_simp
    go_at_call 13
    refine (HHx.out _ hb0 (HR1.out.below hA0)).mono ?_
    rintro _ w5 ⟨rfl, hb5⟩
    have hA5 : Below w4.heap.size w4 w5 := hA0.trans (hb5.mono hA0.size)
    have hB5 : Below wA.heap.size wA w5 := hb0.trans (hb5.mono hb0.size)
    clear hb5
    dsimp only
    refine hK.out _ _ (HK4.out _ hB5) (fun hh => ?_)
    replace hS := hh
    clear hK K hh
    try simp only [Act.put, List.setIfInBounds_toArray, List.set_cons_zero, List.set_cons_succ]
    refine wpAnyH_ready (rs := [9]) (by kernel_rfl) (by simp) (AllReadyH.cons (o := { dst := some 38, op := Op.call { callee := Callee.value (Operand.func 13), args := #[Operand.tmp 35, Operand.tmp 36, Operand.tmp 37], argTypes := #[34, 28, 29] }, type := 4, pos := "law.go:69", after := #[{ on := 6, ground := Ground.data }, { on := 7, ground := Ground.data }, { on := 8, ground := Ground.data }, { on := 4, ground := Ground.chain }], guard := none }) rfl (fun K hK => ?_) AllReadyH.nil)
    go_simp
    go_at_call 13
    refine (HHy.out _ hB5 (HR2.out.below hA5)).mono ?_
    rintro _ w6 ⟨rfl, hb6⟩
    have hA6 : Below w4.heap.size w4 w6 := hA5.trans (hb6.mono hA5.size)
    have hB6 : Below wA.heap.size wA w6 := hB5.trans (hb6.mono hB5.size)
    clear hb6
    dsimp only
    refine hK.out _ _ (HK4.out _ hB6) (fun hh => ?_)
    replace hS := hh
    clear hK K hh
    try simp only [Act.put, List.setIfInBounds_toArray, List.set_cons_zero, List.set_cons_succ]
    refine wpAnyH_take (i := 10) (oi := { dst := some 10, op := Op.assign (Operand.tmp 33), type := 4, pos := "law.go:69", after := #[{ on := 4, ground := Ground.data }, { on := 9, ground := Ground.chain }, { on := 0, ground := Ground.phase }, { on := 1, ground := Ground.phase }, { on := 2, ground := Ground.phase }, { on := 3, ground := Ground.phase }, { on := 4, ground := Ground.phase }, { on := 5, ground := Ground.textOnly Departure.lateStores }, { on := 6, ground := Ground.textOnly Departure.lateStoresUnsure }, { on := 7, ground := Ground.textOnly Departure.lateStores }, { on := 8, ground := Ground.textOnly Departure.lateStores }, { on := 9, ground := Ground.textOnly Departure.lateStoresUnsure }], guard := none }) (v := ?_) rfl (by kernel_rfl) (by kernel_rfl) (by kernel_rfl) (fun _ _ _ h => h) (Or.inl ⟨by rfl, ?_⟩) hS ?_
    rotate_left
    · intro w hSw; (try dsimp only at hSw); go_simp; try with_reducible rfl
    try simp only [Act.put, List.setIfInBounds_toArray, List.set_cons_zero, List.set_cons_succ]
    refine wpAnyH_take (i := 11) (oi := { dst := some 11, op := Op.assign (Operand.tmp 38), type := 4, pos := "law.go:69", after := #[{ on := 9, ground := Ground.data }, { on := 10, ground := Ground.chain }, { on := 0, ground := Ground.phase }, { on := 1, ground := Ground.phase }, { on := 2, ground := Ground.phase }, { on := 3, ground := Ground.phase }, { on := 4, ground := Ground.phase }, { on := 5, ground := Ground.phase }, { on := 6, ground := Ground.phase }, { on := 7, ground := Ground.phase }, { on := 8, ground := Ground.phase }, { on := 9, ground := Ground.phase }, { on := 10, ground := Ground.phase }], guard := none }) (v := ?_) rfl (by kernel_rfl) (by kernel_rfl) (by kernel_rfl) (fun _ _ _ h => h) (Or.inl ⟨by rfl, ?_⟩) hS ?_
    rotate_left
    · intro w hSw; (try dsimp only at hSw); go_simp; try with_reducible rfl
    try simp only [Act.put, List.setIfInBounds_toArray, List.set_cons_zero, List.set_cons_succ]
    refine wpAnyH_done (by kernel_rfl) ?_ _
    have HR6 := Lib.hid (HR4.out.below hA6)
    have HB6 := Lib.hid hB6
    clear hA6 hB6 hA5 hB5 hA0 hb0 HHx HHy HR1 HR2 HR4 HB4
    obtain ⟨f0, f1, f2, f3⟩ := HK4.out _ HB6.out
    have hlt := World.block_lt_of_cell? _ _ f0
    dsimp only at hlt
    go_wp2_with fail
    refine (HHa.out _ _ (rdF_one 1 _ _ _ _ w6 HR6.out) (HB6.out.alloc HB6.out.size _)).mono ?_
    rintro _ w7 ⟨rfl, hb7⟩
    have h67 : Below w6.heap.size w6 w7 := ((Below.refl _ _).alloc (Nat.le_refl _) _).trans (hb7.mono (by simp))
    have HR7 := Lib.hid (HR6.out.below h67)
    have HB7 := Lib.hid (HB6.out.trans (h67.mono HB6.out.size))
    clear hb7 h67
    clear hlt f0 f1 f2 f3 HR6 HB6 HHa
    obtain ⟨f0, f1, f2, f3⟩ := HK4.out _ HB7.out
    have hlt := World.block_lt_of_cell? _ _ f0
    dsimp only at hlt
    go_wp2_with fail
    refine (HHo.out _ _ (rdF_one 2 _ _ _ _ w7 HR7.out) (HB7.out.alloc HB7.out.size _)).mono ?_
    rintro _ w8 ⟨rfl, hb8⟩
    have h78 : Below w7.heap.size w7 w8 := ((Below.refl _ _).alloc (Nat.le_refl _) _).trans (hb8.mono (by simp))
    have HR8 := Lib.hid (HR7.out.below h78)
    have HB8 := Lib.hid (HB7.out.trans (h78.mono HB7.out.size))
    clear hb8 h78
    clear hlt f0 f1 f2 f3 HR7 HB7 HHo
    obtain ⟨f0, f1, f2, f3⟩ := HK4.out _ HB8.out
    have hlt := World.block_lt_of_cell? _ _ f0
    dsimp only at hlt
    have hr9 := rdF_one 1 _ _ _ _ w8 HR8.out
    have hr10 := rdF_one 2 _ _ _ _ _ hr9
    rw [World.size_alloc] at hr10
    have hr11 := rdF_one 1 _ _ _ _ _ hr10
    rw [World.size_alloc, World.size_alloc] at hr11
    have HR11 := Lib.hid hr11
    have hlta : w.heap.size + 1 + 1 < w8.heap.size + 1 := by omega
    have hltb : w.heap.size + 1 + 1 < w8.heap.size + 1 + 1 := by omega
    clear hr9 hr10 hr11
    go_wp2_with fail
    refine (HHd.out _ _ HR11.out (((HB8.out.alloc HB8.out.size _).alloc (by have := HB8.out.size; simp; omega) _).alloc (by have := HB8.out.size; simp; omega) _)).mono ?_
    rintro _ w9 ⟨rfl, hb9⟩
    have h89 : Below w8.heap.size w8 w9 := ((((Below.refl _ _).alloc (Nat.le_refl _) _).alloc (by simp) _).alloc (by simp <;> omega) _).trans (hb9.mono (by simp <;> omega))
    have HR9 := Lib.hid (HR8.out.below h89)
    have HB9 := Lib.hid (HB8.out.trans (h89.mono HB8.out.size))
    clear hb9 h89 hlt hlta hltb HR11 f0 f1 f2 f3 HR8 HB8 HHd
    obtain ⟨f0, f1, f2, f3⟩ := HK4.out _ HB9.out
    go_upto_region 8 with fail
    have hL := HHl.out _ HR9.out HB9.out
    clear HHl HK4 HR9
    cases BA <;> cases BB
    all_goals go_wp2_with (go_at_call 13; refine hL.mono ?_; rintro _ w10 ⟨rfl, hb10⟩; have HB10 := Lib.hid (HBA.out.trans ((HB9.out.trans (hb10.mono HB9.out.size)).mono HBA.out.size)); clear hb10)
    all_goals (go_ret; exact ⟨rfl, HB10.out⟩)
  · have e : decide (0 ≤ leftF (.cons c1 p1 (.cons c2 p2 .nil)) 3000) = false := decide_eq_false hfew
    rw [e] at hFew
    have HFew := Lib.hid hFew
    clear hFew hfew e HE HL
    go_enter Try.func4, Try.ntmps4
    go_upto_region 1 with fail
    rw [← HW.out]
    clear HW
    go_upto_region 2 with (first
      | (go_at_call 8; refine (hA _).mono ?_; rintro _ w2 ⟨rfl, hb2⟩; have HB2 := Lib.hid hb2; obtain ⟨z0, z1, z2, z3, z4, z5, z6, z7, z8, z9, z10, z11, z12, z13, z14, z15, z16, z17⟩ := HK.out _ HB2.out; clear hb2)
      | (go_at_call 9; refine (HFew.out _ HB2.out).mono ?_; rintro _ w3 ⟨rfl, hw3⟩; rw [hw3]; clear hw3 w3))
    clear z0 z1 z2 z3 z4 z5 z6 z7 z8 z9 z10 z11 z12 z13 z14 z15 z16 z17
    have HB3 := Lib.hid (HB2.out.alloc HB2.out.size (.cells #[.int .i64 c1.op, .string c1.nm, .string c1.sg, .int .i64 c1.k, .int .u64 (c1.b : Int), .string c1.t, .slice qa1 qn1 qc1, .int .i64 c2.op, .string c2.nm, .string c2.sg, .int .i64 c2.k, .int .u64 (c2.b : Int), .string c2.t, .slice qa2 qn2 qc2] 43))
    generalize w2.alloc (.cells #[.int .i64 c1.op, .string c1.nm, .string c1.sg, .int .i64 c1.k, .int .u64 (c1.b : Int), .string c1.t, .slice qa1 qn1 qc1, .int .i64 c2.op, .string c2.nm, .string c2.sg, .int .i64 c2.k, .int .u64 (c2.b : Int), .string c2.t, .slice qa2 qn2 qc2] 43) = w3 at *
    go_wp2_with (go_at_call 8; refine (hA _).mono ?_; rintro _ w4 ⟨rfl, hb4⟩; have HB4 := Lib.hid (HB3.out.trans (hb4.mono HB3.out.size)); clear hb4)
    go_ret
    exact ⟨rfl, HBA.out.trans (HB4.out.mono HBA.out.size)⟩
end Go.Proofs.Ytjifgipkfkhnpaa

