/- gristlaw19.Conds: the same conditions again, in memory of the call's own. -/
import Derived.Test.YtjifgipkfkhnpaaRSpan20
import Derived.Deep.RegionHeld3
namespace Go.Proofs.Ytjifgipkfkhnpaa
open Go.RowKit
set_option linter.unusedVariables false

/-- As Mt; and the parts lie in blocks of which P holds. -/
def MtP (P : Nat → Prop) (w : World) : Fo → List (Lf × Value) → Prop
  | .nil, xs => xs = []
  | .cons c p r, xs => ∃ pv ps xs', xs = (c, pv) :: xs' ∧ RdV w 7 pv ps.length (ps.flatMap lcells) ∧ (∀ b, pv.ownBlock = some b → P b) ∧ MtP P w p ps ∧ MtP P w r xs'
theorem MtP.mt {P : Nat → Prop} {w : World} : ∀ {F : Fo} {xs : List (Lf × Value)}, MtP P w F xs → Mt w F xs
  | .nil, xs, h => h
  | .cons c p r, xs, ⟨pv, ps, xs', h1, h2, _, h3, h4⟩ => ⟨pv, ps, xs', h1, h2, h3.mt, h4.mt⟩
theorem MtP.keep {P : Nat → Prop} {w w' : World} (hs : w.heap.size ≤ w'.heap.size) (hk : ∀ b, P b → b < w.heap.size → w'.heap[b]? = w.heap[b]?) : ∀ {F : Fo} {xs : List (Lf × Value)}, MtP P w F xs → MtP P w' F xs
  | .nil, xs, h => h
  | .cons c p r, xs, ⟨pv, ps, xs', h1, h2, h5, h3, h4⟩ => ⟨pv, ps, xs', h1, h2.keep hs (fun b hb => hk b (h5 b hb)), h5, MtP.keep hs hk h3, MtP.keep hs hk h4⟩
theorem MtP.mono {P Q : Nat → Prop} {w : World} (h : ∀ b, P b → Q b) : ∀ {F : Fo} {xs : List (Lf × Value)}, MtP P w F xs → MtP Q w F xs
  | .nil, xs, k => k
  | .cons c p r, xs, ⟨pv, ps, xs', h1, h2, h5, h3, h4⟩ => ⟨pv, ps, xs', h1, h2, fun b hb => h b (h5 b hb), MtP.mono h h3, MtP.mono h h4⟩
theorem MtP.app {P : Nat → Prop} {w : World} : ∀ {F G : Fo} {xs ys : List (Lf × Value)}, MtP P w F xs → MtP P w G ys → MtP P w (F.app G) (xs ++ ys)
  | .nil, G, xs, ys, h, k => by have h' : xs = [] := h; subst h'; exact k
  | .cons c p r, G, xs, ys, ⟨pv, ps, xs', h1, h2, h5, h3, h4⟩, k => ⟨pv, ps, xs' ++ ys, by rw [h1]; rfl, h2, h5, h3, MtP.app h4 k⟩
theorem MtP.one {P : Nat → Prop} {w : World} {c : Lf} {p : Fo} {pv : Value} {ps : List (Lf × Value)} (h2 : RdV w 7 pv ps.length (ps.flatMap lcells)) (h5 : ∀ b, pv.ownBlock = some b → P b) (h3 : MtP P w p ps) : MtP P w (.cons c p .nil) [(c, pv)] :=
  ⟨pv, ps, [], rfl, h2, h5, h3, rfl⟩

theorem infoCond : (Try.prog.info? 45).map (fun i => (i.zero, i.size, i.bytes)) = some (some (.agg #[.int .i64 0, .string .empty, .string .empty, .int .i64 0, .int .u64 0, .string .empty, .slice none 0 0]), 7, 96) := by kernel_rfl
theorem lc_one (c : Lf) (a : Option Addr) (n k : Nat) : ∀ u ∈ [Value.int .i64 c.op, .string c.nm, .string c.sg, .int .i64 c.k, .int .u64 (c.b : Int), .string c.t, .slice a n k], u.oneCell' = true := by
  intro u hu
  simp at hu
  rcases hu with rfl | rfl | rfl | rfl | rfl | rfl | rfl <;> rfl

theorem str_mk (l : List UInt8) (a : Array UInt8) (h : a.toList = l) : (ByteArray.mk a).toList = l := by rw [ByteArray.toList_eq, h]
/-- What Conds gives. -/
def CondsEnd (F : Fo) (w : World) (e : Ending) (w' : World) : Prop :=
  Below w.heap.size w w' ∧ ∃ ao cap, ∃ zs : List (Lf × Value), e = .returned (.slice ao F.len cap) ∧ zs.length = F.len ∧ w'.ownsRow w.heap.size 45 7 (.slice ao F.len cap) F.len (zs.flatMap lcells) ∧ MtP (fun b => w.heap.size ≤ b ∧ b < w'.heap.size) w' F zs

set_option maxHeartbeats 2000000 in
set_option maxRecDepth 100000 in
theorem conds_any : ∀ (j : Nat) (F : Fo) (v : Value) (w : World), F.sz < j → F.sz ≤ 3000 → RdF w v F → Calls Try.prog 11 #[v] w fun e w' => CondsEnd F w e w' := by
  intro j
  induction j with
  | zero => intro F v w h; omega
  | succ j ih =>
    intro F v w hj h3 hr
    obtain ⟨xs, hr, hm⟩ := hr
    have hlen := hm.len
    have hls := F.len_sz
    obtain ⟨ao0, cap0, rfl, hnc, hcm⟩ := RdV.shape hr
    unfold maxLen at hcm
    have HR := Lib.hid hr
    have HM := Lib.hid hm
    have HIH := Lib.hid ih
    have HL := Lib.hid hlen
    have hx3 : xs.length ≤ 3000 := by omega
    clear hr hm ih hlen hls
    go_enter Try.func11, Try.ntmps11
    go_wp2_with fail
    go_loopg [3, 4, 7] xs.length (fun m s3 s4 s7 wr => ∃ (k : Nat) (G R : Fo) (zs : List (Lf × Value)) (ao : Option Addr) (cap : Nat), k + m = xs.length ∧ s7 = .int .i64 (k : Int) ∧ s3 = .slice ao k cap ∧ Hid (Below w.heap.size w wr) ∧ Hid (Mt w R (xs.drop k)) ∧ R.sz < j + 1 ∧ R.sz ≤ 3000 ∧ Hid (G.app R = F) ∧ Hid (zs.length = k) ∧ Hid (G.len = k) ∧
      Hid (wr.ownsRow w.heap.size 45 7 (.slice ao k cap) k (zs.flatMap lcells)) ∧ Hid (MtP (fun b => w.heap.size ≤ b ∧ b < wr.heap.size ∧ (Value.slice ao k cap).ownBlock ≠ some b) wr G zs))
    case atStart => exact ⟨0, .nil, F, [], none, 0, by omega, rfl, rfl, Lib.hid (Below.refl _ _), Lib.hid (by rw [List.drop_zero]; exact HM.out), hj, h3, Lib.hid rfl, Lib.hid rfl, Lib.hid rfl, Lib.hid (World.ownsRow_nil _ _ _ _), Lib.hid rfl⟩
    case round =>
      obtain ⟨k, G, R, zs, ao1, cap1, hk, rfl, rfl, HB, HMR, hR1, hR2, HG, HZ, HGL, HO, HMP⟩ := hrel
      cases R with
      | nil =>
        obtain rfl := Mt.end HMR.out (by omega)
        have HE : Hid (CondsEnd F w (.returned (.slice ao1 xs.length cap1)) wr) := Lib.hid (by
          have e := HL.out
          have e2 : G = F := by have := HG.out; rwa [Fo.app_nil] at this
          refine ⟨HB.out, ao1, cap1, zs, by rw [e], by rw [HZ.out, e], ?_, ?_⟩
          · rw [← e]; exact HO.out
          · rw [← e2]; exact HMP.out.mono (fun b h => ⟨h.1, h.2.1⟩))
        clear HB HMR HG HZ HGL HO HMP
        go_wp2_with fail
        go_ret
        exact HE.out
      | cons c p r =>
        obtain ⟨hlt, pv, hx, hp, hmr⟩ := Mt.at HMR.out
        obtain ⟨b, off, cap', he, c0, c1, c2, c3, c4, c5, c6⟩ := cond_at HR.out k hlt
        simp only [Value.slice.injEq, true_and] at he
        obtain ⟨rfl, rfl⟩ := he
        rw [hx] at c0 c1 c2 c3 c4 c5 c6
        have hp' := hp
        obtain ⟨ys, hy, _⟩ := hp'
        obtain ⟨qa, qc, rfl, _, _⟩ := RdV.shape hy
        clear hy
        have hsz : p.sz < j ∧ r.sz < j + 1 ∧ p.sz ≤ 3000 ∧ r.sz ≤ 3000 := by simp only [Fo.sz] at hR1 hR2; omega
        have HMR2 := Lib.hid hmr
        have HC := Lib.hid (fun (w1 : World) (h : Below w.heap.size w w1) => HIH.out p _ w1 hsz.1 hsz.2.2.1 (hp.below h))
        have hr1 := hsz.2.1
        have hr2 := hsz.2.2.2
        have HG2 : Hid ((G.app (.cons c p .nil)).app r = F) := Lib.hid (by rw [Fo.app_assoc]; exact HG.out)
        have hbs : b < w.heap.size := World.block_lt_of_cell? w _ c0
        obtain ⟨op, nm, sg, kd, bb, tt⟩ := c
        dsimp only at c0 c1 c2 c3 c4 c5 c6
        have hkeep : ∀ w' : World, (w'.cell? ⟨b, off + k * 7, none⟩ = w.cell? ⟨b, off + k * 7, none⟩ ∧ True) → True := fun _ _ => trivial
        have hS : ∀ w' : World, Below w.heap.size w w' → w'.cell? ⟨b, off + k * 7, none⟩ = some (.int .i64 op) ∧ w'.cell? ⟨b, off + k * 7 + 1, none⟩ = some (.string nm) ∧ w'.cell? ⟨b, off + k * 7 + 2, none⟩ = some (.string sg) ∧ w'.cell? ⟨b, off + k * 7 + 3, none⟩ = some (.int .i64 kd) ∧ w'.cell? ⟨b, off + k * 7 + 4, none⟩ = some (.int .u64 (bb : Int)) ∧ w'.cell? ⟨b, off + k * 7 + 5, none⟩ = some (.string tt) ∧ w'.cell? ⟨b, off + k * 7 + 6, none⟩ = some (.slice qa ys.length qc) := fun w' h =>
          have q : ∀ (bk o : Nat) (u : Value), w.cell? ⟨bk, o, none⟩ = some u → w'.cell? ⟨bk, o, none⟩ = some u := fun bk o u q => (h.cell (World.block_lt_of_cell? _ _ q)).trans q
          ⟨q _ _ _ c0, q _ _ _ c1, q _ _ _ c2, q _ _ _ c3, q _ _ _ c4, q _ _ _ c5, q _ _ _ c6⟩
        have hB0 : Below w.heap.size w wr.drew := HB.out.drew
        have h63 : k + 1 ≤ maxLen := by unfold maxLen; omega
        have hby : (k + 1) * 96 ≤ 140737488355328 := by omega
        clear hkeep c0 c1 c2 c3 c4 c5 c6 hx hp hmr hR1 hR2 hsz HMR HG HM
        go_upto_region 5 with fail
        go_region_held3 (fun w' => w'.cell? ⟨b, off + k * 7, none⟩ = some (.int .i64 op) ∧ w'.cell? ⟨b, off + k * 7 + 1, none⟩ = some (.string nm) ∧ w'.cell? ⟨b, off + k * 7 + 2, none⟩ = some (.string sg) ∧ w'.cell? ⟨b, off + k * 7 + 3, none⟩ = some (.int .i64 kd) ∧ w'.cell? ⟨b, off + k * 7 + 4, none⟩ = some (.int .u64 (bb : Int)) ∧ w'.cell? ⟨b, off + k * 7 + 5, none⟩ = some (.string tt) ∧ w'.cell? ⟨b, off + k * 7 + 6, none⟩ = some (.slice qa ys.length qc))
          (first
            | exact hS _ hB0
            | exact hS _ hB1
            | exact hS _ (hB1.alloc hB1.size _)
            | exact hS _ hB6)
          (first
            | (go_at_call 11; refine (HC.out _ hB0).mono ?_; rintro _ w1 ⟨hb1, ao2, cap2, zs2, rfl, hz2, ho2, hm2⟩; have hB1 : Below w.heap.size w w1 := hB0.trans (hb1.mono hB0.size); have HB1 := Lib.hid hb1; have HZ2 := Lib.hid hz2; have HO2 := Lib.hid ho2; have HM2 := Lib.hid hm2; have HO1 : Hid (w1.ownsRow w.heap.size 45 7 (.slice ao1 k cap1) k (zs.flatMap lcells)) := Lib.hid ((Chg.ofBelowAny (S := fun _ => False) hb1).owns HO.out (fun _ _ h => h)); have hba : ∀ o, w.heap.size ≤ (w1.alloc o).heap.size := (fun o => by have := hB1.size; simp; omega); clear hb1 hz2 ho2 hm2)
            | (refine step_append_rd (w1.alloc _) rfl (.tmp 10) (.tmp 38) 34 rfl w.heap.size 45 (.agg #[.int .i64 0, .string .empty, .string .empty, .int .i64 0, .int .u64 0, .string .empty, .slice none 0 0]) 7 96 Try.underlying34 infoCond rfl (by decide) (.slice ao1 k cap1) k (zs.flatMap lcells) rfl (HO1.out.alloc _) (.slice (some ⟨w1.heap.size, 0, none⟩) 1 1) 1 [.int .i64 op, .string nm, .string sg, .int .i64 kd, .int .u64 (bb : Int), .string tt, .slice ao2 p.len cap2] rfl (RdV.lit _ _ _ 1 7 (by decide) rfl) (lc_one ⟨op, nm, sg, kd, bb, tt⟩ _ _ _) h63 hby (hba _) ?_; intro ao6 cap6 w6 hg6; have HG6 := Lib.hid hg6.ofAlloc; have hB6 : Below w.heap.size w w6 := hB1.trans (HG6.out.below hB1.size (fun i hi => (HO1.out.lt i hi).1)); clear hg6))
        have HB6 := Lib.hid hB6
        have HB1' := Lib.hid hB1
        clear hS hB0 hB1 hB6 h63 hby hba HC
        go_wp2_with fail
        go_roundg (gk - 1)
        case measure => go_light; omega
        case rel =>
          go_light
          have hsz1 : wr.heap.size ≤ w1.heap.size := HB1.out.size
          have hsz6 : w1.heap.size ≤ w6.heap.size := HG6.out.grown.size
          have hg := HG6.out
          have hch : ∀ b, b < w1.heap.size → (Value.slice ao1 k cap1).ownBlock ≠ some b → w6.heap[b]? = w1.heap[b]? := fun b hb hn => hg.chg.block b hb (fun h => hn h)
          have hch1 : ∀ b, b < wr.heap.size → w1.heap[b]? = wr.heap[b]? := fun b hb => HB1.out.block b hb
          have hown6 : ∀ b, b < w1.heap.size → (Value.slice ao1 k cap1).ownBlock ≠ some b → (Value.slice ao6 (k + 1) cap6).ownBlock ≠ some b := fun b hb hn h => by
            rcases hg.row b h with h2 | h2
            · exact hn h2
            · omega
          have hoff : ∀ b, wr.heap.size ≤ b → (Value.slice ao1 k cap1).ownBlock ≠ some b := fun b hb h => by
            have := (HO.out.lt b h).2; omega
          have hpl : ∀ b, (Value.slice ao2 p.len cap2).ownBlock = some b → wr.heap.size ≤ b ∧ b < w1.heap.size := fun b h => HO2.out.lt b h
          have hrd : RdV w6 7 (.slice ao2 p.len cap2) zs2.length (zs2.flatMap lcells) := by
            rw [HZ2.out]
            exact (RdV.ofOwns HO2.out).keep hsz6 (fun b hb hl => hch b hl (hoff b (hpl b hb).1))
          have hwr := HB.out.size
          refine ⟨k + 1, G.app (.cons ⟨op, nm, sg, kd, bb, tt⟩ p .nil), r, zs ++ [(⟨op, nm, sg, kd, bb, tt⟩, .slice ao2 p.len cap2)], ao6, cap6, by omega, by go_num, rfl, HB6, HMR2, hr1, hr2, HG2, Lib.hid (by rw [List.length_append, HZ.out]; rfl), Lib.hid (by rw [Fo.app_len, HGL.out]; rfl), Lib.hid (by rw [List.flatMap_append]; exact hg.owns), Lib.hid (MtP.app ?_ (MtP.one hrd ?_ ?_))⟩
          · exact (HMP.out.keep (Nat.le_trans hsz1 hsz6) (fun b hb _ => by rw [hch b (by omega) hb.2.2, hch1 b hb.2.1])).mono (fun b hb => ⟨hb.1, by omega, hown6 b (by omega) hb.2.2⟩)
          · intro b hb
            have h2 := hpl b hb
            exact ⟨by omega, by omega, hown6 b h2.2 (hoff b h2.1)⟩
          · exact (HM2.out.keep hsz6 (fun b hb _ => hch b hb.2 (hoff b hb.1))).mono (fun b hb => ⟨Nat.le_trans hwr hb.1, by omega, hown6 b hb.2 (hoff b hb.1)⟩)
end Go.Proofs.Ytjifgipkfkhnpaa
