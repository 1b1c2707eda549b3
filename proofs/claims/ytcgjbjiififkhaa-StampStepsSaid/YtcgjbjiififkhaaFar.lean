/- stamp.far: the distances of times. -/
import Derived.Test.YtcgjbjiififkhaaStPlain
namespace Go.Proofs.Ytcgjbjiififkhaa
open Go.RowKit
set_option linter.unusedVariables false

theorem infoI64 : (Try.prog.info? 2).map (fun i => (i.zero, i.size, i.bytes)) = some (some (.int .i64 0), 1, 8) := by kernel_rfl

theorem Tms.tail {w : World} {ao' : Option Addr} {cap' : Nat} {l : List Int} (h : RdV w 1 (.slice ao' (l.length - 1) cap') (l.length - 1) (List.take (l.length - 1) (l.map tV).tail)) : Tms w (.slice ao' (l.length - 1) cap') (l.drop 1) := by
  unfold Tms
  have e : (l.drop 1).length = l.length - 1 := by simp
  have e2 : List.take (l.length - 1) (l.map tV).tail = (l.drop 1).map tV := by rw [List.take_of_length_le (by simp)]; simp
  rw [e2] at h
  rw [e]
  exact h
theorem dropD (l : List Int) (k : Nat) : (l.drop 1).getD k 0 = l.getD (k + 1) 0 := by simp [List.getD_eq_getElem?_getD]

set_option maxHeartbeats 1000000 in
theorem far_any (l : List Int) (v : Value) (w : World) (h1 : l.length ≠ 0) (hl : l.length ≤ 1000) (hr : Tms w v l) :
    Calls Try.prog 19 #[v] w fun e w' => ∃ ao cap, e = .returned (.slice ao (l.length - 1) cap) ∧ OwnN w' w.heap.size (.slice ao (l.length - 1) cap) (upto (dAt l) (l.length - 1)) ∧ Below w.heap.size w w' := by
  obtain ⟨ao0, cap0, rfl, hnc, hcm⟩ := RdV.shape hr
  unfold maxLen at hcm
  have HR := Lib.hid hr
  have hb1 : 1 ≤ l.length := by omega
  have hrr : RdV w 1 (.slice ao0 l.length cap0) l.length (l.map tV) := hr
  clear hr
  go_enter Try.func19, Try.ntmps19
  go_wp2_with (with_reducible refine wpList_slice_at w w rfl (.tmp 6) (some (.const (.int .i64 1))) none 22 rfl 2 1 (.int .i64 0) 8 Try.underlying22 infoI64 _ _ _ _ rfl hrr 1 l.length ?hb hb1 (Nat.le_refl _) ?hk)
  case hb => exact bounds_lo _ _ .i64 1 hb1
  case hk =>
  intro ao1 cap1 hr1 _
  have HT := Lib.hid (Tms.tail hr1)
  obtain ⟨n, hn⟩ : ∃ n, n = l.length - 1 := ⟨_, rfl⟩
  rw [← hn] at HT ⊢
  have HN := Lib.hid hn
  have hn1 : n ≤ 999 := by omega
  have HDL : Hid ((l.drop 1).length = n) := Lib.hid (by rw [List.length_drop, hn])
  clear hr1 hrr hn
  go_wp2_with fail
  go_loopg [3, 9] n (fun m s3 s9 wr => ∃ (k : Nat) (ao : Option Addr) (cap : Nat), k + m = n ∧ s9 = .int .i64 (k : Int) ∧ s3 = .slice ao k cap ∧ Hid (OwnN wr w.heap.size (.slice ao k cap) (upto (dAt l) k)) ∧ Hid (Below w.heap.size w wr))
  case atStart => exact ⟨0, none, 0, by omega, rfl, rfl, Lib.hid (World.ownsRow_nil _ _ _ _), Lib.hid (Below.refl _ _)⟩
  case round =>
    obtain ⟨k, ao, cap, hk, rfl, rfl, HO, HB⟩ := hrel
    by_cases h0 : gk = 0
    · obtain rfl : k = n := by omega
      go_wp2_with fail
      go_ret
      rw [← HN.out]
      exact ⟨ao, cap, rfl, HO.out, HB.out⟩
    · have hkn : k < n := by omega
      obtain ⟨b, off, bcap, he, hb, hc⟩ := tm_at HR.out k (by have := HN.out; omega)
      obtain ⟨b2, off2, bcap2, he2, hb2, hc2⟩ := tm_at HT.out k (by rw [HDL.out]; exact hkn)
      simp only [Value.slice.injEq, true_and] at he he2
      obtain ⟨rfl, rfl⟩ := he
      obtain ⟨rfl, h9, rfl⟩ := he2
      clear h9
      have hd1 : wr.cell? ⟨b, off + k, none⟩ = some (.int .i64 (l.getD k 0)) := (HB.out.cell (p := ⟨b, off + k, none⟩) hb).trans hc
      have hd2 : wr.cell? ⟨b2, off2 + k, none⟩ = some (.int .i64 (l.getD (k + 1) 0)) := by
        rw [← dropD]; exact (HB.out.cell (p := ⟨b2, off2 + k, none⟩) hb2).trans hc2
      have hX : IntKind.u64.wrap (IntKind.u64.wrap (l.getD (k + 1) 0) - IntKind.u64.wrap (l.getD k 0)) = ((dAt l k : Nat) : Int) := by
        rw [u64_wrap (l.getD (k + 1) 0), u64_wrap (l.getD k 0), u64_wrap, uT_sub]; rfl
      have hnx := Lib.hid (upto_next (dAt l) k)
      have HKL : k < l.length := by have := HN.out; omega
      clear hc hc2 hb hb2
      generalize l.getD (k + 1) 0 = x at *
      generalize l.getD k 0 = y at *
      generalize dAt l k = D at *
      have hul : (upto (dAt l) k).length = k := upto_len _ _
      have hO1 : Hid (wr.ownsRow w.heap.size 37 1 (.slice ao k cap) k ((upto (dAt l) k).map uV)) := Lib.hid (by have := HO.out; unfold OwnN at this; rwa [hul] at this)
      have h63 : Hid (k + 1 ≤ maxLen) := Lib.hid (by unfold maxLen; omega)
      have hby : Hid ((k + 1) * 8 ≤ 140737488355328) := Lib.hid (by omega)
      have hba : Hid (∀ o, w.heap.size ≤ (wr.alloc o).heap.size) := Lib.hid (fun o => by have h6 := HB.out.size; have e2 : (wr.alloc o).heap.size = wr.heap.size + 1 := (by simp); omega)
      clear hul HO
      go_wp2_with (at_builtin; refine wpList_append_rd _ rfl (.tmp 14) (.tmp 23) 39 rfl w.heap.size 37 (.int .u64 0) 1 8 Try.underlying39 infoU64 rfl (by decide) (.slice ao k cap) k ((upto (dAt l) k).map uV) rfl (World.ownsRow.alloc hO1.out _) (.slice (some ⟨wr.heap.size, 0, none⟩) 1 1) 1 [uV D] rfl (RdV.one wr _ 37) (one_one _ rfl) h63.out hby.out (hba.out _) ?_; intro ao6 cap6 w6 hg6; have HG := Lib.hid hg6.ofAlloc; clear hg6)
      go_roundg (gk - 1)
      case measure => go_light; omega
      case rel =>
        go_light
        refine ⟨k + 1, ao6, cap6, by omega, by go_num, rfl, Lib.hid ?_, Lib.hid (HB.out.trans (HG.out.below HB.out.size (fun j hj => (World.ownsRow.lt hO1.out j hj).1)))⟩
        unfold OwnN
        rw [upto_len, hnx.out, List.map_append]
        exact HG.out.owns
end Go.Proofs.Ytcgjbjiififkhaa
