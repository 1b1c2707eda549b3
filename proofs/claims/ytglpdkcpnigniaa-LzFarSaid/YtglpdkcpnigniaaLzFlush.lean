/- The contracts of the two flushes: bytes that stand for themselves, in pieces. -/
import Derived.Test.YtglpdkcpnigniaaLzPlain
import Derived.Test.YtglpdkcpnigniaaMem
import Derived.Test.YtglpdkcpnigniaaProg
import Derived.BigRegion
import Derived.Deep.LoopGhost
import Derived.Deep.DeepCutAuto
import Derived.Deep.QuietTactic
import Derived.BigQuiet
import Derived.Lib.Hide
import Derived.Deep.Light
import Derived.Deep.RegionHeld3
import Derived.StillTailTactics
namespace Go.Proofs.Ytglpdkcpnigniaa
open Go.RowKit
set_option linter.unusedVariables false

/-- These bytes are the call's own, from block base on. -/
def Own (w : World) (base : Nat) (v : Value) (bs : List UInt8) : Prop := w.ownsRow base 5 1 v bs.length (bs.map bV)
theorem Own.rd {w : World} {base : Nat} {v : Value} {bs : List UInt8} (h : Own w base v bs) : Rd w v bs := RdV.ofOwns h
theorem Own.mono {w : World} {base base' : Nat} {v : Value} {bs : List UInt8} (h : Own w base v bs) (hb : base' ≤ base) : Own w base' v bs := ownsRow_mono h hb
theorem Own.shape {w : World} {base : Nat} {v : Value} {bs : List UInt8} (h : Own w base v bs) : ∃ ao cap, v = .slice ao bs.length cap := ownsRow_shape h
theorem Own.nil (w : World) (base : Nat) : Own w base (.slice none 0 0) [] := World.ownsRow_nil _ _ _ _

theorem infoU8 : (Try.prog.info? 5).map (fun i => (i.zero, i.size, i.bytes)) = some (some (.int .u8 0), 1, 1) := by kernel_rfl

/-- What a call leaves that has added to a row of bytes. -/
def Added (w w' : World) (base : Nat) (v v' : Value) (bs : List UInt8) : Prop := Grew w w' base 5 1 v v' bs.length (bs.map bV)

theorem RdV.pre {w : World} {size n cap : Nat} {ao : Option Addr} {xs : List Value} (h : RdV w size (.slice ao n cap) n xs) (m : Nat) (hm : m ≤ n) : RdV w size (.slice ao m cap) m (xs.take (m * size)) := by
  obtain ⟨hlen, ao', cap', he, hn, hc, hz, hcell⟩ := h
  simp only [Value.slice.injEq, true_and] at he
  obtain ⟨rfl, rfl⟩ := he
  have e0 : m * size ≤ n * size := Nat.mul_le_mul_right _ hm
  refine ⟨by rw [List.length_take, hlen]; omega, _, _, rfl, by omega, hc, hz, fun a ha j u hu => ?_⟩
  have hj : j < m * size := by have := (List.getElem?_eq_some_iff.1 hu).1; rw [List.length_take] at this; omega
  rw [List.getElem?_take, if_pos hj] at hu
  exact hcell a ha j u hu

theorem Rd.pre {w : World} {cap : Nat} {ao : Option Addr} {xs : List UInt8} (h : Rd w (.slice ao xs.length cap) xs) (m : Nat) (hm : m ≤ xs.length) : Rd w (.slice ao m cap) (xs.take m) := by
  have := RdV.pre h.v m hm
  unfold Rd
  rw [List.length_take, Nat.min_eq_left hm, List.map_take]
  rw [Nat.mul_one] at this
  exact this

theorem pre_v {w : World} {cap : Nat} {ao : Option Addr} {xs : List UInt8} (h : Rd w (.slice ao xs.length cap) xs) (m : Nat) (hm : m ≤ xs.length) : RdV w 1 (.slice ao m cap) m ((xs.take m).map bV) := by
  have := RdV.pre h.v m hm
  rw [Nat.mul_one, ← List.map_take] at this
  exact this

theorem Rd.blk {w : World} {v : Value} {xs : List UInt8} (h : Rd w v xs) (h0 : 0 < xs.length) (k : Nat) (hk : v.ownBlock = some k) : k < w.heap.size := by
  obtain ⟨b, off, cap, rfl, _, _, hb, _⟩ := RdV.some h.v h0 (by decide)
  simp [Value.ownBlock] at hk
  omega

set_option maxHeartbeats 1000000 in
theorem rflush_any (v0 v1 : Value) (os ps : List UInt8) (base : Nat) (w : World) (hb : base ≤ w.heap.size) (hown : Own w base v0 os) (hr : Rd w v1 ps) (hd : ∀ k, v1.ownBlock = some k → v0.ownBlock ≠ some k)
    (hs : os.length + 2 * ps.length ≤ 140737488351232) :
    Calls Try.prog 13 #[v0, v1] w fun e w' => ∃ ao cap, e = .returned (.slice ao (os ++ flush ps).length cap) ∧ Added w w' base v0 (.slice ao (os ++ flush ps).length cap) (os ++ flush ps) := by
  obtain ⟨ao0, cap0, rfl⟩ := hown.shape
  obtain ⟨ao1, cap1, rfl, hn1, hm1⟩ := RdV.shape hr
  unfold maxLen at hm1
  go_enter Try.func13, Try.ntmps13
  go_wp2_with fail
  go_loopg [0, 1] ps.length (fun m s0 s1 wr => ∃ cs rs : List UInt8, ∃ ao cap ap cp, rs.length = m ∧ s0 = .slice ao cs.length cap ∧ s1 = .slice ap rs.length cp ∧ cs ++ flush rs = os ++ flush ps ∧ cs.length + 2 * rs.length ≤ os.length + 2 * ps.length ∧
    Hid (Added w wr base (.slice ao0 os.length cap0) (.slice ao cs.length cap) cs) ∧ Hid (Rd wr (.slice ap rs.length cp) rs) ∧ rs.length ≤ ps.length ∧ (∀ k, (Value.slice ap rs.length cp).ownBlock = some k → (Value.slice ao1 ps.length cap1).ownBlock = some k))
  case atStart => exact ⟨os, ps, ao0, cap0, ao1, cap1, rfl, rfl, rfl, rfl, Nat.le_refl _, Lib.hid (Grew.refl hown), Lib.hid hr, Nat.le_refl _, fun k h => h⟩
  case round =>
    obtain ⟨cs, rs, ao, cap, ap, cp, hm, rfl, rfl, heq, hle, hadd, hrd, hps, hblk⟩ := hrel
    by_cases h0 : gk = 0
    · subst h0
      obtain rfl : rs = [] := List.eq_nil_of_length_eq_zero hm
      rw [flush_nil, List.append_nil] at heq
      subst heq
      clear hm
      go_wp2_with fail
      go_ret
      exact ⟨ao, cap, rfl, hadd.out⟩
    · obtain ⟨n, hn⟩ : ∃ n, n = min 127 rs.length := ⟨_, rfl⟩
      have HFL := Lib.hid (flush_step rs n hn (by omega))
      have h1 : 0 < rs.length := by omega
      have hnl : n ≤ rs.length := by omega
      have hn127 : n ≤ 127 := by omega
      have HHN := Lib.hid hn
      clear hn
      go_upto_region 3 with fail
      rw [show (if (gk : Int) < 127 then (gk : Int) else 127) = (n : Int) by have := HHN.out; split <;> omega]
      have hod : Own wr.drew base (.slice ao cs.length cap) cs := hadd.out.owns
      have hcp : n ≤ cp := by obtain ⟨_, _, h, h2, _⟩ := RdV.shape hrd.out.v; simp at h; omega
      have hcpI : (n : Int) ≤ (cp : Int) := by omega
      have h63 : cs.length + 1 ≤ maxLen := by unfold maxLen; omega
      have hby : (cs.length + 1) * 1 ≤ 140737488355328 := by omega
      have hba : ∀ o, base ≤ (wr.drew.alloc o).heap.size := fun o => by have := hadd.out.grown.size; have e : wr.drew.heap.size = wr.heap.size := rfl; simp; omega
      have hcv : IntKind.u8.wrap (n : Int) = (n : Int) := by rw [IntKind.wrap_u8]; omega
      have hn1' : 1 ≤ n := by have := HHN.out; omega
      have hbl : ∀ k, (Value.slice ap rs.length cp).ownBlock = some k → k < w.heap.size := fun k hk => Rd.blk hr (by omega) k (hblk k hk)
      have hne : ∀ k, (Value.slice ap rs.length cp).ownBlock = some k → (Value.slice ao cs.length cap).ownBlock ≠ some k := fun k hk he => by
        rcases hadd.out.row k he with h | h
        · exact hd k (hblk k hk) h
        · have := hbl k hk; omega
      have HR := Lib.hid (show Rd wr.drew (.slice ap rs.length cp) rs from hrd.out.v.drew)
      have h63b : cs.length + 1 + n ≤ maxLen := by unfold maxLen; omega
      have hbyb : (cs.length + 1 + n) * 1 ≤ 140737488355328 := by omega
      have HH := Lib.hid heq
      have HE := Lib.hid (⟨hm, hnl, hle, hps⟩ : rs.length = gk ∧ n ≤ rs.length ∧ cs.length + 2 * rs.length ≤ os.length + 2 * ps.length ∧ rs.length ≤ ps.length)
      have hbs : base ≤ wr.drew.heap.size := Nat.le_trans hb hadd.out.grown.size
      have hws : w.heap.size ≤ wr.drew.heap.size := hadd.out.grown.size
      clear h0 hm hnl heq hle hn1 hm1 hps
      go_region_held3 (fun w' => True) (trivial)
          (first
            | ((refine step_append_rd (wr.drew.alloc _) rfl (.tmp 12) (.tmp 15) 22 rfl base 5 (.int .u8 0) 1 1 Try.underlying22 infoU8 rfl (by decide) (.slice ao cs.length cap) cs.length (cs.map bV) rfl (hod.alloc _) (.slice (some ⟨wr.drew.heap.size, 0, none⟩) 1 1) 1 [.int .u8 (n : Int)] rfl (RdV.one _ _ _) (one_one _ rfl) h63 hby (hba _) ?_; intro ao6 cap6 w6 hg6; have HG := Lib.hid hg6.ofAlloc; have HR6 := Lib.hid (show Rd w6 (.slice ap rs.length cp) rs from RdV.chg HR.out.v HG.out.chg hne); have hb6 := Nat.le_trans hbs HG.out.grown.size; clear hg6))
            | ((refine step_append_rd w6 rfl (.tmp 16) (.tmp 19) 22 rfl base 5 (.int .u8 0) 1 1 Try.underlying22 infoU8 rfl (by decide) (.slice ao6 (cs.length + 1) cap6) (cs.length + 1) (cs.map bV ++ [.int .u8 (n : Int)]) rfl HG.out.owns (.slice ap n cp) n ((rs.take n).map bV) rfl (pre_v HR6.out n HE.out.2.1) (bV_one _) h63b hbyb hb6 ?_; intro ao7 cap7 w7 hg7; have HG7 := Lib.hid hg7; have HR7 := Lib.hid (show Rd w7 (.slice ap rs.length cp) rs from RdV.chg HR6.out.v HG7.out.chg (fun k hk he => by
                rcases HG.out.row k he with h | h
                · exact hne k hk h
                · have := hbl k hk; omega)); clear hg7)))
      have hcp2 : n ≤ rs.length := HE.out.2.1
      have hcells := Lib.hid (show (((rs.map bV).drop n).take (rs.length - n)) = (rs.drop n).map bV by rw [List.take_of_length_le (by simp), List.map_drop])
      all_goals go_wp2_with (with_reducible refine wpList_slice_rd _ rfl (.tmp 21) (some (.tmp 22)) none 22 rfl 5 1 (.int .u8 0) 1 Try.underlying22 infoU8 _ _ _ _ rfl HR7.out.v n _ ?hb hcp2 (Nat.le_refl _) ?hk)
      case hb => exact bounds_lo _ _ _ _ hcp2
      case hk =>
        intro ao5 cap5 hr5 hb5
        rw [hcells.out] at hr5
        have HB5 := Lib.hid hb5
        have HN := Lib.hid (show rs.length - n = (rs.drop n).length by simp)
        rw [HN.out] at hr5
        have HR5 := Lib.hid hr5
        clear hr5 hb5
        go_wp2_with fail
        go_roundg (gk - n)
        case measure => go_light; have := HE.out.1; omega
        case rel =>
          go_light
          have hnn : (UInt8.ofNat n).toNat = n := by simp; omega
          have e1 : List.map bV cs ++ [Value.int IntKind.u8 ↑n] ++ List.map bV (List.take n rs) = (cs ++ (UInt8.ofNat n :: rs.take n)).map bV := by
            simp [bV]; omega
          have e2 : cs.length + 1 + n = (cs ++ (UInt8.ofNat n :: rs.take n)).length := by simp; omega
          have hg := HG7.out
          rw [e1, e2] at hg
          refine ⟨cs ++ (UInt8.ofNat n :: rs.take n), rs.drop n, ao7, cap7, ao5, cap5, by simp; have := HE.out.1; omega, by rw [e2], by rw [HN.out], ?_, ?_, Lib.hid (hadd.out.trans (Grew.ofDrew (HG.out.trans hg))), HR5, by simp; have := HE.out.2.2.2; omega, ?_⟩
          · rw [List.append_assoc, ← HFL.out]; exact HH.out
          · have := HE.out.2.2.1; have := HE.out.2.1; simp; omega
          · intro k hk
            rw [← HN.out] at hk
            exact hblk k (HB5.out k hk)
end Go.Proofs.Ytglpdkcpnigniaa
