/- The contracts of gristref03's Bits.Put and Of: bits as bytes of their own, one behind the other. -/
import Derived.Test.YtnocfepkjhdliaaWriter
namespace Go.Proofs.Ytnocfepkjhdliaa
open Go.RowKit

theorem bit_num (x k : Nat) (hx : x < 18446744073709551616) : Go.bits .and .u64 ((x : Int) / 2 ^ k) 1 % 256 = ((b01 ((x / 2 ^ k).testBit 0)).toNat : Int) := by
  have e : ((x : Int) / 2 ^ k) = ((x / 2 ^ k : Nat) : Int) := by simp
  have hd : x / 2 ^ k < 18446744073709551616 := Nat.lt_of_le_of_lt (Nat.div_le_self _ _) hx
  have h := u64_and_nat (x / 2 ^ k) 1 hd (by omega)
  rw [nat_mask1] at h
  rw [e, show (1 : Int) = ((1 : Nat) : Int) from rfl, h, b01_testBit]
  omega

theorem rput_step {x gk N base cap0 cap cap1 : Nat} {bs cur : List UInt8} {ao0 ao ao1 : Option Addr} {w wr w1 : World} {o : Obj} (hx : x < 18446744073709551616)
    (hcur : bs ++ (bitsOf (x / 2 ^ gk) (N - gk)).map b01 = cur) (hnext : bitsOf (x / 2 ^ (gk - 1)) (N - (gk - 1)) = bitsOf (x / 2 ^ gk) (N - gk) ++ [(x / 2 ^ (gk - 1)).testBit 0])
    (hg : Grew w wr base 5 1 (.slice ao0 bs.length cap0) (.slice ao cur.length cap) cur.length (cur.map bV))
    (hg1 : Grew (wr.alloc o) w1 base 5 1 (.slice ao cur.length cap) (.slice ao1 (cur.length + 1) cap1) (cur.length + 1) (cur.map bV ++ [.int .u8 (Go.bits .and .u64 ((x : Int) / 2 ^ (gk - 1)) 1 % 256)])) :
    Value.slice ao1 (cur.length + 1) cap1 = .slice ao1 (bs ++ (bitsOf (x / 2 ^ (gk - 1)) (N - (gk - 1))).map b01).length cap1 ∧
      Grew w w1 base 5 1 (.slice ao0 bs.length cap0) (.slice ao1 (bs ++ (bitsOf (x / 2 ^ (gk - 1)) (N - (gk - 1))).map b01).length cap1) (bs ++ (bitsOf (x / 2 ^ (gk - 1)) (N - (gk - 1))).map b01).length ((bs ++ (bitsOf (x / 2 ^ (gk - 1)) (N - (gk - 1))).map b01).map bV) := by
  have e : bs ++ (bitsOf (x / 2 ^ (gk - 1)) (N - (gk - 1))).map b01 = cur ++ [b01 ((x / 2 ^ (gk - 1)).testBit 0)] := by rw [hnext, ← hcur]; simp
  have e2 : cur.map bV ++ [.int .u8 (Go.bits .and .u64 ((x : Int) / 2 ^ (gk - 1)) 1 % 256)] = (cur ++ [b01 ((x / 2 ^ (gk - 1)).testBit 0)]).map bV := by rw [bit_num x _ hx]; simp [bV]
  have e3 : (cur ++ [b01 ((x / 2 ^ (gk - 1)).testBit 0)]).length = cur.length + 1 := by simp
  rw [e, e3, ← e2]
  exact ⟨rfl, hg.trans hg1.ofAlloc⟩

set_option maxHeartbeats 400000 in
theorem rput_any (x : Nat) (hx : x < 18446744073709551616) (n : Int) (hn : -9223372036854775808 ≤ n ∧ n ≤ 9223372036854775807) (N : Nat) (hN : (N : Int) = min (max n 0) 64) (base : Nat) (v : Value) (bs : List UInt8) (w : World) (hb : base ≤ w.heap.size) (hl : bs.length ≤ 140737488355200) (hown : Own w base v bs) :
    Calls Try.prog 16 #[v, .int .u64 x, .int .i64 n] w fun e w' => ∃ ao cap, e = .returned (.slice ao (bs ++ (bitsOf x N).map b01).length cap) ∧
      Grew w w' base 5 1 v (.slice ao (bs ++ (bitsOf x N).map b01).length cap) (bs ++ (bitsOf x N).map b01).length ((bs ++ (bitsOf x N).map b01).map bV) := by
  have hN64 : N ≤ 64 := by omega
  obtain ⟨ao0, cap0, rfl⟩ := hown.shape
  have HN := Lib.hid hN
  clear hN
  go_enter Try.func16, Try.ntmps16
  go_upto_region 1 with fail
  go_cut [7] (fun s7 wx => wx = w ∧ s7 = .int .i64 ((N : Int) - 1))
  case first =>
    go_wp2_with fail
    all_goals go_meet
    all_goals
      have HN' := HN.out
      go_light
      first
        | exact ⟨rfl, by congr 1; omega⟩
  case rest =>
    obtain ⟨rfl, rfl⟩ := hcut
    go_wp2_with fail
    go_loopg [0, 7] N (fun k s0 s7 wr => k ≤ N ∧ s7 = .int .i64 ((k : Int) - 1) ∧ ∃ ao cap, s0 = .slice ao (bs ++ (bitsOf (x / 2 ^ k) (N - k)).map b01).length cap ∧
      Grew wc wr base 5 1 (.slice ao0 bs.length cap0) (.slice ao (bs ++ (bitsOf (x / 2 ^ k) (N - k)).map b01).length cap) (bs ++ (bitsOf (x / 2 ^ k) (N - k)).map b01).length ((bs ++ (bitsOf (x / 2 ^ k) (N - k)).map b01).map bV))
    case atStart => exact ⟨Nat.le_refl _, rfl, ao0, cap0, by simp [bitsOf], by simpa [bitsOf] using Grew.refl hown⟩
    case round =>
      obtain ⟨hk, rfl, ao, cap, rfl, hg⟩ := hrel
      clear hown
      have hcl : (bs ++ (bitsOf (x / 2 ^ gk) (N - gk)).map b01).length ≤ 140737488355264 := by simp; omega
      by_cases h0 : gk = 0
      · subst h0
        have HG := Lib.hid hg
        clear hg
        go_wp2
        go_ret
        have hg := HG.out
        simp only [Nat.pow_zero, Nat.div_one, Nat.sub_zero] at hg ⊢
        exact ⟨ao, cap, rfl, hg⟩
      · have hnext := bitsOf_next x N gk (by omega) hk
        generalize hcur : bs ++ (bitsOf (x / 2 ^ gk) (N - gk)).map b01 = cur at hg hcl
        have HC := Lib.hid hcur
        have HX := Lib.hid hnext
        have HG := Lib.hid hg
        have hown := hg.owns
        have h63 : cur.length + 1 ≤ maxLen := by unfold maxLen; omega
        have hby : (cur.length + 1) * 1 ≤ 140737488355328 := by omega
        have hba : ∀ o, base ≤ (wr.alloc o).heap.size := fun o => by have := hg.grown.size; simp; omega
        clear hcur hnext hg
        go_wp2_with (at_builtin; refine wpList_append_rd _ rfl (.tmp 16) (.tmp 23) 31 rfl base 5 (.int .u8 0) 1 1 Try.underlying31 infoU8 rfl (by decide) _ _ _ rfl (hown.alloc _) (.slice (some ⟨wr.heap.size, 0, none⟩) 1 1) 1 [.int .u8 (Go.bits .and .u64 ((x : Int) / 2 ^ (gk - 1)) 1 % 256)] rfl (RdV.one _ _ _) (one_one _ rfl) h63 hby (hba _) ?_; intro ao1 cap1 w1 hg1)
        have HG1 := Lib.hid hg1
        clear hg1 hown hba
        go_wp2
        go_roundg (gk - 1)
        case measure => go_light; omega
        case rel =>
          go_light
          exact ⟨by omega, by congr 1; omega, ao1, cap1, rput_step hx HC.out HX.out HG.out HG1.out⟩
end Go.Proofs.Ytnocfepkjhdliaa
