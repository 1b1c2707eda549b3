/- gristlaw04's awake returns true. -/
import Derived.Test.YtlcaaimaaalcpaaPackPack
namespace Go.Proofs.Ytlcaaimaaalcpaa
open Go.RowKit
set_option linter.unusedVariables false

theorem RdV.lit (w : World) (cs : Array Value) (e : TypeId) (n size : Nat) (hm : n ≤ maxLen) (hs : cs.size = n * size) : RdV (w.alloc (.cells cs e)) size (.slice (Option.some ⟨w.heap.size, 0, none⟩) n n) n cs.toList :=
  RdV.ofOwns (World.ownsRow_lit (base := 0) w cs n (Nat.zero_le _) hm hs)

theorem be8_eq (v : Nat) : be8 v = [UInt8.ofNat (v / 2 ^ 56), UInt8.ofNat (v / 2 ^ 48), UInt8.ofNat (v / 2 ^ 40), UInt8.ofNat (v / 2 ^ 32), UInt8.ofNat (v / 2 ^ 24), UInt8.ofNat (v / 2 ^ 16), UInt8.ofNat (v / 2 ^ 8), UInt8.ofNat (v / 2 ^ 0)] := by
  have e8 : part8 v 8 = be8 v := by unfold part8 be8; simp
  have e0 : part8 v 0 = [] := List.eq_nil_of_length_eq_zero (part8_len v 0)
  rw [← e8, part8_next v 7 (by omega), part8_next v 6 (by omega), part8_next v 5 (by omega), part8_next v 4 (by omega), part8_next v 3 (by omega), part8_next v 2 (by omega), part8_next v 1 (by omega), part8_next v 0 (by omega), e0]
  rfl

theorem awake_pk : pkA [1, 1, 0] = some [0, 0, 0, 0, 0, 0, 0, 3] := by
  have h : takeS [1, 1, 0] = some (0, 1) := by decide
  rw [pkA_some (by decide) h]
  have e : [1, 1, 0].drop (min (60 / 1) [1, 1, 0].length) = ([] : List Nat) := by decide
  have e2 : wordN 1 0 [1, 1, 0] = 3 := by decide
  rw [e, pkA_nil, e2, be8_eq]
  rfl

set_option maxHeartbeats 400000 in
theorem awake_any (w : World) :
    Calls Try.prog 7 #[] w fun e w' => e = .returned (.bool true) ∧ Below w.heap.size w w' := by
  have hn : Nums (w.alloc (.cells #[.int .u64 1, .int .u64 1, .int .u64 0] 29)) (.slice (some ⟨w.heap.size, 0, none⟩) 3 3) [1, 1, 0] := RdV.lit w _ _ 3 1 (by decide) rfl
  have hp := pack_any [1, 1, 0] _ _ (by decide) (by decide) hn
  have hb0 := Lib.hid ((Below.refl w.heap.size w).alloc (Nat.le_refl _) (.cells #[.int .u64 1, .int .u64 1, .int .u64 0] 29))
  rw [awake_pk] at hp
  go_enter Try.func7, Try.ntmps7
  go_wp2_with fail
  refine hp.mono ?_
  rintro e w1 ⟨hb, h⟩
  rcases h with ⟨h, _⟩ | ⟨bs, ao, cap, h1, _, rfl, ho⟩
  · cases h
  obtain rfl : [0, 0, 0, 0, 0, 0, 0, 3] = bs := by simpa using h1
  have hb1 := Lib.hid (hb0.out.trans (hb.mono hb0.out.size))
  obtain ⟨b, off, cap', he, hc⟩ := rdOne ho.rd 7 (by simp)
  simp only [Value.slice.injEq] at he
  obtain ⟨rfl, _, rfl⟩ := he
  clear hb hp hb0 ho hn h1
  have hc7 : w1.cell? ⟨b, off + 7, none⟩ = some (.int .u8 3) := hc
  clear hc
  go_wp2_with fail
  go_ret
  exact ⟨rfl, hb1.out⟩
end Go.Proofs.Ytlcaaimaaalcpaa
