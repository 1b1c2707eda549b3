/- A slice literal reads as its cells; the bytes of be8, one by one. -/
import Derived.Test.YtcgjbjiififkhaaPackPack
namespace Go.Proofs.Ytcgjbjiififkhaa
open Go.RowKit
set_option linter.unusedVariables false

theorem RdV.lit (w : World) (cs : Array Value) (e : TypeId) (n size : Nat) (hm : n ≤ maxLen) (hs : cs.size = n * size) : RdV (w.alloc (.cells cs e)) size (.slice (Option.some ⟨w.heap.size, 0, none⟩) n n) n cs.toList :=
  RdV.ofOwns (World.ownsRow_lit (base := 0) w cs n (Nat.zero_le _) hm hs)

theorem be8_eq (v : Nat) : be8 v = [UInt8.ofNat (v / 2 ^ 56), UInt8.ofNat (v / 2 ^ 48), UInt8.ofNat (v / 2 ^ 40), UInt8.ofNat (v / 2 ^ 32), UInt8.ofNat (v / 2 ^ 24), UInt8.ofNat (v / 2 ^ 16), UInt8.ofNat (v / 2 ^ 8), UInt8.ofNat (v / 2 ^ 0)] := by
  have e8 : part8 v 8 = be8 v := by unfold part8 be8; simp
  have e0 : part8 v 0 = [] := List.eq_nil_of_length_eq_zero (part8_len v 0)
  rw [← e8, part8_next v 7 (by omega), part8_next v 6 (by omega), part8_next v 5 (by omega), part8_next v 4 (by omega), part8_next v 3 (by omega), part8_next v 2 (by omega), part8_next v 1 (by omega), part8_next v 0 (by omega), e0]
  rfl

end Go.Proofs.Ytcgjbjiififkhaa
