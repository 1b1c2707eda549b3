/- gristlaw04.same: true of two slices that read alike. -/
import Derived.Test.YtlcaaimaaalcpaaUnPlain
namespace Go.Proofs.Ytlcaaimaaalcpaa
open Go.RowKit
set_option linter.unusedVariables false

set_option maxHeartbeats 400000 in
theorem sameNums_any (l : List Nat) (a b : Value) (w : World) (hl : l.length ≤ 17592186044416) (ha : Nums w a l) (hb : Nums w b l) :
    Calls Try.prog 12 #[a, b] w fun e w' => e = .returned (.bool true) ∧ ∃ m, w' = w.drewN m := by
  obtain ⟨ao, ac, rfl, _, _⟩ := RdV.shape ha
  obtain ⟨bo, bc, rfl, _, _⟩ := RdV.shape hb
  go_enter Try.func12, Try.ntmps12
  go_wp2_with fail
  go_loopg [5, 13] l.length (fun m s5 s13 wr => ∃ k : Nat, k + m = l.length ∧ s13 = .int .i64 k ∧ ∃ q, wr = w.drewN q)
  case atStart => exact ⟨0, by omega, rfl, 0, rfl⟩
  case round =>
    obtain ⟨k, hk, rfl, q, rfl⟩ := hrel
    by_cases h0 : gk = 0
    · obtain rfl : k = l.length := by omega
      go_wp2_with fail
      go_ret
      exact ⟨rfl, q, rfl⟩
    · have hkl : k < l.length := by omega
      obtain ⟨b1, o1, c1, he1, _, hc1⟩ := num_at ha k hkl
      obtain ⟨b2, o2, c2, he2, _, hc2⟩ := num_at hb k hkl
      simp only [Value.slice.injEq, true_and] at he1 he2
      obtain ⟨rfl, rfl⟩ := he1
      obtain ⟨rfl, rfl⟩ := he2
      generalize l.getD k 0 = x at *
      go_upto_region 6 with fail
      go_quiet (fail)
      go_wp2_with fail
      go_roundg (gk - 1)
      case measure => go_light; omega
      case rel =>
        go_light
        exact ⟨k + 1, by omega, by go_num, _, rfl⟩
end Go.Proofs.Ytlcaaimaaalcpaa
