/- Opening a []uint64. -/
import Derived.Test.YtlcaaimaaalcpaaOpen
import Derived.Test.YtlcaaimaaalcpaaTake
namespace Go.Proofs.Ytlcaaimaaalcpaa
open Go.RowKit
set_option linter.unusedVariables false
section
variable {H : Type} {enc : TypeId × Value → H} {W : World}

theorem open_nums {v : Value} {b0 : Nat} {d : DataW H} {ps : List MemPlace} (o : Value.okWide Try.prog W .any b0 22 v) (h : DataW.Trod enc Try.prog W 0 (fun _ => true) true 22 v d ps) :
    ∃ l : List Nat, Nums W v l ∧ (∀ x ∈ l, x < 18446744073709551616) ∧ l.length + 1 ≤ Rows.uptoBulk d ∧ ((v = .slice none 0 0 ∧ d = .nil ∧ l = []) ∨ ∃ els sp, d = .slice els sp ∧ els.length = l.length) := by
  obtain ⟨xs, h1, h2, h3, h4⟩ := open_flat (fun x : Nat => [uV x]) (fun n => n < 18446744073709551616) (fun _ => 1) Try.underlying22 (by kernel_rfl : Try.prog.cellsOf 29 = 1) (fun _ => rfl) (fun n cs y hy => by
    obtain ⟨m, rfl, rfl, hw⟩ := DataW.trod_int Try.underlying29 hy
    have hw2 := wf_u64' hw
    exact ⟨m.toNat, by unfold uV; rw [Int.toNat_of_nonneg hw2.1], by omega, by simp [Rows.uptoBulk]⟩) o h
  refine ⟨xs, ?_, h2, ?_, h4⟩
  · unfold Nums
    have : ∀ l : List Nat, l.flatMap (fun x : Nat => [uV x]) = l.map uV := fun l => by induction l <;> simp_all
    rw [← this]
    exact h1
  · have : ∀ l : List Nat, (l.map fun _ => 1).sum = l.length := fun l => by induction l <;> simp_all <;> omega
    have := this xs
    omega

theorem sized_nums {v : Value} {d : DataW H} {l : List Nat} (hsz : (DataW.weights Try.prog 22 d).all (· ≤ reachBytes) = true) (h : (v = .slice none 0 0 ∧ d = .nil ∧ l = []) ∨ ∃ els sp, d = .slice els sp ∧ els.length = l.length) : l.length ≤ 17592186044416 := by
  rcases h with ⟨_, _, rfl⟩ | ⟨els, sp, rfl, hl⟩
  · simp
  · have hb : Try.prog.bytesOf 29 = 8 := by kernel_rfl
    have := List.all_eq_true.1 hsz ((els.length + sp.length) * Try.prog.bytesOf 29) (by simp [DataW.weights, Try.underlying22])
    rw [hb] at this
    have t2 := of_decide_eq_true this
    have hr : reachBytes = 140737488351232 := by decide
    rw [hr] at t2
    omega
end
end Go.Proofs.Ytlcaaimaaalcpaa
