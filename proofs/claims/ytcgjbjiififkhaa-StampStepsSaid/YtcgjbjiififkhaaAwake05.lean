/- gristlaw05's awake returns true; an Encode's result as bytes and an error; opening times. -/
import Derived.Test.YtcgjbjiififkhaaStEnc
import Derived.Test.YtcgjbjiififkhaaOpen
namespace Go.Proofs.Ytcgjbjiififkhaa
open Go.RowKit
set_option linter.unusedVariables false

def stO (l : List Int) : List UInt8 × Nat := match encS l with
  | none => ([], 1)
  | some bs => (bs, 0)
theorem stO_one {l : List Int} {w w' : World} {e : Ending} (h : StEnd l w e w') :
    Below w.heap.size w w' ∧ ∃ ao cap, e = .returned (.tuple #[.slice ao (stO l).1.length cap, .int .i64 ((stO l).2 : Int)]) ∧ Own w' w.heap.size (.slice ao (stO l).1.length cap) (stO l).1 ∧ (stO l).1.length ≤ 9000 := by
  refine ⟨h.1, ?_⟩
  unfold stO
  rcases h.2 with ⟨h1, rfl⟩ | ⟨bs, ao, cap, h1, h2, _, rfl, ho⟩
  · rw [h1]
    exact ⟨none, 0, rfl, Own.nil _ _, by simp⟩
  · rw [h1]
    exact ⟨ao, cap, rfl, ho, h2⟩

theorem awake05_enc : encS [0, 10, 20] = some (hdS 1 [0, 10, 20] ++ be8 10) := by
  rw [encS_some (by decide) (by decide) (by decide), encB_al (by decide)]
  rfl

set_option maxHeartbeats 400000 in
theorem awake05_any (w : World) :
    Calls Try.prog 8 #[] w fun e w' => e = .returned (.bool true) ∧ Below w.heap.size w w' := by
  have hn : Tms (w.alloc (.cells #[.int .i64 0, .int .i64 10, .int .i64 20] 2)) (.slice (some ⟨w.heap.size, 0, none⟩) 3 3) [0, 10, 20] := RdV.lit w _ _ 3 1 (by decide) rfl
  have hp := encode_any [0, 10, 20] _ _ (by intro t ht; unfold i64ok; simp at ht; omega) hn
  have hb0 := Lib.hid ((Below.refl w.heap.size w).alloc (Nat.le_refl _) (.cells #[.int .i64 0, .int .i64 10, .int .i64 20] 2))
  go_enter Try.func8, Try.ntmps8
  go_wp2_with fail
  refine hp.mono ?_
  rintro e w1 ⟨hb, h⟩
  rw [awake05_enc] at h
  rcases h with ⟨h, _⟩ | ⟨bs, ao, cap, h1, _, _, rfl, ho⟩
  · cases h
  obtain rfl : hdS 1 [0, 10, 20] ++ be8 10 = bs := by simpa using h1
  have hb1 := Lib.hid (hb0.out.trans (hb.mono hb0.out.size))
  have hlen : (hdS 1 [0, 10, 20] ++ be8 10).length = 19 := by rw [List.length_append, hdS_len, be8_len]
  obtain ⟨b, off, cap', he, hc⟩ := rdOne ho.rd 0 (by rw [hlen]; decide)
  simp only [Value.slice.injEq] at he
  obtain ⟨rfl, _, rfl⟩ := he
  have hc7 : w1.cell? ⟨b, off, none⟩ = some (.int .u8 1) := hc
  clear hb hp hb0 ho hn h1 hc
  generalize hdS 1 [0, 10, 20] ++ be8 10 = bs at *
  go_wp2_with fail
  go_ret
  exact ⟨rfl, hb1.out⟩

section
variable {H : Type} {enc : TypeId × Value → H} {W : World}
theorem open_times {v : Value} {b0 : Nat} {d : DataW H} {ps : List MemPlace} (o : Value.okWide Try.prog W .any b0 22 v) (h : DataW.Trod enc Try.prog W 0 (fun _ => true) true 22 v d ps) :
    ∃ l : List Int, Tms W v l ∧ (∀ x ∈ l, i64ok x) ∧ l.length + 1 ≤ Rows.uptoBulk d ∧ ((v = .slice none 0 0 ∧ d = .nil ∧ l = []) ∨ ∃ els sp, d = .slice els sp ∧ els.length = l.length) := by
  obtain ⟨xs, h1, h2, h3, h4⟩ := open_flat (fun x : Int => [tV x]) i64ok (fun _ => 1) Try.underlying22 (by kernel_rfl : Try.prog.cellsOf 2 = 1) (fun _ => rfl) (fun n cs y hy => by
    obtain ⟨m, rfl, rfl, hw⟩ := DataW.trod_int Try.underlying2 hy
    exact ⟨m, rfl, wf_i64' hw, by simp [Rows.uptoBulk]⟩) o h
  refine ⟨xs, ?_, h2, ?_, h4⟩
  · unfold Tms
    have : ∀ l : List Int, l.flatMap (fun x : Int => [tV x]) = l.map tV := fun l => by induction l <;> simp_all
    rw [← this]
    exact h1
  · have : ∀ l : List Int, (l.map fun _ => 1).sum = l.length := fun l => by induction l <;> simp_all <;> omega
    have := this xs
    omega
end
end Go.Proofs.Ytcgjbjiififkhaa
