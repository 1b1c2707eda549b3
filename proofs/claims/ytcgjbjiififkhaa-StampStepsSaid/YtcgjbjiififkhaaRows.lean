/-
  No cell of these rows narrows 'for every input' (looked for: loops, veiled, ifaces, maps, wideKeys, modest, calm, conditions, laid).
  DERIVED. THE GIVEN ROWS OF THIS SEAT. 5 by the template 'for every input the law returns true; each argument reads behind the call as it read before'; 0 by the template 'total and deterministic' (their statements: YtcgjbjiififkhaaTotals.lean).
  GIVEN WITH THE SEED: the statements are not yours to turn. If you find one false, say at which input.
  Laid BY PROGRAM, IN A SANDBOX (cutbox-rows.mjs): the forced cells as the released guide's own fill.sh prints them over the translation fe90934f0ccd10fa… (all of the seat's roots in one cut). By AI agents, Wed Nov 11 2026. No macro, syntax, notation, axiom, sorry.
-/
import Derived.Test.YtcgjbjiififkhaaChecked
import GoSem.Claim
import GoSem.ClaimJoined
import GoSem.ClaimMapViews
import Derived.JoinedTies
import Derived.KernelRfl
namespace Go.Proofs.Ytcgjbjiififkhaa
/- THE CELL 'sum', in the pinned program and in every row, IS THE sha256 OF THE DUMP (.gsa) THAT YtcgjbjiififkhaaProg.lean LOADS. Nothing in Lean hashes anything: it is a label: what it is worth is what the hold of that sum in a sandbox is worth. -/
noncomputable def Try.pinned : Pinned := { name := "ytcgjbjiififkhaa", sum := "fe90934f0ccd10fa8abb2aaf6acea0e2f38433efbdafebaba3c783a546ac58c5", checked := Try.checked }
namespace Rows
def none {H : Type} : Left H := { results := [], args := [] }

/-- 'gristlaw05.StampEncodes': WHATEVER THE INPUT: true; the input reads as it did. -/
def stampEncodesSpec : ChangeSpec := { name := "stampEncodes", fn := fun _ => fun
  | [d] => { results := [.lit (.bool true)], args := [d] }
  | _ => none }
def stampEncodesRow : OpenClaim := { program := "ytcgjbjiififkhaa", sum := "fe90934f0ccd10fa8abb2aaf6acea0e2f38433efbdafebaba3c783a546ac58c5", func := "grist/gristlaw05.StampEncodes", spec := "stampEncodes", apart := false }
def StampEncodesSaid : Prop := stampEncodesRow.holds Try.pinned (OpenSpec.ofChange stampEncodesSpec)

/-- ITS FALSE NEIGHBOUR: 'it returns false'. Refute it at one input. -/
def stampEncodesWrong : ChangeSpec := { name := "stampEncodes", fn := fun _ => fun
  | [d] => { results := [.lit (.bool false)], args := [d] }
  | _ => none }
def StampEncodesWrongFalsely : Prop := stampEncodesRow.holds Try.pinned (OpenSpec.ofChange stampEncodesWrong)

/-- 'gristlaw05.StampLimits': WHATEVER THE INPUT: true; the input reads as it did. -/
def stampLimitsSpec : ChangeSpec := { name := "stampLimits", fn := fun _ => fun
  | [d1, d2] => { results := [.lit (.bool true)], args := [d1, d2] }
  | _ => none }
def stampLimitsRow : OpenClaim := { program := "ytcgjbjiififkhaa", sum := "fe90934f0ccd10fa8abb2aaf6acea0e2f38433efbdafebaba3c783a546ac58c5", func := "grist/gristlaw05.StampLimits", spec := "stampLimits", apart := false }
def StampLimitsSaid : Prop := stampLimitsRow.holds Try.pinned (OpenSpec.ofChange stampLimitsSpec)

/-- ITS FALSE NEIGHBOUR: 'it returns false'. Refute it at one input. -/
def stampLimitsWrong : ChangeSpec := { name := "stampLimits", fn := fun _ => fun
  | [d1, d2] => { results := [.lit (.bool false)], args := [d1, d2] }
  | _ => none }
def StampLimitsWrongFalsely : Prop := stampLimitsRow.holds Try.pinned (OpenSpec.ofChange stampLimitsWrong)

/-- 'gristlaw05.StampDecodes': WHATEVER THE INPUT: true; the input reads as it did. -/
def stampDecodesSpec : ChangeSpec := { name := "stampDecodes", fn := fun _ => fun
  | [d] => { results := [.lit (.bool true)], args := [d] }
  | _ => none }
def stampDecodesRow : OpenClaim := { program := "ytcgjbjiififkhaa", sum := "fe90934f0ccd10fa8abb2aaf6acea0e2f38433efbdafebaba3c783a546ac58c5", func := "grist/gristlaw05.StampDecodes", spec := "stampDecodes", apart := false }
def StampDecodesSaid : Prop := stampDecodesRow.holds Try.pinned (OpenSpec.ofChange stampDecodesSpec)

/-- ITS FALSE NEIGHBOUR: 'it returns false'. Refute it at one input. -/
def stampDecodesWrong : ChangeSpec := { name := "stampDecodes", fn := fun _ => fun
  | [d] => { results := [.lit (.bool false)], args := [d] }
  | _ => none }
def StampDecodesWrongFalsely : Prop := stampDecodesRow.holds Try.pinned (OpenSpec.ofChange stampDecodesWrong)

/-- 'gristlaw05.StampBack': WHATEVER THE INPUT: true; the input reads as it did. -/
def stampBackSpec : ChangeSpec := { name := "stampBack", fn := fun _ => fun
  | [d1, d2, d3] => { results := [.lit (.bool true)], args := [d1, d2, d3] }
  | _ => none }
def stampBackRow : OpenClaim := { program := "ytcgjbjiififkhaa", sum := "fe90934f0ccd10fa8abb2aaf6acea0e2f38433efbdafebaba3c783a546ac58c5", func := "grist/gristlaw05.StampBack", spec := "stampBack", apart := false }
def StampBackSaid : Prop := stampBackRow.holds Try.pinned (OpenSpec.ofChange stampBackSpec)

/-- ITS FALSE NEIGHBOUR: 'it returns false'. Refute it at one input. -/
def stampBackWrong : ChangeSpec := { name := "stampBack", fn := fun _ => fun
  | [d1, d2, d3] => { results := [.lit (.bool false)], args := [d1, d2, d3] }
  | _ => none }
def StampBackWrongFalsely : Prop := stampBackRow.holds Try.pinned (OpenSpec.ofChange stampBackWrong)

/-- 'gristlaw05.StampSteps': WHATEVER THE INPUT: true; the input reads as it did. -/
def stampStepsSpec : ChangeSpec := { name := "stampSteps", fn := fun _ => fun
  | [d1, d2, d3] => { results := [.lit (.bool true)], args := [d1, d2, d3] }
  | _ => none }
def stampStepsRow : OpenClaim := { program := "ytcgjbjiififkhaa", sum := "fe90934f0ccd10fa8abb2aaf6acea0e2f38433efbdafebaba3c783a546ac58c5", func := "grist/gristlaw05.StampSteps", spec := "stampSteps", apart := false }
def StampStepsSaid : Prop := stampStepsRow.holds Try.pinned (OpenSpec.ofChange stampStepsSpec)

/-- ITS FALSE NEIGHBOUR: 'it returns false'. Refute it at one input. -/
def stampStepsWrong : ChangeSpec := { name := "stampSteps", fn := fun _ => fun
  | [d1, d2, d3] => { results := [.lit (.bool false)], args := [d1, d2, d3] }
  | _ => none }
def StampStepsWrongFalsely : Prop := stampStepsRow.holds Try.pinned (OpenSpec.ofChange stampStepsWrong)

/- THE SECOND FORM. 'bulk': how many values and letters a reading holds, each counted each time it is reached (what is shared counts as often as it is met; a slice's spare places count too). A statement '..UptoSaid' is the law's where the arguments, and the package variables that the reading takes, are together of bulk at most 1048576: NARROWER than '..Said'. Prove '..Said' where nothing that the law and all that it calls make is longer than what came in: it says more and counts as full. Else prove '..UptoSaid'. A law counts once. -/
mutual
def uptoBulk {H : Type} : DataW H → Nat
  | .lit (.string bytes) => bytes.length + 1
  | .lit _ => 1
  | .nil => 1
  | .ptr d => uptoBulk d + 1
  | .slice elems spare => uptoBulkAll elems + uptoBulkAll spare + 1
  | .agg parts => uptoBulkAll parts + 1
  | .iface _ d => uptoBulk d + 1
  | .map entries => uptoBulkEntries entries + 1
  | .held _ => 1
def uptoBulkAll {H : Type} : List (DataW H) → Nat
  | [] => 0
  | d :: r => uptoBulk d + uptoBulkAll r
def uptoBulkEntries {H : Type} : List (Lit × DataW H) → Nat
  | [] => 0
  | x :: r => uptoBulkEntry x + uptoBulkEntries r
def uptoBulkEntry {H : Type} : Lit × DataW H → Nat
  | (.string bytes, d) => bytes.length + uptoBulk d + 1
  | (_, d) => uptoBulk d + 1
 end
def uptoSmall : (H : Type) → List (DataW H) → Bool := fun _ ds => decide (uptoBulkAll ds ≤ 1048576)
def OpenSpec.upto (s : _root_.Go.ChangeSpec) : _root_.Go.OpenSpec := { _root_.Go.OpenSpec.ofChange s with cond := some uptoSmall }

/-- 'gristlaw05.StampEncodes', WHERE WHAT IT READS IS OF BULK AT MOST 1048576: true; the input reads as it did. -/
def stampEncodesUptoRow : OpenClaim := { program := "ytcgjbjiififkhaa", sum := "fe90934f0ccd10fa8abb2aaf6acea0e2f38433efbdafebaba3c783a546ac58c5", func := "grist/gristlaw05.StampEncodes", spec := "stampEncodes", apart := false, narrowed := true }
def StampEncodesUptoSaid : Prop := stampEncodesUptoRow.holds Try.pinned (OpenSpec.upto stampEncodesSpec)

/-- 'gristlaw05.StampLimits', WHERE WHAT IT READS IS OF BULK AT MOST 1048576: true; the input reads as it did. -/
def stampLimitsUptoRow : OpenClaim := { program := "ytcgjbjiififkhaa", sum := "fe90934f0ccd10fa8abb2aaf6acea0e2f38433efbdafebaba3c783a546ac58c5", func := "grist/gristlaw05.StampLimits", spec := "stampLimits", apart := false, narrowed := true }
def StampLimitsUptoSaid : Prop := stampLimitsUptoRow.holds Try.pinned (OpenSpec.upto stampLimitsSpec)

/-- 'gristlaw05.StampDecodes', WHERE WHAT IT READS IS OF BULK AT MOST 1048576: true; the input reads as it did. -/
def stampDecodesUptoRow : OpenClaim := { program := "ytcgjbjiififkhaa", sum := "fe90934f0ccd10fa8abb2aaf6acea0e2f38433efbdafebaba3c783a546ac58c5", func := "grist/gristlaw05.StampDecodes", spec := "stampDecodes", apart := false, narrowed := true }
def StampDecodesUptoSaid : Prop := stampDecodesUptoRow.holds Try.pinned (OpenSpec.upto stampDecodesSpec)

/-- 'gristlaw05.StampBack', WHERE WHAT IT READS IS OF BULK AT MOST 1048576: true; the input reads as it did. -/
def stampBackUptoRow : OpenClaim := { program := "ytcgjbjiififkhaa", sum := "fe90934f0ccd10fa8abb2aaf6acea0e2f38433efbdafebaba3c783a546ac58c5", func := "grist/gristlaw05.StampBack", spec := "stampBack", apart := false, narrowed := true }
def StampBackUptoSaid : Prop := stampBackUptoRow.holds Try.pinned (OpenSpec.upto stampBackSpec)

/-- 'gristlaw05.StampSteps', WHERE WHAT IT READS IS OF BULK AT MOST 1048576: true; the input reads as it did. -/
def stampStepsUptoRow : OpenClaim := { program := "ytcgjbjiififkhaa", sum := "fe90934f0ccd10fa8abb2aaf6acea0e2f38433efbdafebaba3c783a546ac58c5", func := "grist/gristlaw05.StampSteps", spec := "stampSteps", apart := false, narrowed := true }
def StampStepsUptoSaid : Prop := stampStepsUptoRow.holds Try.pinned (OpenSpec.upto stampStepsSpec)

end Rows
end Go.Proofs.Ytcgjbjiififkhaa
