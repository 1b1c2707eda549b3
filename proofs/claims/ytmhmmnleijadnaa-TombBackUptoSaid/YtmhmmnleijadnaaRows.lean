/-
  No cell of these rows narrows 'for every input' (looked for: loops, veiled, ifaces, maps, wideKeys, modest, calm, conditions, laid).
  DERIVED. THE GIVEN ROWS OF THIS SEAT. 6 by the template 'for every input the law returns true; each argument reads behind the call as it read before'; 0 by the template 'total and deterministic' (their statements: YtmhmmnleijadnaaTotals.lean).
  GIVEN WITH THE SEED: the statements are not yours to turn. If you find one false, say at which input.
  Laid BY PROGRAM, IN A SANDBOX (cutbox-rows.mjs): the forced cells as the released guide's own fill.sh prints them over the translation 7fbafc5f5c276b1c… (all of the seat's roots in one cut). By AI agents, Wed Nov 11 2026. No macro, syntax, notation, axiom, sorry.
-/
import Derived.Test.YtmhmmnleijadnaaChecked
import GoSem.Claim
import GoSem.ClaimJoined
import GoSem.ClaimMapViews
import Derived.JoinedTies
import Derived.KernelRfl
namespace Go.Proofs.Ytmhmmnleijadnaa
/- THE CELL 'sum', in the pinned program and in every row, IS THE sha256 OF THE DUMP (.gsa) THAT YtmhmmnleijadnaaProg.lean LOADS. Nothing in Lean hashes anything: it is a label: what it is worth is what the hold of that sum in a sandbox is worth. -/
noncomputable def Try.pinned : Pinned := { name := "ytmhmmnleijadnaa", sum := "7fbafc5f5c276b1ca15fbd72e03db9fc03098b0d0c084e86b02b97c72ed33095", checked := Try.checked }
namespace Rows
def none {H : Type} : Left H := { results := [], args := [] }

/-- 'gristlaw13.TombApplies': WHATEVER THE INPUT: true; the input reads as it did. -/
def tombAppliesSpec : ChangeSpec := { name := "tombApplies", fn := fun _ => fun
  | [d1, d2] => { results := [.lit (.bool true)], args := [d1, d2] }
  | _ => none }
def tombAppliesRow : OpenClaim := { program := "ytmhmmnleijadnaa", sum := "7fbafc5f5c276b1ca15fbd72e03db9fc03098b0d0c084e86b02b97c72ed33095", func := "grist/gristlaw13.TombApplies", spec := "tombApplies", unfollowed := true, recurses := true, apart := false }
def TombAppliesSaid : Prop := tombAppliesRow.holds Try.pinned (OpenSpec.ofChange tombAppliesSpec)

/-- ITS FALSE NEIGHBOUR: 'it returns false'. Refute it at one input. -/
def tombAppliesWrong : ChangeSpec := { name := "tombApplies", fn := fun _ => fun
  | [d1, d2] => { results := [.lit (.bool false)], args := [d1, d2] }
  | _ => none }
def TombAppliesWrongFalsely : Prop := tombAppliesRow.holds Try.pinned (OpenSpec.ofChange tombAppliesWrong)

/-- 'gristlaw13.TombCovers': WHATEVER THE INPUT: true; the input reads as it did. -/
def tombCoversSpec : ChangeSpec := { name := "tombCovers", fn := fun _ => fun
  | [d1, d2, d3, d4, d5] => { results := [.lit (.bool true)], args := [d1, d2, d3, d4, d5] }
  | _ => none }
def tombCoversRow : OpenClaim := { program := "ytmhmmnleijadnaa", sum := "7fbafc5f5c276b1ca15fbd72e03db9fc03098b0d0c084e86b02b97c72ed33095", func := "grist/gristlaw13.TombCovers", spec := "tombCovers", unfollowed := true, recurses := true, apart := false }
def TombCoversSaid : Prop := tombCoversRow.holds Try.pinned (OpenSpec.ofChange tombCoversSpec)

/-- ITS FALSE NEIGHBOUR: 'it returns false'. Refute it at one input. -/
def tombCoversWrong : ChangeSpec := { name := "tombCovers", fn := fun _ => fun
  | [d1, d2, d3, d4, d5] => { results := [.lit (.bool false)], args := [d1, d2, d3, d4, d5] }
  | _ => none }
def TombCoversWrongFalsely : Prop := tombCoversRow.holds Try.pinned (OpenSpec.ofChange tombCoversWrong)

/-- 'gristlaw13.TombTwice': WHATEVER THE INPUT: true; the input reads as it did. -/
def tombTwiceSpec : ChangeSpec := { name := "tombTwice", fn := fun _ => fun
  | [d1, d2] => { results := [.lit (.bool true)], args := [d1, d2] }
  | _ => none }
def tombTwiceRow : OpenClaim := { program := "ytmhmmnleijadnaa", sum := "7fbafc5f5c276b1ca15fbd72e03db9fc03098b0d0c084e86b02b97c72ed33095", func := "grist/gristlaw13.TombTwice", spec := "tombTwice", unfollowed := true, recurses := true, apart := false }
def TombTwiceSaid : Prop := tombTwiceRow.holds Try.pinned (OpenSpec.ofChange tombTwiceSpec)

/-- ITS FALSE NEIGHBOUR: 'it returns false'. Refute it at one input. -/
def tombTwiceWrong : ChangeSpec := { name := "tombTwice", fn := fun _ => fun
  | [d1, d2] => { results := [.lit (.bool false)], args := [d1, d2] }
  | _ => none }
def TombTwiceWrongFalsely : Prop := tombTwiceRow.holds Try.pinned (OpenSpec.ofChange tombTwiceWrong)

/-- 'gristlaw13.TombAll': WHATEVER THE INPUT: true; the input reads as it did. -/
def tombAllSpec : ChangeSpec := { name := "tombAll", fn := fun _ => fun
  | [d1, d2, d3] => { results := [.lit (.bool true)], args := [d1, d2, d3] }
  | _ => none }
def tombAllRow : OpenClaim := { program := "ytmhmmnleijadnaa", sum := "7fbafc5f5c276b1ca15fbd72e03db9fc03098b0d0c084e86b02b97c72ed33095", func := "grist/gristlaw13.TombAll", spec := "tombAll", unfollowed := true, recurses := true, apart := false }
def TombAllSaid : Prop := tombAllRow.holds Try.pinned (OpenSpec.ofChange tombAllSpec)

/-- ITS FALSE NEIGHBOUR: 'it returns false'. Refute it at one input. -/
def tombAllWrong : ChangeSpec := { name := "tombAll", fn := fun _ => fun
  | [d1, d2, d3] => { results := [.lit (.bool false)], args := [d1, d2, d3] }
  | _ => none }
def TombAllWrongFalsely : Prop := tombAllRow.holds Try.pinned (OpenSpec.ofChange tombAllWrong)

/-- 'gristlaw13.TombEncodes': WHATEVER THE INPUT: true; the input reads as it did. -/
def tombEncodesSpec : ChangeSpec := { name := "tombEncodes", fn := fun _ => fun
  | [d1, d2] => { results := [.lit (.bool true)], args := [d1, d2] }
  | _ => none }
def tombEncodesRow : OpenClaim := { program := "ytmhmmnleijadnaa", sum := "7fbafc5f5c276b1ca15fbd72e03db9fc03098b0d0c084e86b02b97c72ed33095", func := "grist/gristlaw13.TombEncodes", spec := "tombEncodes", unfollowed := true, recurses := true, apart := false }
def TombEncodesSaid : Prop := tombEncodesRow.holds Try.pinned (OpenSpec.ofChange tombEncodesSpec)

/-- ITS FALSE NEIGHBOUR: 'it returns false'. Refute it at one input. -/
def tombEncodesWrong : ChangeSpec := { name := "tombEncodes", fn := fun _ => fun
  | [d1, d2] => { results := [.lit (.bool false)], args := [d1, d2] }
  | _ => none }
def TombEncodesWrongFalsely : Prop := tombEncodesRow.holds Try.pinned (OpenSpec.ofChange tombEncodesWrong)

/-- 'gristlaw13.TombBack': WHATEVER THE INPUT: true; the input reads as it did. -/
def tombBackSpec : ChangeSpec := { name := "tombBack", fn := fun _ => fun
  | [d1, d2] => { results := [.lit (.bool true)], args := [d1, d2] }
  | _ => none }
def tombBackRow : OpenClaim := { program := "ytmhmmnleijadnaa", sum := "7fbafc5f5c276b1ca15fbd72e03db9fc03098b0d0c084e86b02b97c72ed33095", func := "grist/gristlaw13.TombBack", spec := "tombBack", unfollowed := true, recurses := true, apart := false }
def TombBackSaid : Prop := tombBackRow.holds Try.pinned (OpenSpec.ofChange tombBackSpec)

/-- ITS FALSE NEIGHBOUR: 'it returns false'. Refute it at one input. -/
def tombBackWrong : ChangeSpec := { name := "tombBack", fn := fun _ => fun
  | [d1, d2] => { results := [.lit (.bool false)], args := [d1, d2] }
  | _ => none }
def TombBackWrongFalsely : Prop := tombBackRow.holds Try.pinned (OpenSpec.ofChange tombBackWrong)

/- THE SECOND FORM. 'bulk': how many values and letters a reading holds, each counted each time it is reached (what is shared counts as often as it is met; a slice's spare places count too). A statement '..UptoSaid' is the law's where the arguments, and the package variables that the reading takes, are together of bulk at most 1048576: NARROWER than '..Said'. Prove '..Said' where nothing that the law and all that it calls make is longer than what came in: it says more and counts as full. Else prove '..UptoSaid'. A law counts once. -/
mutual
def uptoBulk {H : Type} : DataW H → Nat
  | .lit (.string bytes) => bytes.length + 1
  | .lit _ => 1
  | .nil => 1
  | .ptr d => uptoBulk d + 1
  | .slice elems spare => uptoBulkAll elems + uptoBulkAll spare + 1
  | .agg parts => uptoBulkAll parts + 1
  | .iface _ d => uptoBulk d + 1
  | .map entries => uptoBulkEntries entries + 1
  | .held _ => 1
def uptoBulkAll {H : Type} : List (DataW H) → Nat
  | [] => 0
  | d :: r => uptoBulk d + uptoBulkAll r
def uptoBulkEntries {H : Type} : List (Lit × DataW H) → Nat
  | [] => 0
  | x :: r => uptoBulkEntry x + uptoBulkEntries r
def uptoBulkEntry {H : Type} : Lit × DataW H → Nat
  | (.string bytes, d) => bytes.length + uptoBulk d + 1
  | (_, d) => uptoBulk d + 1
 end
def uptoSmall : (H : Type) → List (DataW H) → Bool := fun _ ds => decide (uptoBulkAll ds ≤ 1048576)
def OpenSpec.upto (s : _root_.Go.ChangeSpec) : _root_.Go.OpenSpec := { _root_.Go.OpenSpec.ofChange s with cond := some uptoSmall }

/-- 'gristlaw13.TombApplies', WHERE WHAT IT READS IS OF BULK AT MOST 1048576: true; the input reads as it did. -/
def tombAppliesUptoRow : OpenClaim := { program := "ytmhmmnleijadnaa", sum := "7fbafc5f5c276b1ca15fbd72e03db9fc03098b0d0c084e86b02b97c72ed33095", func := "grist/gristlaw13.TombApplies", spec := "tombApplies", unfollowed := true, recurses := true, apart := false, narrowed := true }
def TombAppliesUptoSaid : Prop := tombAppliesUptoRow.holds Try.pinned (OpenSpec.upto tombAppliesSpec)

/-- 'gristlaw13.TombCovers', WHERE WHAT IT READS IS OF BULK AT MOST 1048576: true; the input reads as it did. -/
def tombCoversUptoRow : OpenClaim := { program := "ytmhmmnleijadnaa", sum := "7fbafc5f5c276b1ca15fbd72e03db9fc03098b0d0c084e86b02b97c72ed33095", func := "grist/gristlaw13.TombCovers", spec := "tombCovers", unfollowed := true, recurses := true, apart := false, narrowed := true }
def TombCoversUptoSaid : Prop := tombCoversUptoRow.holds Try.pinned (OpenSpec.upto tombCoversSpec)

/-- 'gristlaw13.TombTwice', WHERE WHAT IT READS IS OF BULK AT MOST 1048576: true; the input reads as it did. -/
def tombTwiceUptoRow : OpenClaim := { program := "ytmhmmnleijadnaa", sum := "7fbafc5f5c276b1ca15fbd72e03db9fc03098b0d0c084e86b02b97c72ed33095", func := "grist/gristlaw13.TombTwice", spec := "tombTwice", unfollowed := true, recurses := true, apart := false, narrowed := true }
def TombTwiceUptoSaid : Prop := tombTwiceUptoRow.holds Try.pinned (OpenSpec.upto tombTwiceSpec)

/-- 'gristlaw13.TombAll', WHERE WHAT IT READS IS OF BULK AT MOST 1048576: true; the input reads as it did. -/
def tombAllUptoRow : OpenClaim := { program := "ytmhmmnleijadnaa", sum := "7fbafc5f5c276b1ca15fbd72e03db9fc03098b0d0c084e86b02b97c72ed33095", func := "grist/gristlaw13.TombAll", spec := "tombAll", unfollowed := true, recurses := true, apart := false, narrowed := true }
def TombAllUptoSaid : Prop := tombAllUptoRow.holds Try.pinned (OpenSpec.upto tombAllSpec)

/-- 'gristlaw13.TombEncodes', WHERE WHAT IT READS IS OF BULK AT MOST 1048576: true; the input reads as it did. -/
def tombEncodesUptoRow : OpenClaim := { program := "ytmhmmnleijadnaa", sum := "7fbafc5f5c276b1ca15fbd72e03db9fc03098b0d0c084e86b02b97c72ed33095", func := "grist/gristlaw13.TombEncodes", spec := "tombEncodes", unfollowed := true, recurses := true, apart := false, narrowed := true }
def TombEncodesUptoSaid : Prop := tombEncodesUptoRow.holds Try.pinned (OpenSpec.upto tombEncodesSpec)

/-- 'gristlaw13.TombBack', WHERE WHAT IT READS IS OF BULK AT MOST 1048576: true; the input reads as it did. -/
def tombBackUptoRow : OpenClaim := { program := "ytmhmmnleijadnaa", sum := "7fbafc5f5c276b1ca15fbd72e03db9fc03098b0d0c084e86b02b97c72ed33095", func := "grist/gristlaw13.TombBack", spec := "tombBack", unfollowed := true, recurses := true, apart := false, narrowed := true }
def TombBackUptoSaid : Prop := tombBackUptoRow.holds Try.pinned (OpenSpec.upto tombBackSpec)

end Rows
end Go.Proofs.Ytmhmmnleijadnaa
