/-
  No cell of these rows narrows 'for every input' (looked for: loops, veiled, ifaces, maps, wideKeys, modest, calm, conditions, laid).
  DERIVED. THE GIVEN ROWS OF THIS SEAT. 3 by the template 'for every input the law returns true; each argument reads behind the call as it read before'; 0 by the template 'total and deterministic' (their statements: YtglpdkcpnigniaaTotals.lean).
  GIVEN WITH THE SEED: the statements are not yours to turn. If you find one false, say at which input.
  Laid BY PROGRAM, IN A SANDBOX (cutbox-rows.mjs): the forced cells as the released guide's own fill.sh prints them over the translation d73e2530342cc2a1… (all of the seat's roots in one cut). By AI agents, Wed Nov 11 2026. No macro, syntax, notation, axiom, sorry.
-/
import Derived.Test.YtglpdkcpnigniaaChecked
import GoSem.Claim
import GoSem.ClaimJoined
import GoSem.ClaimMapViews
import Derived.JoinedTies
import Derived.KernelRfl
namespace Go.Proofs.Ytglpdkcpnigniaa
/- THE CELL 'sum', in the pinned program and in every row, IS THE sha256 OF THE DUMP (.gsa) THAT YtglpdkcpnigniaaProg.lean LOADS. Nothing in Lean hashes anything: it is a label: what it is worth is what the hold of that sum in a sandbox is worth. -/
noncomputable def Try.pinned : Pinned := { name := "ytglpdkcpnigniaa", sum := "d73e2530342cc2a142ea4d8fe80c20f433cd177ade059ca0031f2afeed2f4bd0", checked := Try.checked }
namespace Rows
def none {H : Type} : Left H := { results := [], args := [] }

/-- 'gristlaw06.LzPacks': WHATEVER THE INPUT: true; the input reads as it did. -/
def lzPacksSpec : ChangeSpec := { name := "lzPacks", fn := fun _ => fun
  | [d] => { results := [.lit (.bool true)], args := [d] }
  | _ => none }
def lzPacksRow : OpenClaim := { program := "ytglpdkcpnigniaa", sum := "d73e2530342cc2a142ea4d8fe80c20f433cd177ade059ca0031f2afeed2f4bd0", func := "grist/gristlaw06.LzPacks", spec := "lzPacks", unfollowed := true, recurses := true, plainKeys := false, apart := false }
def LzPacksSaid : Prop := lzPacksRow.holds Try.pinned (OpenSpec.ofChange lzPacksSpec)

/-- ITS FALSE NEIGHBOUR: 'it returns false'. Refute it at one input. -/
def lzPacksWrong : ChangeSpec := { name := "lzPacks", fn := fun _ => fun
  | [d] => { results := [.lit (.bool false)], args := [d] }
  | _ => none }
def LzPacksWrongFalsely : Prop := lzPacksRow.holds Try.pinned (OpenSpec.ofChange lzPacksWrong)

/-- 'gristlaw06.LzRuns': WHATEVER THE INPUT: true; the input reads as it did. -/
def lzRunsSpec : ChangeSpec := { name := "lzRuns", fn := fun _ => fun
  | [d1, d2] => { results := [.lit (.bool true)], args := [d1, d2] }
  | _ => none }
def lzRunsRow : OpenClaim := { program := "ytglpdkcpnigniaa", sum := "d73e2530342cc2a142ea4d8fe80c20f433cd177ade059ca0031f2afeed2f4bd0", func := "grist/gristlaw06.LzRuns", spec := "lzRuns", unfollowed := true, recurses := true, plainKeys := false, apart := false }
def LzRunsSaid : Prop := lzRunsRow.holds Try.pinned (OpenSpec.ofChange lzRunsSpec)

/-- ITS FALSE NEIGHBOUR: 'it returns false'. Refute it at one input. -/
def lzRunsWrong : ChangeSpec := { name := "lzRuns", fn := fun _ => fun
  | [d1, d2] => { results := [.lit (.bool false)], args := [d1, d2] }
  | _ => none }
def LzRunsWrongFalsely : Prop := lzRunsRow.holds Try.pinned (OpenSpec.ofChange lzRunsWrong)

/-- 'gristlaw06.LzFar': WHATEVER THE INPUT: true; the input reads as it did. -/
def lzFarSpec : ChangeSpec := { name := "lzFar", fn := fun _ => fun
  | [d] => { results := [.lit (.bool true)], args := [d] }
  | _ => none }
def lzFarRow : OpenClaim := { program := "ytglpdkcpnigniaa", sum := "d73e2530342cc2a142ea4d8fe80c20f433cd177ade059ca0031f2afeed2f4bd0", func := "grist/gristlaw06.LzFar", spec := "lzFar", unfollowed := true, recurses := true, plainKeys := false, apart := false }
def LzFarSaid : Prop := lzFarRow.holds Try.pinned (OpenSpec.ofChange lzFarSpec)

/-- ITS FALSE NEIGHBOUR: 'it returns false'. Refute it at one input. -/
def lzFarWrong : ChangeSpec := { name := "lzFar", fn := fun _ => fun
  | [d] => { results := [.lit (.bool false)], args := [d] }
  | _ => none }
def LzFarWrongFalsely : Prop := lzFarRow.holds Try.pinned (OpenSpec.ofChange lzFarWrong)

/- THE SECOND FORM. 'bulk': how many values and letters a reading holds, each counted each time it is reached (what is shared counts as often as it is met; a slice's spare places count too). A statement '..UptoSaid' is the law's where the arguments, and the package variables that the reading takes, are together of bulk at most 1048576: NARROWER than '..Said'. Prove '..Said' where nothing that the law and all that it calls make is longer than what came in: it says more and counts as full. Else prove '..UptoSaid'. A law counts once. -/
mutual
def uptoBulk {H : Type} : DataW H → Nat
  | .lit (.string bytes) => bytes.length + 1
  | .lit _ => 1
  | .nil => 1
  | .ptr d => uptoBulk d + 1
  | .slice elems spare => uptoBulkAll elems + uptoBulkAll spare + 1
  | .agg parts => uptoBulkAll parts + 1
  | .iface _ d => uptoBulk d + 1
  | .map entries => uptoBulkEntries entries + 1
  | .held _ => 1
def uptoBulkAll {H : Type} : List (DataW H) → Nat
  | [] => 0
  | d :: r => uptoBulk d + uptoBulkAll r
def uptoBulkEntries {H : Type} : List (Lit × DataW H) → Nat
  | [] => 0
  | x :: r => uptoBulkEntry x + uptoBulkEntries r
def uptoBulkEntry {H : Type} : Lit × DataW H → Nat
  | (.string bytes, d) => bytes.length + uptoBulk d + 1
  | (_, d) => uptoBulk d + 1
 end
def uptoSmall : (H : Type) → List (DataW H) → Bool := fun _ ds => decide (uptoBulkAll ds ≤ 1048576)
def OpenSpec.upto (s : _root_.Go.ChangeSpec) : _root_.Go.OpenSpec := { _root_.Go.OpenSpec.ofChange s with cond := some uptoSmall }

/-- 'gristlaw06.LzPacks', WHERE WHAT IT READS IS OF BULK AT MOST 1048576: true; the input reads as it did. -/
def lzPacksUptoRow : OpenClaim := { program := "ytglpdkcpnigniaa", sum := "d73e2530342cc2a142ea4d8fe80c20f433cd177ade059ca0031f2afeed2f4bd0", func := "grist/gristlaw06.LzPacks", spec := "lzPacks", unfollowed := true, recurses := true, plainKeys := false, apart := false, narrowed := true }
def LzPacksUptoSaid : Prop := lzPacksUptoRow.holds Try.pinned (OpenSpec.upto lzPacksSpec)

/-- 'gristlaw06.LzRuns', WHERE WHAT IT READS IS OF BULK AT MOST 1048576: true; the input reads as it did. -/
def lzRunsUptoRow : OpenClaim := { program := "ytglpdkcpnigniaa", sum := "d73e2530342cc2a142ea4d8fe80c20f433cd177ade059ca0031f2afeed2f4bd0", func := "grist/gristlaw06.LzRuns", spec := "lzRuns", unfollowed := true, recurses := true, plainKeys := false, apart := false, narrowed := true }
def LzRunsUptoSaid : Prop := lzRunsUptoRow.holds Try.pinned (OpenSpec.upto lzRunsSpec)

/-- 'gristlaw06.LzFar', WHERE WHAT IT READS IS OF BULK AT MOST 1048576: true; the input reads as it did. -/
def lzFarUptoRow : OpenClaim := { program := "ytglpdkcpnigniaa", sum := "d73e2530342cc2a142ea4d8fe80c20f433cd177ade059ca0031f2afeed2f4bd0", func := "grist/gristlaw06.LzFar", spec := "lzFar", unfollowed := true, recurses := true, plainKeys := false, apart := false, narrowed := true }
def LzFarUptoSaid : Prop := lzFarUptoRow.holds Try.pinned (OpenSpec.upto lzFarSpec)

end Rows
end Go.Proofs.Ytglpdkcpnigniaa
