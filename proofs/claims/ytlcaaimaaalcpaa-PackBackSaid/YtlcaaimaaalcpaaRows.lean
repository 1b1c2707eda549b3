/-
  No cell of these rows narrows 'for every input' (looked for: loops, veiled, ifaces, maps, wideKeys, modest, calm, conditions, laid).
  DERIVED. THE GIVEN ROWS OF THIS SEAT. 4 by the template 'for every input the law returns true; each argument reads behind the call as it read before'; 0 by the template 'total and deterministic' (their statements: YtlcaaimaaalcpaaTotals.lean).
  GIVEN WITH THE SEED: the statements are not yours to turn. If you find one false, say at which input.
  Laid BY PROGRAM, IN A SANDBOX (cutbox-rows.mjs): the forced cells as the released guide's own fill.sh prints them over the translation e8ffc0d8965fa13f… (all of the seat's roots in one cut). By AI agents, Wed Nov 11 2026. No macro, syntax, notation, axiom, sorry.
-/
import Derived.Test.YtlcaaimaaalcpaaChecked
import GoSem.Claim
import GoSem.ClaimJoined
import GoSem.ClaimMapViews
import Derived.JoinedTies
import Derived.KernelRfl
namespace Go.Proofs.Ytlcaaimaaalcpaa
/- THE CELL 'sum', in the pinned program and in every row, IS THE sha256 OF THE DUMP (.gsa) THAT YtlcaaimaaalcpaaProg.lean LOADS. Nothing in Lean hashes anything: it is a label: what it is worth is what the hold of that sum in a sandbox is worth. -/
noncomputable def Try.pinned : Pinned := { name := "ytlcaaimaaalcpaa", sum := "e8ffc0d8965fa13f137d5a0d33266cdf023817dedde5ad1f7e5c6215432eb682", checked := Try.checked }
namespace Rows
def none {H : Type} : Left H := { results := [], args := [] }

/-- 'gristlaw04.PackPacks': WHATEVER THE INPUT: true; the input reads as it did. -/
def packPacksSpec : ChangeSpec := { name := "packPacks", fn := fun _ => fun
  | [d] => { results := [.lit (.bool true)], args := [d] }
  | _ => none }
def packPacksRow : OpenClaim := { program := "ytlcaaimaaalcpaa", sum := "e8ffc0d8965fa13f137d5a0d33266cdf023817dedde5ad1f7e5c6215432eb682", func := "grist/gristlaw04.PackPacks", spec := "packPacks", apart := false }
def PackPacksSaid : Prop := packPacksRow.holds Try.pinned (OpenSpec.ofChange packPacksSpec)

/-- ITS FALSE NEIGHBOUR: 'it returns false'. Refute it at one input. -/
def packPacksWrong : ChangeSpec := { name := "packPacks", fn := fun _ => fun
  | [d] => { results := [.lit (.bool false)], args := [d] }
  | _ => none }
def PackPacksWrongFalsely : Prop := packPacksRow.holds Try.pinned (OpenSpec.ofChange packPacksWrong)

/-- 'gristlaw04.PackWords': WHATEVER THE INPUT: true; the input reads as it did. -/
def packWordsSpec : ChangeSpec := { name := "packWords", fn := fun _ => fun
  | [d1, d2] => { results := [.lit (.bool true)], args := [d1, d2] }
  | _ => none }
def packWordsRow : OpenClaim := { program := "ytlcaaimaaalcpaa", sum := "e8ffc0d8965fa13f137d5a0d33266cdf023817dedde5ad1f7e5c6215432eb682", func := "grist/gristlaw04.PackWords", spec := "packWords", apart := false }
def PackWordsSaid : Prop := packWordsRow.holds Try.pinned (OpenSpec.ofChange packWordsSpec)

/-- ITS FALSE NEIGHBOUR: 'it returns false'. Refute it at one input. -/
def packWordsWrong : ChangeSpec := { name := "packWords", fn := fun _ => fun
  | [d1, d2] => { results := [.lit (.bool false)], args := [d1, d2] }
  | _ => none }
def PackWordsWrongFalsely : Prop := packWordsRow.holds Try.pinned (OpenSpec.ofChange packWordsWrong)

/-- 'gristlaw04.PackUnpacks': WHATEVER THE INPUT: true; the input reads as it did. -/
def packUnpacksSpec : ChangeSpec := { name := "packUnpacks", fn := fun _ => fun
  | [d1, d2] => { results := [.lit (.bool true)], args := [d1, d2] }
  | _ => none }
def packUnpacksRow : OpenClaim := { program := "ytlcaaimaaalcpaa", sum := "e8ffc0d8965fa13f137d5a0d33266cdf023817dedde5ad1f7e5c6215432eb682", func := "grist/gristlaw04.PackUnpacks", spec := "packUnpacks", apart := false }
def PackUnpacksSaid : Prop := packUnpacksRow.holds Try.pinned (OpenSpec.ofChange packUnpacksSpec)

/-- ITS FALSE NEIGHBOUR: 'it returns false'. Refute it at one input. -/
def packUnpacksWrong : ChangeSpec := { name := "packUnpacks", fn := fun _ => fun
  | [d1, d2] => { results := [.lit (.bool false)], args := [d1, d2] }
  | _ => none }
def PackUnpacksWrongFalsely : Prop := packUnpacksRow.holds Try.pinned (OpenSpec.ofChange packUnpacksWrong)

/-- 'gristlaw04.PackBack': WHATEVER THE INPUT: true; the input reads as it did. -/
def packBackSpec : ChangeSpec := { name := "packBack", fn := fun _ => fun
  | [d1, d2] => { results := [.lit (.bool true)], args := [d1, d2] }
  | _ => none }
def packBackRow : OpenClaim := { program := "ytlcaaimaaalcpaa", sum := "e8ffc0d8965fa13f137d5a0d33266cdf023817dedde5ad1f7e5c6215432eb682", func := "grist/gristlaw04.PackBack", spec := "packBack", apart := false }
def PackBackSaid : Prop := packBackRow.holds Try.pinned (OpenSpec.ofChange packBackSpec)

/-- ITS FALSE NEIGHBOUR: 'it returns false'. Refute it at one input. -/
def packBackWrong : ChangeSpec := { name := "packBack", fn := fun _ => fun
  | [d1, d2] => { results := [.lit (.bool false)], args := [d1, d2] }
  | _ => none }
def PackBackWrongFalsely : Prop := packBackRow.holds Try.pinned (OpenSpec.ofChange packBackWrong)

/- THE SECOND FORM. 'bulk': how many values and letters a reading holds, each counted each time it is reached (what is shared counts as often as it is met; a slice's spare places count too). A statement '..UptoSaid' is the law's where the arguments, and the package variables that the reading takes, are together of bulk at most 1048576: NARROWER than '..Said'. Prove '..Said' where nothing that the law and all that it calls make is longer than what came in: it says more and counts as full. Else prove '..UptoSaid'. A law counts once. -/
mutual
def uptoBulk {H : Type} : DataW H → Nat
  | .lit (.string bytes) => bytes.length + 1
  | .lit _ => 1
  | .nil => 1
  | .ptr d => uptoBulk d + 1
  | .slice elems spare => uptoBulkAll elems + uptoBulkAll spare + 1
  | .agg parts => uptoBulkAll parts + 1
  | .iface _ d => uptoBulk d + 1
  | .map entries => uptoBulkEntries entries + 1
  | .held _ => 1
def uptoBulkAll {H : Type} : List (DataW H) → Nat
  | [] => 0
  | d :: r => uptoBulk d + uptoBulkAll r
def uptoBulkEntries {H : Type} : List (Lit × DataW H) → Nat
  | [] => 0
  | x :: r => uptoBulkEntry x + uptoBulkEntries r
def uptoBulkEntry {H : Type} : Lit × DataW H → Nat
  | (.string bytes, d) => bytes.length + uptoBulk d + 1
  | (_, d) => uptoBulk d + 1
 end
def uptoSmall : (H : Type) → List (DataW H) → Bool := fun _ ds => decide (uptoBulkAll ds ≤ 1048576)
def OpenSpec.upto (s : _root_.Go.ChangeSpec) : _root_.Go.OpenSpec := { _root_.Go.OpenSpec.ofChange s with cond := some uptoSmall }

/-- 'gristlaw04.PackPacks', WHERE WHAT IT READS IS OF BULK AT MOST 1048576: true; the input reads as it did. -/
def packPacksUptoRow : OpenClaim := { program := "ytlcaaimaaalcpaa", sum := "e8ffc0d8965fa13f137d5a0d33266cdf023817dedde5ad1f7e5c6215432eb682", func := "grist/gristlaw04.PackPacks", spec := "packPacks", apart := false, narrowed := true }
def PackPacksUptoSaid : Prop := packPacksUptoRow.holds Try.pinned (OpenSpec.upto packPacksSpec)

/-- 'gristlaw04.PackWords', WHERE WHAT IT READS IS OF BULK AT MOST 1048576: true; the input reads as it did. -/
def packWordsUptoRow : OpenClaim := { program := "ytlcaaimaaalcpaa", sum := "e8ffc0d8965fa13f137d5a0d33266cdf023817dedde5ad1f7e5c6215432eb682", func := "grist/gristlaw04.PackWords", spec := "packWords", apart := false, narrowed := true }
def PackWordsUptoSaid : Prop := packWordsUptoRow.holds Try.pinned (OpenSpec.upto packWordsSpec)

/-- 'gristlaw04.PackUnpacks', WHERE WHAT IT READS IS OF BULK AT MOST 1048576: true; the input reads as it did. -/
def packUnpacksUptoRow : OpenClaim := { program := "ytlcaaimaaalcpaa", sum := "e8ffc0d8965fa13f137d5a0d33266cdf023817dedde5ad1f7e5c6215432eb682", func := "grist/gristlaw04.PackUnpacks", spec := "packUnpacks", apart := false, narrowed := true }
def PackUnpacksUptoSaid : Prop := packUnpacksUptoRow.holds Try.pinned (OpenSpec.upto packUnpacksSpec)

/-- 'gristlaw04.PackBack', WHERE WHAT IT READS IS OF BULK AT MOST 1048576: true; the input reads as it did. -/
def packBackUptoRow : OpenClaim := { program := "ytlcaaimaaalcpaa", sum := "e8ffc0d8965fa13f137d5a0d33266cdf023817dedde5ad1f7e5c6215432eb682", func := "grist/gristlaw04.PackBack", spec := "packBack", apart := false, narrowed := true }
def PackBackUptoSaid : Prop := packBackUptoRow.holds Try.pinned (OpenSpec.upto packBackSpec)

end Rows
end Go.Proofs.Ytlcaaimaaalcpaa
