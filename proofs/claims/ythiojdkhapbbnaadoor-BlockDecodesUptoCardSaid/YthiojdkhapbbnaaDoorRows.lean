/-
  NARROWER THAN 'FOR EVERY INPUT', by the rows' own cells (each row's printed sentence says how): BlockEncodes: laid · BlockSums: laid · BlockBack: laid · BlockMany: laid · BlockDecodes: laid.
  DERIVED. THE GIVEN ROWS OF THIS SEAT. 5 by the template 'for every input the law returns true; each argument reads behind the call as it read before'; 0 by the template 'total and deterministic' (their statements: YthiojdkhapbbnaaDoorTotals.lean).
  GIVEN WITH THE SEED: the statements are not yours to turn. If you find one false, say at which input.
  Laid BY PROGRAM, IN A SANDBOX (cutbox-rows.mjs): the forced cells as the released guide's own fill.sh prints them over the translation f29eed2b153a4b42… (all of the seat's roots in one cut). By AI agents, Wed Nov 11 2026. No macro, syntax, notation, axiom, sorry.
-/
import Derived.Test.YthiojdkhapbbnaaDoorChecked
import GoSem.Claim
import GoSem.ClaimJoined
import GoSem.ClaimMapViews
import Derived.JoinedTies
import Derived.KernelRfl
namespace Go.Proofs.YthiojdkhapbbnaaDoor
/- THE CELL 'sum', in the pinned program and in every row, IS THE sha256 OF THE DUMP (.gsa) THAT YthiojdkhapbbnaaDoorProg.lean LOADS. Nothing in Lean hashes anything: it is a label: what it is worth is what the hold of that sum in a sandbox is worth. -/
noncomputable def Tryd.pinned : Pinned := { name := "ythiojdkhapbbnaadoor", sum := "f29eed2b153a4b425fbf5d71fa77677772cfd574d45f40827906d5d8f4f2edce", checked := Tryd.checked }
namespace Rows
def none {H : Type} : Left H := { results := [], args := [] }

/- WHAT THE LISTED PACKAGE-LEVEL VARIABLES READ AS WHEN THE CALL BEGINS. Each datum BY PROGRAM (the guide's laid-datum.mjs) off the statement by which the dump's own 'gosem.cut.vars' lays the variable. In a bare row this is a premise. The card (YthiojdkhapbbnaaDoorCards.lean) ties it to the program's text. -/
def laid_math_bits_deBruijn64tab {H : Type} : DataW H := .agg [.lit (.int .u8 0), .lit (.int .u8 1), .lit (.int .u8 56), .lit (.int .u8 2), .lit (.int .u8 57), .lit (.int .u8 49), .lit (.int .u8 28), .lit (.int .u8 3), .lit (.int .u8 61), .lit (.int .u8 58), .lit (.int .u8 42), .lit (.int .u8 50), .lit (.int .u8 38), .lit (.int .u8 29), .lit (.int .u8 17), .lit (.int .u8 4), .lit (.int .u8 62), .lit (.int .u8 47), .lit (.int .u8 59), .lit (.int .u8 36), .lit (.int .u8 45), .lit (.int .u8 43), .lit (.int .u8 51), .lit (.int .u8 22), .lit (.int .u8 53), .lit (.int .u8 39), .lit (.int .u8 33), .lit (.int .u8 30), .lit (.int .u8 24), .lit (.int .u8 18), .lit (.int .u8 12), .lit (.int .u8 5), .lit (.int .u8 63), .lit (.int .u8 55), .lit (.int .u8 48), .lit (.int .u8 27), .lit (.int .u8 60), .lit (.int .u8 41), .lit (.int .u8 37), .lit (.int .u8 16), .lit (.int .u8 46), .lit (.int .u8 35), .lit (.int .u8 44), .lit (.int .u8 21), .lit (.int .u8 52), .lit (.int .u8 32), .lit (.int .u8 23), .lit (.int .u8 11), .lit (.int .u8 54), .lit (.int .u8 26), .lit (.int .u8 40), .lit (.int .u8 15), .lit (.int .u8 34), .lit (.int .u8 20), .lit (.int .u8 31), .lit (.int .u8 10), .lit (.int .u8 25), .lit (.int .u8 14), .lit (.int .u8 19), .lit (.int .u8 9), .lit (.int .u8 13), .lit (.int .u8 8), .lit (.int .u8 7), .lit (.int .u8 6)]

/-- 'gristlaw08.BlockEncodes': WHATEVER THE INPUT: true; the input reads as it did. -/
def blockEncodesSpec : ChangeSpec := { name := "blockEncodes", fn := fun _ => fun
  | [d] => { results := [.lit (.bool true)], args := [d] }
  | _ => none }
def blockEncodesRow : OpenClaim := { program := "ythiojdkhapbbnaadoor", sum := "f29eed2b153a4b425fbf5d71fa77677772cfd574d45f40827906d5d8f4f2edce", func := "grist/gristlaw08.BlockEncodes", spec := "blockEncodes", inPlace := ["math.Float64frombits", "math.Float64bits"], unfollowed := true, recurses := true, named := ["math/bits.deBruijn64tab"], plainKeys := false, apart := false, laid := [("math/bits.deBruijn64tab", laid_math_bits_deBruijn64tab)] }
def BlockEncodesSaid : Prop := blockEncodesRow.holds Tryd.pinned (OpenSpec.ofChange blockEncodesSpec)

/-- ITS FALSE NEIGHBOUR: 'it returns false'. Refute it at one input. -/
def blockEncodesWrong : ChangeSpec := { name := "blockEncodes", fn := fun _ => fun
  | [d] => { results := [.lit (.bool false)], args := [d] }
  | _ => none }
def BlockEncodesWrongFalsely : Prop := blockEncodesRow.holds Tryd.pinned (OpenSpec.ofChange blockEncodesWrong)

/-- 'gristlaw08.BlockSums': WHATEVER THE INPUT: true; the input reads as it did. -/
def blockSumsSpec : ChangeSpec := { name := "blockSums", fn := fun _ => fun
  | [d1, d2, d3] => { results := [.lit (.bool true)], args := [d1, d2, d3] }
  | _ => none }
def blockSumsRow : OpenClaim := { program := "ythiojdkhapbbnaadoor", sum := "f29eed2b153a4b425fbf5d71fa77677772cfd574d45f40827906d5d8f4f2edce", func := "grist/gristlaw08.BlockSums", spec := "blockSums", inPlace := ["math.Float64frombits", "math.Float64bits"], unfollowed := true, recurses := true, named := ["math/bits.deBruijn64tab"], plainKeys := false, apart := false, laid := [("math/bits.deBruijn64tab", laid_math_bits_deBruijn64tab)] }
def BlockSumsSaid : Prop := blockSumsRow.holds Tryd.pinned (OpenSpec.ofChange blockSumsSpec)

/-- ITS FALSE NEIGHBOUR: 'it returns false'. Refute it at one input. -/
def blockSumsWrong : ChangeSpec := { name := "blockSums", fn := fun _ => fun
  | [d1, d2, d3] => { results := [.lit (.bool false)], args := [d1, d2, d3] }
  | _ => none }
def BlockSumsWrongFalsely : Prop := blockSumsRow.holds Tryd.pinned (OpenSpec.ofChange blockSumsWrong)

/-- 'gristlaw08.BlockBack': WHATEVER THE INPUT: true; the input reads as it did. -/
def blockBackSpec : ChangeSpec := { name := "blockBack", fn := fun _ => fun
  | [d1, d2, d3] => { results := [.lit (.bool true)], args := [d1, d2, d3] }
  | _ => none }
def blockBackRow : OpenClaim := { program := "ythiojdkhapbbnaadoor", sum := "f29eed2b153a4b425fbf5d71fa77677772cfd574d45f40827906d5d8f4f2edce", func := "grist/gristlaw08.BlockBack", spec := "blockBack", inPlace := ["math.Float64frombits", "math.Float64bits"], unfollowed := true, recurses := true, named := ["math/bits.deBruijn64tab"], plainKeys := false, apart := false, laid := [("math/bits.deBruijn64tab", laid_math_bits_deBruijn64tab)] }
def BlockBackSaid : Prop := blockBackRow.holds Tryd.pinned (OpenSpec.ofChange blockBackSpec)

/-- ITS FALSE NEIGHBOUR: 'it returns false'. Refute it at one input. -/
def blockBackWrong : ChangeSpec := { name := "blockBack", fn := fun _ => fun
  | [d1, d2, d3] => { results := [.lit (.bool false)], args := [d1, d2, d3] }
  | _ => none }
def BlockBackWrongFalsely : Prop := blockBackRow.holds Tryd.pinned (OpenSpec.ofChange blockBackWrong)

/-- 'gristlaw08.BlockMany': WHATEVER THE INPUT: true; the input reads as it did. -/
def blockManySpec : ChangeSpec := { name := "blockMany", fn := fun _ => fun
  | [d1, d2, d3] => { results := [.lit (.bool true)], args := [d1, d2, d3] }
  | _ => none }
def blockManyRow : OpenClaim := { program := "ythiojdkhapbbnaadoor", sum := "f29eed2b153a4b425fbf5d71fa77677772cfd574d45f40827906d5d8f4f2edce", func := "grist/gristlaw08.BlockMany", spec := "blockMany", inPlace := ["math.Float64frombits", "math.Float64bits"], unfollowed := true, recurses := true, named := ["math/bits.deBruijn64tab"], plainKeys := false, apart := false, laid := [("math/bits.deBruijn64tab", laid_math_bits_deBruijn64tab)] }
def BlockManySaid : Prop := blockManyRow.holds Tryd.pinned (OpenSpec.ofChange blockManySpec)

/-- ITS FALSE NEIGHBOUR: 'it returns false'. Refute it at one input. -/
def blockManyWrong : ChangeSpec := { name := "blockMany", fn := fun _ => fun
  | [d1, d2, d3] => { results := [.lit (.bool false)], args := [d1, d2, d3] }
  | _ => none }
def BlockManyWrongFalsely : Prop := blockManyRow.holds Tryd.pinned (OpenSpec.ofChange blockManyWrong)

/-- 'gristlaw08.BlockDecodes': WHATEVER THE INPUT: true; the input reads as it did. -/
def blockDecodesSpec : ChangeSpec := { name := "blockDecodes", fn := fun _ => fun
  | [d] => { results := [.lit (.bool true)], args := [d] }
  | _ => none }
def blockDecodesRow : OpenClaim := { program := "ythiojdkhapbbnaadoor", sum := "f29eed2b153a4b425fbf5d71fa77677772cfd574d45f40827906d5d8f4f2edce", func := "grist/gristlaw08.BlockDecodes", spec := "blockDecodes", inPlace := ["math.Float64frombits", "math.Float64bits"], unfollowed := true, recurses := true, named := ["math/bits.deBruijn64tab"], plainKeys := false, apart := false, laid := [("math/bits.deBruijn64tab", laid_math_bits_deBruijn64tab)] }
def BlockDecodesSaid : Prop := blockDecodesRow.holds Tryd.pinned (OpenSpec.ofChange blockDecodesSpec)

/-- ITS FALSE NEIGHBOUR: 'it returns false'. Refute it at one input. -/
def blockDecodesWrong : ChangeSpec := { name := "blockDecodes", fn := fun _ => fun
  | [d] => { results := [.lit (.bool false)], args := [d] }
  | _ => none }
def BlockDecodesWrongFalsely : Prop := blockDecodesRow.holds Tryd.pinned (OpenSpec.ofChange blockDecodesWrong)

/- THE SECOND FORM. 'bulk': how many values and letters a reading holds, each counted each time it is reached (what is shared counts as often as it is met; a slice's spare places count too). A statement '..UptoSaid' is the law's where the arguments, and the package variables that the reading takes, are together of bulk at most 1048576: NARROWER than '..Said'. Prove '..Said' where nothing that the law and all that it calls make is longer than what came in: it says more and counts as full. Else prove '..UptoSaid'. A law counts once. -/
mutual
def uptoBulk {H : Type} : DataW H → Nat
  | .lit (.string bytes) => bytes.length + 1
  | .lit _ => 1
  | .nil => 1
  | .ptr d => uptoBulk d + 1
  | .slice elems spare => uptoBulkAll elems + uptoBulkAll spare + 1
  | .agg parts => uptoBulkAll parts + 1
  | .iface _ d => uptoBulk d + 1
  | .map entries => uptoBulkEntries entries + 1
  | .held _ => 1
def uptoBulkAll {H : Type} : List (DataW H) → Nat
  | [] => 0
  | d :: r => uptoBulk d + uptoBulkAll r
def uptoBulkEntries {H : Type} : List (Lit × DataW H) → Nat
  | [] => 0
  | x :: r => uptoBulkEntry x + uptoBulkEntries r
def uptoBulkEntry {H : Type} : Lit × DataW H → Nat
  | (.string bytes, d) => bytes.length + uptoBulk d + 1
  | (_, d) => uptoBulk d + 1
 end
def uptoSmall : (H : Type) → List (DataW H) → Bool := fun _ ds => decide (uptoBulkAll ds ≤ 1048576)
def OpenSpec.upto (s : _root_.Go.ChangeSpec) : _root_.Go.OpenSpec := { _root_.Go.OpenSpec.ofChange s with cond := some uptoSmall }

/-- 'gristlaw08.BlockEncodes', WHERE WHAT IT READS IS OF BULK AT MOST 1048576: true; the input reads as it did. -/
def blockEncodesUptoRow : OpenClaim := { program := "ythiojdkhapbbnaadoor", sum := "f29eed2b153a4b425fbf5d71fa77677772cfd574d45f40827906d5d8f4f2edce", func := "grist/gristlaw08.BlockEncodes", spec := "blockEncodes", inPlace := ["math.Float64frombits", "math.Float64bits"], unfollowed := true, recurses := true, named := ["math/bits.deBruijn64tab"], plainKeys := false, apart := false, laid := [("math/bits.deBruijn64tab", laid_math_bits_deBruijn64tab)], narrowed := true }
def BlockEncodesUptoSaid : Prop := blockEncodesUptoRow.holds Tryd.pinned (OpenSpec.upto blockEncodesSpec)

/-- 'gristlaw08.BlockSums', WHERE WHAT IT READS IS OF BULK AT MOST 1048576: true; the input reads as it did. -/
def blockSumsUptoRow : OpenClaim := { program := "ythiojdkhapbbnaadoor", sum := "f29eed2b153a4b425fbf5d71fa77677772cfd574d45f40827906d5d8f4f2edce", func := "grist/gristlaw08.BlockSums", spec := "blockSums", inPlace := ["math.Float64frombits", "math.Float64bits"], unfollowed := true, recurses := true, named := ["math/bits.deBruijn64tab"], plainKeys := false, apart := false, laid := [("math/bits.deBruijn64tab", laid_math_bits_deBruijn64tab)], narrowed := true }
def BlockSumsUptoSaid : Prop := blockSumsUptoRow.holds Tryd.pinned (OpenSpec.upto blockSumsSpec)

/-- 'gristlaw08.BlockBack', WHERE WHAT IT READS IS OF BULK AT MOST 1048576: true; the input reads as it did. -/
def blockBackUptoRow : OpenClaim := { program := "ythiojdkhapbbnaadoor", sum := "f29eed2b153a4b425fbf5d71fa77677772cfd574d45f40827906d5d8f4f2edce", func := "grist/gristlaw08.BlockBack", spec := "blockBack", inPlace := ["math.Float64frombits", "math.Float64bits"], unfollowed := true, recurses := true, named := ["math/bits.deBruijn64tab"], plainKeys := false, apart := false, laid := [("math/bits.deBruijn64tab", laid_math_bits_deBruijn64tab)], narrowed := true }
def BlockBackUptoSaid : Prop := blockBackUptoRow.holds Tryd.pinned (OpenSpec.upto blockBackSpec)

/-- 'gristlaw08.BlockMany', WHERE WHAT IT READS IS OF BULK AT MOST 1048576: true; the input reads as it did. -/
def blockManyUptoRow : OpenClaim := { program := "ythiojdkhapbbnaadoor", sum := "f29eed2b153a4b425fbf5d71fa77677772cfd574d45f40827906d5d8f4f2edce", func := "grist/gristlaw08.BlockMany", spec := "blockMany", inPlace := ["math.Float64frombits", "math.Float64bits"], unfollowed := true, recurses := true, named := ["math/bits.deBruijn64tab"], plainKeys := false, apart := false, laid := [("math/bits.deBruijn64tab", laid_math_bits_deBruijn64tab)], narrowed := true }
def BlockManyUptoSaid : Prop := blockManyUptoRow.holds Tryd.pinned (OpenSpec.upto blockManySpec)

/-- 'gristlaw08.BlockDecodes', WHERE WHAT IT READS IS OF BULK AT MOST 1048576: true; the input reads as it did. -/
def blockDecodesUptoRow : OpenClaim := { program := "ythiojdkhapbbnaadoor", sum := "f29eed2b153a4b425fbf5d71fa77677772cfd574d45f40827906d5d8f4f2edce", func := "grist/gristlaw08.BlockDecodes", spec := "blockDecodes", inPlace := ["math.Float64frombits", "math.Float64bits"], unfollowed := true, recurses := true, named := ["math/bits.deBruijn64tab"], plainKeys := false, apart := false, laid := [("math/bits.deBruijn64tab", laid_math_bits_deBruijn64tab)], narrowed := true }
def BlockDecodesUptoSaid : Prop := blockDecodesUptoRow.holds Tryd.pinned (OpenSpec.upto blockDecodesSpec)

end Rows
end Go.Proofs.YthiojdkhapbbnaaDoor
