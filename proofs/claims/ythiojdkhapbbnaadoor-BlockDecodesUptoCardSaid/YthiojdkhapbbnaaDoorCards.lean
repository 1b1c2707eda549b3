/-
  DERIVED. GIVEN WITH THE SEED: THE CARDS: each row of YthiojdkhapbbnaaDoorRows.lean that lists a variable, with what it lists TIED to the program's text (the seventh form; the later family's looks); each row that meets fmt, with fmt's text TOLD by the authors' own Lean function (tested against real Go, not proved from fmt's source: count such statements apart). THE CARD IS WHAT COUNTS. Prove the row's statement (the work); the ties are given (YthiojdkhapbbnaaDoorTie.lean); close each card by the builder's one call (the guide's Derived/Test/ToyasCard.lean, 'card_holds'). Laid BY PROGRAM, IN A SANDBOX (cutbox-door.mjs). By AI agents, Wed Nov 11 2026. No macro, syntax, notation, axiom, sorry.
-/
import Derived.Test.YthiojdkhapbbnaaDoorRows
import GoSem.ClaimSeven
namespace Go.Proofs.YthiojdkhapbbnaaDoor
namespace Rows

/-- THE TIED CARD OF 'gristlaw08.BlockEncodes'. -/
def blockEncodesCard : Claim7 := { stood := { row := blockEncodesRow, standIns := [], harness := (true, "9cf24bab715d153d1031a635a2af5411b1d0bc7970b3137cb9b0d9837037cd8a"), looks := false }, kinds := [], alts := [], laidByText := true, laidKinds := [.data], laidTests := true, laidLooks := .later }
def BlockEncodesCardSaid : Prop := Claim7.holds Tryd.pinned (.plain (OpenSpec.ofChange blockEncodesSpec)) blockEncodesCard

/-- THE TIED CARD OF 'gristlaw08.BlockSums'. -/
def blockSumsCard : Claim7 := { stood := { row := blockSumsRow, standIns := [], harness := (true, "9cf24bab715d153d1031a635a2af5411b1d0bc7970b3137cb9b0d9837037cd8a"), looks := false }, kinds := [], alts := [], laidByText := true, laidKinds := [.data], laidTests := true, laidLooks := .later }
def BlockSumsCardSaid : Prop := Claim7.holds Tryd.pinned (.plain (OpenSpec.ofChange blockSumsSpec)) blockSumsCard

/-- THE TIED CARD OF 'gristlaw08.BlockBack'. -/
def blockBackCard : Claim7 := { stood := { row := blockBackRow, standIns := [], harness := (true, "9cf24bab715d153d1031a635a2af5411b1d0bc7970b3137cb9b0d9837037cd8a"), looks := false }, kinds := [], alts := [], laidByText := true, laidKinds := [.data], laidTests := true, laidLooks := .later }
def BlockBackCardSaid : Prop := Claim7.holds Tryd.pinned (.plain (OpenSpec.ofChange blockBackSpec)) blockBackCard

/-- THE TIED CARD OF 'gristlaw08.BlockMany'. -/
def blockManyCard : Claim7 := { stood := { row := blockManyRow, standIns := [], harness := (true, "9cf24bab715d153d1031a635a2af5411b1d0bc7970b3137cb9b0d9837037cd8a"), looks := false }, kinds := [], alts := [], laidByText := true, laidKinds := [.data], laidTests := true, laidLooks := .later }
def BlockManyCardSaid : Prop := Claim7.holds Tryd.pinned (.plain (OpenSpec.ofChange blockManySpec)) blockManyCard

/-- THE TIED CARD OF 'gristlaw08.BlockDecodes'. -/
def blockDecodesCard : Claim7 := { stood := { row := blockDecodesRow, standIns := [], harness := (true, "9cf24bab715d153d1031a635a2af5411b1d0bc7970b3137cb9b0d9837037cd8a"), looks := false }, kinds := [], alts := [], laidByText := true, laidKinds := [.data], laidTests := true, laidLooks := .later }
def BlockDecodesCardSaid : Prop := Claim7.holds Tryd.pinned (.plain (OpenSpec.ofChange blockDecodesSpec)) blockDecodesCard

/-- THE SECOND FORM's CARD OF 'gristlaw08.BlockEncodes'. -/
def blockEncodesUptoCard : Claim7 := { stood := { row := blockEncodesUptoRow, standIns := [], harness := (true, "9cf24bab715d153d1031a635a2af5411b1d0bc7970b3137cb9b0d9837037cd8a"), looks := false }, kinds := [], alts := [], laidByText := true, laidKinds := [.data], laidTests := true, laidLooks := .later }
def BlockEncodesUptoCardSaid : Prop := Claim7.holds Tryd.pinned (.plain (OpenSpec.upto blockEncodesSpec)) blockEncodesUptoCard

/-- THE SECOND FORM's CARD OF 'gristlaw08.BlockSums'. -/
def blockSumsUptoCard : Claim7 := { stood := { row := blockSumsUptoRow, standIns := [], harness := (true, "9cf24bab715d153d1031a635a2af5411b1d0bc7970b3137cb9b0d9837037cd8a"), looks := false }, kinds := [], alts := [], laidByText := true, laidKinds := [.data], laidTests := true, laidLooks := .later }
def BlockSumsUptoCardSaid : Prop := Claim7.holds Tryd.pinned (.plain (OpenSpec.upto blockSumsSpec)) blockSumsUptoCard

/-- THE SECOND FORM's CARD OF 'gristlaw08.BlockBack'. -/
def blockBackUptoCard : Claim7 := { stood := { row := blockBackUptoRow, standIns := [], harness := (true, "9cf24bab715d153d1031a635a2af5411b1d0bc7970b3137cb9b0d9837037cd8a"), looks := false }, kinds := [], alts := [], laidByText := true, laidKinds := [.data], laidTests := true, laidLooks := .later }
def BlockBackUptoCardSaid : Prop := Claim7.holds Tryd.pinned (.plain (OpenSpec.upto blockBackSpec)) blockBackUptoCard

/-- THE SECOND FORM's CARD OF 'gristlaw08.BlockMany'. -/
def blockManyUptoCard : Claim7 := { stood := { row := blockManyUptoRow, standIns := [], harness := (true, "9cf24bab715d153d1031a635a2af5411b1d0bc7970b3137cb9b0d9837037cd8a"), looks := false }, kinds := [], alts := [], laidByText := true, laidKinds := [.data], laidTests := true, laidLooks := .later }
def BlockManyUptoCardSaid : Prop := Claim7.holds Tryd.pinned (.plain (OpenSpec.upto blockManySpec)) blockManyUptoCard

/-- THE SECOND FORM's CARD OF 'gristlaw08.BlockDecodes'. -/
def blockDecodesUptoCard : Claim7 := { stood := { row := blockDecodesUptoRow, standIns := [], harness := (true, "9cf24bab715d153d1031a635a2af5411b1d0bc7970b3137cb9b0d9837037cd8a"), looks := false }, kinds := [], alts := [], laidByText := true, laidKinds := [.data], laidTests := true, laidLooks := .later }
def BlockDecodesUptoCardSaid : Prop := Claim7.holds Tryd.pinned (.plain (OpenSpec.upto blockDecodesSpec)) blockDecodesUptoCard
end Rows
end Go.Proofs.YthiojdkhapbbnaaDoor
