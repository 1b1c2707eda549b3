/-
  DERIVED. GIVEN WITH THE SEED: THE CARDS: each row of YthcgalpabjjkoaaDoorRows.lean that lists a variable, with what it lists TIED to the program's text (the seventh form; the later family's looks); each row that meets fmt, with fmt's text TOLD by the authors' own Lean function (tested against real Go, not proved from fmt's source: count such statements apart). THE CARD IS WHAT COUNTS. Prove the row's statement (the work); the ties are given (YthcgalpabjjkoaaDoorTie.lean); close each card by the builder's one call (the guide's Derived/Test/ToyasCard.lean, 'card_holds'). Laid BY PROGRAM, IN A SANDBOX (cutbox-door.mjs). By AI agents, Wed Nov 11 2026. No macro, syntax, notation, axiom, sorry.
-/
import Derived.Test.YthcgalpabjjkoaaDoorRows
import GoSem.ClaimSeven
namespace Go.Proofs.YthcgalpabjjkoaaDoor
namespace Rows

/-- THE TIED CARD OF 'gristlaw12.FileBlocks'. -/
def fileBlocksCard : Claim7 := { stood := { row := fileBlocksRow, standIns := [], harness := (true, "713c7cef90e19ac326c4f06754750d697ab1fda6c36381518ee61b87cb587f6a"), looks := false }, kinds := [], alts := [], laidByText := true, laidKinds := [.data], laidTests := true, laidLooks := .later }
def FileBlocksCardSaid : Prop := Claim7.holds Tryd.pinned (.plain (OpenSpec.ofChange fileBlocksSpec)) fileBlocksCard

/-- THE TIED CARD OF 'gristlaw12.FileFinds'. -/
def fileFindsCard : Claim7 := { stood := { row := fileFindsRow, standIns := [], harness := (true, "713c7cef90e19ac326c4f06754750d697ab1fda6c36381518ee61b87cb587f6a"), looks := false }, kinds := [], alts := [], laidByText := true, laidKinds := [.data], laidTests := true, laidLooks := .later }
def FileFindsCardSaid : Prop := Claim7.holds Tryd.pinned (.plain (OpenSpec.ofChange fileFindsSpec)) fileFindsCard

/-- THE SECOND FORM's CARD OF 'gristlaw12.FileBlocks'. -/
def fileBlocksUptoCard : Claim7 := { stood := { row := fileBlocksUptoRow, standIns := [], harness := (true, "713c7cef90e19ac326c4f06754750d697ab1fda6c36381518ee61b87cb587f6a"), looks := false }, kinds := [], alts := [], laidByText := true, laidKinds := [.data], laidTests := true, laidLooks := .later }
def FileBlocksUptoCardSaid : Prop := Claim7.holds Tryd.pinned (.plain (OpenSpec.upto fileBlocksSpec)) fileBlocksUptoCard

/-- THE SECOND FORM's CARD OF 'gristlaw12.FileFinds'. -/
def fileFindsUptoCard : Claim7 := { stood := { row := fileFindsUptoRow, standIns := [], harness := (true, "713c7cef90e19ac326c4f06754750d697ab1fda6c36381518ee61b87cb587f6a"), looks := false }, kinds := [], alts := [], laidByText := true, laidKinds := [.data], laidTests := true, laidLooks := .later }
def FileFindsUptoCardSaid : Prop := Claim7.holds Tryd.pinned (.plain (OpenSpec.upto fileFindsSpec)) fileFindsUptoCard
end Rows
end Go.Proofs.YthcgalpabjjkoaaDoor
