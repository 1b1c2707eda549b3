/-
  DERIVED. GIVEN WITH THE SEED: THE CARDS: each row of YtoenpmnjimcnlaaDoorRows.lean that lists a variable, with what it lists TIED to the program's text (the seventh form; the later family's looks); each row that meets fmt, with fmt's text TOLD by the authors' own Lean function (tested against real Go, not proved from fmt's source: count such statements apart). THE CARD IS WHAT COUNTS. Prove the row's statement (the work); the ties are given (YtoenpmnjimcnlaaDoorTie.lean); close each card by the builder's one call (the guide's Derived/Test/ToyasCard.lean, 'card_holds'). Laid BY PROGRAM, IN A SANDBOX (cutbox-door.mjs). By AI agents, Wed Nov 11 2026. No macro, syntax, notation, axiom, sorry.
-/
import Derived.Test.YtoenpmnjimcnlaaDoorRows
import GoSem.ClaimSeven
namespace Go.Proofs.YtoenpmnjimcnlaaDoor
namespace Rows

/-- THE TIED CARD OF 'gristlaw07.ColumnEncodes'. -/
def columnEncodesCard : Claim7 := { stood := { row := columnEncodesRow, standIns := [], harness := (true, "50d91d8338f99326afe996b07c2391c1c71765c9906362fdd70d44b329d50382"), looks := false }, kinds := [], alts := [], laidByText := true, laidKinds := [.data], laidTests := true, laidLooks := .later }
def ColumnEncodesCardSaid : Prop := Claim7.holds Tryd.pinned (.plain (OpenSpec.ofChange columnEncodesSpec)) columnEncodesCard

/-- THE TIED CARD OF 'gristlaw07.ColumnDecodes'. -/
def columnDecodesCard : Claim7 := { stood := { row := columnDecodesRow, standIns := [], harness := (true, "50d91d8338f99326afe996b07c2391c1c71765c9906362fdd70d44b329d50382"), looks := false }, kinds := [], alts := [], laidByText := true, laidKinds := [.data], laidTests := true, laidLooks := .later }
def ColumnDecodesCardSaid : Prop := Claim7.holds Tryd.pinned (.plain (OpenSpec.ofChange columnDecodesSpec)) columnDecodesCard

/-- THE TIED CARD OF 'gristlaw07.ColumnBack'. -/
def columnBackCard : Claim7 := { stood := { row := columnBackRow, standIns := [], harness := (true, "50d91d8338f99326afe996b07c2391c1c71765c9906362fdd70d44b329d50382"), looks := false }, kinds := [], alts := [], laidByText := true, laidKinds := [.data], laidTests := true, laidLooks := .later }
def ColumnBackCardSaid : Prop := Claim7.holds Tryd.pinned (.plain (OpenSpec.ofChange columnBackSpec)) columnBackCard

/-- THE TIED CARD OF 'gristlaw07.ColumnBits'. -/
def columnBitsCard : Claim7 := { stood := { row := columnBitsRow, standIns := [], harness := (true, "50d91d8338f99326afe996b07c2391c1c71765c9906362fdd70d44b329d50382"), looks := false }, kinds := [], alts := [], laidByText := true, laidKinds := [.data], laidTests := true, laidLooks := .later }
def ColumnBitsCardSaid : Prop := Claim7.holds Tryd.pinned (.plain (OpenSpec.ofChange columnBitsSpec)) columnBitsCard

/-- THE TIED CARD OF 'gristlaw07.ColumnAlike'. -/
def columnAlikeCard : Claim7 := { stood := { row := columnAlikeRow, standIns := [], harness := (true, "50d91d8338f99326afe996b07c2391c1c71765c9906362fdd70d44b329d50382"), looks := false }, kinds := [], alts := [], laidByText := true, laidKinds := [.data], laidTests := true, laidLooks := .later }
def ColumnAlikeCardSaid : Prop := Claim7.holds Tryd.pinned (.plain (OpenSpec.ofChange columnAlikeSpec)) columnAlikeCard

/-- THE SECOND FORM's CARD OF 'gristlaw07.ColumnEncodes'. -/
def columnEncodesUptoCard : Claim7 := { stood := { row := columnEncodesUptoRow, standIns := [], harness := (true, "50d91d8338f99326afe996b07c2391c1c71765c9906362fdd70d44b329d50382"), looks := false }, kinds := [], alts := [], laidByText := true, laidKinds := [.data], laidTests := true, laidLooks := .later }
def ColumnEncodesUptoCardSaid : Prop := Claim7.holds Tryd.pinned (.plain (OpenSpec.upto columnEncodesSpec)) columnEncodesUptoCard

/-- THE SECOND FORM's CARD OF 'gristlaw07.ColumnDecodes'. -/
def columnDecodesUptoCard : Claim7 := { stood := { row := columnDecodesUptoRow, standIns := [], harness := (true, "50d91d8338f99326afe996b07c2391c1c71765c9906362fdd70d44b329d50382"), looks := false }, kinds := [], alts := [], laidByText := true, laidKinds := [.data], laidTests := true, laidLooks := .later }
def ColumnDecodesUptoCardSaid : Prop := Claim7.holds Tryd.pinned (.plain (OpenSpec.upto columnDecodesSpec)) columnDecodesUptoCard

/-- THE SECOND FORM's CARD OF 'gristlaw07.ColumnBack'. -/
def columnBackUptoCard : Claim7 := { stood := { row := columnBackUptoRow, standIns := [], harness := (true, "50d91d8338f99326afe996b07c2391c1c71765c9906362fdd70d44b329d50382"), looks := false }, kinds := [], alts := [], laidByText := true, laidKinds := [.data], laidTests := true, laidLooks := .later }
def ColumnBackUptoCardSaid : Prop := Claim7.holds Tryd.pinned (.plain (OpenSpec.upto columnBackSpec)) columnBackUptoCard

/-- THE SECOND FORM's CARD OF 'gristlaw07.ColumnBits'. -/
def columnBitsUptoCard : Claim7 := { stood := { row := columnBitsUptoRow, standIns := [], harness := (true, "50d91d8338f99326afe996b07c2391c1c71765c9906362fdd70d44b329d50382"), looks := false }, kinds := [], alts := [], laidByText := true, laidKinds := [.data], laidTests := true, laidLooks := .later }
def ColumnBitsUptoCardSaid : Prop := Claim7.holds Tryd.pinned (.plain (OpenSpec.upto columnBitsSpec)) columnBitsUptoCard

/-- THE SECOND FORM's CARD OF 'gristlaw07.ColumnAlike'. -/
def columnAlikeUptoCard : Claim7 := { stood := { row := columnAlikeUptoRow, standIns := [], harness := (true, "50d91d8338f99326afe996b07c2391c1c71765c9906362fdd70d44b329d50382"), looks := false }, kinds := [], alts := [], laidByText := true, laidKinds := [.data], laidTests := true, laidLooks := .later }
def ColumnAlikeUptoCardSaid : Prop := Claim7.holds Tryd.pinned (.plain (OpenSpec.upto columnAlikeSpec)) columnAlikeUptoCard
end Rows
end Go.Proofs.YtoenpmnjimcnlaaDoor
