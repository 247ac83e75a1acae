/-
  DERIVED. GIVEN WITH THE SEED: THE CARDS: each row of YtnknmpcgbfmfjaaGreatDoorRows.lean that lists a variable, with what it lists TIED to the program's text (the seventh form; the later family's looks); each row that meets fmt, with fmt's text TOLD by the authors' own Lean function (tested against real Go, not proved from fmt's source: count such statements apart). THE CARD IS WHAT COUNTS. Prove the row's statement (the work); the ties are given (YtnknmpcgbfmfjaaGreatDoorTie.lean); close each card by the builder's one call (the guide's Derived/Test/ToyasCard.lean, 'card_holds'). Laid BY PROGRAM, IN A SANDBOX (cutbox-door.mjs). By AI agents, Wed Nov 11 2026. No macro, syntax, notation, axiom, sorry.
-/
import Derived.Test.YtnknmpcgbfmfjaaGreatDoorRows
import GoSem.ClaimSeven
namespace Go.Proofs.YtnknmpcgbfmfjaaGreatDoor
namespace Rows

/-- THE TIED CARD OF 'licitlaw12.BinaryEncodes'. -/
def binaryEncodesCard : Claim7 := { stood := { row := binaryEncodesRow, standIns := [], harness := (true, "d840412058a7ff98dae79bbeadf2af7a940e9dce7e6ef121daa26d1f08a6447a"), looks := false }, kinds := [], alts := [], laidByText := true, laidKinds := [.data, .data, .data, .data, .pinned], laidTests := true, laidLooks := .later }
def BinaryEncodesCardSaid : Prop := Claim7.holds Tryz.pinned (.plain (OpenSpec.ofChange binaryEncodesSpec)) binaryEncodesCard

/-- THE TIED CARD OF 'licitlaw12.BinaryDecodes'. -/
def binaryDecodesCard : Claim7 := { stood := { row := binaryDecodesRow, standIns := [], harness := (true, "d840412058a7ff98dae79bbeadf2af7a940e9dce7e6ef121daa26d1f08a6447a"), looks := false }, kinds := [], alts := [], laidByText := true, laidKinds := [.data, .data, .data, .data, .pinned], laidTests := true, laidLooks := .later }
def BinaryDecodesCardSaid : Prop := Claim7.holds Tryz.pinned (.plain (OpenSpec.ofChange binaryDecodesSpec)) binaryDecodesCard

/-- THE TIED CARD OF 'licitlaw12.BinaryNotes'. -/
def binaryNotesCard : Claim7 := { stood := { row := binaryNotesRow, standIns := [], harness := (true, "d840412058a7ff98dae79bbeadf2af7a940e9dce7e6ef121daa26d1f08a6447a"), looks := false }, kinds := [], alts := [], laidByText := true, laidKinds := [.data, .data, .data, .data, .pinned], laidTests := true, laidLooks := .later }
def BinaryNotesCardSaid : Prop := Claim7.holds Tryz.pinned (.plain (OpenSpec.ofChange binaryNotesSpec)) binaryNotesCard

/-- THE TIED CARD OF 'licitlaw12.BinaryPlaces'. -/
def binaryPlacesCard : Claim7 := { stood := { row := binaryPlacesRow, standIns := [], harness := (true, "d840412058a7ff98dae79bbeadf2af7a940e9dce7e6ef121daa26d1f08a6447a"), looks := false }, kinds := [], alts := [], laidByText := true, laidKinds := [.data, .data, .data, .data, .pinned], laidTests := true, laidLooks := .later }
def BinaryPlacesCardSaid : Prop := Claim7.holds Tryz.pinned (.plain (OpenSpec.ofChange binaryPlacesSpec)) binaryPlacesCard

/-- THE TIED CARD OF 'licitlaw12.BinaryReturns'. -/
def binaryReturnsCard : Claim7 := { stood := { row := binaryReturnsRow, standIns := [], harness := (true, "d840412058a7ff98dae79bbeadf2af7a940e9dce7e6ef121daa26d1f08a6447a"), looks := false }, kinds := [], alts := [], laidByText := true, laidKinds := [.data, .data, .data, .data, .pinned], laidTests := true, laidLooks := .later }
def BinaryReturnsCardSaid : Prop := Claim7.holds Tryz.pinned (.plain (OpenSpec.ofChange binaryReturnsSpec)) binaryReturnsCard

/-- THE TIED CARD OF 'licitlaw12.BinaryLinked'. -/
def binaryLinkedCard : Claim7 := { stood := { row := binaryLinkedRow, standIns := [], harness := (true, "d840412058a7ff98dae79bbeadf2af7a940e9dce7e6ef121daa26d1f08a6447a"), looks := false }, kinds := [], alts := [], laidByText := true, laidKinds := [.data, .data, .data, .data, .pinned], laidTests := true, laidLooks := .later }
def BinaryLinkedCardSaid : Prop := Claim7.holds Tryz.pinned (.plain (OpenSpec.ofChange binaryLinkedSpec)) binaryLinkedCard

/-- THE TIED CARD OF 'licitlaw12.BinaryAttached'. -/
def binaryAttachedCard : Claim7 := { stood := { row := binaryAttachedRow, standIns := [], harness := (true, "d840412058a7ff98dae79bbeadf2af7a940e9dce7e6ef121daa26d1f08a6447a"), looks := false }, kinds := [], alts := [], laidByText := true, laidKinds := [.data, .data, .data, .data, .pinned], laidTests := true, laidLooks := .later }
def BinaryAttachedCardSaid : Prop := Claim7.holds Tryz.pinned (.plain (OpenSpec.ofChange binaryAttachedSpec)) binaryAttachedCard

/-- THE SECOND FORM's CARD OF 'licitlaw12.BinaryEncodes'. -/
def binaryEncodesUptoCard : Claim7 := { stood := { row := binaryEncodesUptoRow, standIns := [], harness := (true, "d840412058a7ff98dae79bbeadf2af7a940e9dce7e6ef121daa26d1f08a6447a"), looks := false }, kinds := [], alts := [], laidByText := true, laidKinds := [.data, .data, .data, .data, .pinned], laidTests := true, laidLooks := .later }
def BinaryEncodesUptoCardSaid : Prop := Claim7.holds Tryz.pinned (.plain (OpenSpec.upto binaryEncodesSpec)) binaryEncodesUptoCard

/-- THE SECOND FORM's CARD OF 'licitlaw12.BinaryDecodes'. -/
def binaryDecodesUptoCard : Claim7 := { stood := { row := binaryDecodesUptoRow, standIns := [], harness := (true, "d840412058a7ff98dae79bbeadf2af7a940e9dce7e6ef121daa26d1f08a6447a"), looks := false }, kinds := [], alts := [], laidByText := true, laidKinds := [.data, .data, .data, .data, .pinned], laidTests := true, laidLooks := .later }
def BinaryDecodesUptoCardSaid : Prop := Claim7.holds Tryz.pinned (.plain (OpenSpec.upto binaryDecodesSpec)) binaryDecodesUptoCard

/-- THE SECOND FORM's CARD OF 'licitlaw12.BinaryNotes'. -/
def binaryNotesUptoCard : Claim7 := { stood := { row := binaryNotesUptoRow, standIns := [], harness := (true, "d840412058a7ff98dae79bbeadf2af7a940e9dce7e6ef121daa26d1f08a6447a"), looks := false }, kinds := [], alts := [], laidByText := true, laidKinds := [.data, .data, .data, .data, .pinned], laidTests := true, laidLooks := .later }
def BinaryNotesUptoCardSaid : Prop := Claim7.holds Tryz.pinned (.plain (OpenSpec.upto binaryNotesSpec)) binaryNotesUptoCard

/-- THE SECOND FORM's CARD OF 'licitlaw12.BinaryPlaces'. -/
def binaryPlacesUptoCard : Claim7 := { stood := { row := binaryPlacesUptoRow, standIns := [], harness := (true, "d840412058a7ff98dae79bbeadf2af7a940e9dce7e6ef121daa26d1f08a6447a"), looks := false }, kinds := [], alts := [], laidByText := true, laidKinds := [.data, .data, .data, .data, .pinned], laidTests := true, laidLooks := .later }
def BinaryPlacesUptoCardSaid : Prop := Claim7.holds Tryz.pinned (.plain (OpenSpec.upto binaryPlacesSpec)) binaryPlacesUptoCard

/-- THE SECOND FORM's CARD OF 'licitlaw12.BinaryReturns'. -/
def binaryReturnsUptoCard : Claim7 := { stood := { row := binaryReturnsUptoRow, standIns := [], harness := (true, "d840412058a7ff98dae79bbeadf2af7a940e9dce7e6ef121daa26d1f08a6447a"), looks := false }, kinds := [], alts := [], laidByText := true, laidKinds := [.data, .data, .data, .data, .pinned], laidTests := true, laidLooks := .later }
def BinaryReturnsUptoCardSaid : Prop := Claim7.holds Tryz.pinned (.plain (OpenSpec.upto binaryReturnsSpec)) binaryReturnsUptoCard

/-- THE SECOND FORM's CARD OF 'licitlaw12.BinaryLinked'. -/
def binaryLinkedUptoCard : Claim7 := { stood := { row := binaryLinkedUptoRow, standIns := [], harness := (true, "d840412058a7ff98dae79bbeadf2af7a940e9dce7e6ef121daa26d1f08a6447a"), looks := false }, kinds := [], alts := [], laidByText := true, laidKinds := [.data, .data, .data, .data, .pinned], laidTests := true, laidLooks := .later }
def BinaryLinkedUptoCardSaid : Prop := Claim7.holds Tryz.pinned (.plain (OpenSpec.upto binaryLinkedSpec)) binaryLinkedUptoCard

/-- THE SECOND FORM's CARD OF 'licitlaw12.BinaryAttached'. -/
def binaryAttachedUptoCard : Claim7 := { stood := { row := binaryAttachedUptoRow, standIns := [], harness := (true, "d840412058a7ff98dae79bbeadf2af7a940e9dce7e6ef121daa26d1f08a6447a"), looks := false }, kinds := [], alts := [], laidByText := true, laidKinds := [.data, .data, .data, .data, .pinned], laidTests := true, laidLooks := .later }
def BinaryAttachedUptoCardSaid : Prop := Claim7.holds Tryz.pinned (.plain (OpenSpec.upto binaryAttachedSpec)) binaryAttachedUptoCard
end Rows
end Go.Proofs.YtnknmpcgbfmfjaaGreatDoor
