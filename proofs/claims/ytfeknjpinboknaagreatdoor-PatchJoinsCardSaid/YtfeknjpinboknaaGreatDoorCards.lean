/-
  DERIVED. GIVEN WITH THE SEED: THE CARDS: each row of YtfeknjpinboknaaGreatDoorRows.lean that lists a variable, with what it lists TIED to the program's text (the seventh form; the later family's looks); each row that meets fmt, with fmt's text TOLD by the authors' own Lean function (tested against real Go, not proved from fmt's source: count such statements apart). THE CARD IS WHAT COUNTS. Prove the row's statement (the work); the ties are given (YtfeknjpinboknaaGreatDoorTie.lean); close each card by the builder's one call (the guide's Derived/Test/ToyasCard.lean, 'card_holds'). Laid BY PROGRAM, IN A SANDBOX (cutbox-door.mjs). By AI agents, Wed Nov 11 2026. No macro, syntax, notation, axiom, sorry.
-/
import Derived.Test.YtfeknjpinboknaaGreatDoorRows
import GoSem.ClaimSeven
namespace Go.Proofs.YtfeknjpinboknaaGreatDoor
namespace Rows

/-- THE TIED CARD OF 'licitlaw04.PatchTexts'. -/
def patchTextsCard : Claim7 := { stood := { row := patchTextsRow, standIns := [], harness := (true, "ec04ee75f1884cd9a1422d9cb00d7742dbaf7de8906fe681240c94f53d811ee4"), looks := true }, kinds := [], alts := [], laidByText := true, laidKinds := [.data, .data, .data, .data, .sentinel, .sentinel, .pinned], laidTests := true, laidLooks := .later }
def PatchTextsCardSaid : Prop := Claim7.holds Tryz.pinned (.plain (OpenSpec.ofChange patchTextsSpec)) patchTextsCard

/-- THE TIED CARD OF 'licitlaw04.PatchApplies'. -/
def patchAppliesCard : Claim7 := { stood := { row := patchAppliesRow, standIns := [], harness := (true, "ec04ee75f1884cd9a1422d9cb00d7742dbaf7de8906fe681240c94f53d811ee4"), looks := true }, kinds := [], alts := [], laidByText := true, laidKinds := [.data, .data, .data, .data, .sentinel, .sentinel, .pinned], laidTests := true, laidLooks := .later }
def PatchAppliesCardSaid : Prop := Claim7.holds Tryz.pinned (.plain (OpenSpec.ofChange patchAppliesSpec)) patchAppliesCard

/-- THE TIED CARD OF 'licitlaw04.PatchMakes'. -/
def patchMakesCard : Claim7 := { stood := { row := patchMakesRow, standIns := [], harness := (true, "ec04ee75f1884cd9a1422d9cb00d7742dbaf7de8906fe681240c94f53d811ee4"), looks := true }, kinds := [], alts := [], laidByText := true, laidKinds := [.data, .data, .data, .data, .sentinel, .sentinel, .pinned], laidTests := true, laidLooks := .later }
def PatchMakesCardSaid : Prop := Claim7.holds Tryz.pinned (.plain (OpenSpec.ofChange patchMakesSpec)) patchMakesCard

/-- THE TIED CARD OF 'licitlaw04.PatchBack'. -/
def patchBackCard : Claim7 := { stood := { row := patchBackRow, standIns := [], harness := (true, "ec04ee75f1884cd9a1422d9cb00d7742dbaf7de8906fe681240c94f53d811ee4"), looks := true }, kinds := [], alts := [], laidByText := true, laidKinds := [.data, .data, .data, .data, .sentinel, .sentinel, .pinned], laidTests := true, laidLooks := .later }
def PatchBackCardSaid : Prop := Claim7.holds Tryz.pinned (.plain (OpenSpec.ofChange patchBackSpec)) patchBackCard

/-- THE TIED CARD OF 'licitlaw04.PatchShortest'. -/
def patchShortestCard : Claim7 := { stood := { row := patchShortestRow, standIns := [], harness := (true, "ec04ee75f1884cd9a1422d9cb00d7742dbaf7de8906fe681240c94f53d811ee4"), looks := true }, kinds := [], alts := [], laidByText := true, laidKinds := [.data, .data, .data, .data, .sentinel, .sentinel, .pinned], laidTests := true, laidLooks := .later }
def PatchShortestCardSaid : Prop := Claim7.holds Tryz.pinned (.plain (OpenSpec.ofChange patchShortestSpec)) patchShortestCard

/-- THE TIED CARD OF 'licitlaw04.PatchPlaces'. -/
def patchPlacesCard : Claim7 := { stood := { row := patchPlacesRow, standIns := [], harness := (true, "ec04ee75f1884cd9a1422d9cb00d7742dbaf7de8906fe681240c94f53d811ee4"), looks := true }, kinds := [], alts := [], laidByText := true, laidKinds := [.data, .data, .data, .data, .sentinel, .sentinel, .pinned], laidTests := true, laidLooks := .later }
def PatchPlacesCardSaid : Prop := Claim7.holds Tryz.pinned (.plain (OpenSpec.ofChange patchPlacesSpec)) patchPlacesCard

/-- THE TIED CARD OF 'licitlaw04.PatchThen'. -/
def patchThenCard : Claim7 := { stood := { row := patchThenRow, standIns := [], harness := (true, "ec04ee75f1884cd9a1422d9cb00d7742dbaf7de8906fe681240c94f53d811ee4"), looks := true }, kinds := [], alts := [], laidByText := true, laidKinds := [.data, .data, .data, .data, .sentinel, .sentinel, .pinned], laidTests := true, laidLooks := .later }
def PatchThenCardSaid : Prop := Claim7.holds Tryz.pinned (.plain (OpenSpec.ofChange patchThenSpec)) patchThenCard

/-- THE TIED CARD OF 'licitlaw04.PatchJoins'. -/
def patchJoinsCard : Claim7 := { stood := { row := patchJoinsRow, standIns := [], harness := (true, "ec04ee75f1884cd9a1422d9cb00d7742dbaf7de8906fe681240c94f53d811ee4"), looks := true }, kinds := [], alts := [], laidByText := true, laidKinds := [.data, .data, .data, .data, .sentinel, .sentinel, .pinned], laidTests := true, laidLooks := .later }
def PatchJoinsCardSaid : Prop := Claim7.holds Tryz.pinned (.plain (OpenSpec.ofChange patchJoinsSpec)) patchJoinsCard

/-- THE SECOND FORM's CARD OF 'licitlaw04.PatchTexts'. -/
def patchTextsUptoCard : Claim7 := { stood := { row := patchTextsUptoRow, standIns := [], harness := (true, "ec04ee75f1884cd9a1422d9cb00d7742dbaf7de8906fe681240c94f53d811ee4"), looks := true }, kinds := [], alts := [], laidByText := true, laidKinds := [.data, .data, .data, .data, .sentinel, .sentinel, .pinned], laidTests := true, laidLooks := .later }
def PatchTextsUptoCardSaid : Prop := Claim7.holds Tryz.pinned (.plain (OpenSpec.upto patchTextsSpec)) patchTextsUptoCard

/-- THE SECOND FORM's CARD OF 'licitlaw04.PatchApplies'. -/
def patchAppliesUptoCard : Claim7 := { stood := { row := patchAppliesUptoRow, standIns := [], harness := (true, "ec04ee75f1884cd9a1422d9cb00d7742dbaf7de8906fe681240c94f53d811ee4"), looks := true }, kinds := [], alts := [], laidByText := true, laidKinds := [.data, .data, .data, .data, .sentinel, .sentinel, .pinned], laidTests := true, laidLooks := .later }
def PatchAppliesUptoCardSaid : Prop := Claim7.holds Tryz.pinned (.plain (OpenSpec.upto patchAppliesSpec)) patchAppliesUptoCard

/-- THE SECOND FORM's CARD OF 'licitlaw04.PatchMakes'. -/
def patchMakesUptoCard : Claim7 := { stood := { row := patchMakesUptoRow, standIns := [], harness := (true, "ec04ee75f1884cd9a1422d9cb00d7742dbaf7de8906fe681240c94f53d811ee4"), looks := true }, kinds := [], alts := [], laidByText := true, laidKinds := [.data, .data, .data, .data, .sentinel, .sentinel, .pinned], laidTests := true, laidLooks := .later }
def PatchMakesUptoCardSaid : Prop := Claim7.holds Tryz.pinned (.plain (OpenSpec.upto patchMakesSpec)) patchMakesUptoCard

/-- THE SECOND FORM's CARD OF 'licitlaw04.PatchBack'. -/
def patchBackUptoCard : Claim7 := { stood := { row := patchBackUptoRow, standIns := [], harness := (true, "ec04ee75f1884cd9a1422d9cb00d7742dbaf7de8906fe681240c94f53d811ee4"), looks := true }, kinds := [], alts := [], laidByText := true, laidKinds := [.data, .data, .data, .data, .sentinel, .sentinel, .pinned], laidTests := true, laidLooks := .later }
def PatchBackUptoCardSaid : Prop := Claim7.holds Tryz.pinned (.plain (OpenSpec.upto patchBackSpec)) patchBackUptoCard

/-- THE SECOND FORM's CARD OF 'licitlaw04.PatchShortest'. -/
def patchShortestUptoCard : Claim7 := { stood := { row := patchShortestUptoRow, standIns := [], harness := (true, "ec04ee75f1884cd9a1422d9cb00d7742dbaf7de8906fe681240c94f53d811ee4"), looks := true }, kinds := [], alts := [], laidByText := true, laidKinds := [.data, .data, .data, .data, .sentinel, .sentinel, .pinned], laidTests := true, laidLooks := .later }
def PatchShortestUptoCardSaid : Prop := Claim7.holds Tryz.pinned (.plain (OpenSpec.upto patchShortestSpec)) patchShortestUptoCard

/-- THE SECOND FORM's CARD OF 'licitlaw04.PatchPlaces'. -/
def patchPlacesUptoCard : Claim7 := { stood := { row := patchPlacesUptoRow, standIns := [], harness := (true, "ec04ee75f1884cd9a1422d9cb00d7742dbaf7de8906fe681240c94f53d811ee4"), looks := true }, kinds := [], alts := [], laidByText := true, laidKinds := [.data, .data, .data, .data, .sentinel, .sentinel, .pinned], laidTests := true, laidLooks := .later }
def PatchPlacesUptoCardSaid : Prop := Claim7.holds Tryz.pinned (.plain (OpenSpec.upto patchPlacesSpec)) patchPlacesUptoCard

/-- THE SECOND FORM's CARD OF 'licitlaw04.PatchThen'. -/
def patchThenUptoCard : Claim7 := { stood := { row := patchThenUptoRow, standIns := [], harness := (true, "ec04ee75f1884cd9a1422d9cb00d7742dbaf7de8906fe681240c94f53d811ee4"), looks := true }, kinds := [], alts := [], laidByText := true, laidKinds := [.data, .data, .data, .data, .sentinel, .sentinel, .pinned], laidTests := true, laidLooks := .later }
def PatchThenUptoCardSaid : Prop := Claim7.holds Tryz.pinned (.plain (OpenSpec.upto patchThenSpec)) patchThenUptoCard

/-- THE SECOND FORM's CARD OF 'licitlaw04.PatchJoins'. -/
def patchJoinsUptoCard : Claim7 := { stood := { row := patchJoinsUptoRow, standIns := [], harness := (true, "ec04ee75f1884cd9a1422d9cb00d7742dbaf7de8906fe681240c94f53d811ee4"), looks := true }, kinds := [], alts := [], laidByText := true, laidKinds := [.data, .data, .data, .data, .sentinel, .sentinel, .pinned], laidTests := true, laidLooks := .later }
def PatchJoinsUptoCardSaid : Prop := Claim7.holds Tryz.pinned (.plain (OpenSpec.upto patchJoinsSpec)) patchJoinsUptoCard
end Rows
end Go.Proofs.YtfeknjpinboknaaGreatDoor
