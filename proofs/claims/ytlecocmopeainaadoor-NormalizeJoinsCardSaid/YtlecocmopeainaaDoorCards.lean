/-
  DERIVED. GIVEN WITH THE SEED: THE CARDS: each row of YtlecocmopeainaaDoorRows.lean that lists a variable, with what it lists TIED to the program's text (the seventh form; the later family's looks); each row that meets fmt, with fmt's text TOLD by the authors' own Lean function (tested against real Go, not proved from fmt's source: count such statements apart). THE CARD IS WHAT COUNTS. Prove the row's statement (the work); the ties are given (YtlecocmopeainaaDoorTie.lean); close each card by the builder's one call (the guide's Derived/Test/ToyasCard.lean, 'card_holds'). Laid BY PROGRAM, IN A SANDBOX (cutbox-door.mjs). By AI agents, Wed Nov 11 2026. No macro, syntax, notation, axiom, sorry.
-/
import Derived.Test.YtlecocmopeainaaDoorRows
import GoSem.ClaimSeven
namespace Go.Proofs.YtlecocmopeainaaDoor
namespace Rows

/-- THE TIED CARD OF 'licitlaw23.NormalizeWords'. -/
def normalizeWordsCard : Claim7 := { stood := { row := normalizeWordsRow, standIns := [], harness := (true, "ffe8c478618351ea5cdd6941d6fc03def4e7a8dc2c802073aff4b840a9a7d616"), looks := true }, kinds := [], alts := [], laidByText := true, laidKinds := [.data, .data, .data, .data, .sentinel, .sentinel, .pinned], laidTests := true, laidLooks := .later }
def NormalizeWordsCardSaid : Prop := Claim7.holds Tryd.pinned (.plain (OpenSpec.ofChange normalizeWordsSpec)) normalizeWordsCard

/-- THE TIED CARD OF 'licitlaw23.NormalizeClasses'. -/
def normalizeClassesCard : Claim7 := { stood := { row := normalizeClassesRow, standIns := [], harness := (true, "ffe8c478618351ea5cdd6941d6fc03def4e7a8dc2c802073aff4b840a9a7d616"), looks := true }, kinds := [], alts := [], laidByText := true, laidKinds := [.data, .data, .data, .data, .sentinel, .sentinel, .pinned], laidTests := true, laidLooks := .later }
def NormalizeClassesCardSaid : Prop := Claim7.holds Tryd.pinned (.plain (OpenSpec.ofChange normalizeClassesSpec)) normalizeClassesCard

/-- THE TIED CARD OF 'licitlaw23.NormalizeCommons'. -/
def normalizeCommonsCard : Claim7 := { stood := { row := normalizeCommonsRow, standIns := [], harness := (true, "ffe8c478618351ea5cdd6941d6fc03def4e7a8dc2c802073aff4b840a9a7d616"), looks := true }, kinds := [], alts := [], laidByText := true, laidKinds := [.data, .data, .data, .data, .sentinel, .sentinel, .pinned], laidTests := true, laidLooks := .later }
def NormalizeCommonsCardSaid : Prop := Claim7.holds Tryd.pinned (.plain (OpenSpec.ofChange normalizeCommonsSpec)) normalizeCommonsCard

/-- THE TIED CARD OF 'licitlaw23.NormalizeMeets'. -/
def normalizeMeetsCard : Claim7 := { stood := { row := normalizeMeetsRow, standIns := [], harness := (true, "ffe8c478618351ea5cdd6941d6fc03def4e7a8dc2c802073aff4b840a9a7d616"), looks := true }, kinds := [], alts := [], laidByText := true, laidKinds := [.data, .data, .data, .data, .sentinel, .sentinel, .pinned], laidTests := true, laidLooks := .later }
def NormalizeMeetsCardSaid : Prop := Claim7.holds Tryd.pinned (.plain (OpenSpec.ofChange normalizeMeetsSpec)) normalizeMeetsCard

/-- THE TIED CARD OF 'licitlaw23.NormalizeLayout'. -/
def normalizeLayoutCard : Claim7 := { stood := { row := normalizeLayoutRow, standIns := [], harness := (true, "ffe8c478618351ea5cdd6941d6fc03def4e7a8dc2c802073aff4b840a9a7d616"), looks := true }, kinds := [], alts := [], laidByText := true, laidKinds := [.data, .data, .data, .data, .sentinel, .sentinel, .pinned], laidTests := true, laidLooks := .later }
def NormalizeLayoutCardSaid : Prop := Claim7.holds Tryd.pinned (.plain (OpenSpec.ofChange normalizeLayoutSpec)) normalizeLayoutCard

/-- THE TIED CARD OF 'licitlaw23.NormalizeForms'. -/
def normalizeFormsCard : Claim7 := { stood := { row := normalizeFormsRow, standIns := [], harness := (true, "ffe8c478618351ea5cdd6941d6fc03def4e7a8dc2c802073aff4b840a9a7d616"), looks := true }, kinds := [], alts := [], laidByText := true, laidKinds := [.data, .data, .data, .data, .sentinel, .sentinel, .pinned], laidTests := true, laidLooks := .later }
def NormalizeFormsCardSaid : Prop := Claim7.holds Tryd.pinned (.plain (OpenSpec.ofChange normalizeFormsSpec)) normalizeFormsCard

/-- THE TIED CARD OF 'licitlaw23.NormalizeRenames'. -/
def normalizeRenamesCard : Claim7 := { stood := { row := normalizeRenamesRow, standIns := [], harness := (true, "ffe8c478618351ea5cdd6941d6fc03def4e7a8dc2c802073aff4b840a9a7d616"), looks := true }, kinds := [], alts := [], laidByText := true, laidKinds := [.data, .data, .data, .data, .sentinel, .sentinel, .pinned], laidTests := true, laidLooks := .later }
def NormalizeRenamesCardSaid : Prop := Claim7.holds Tryd.pinned (.plain (OpenSpec.ofChange normalizeRenamesSpec)) normalizeRenamesCard

/-- THE TIED CARD OF 'licitlaw23.NormalizeJoins'. -/
def normalizeJoinsCard : Claim7 := { stood := { row := normalizeJoinsRow, standIns := [], harness := (true, "ffe8c478618351ea5cdd6941d6fc03def4e7a8dc2c802073aff4b840a9a7d616"), looks := true }, kinds := [], alts := [], laidByText := true, laidKinds := [.data, .data, .data, .data, .sentinel, .sentinel, .pinned], laidTests := true, laidLooks := .later }
def NormalizeJoinsCardSaid : Prop := Claim7.holds Tryd.pinned (.plain (OpenSpec.ofChange normalizeJoinsSpec)) normalizeJoinsCard

/-- THE TIED CARD OF 'licitlaw23.NormalizeNotes'. -/
def normalizeNotesCard : Claim7 := { stood := { row := normalizeNotesRow, standIns := [], harness := (true, "ffe8c478618351ea5cdd6941d6fc03def4e7a8dc2c802073aff4b840a9a7d616"), looks := true }, kinds := [], alts := [], laidByText := true, laidKinds := [.data, .data, .data, .data, .sentinel, .sentinel, .pinned], laidTests := true, laidLooks := .later }
def NormalizeNotesCardSaid : Prop := Claim7.holds Tryd.pinned (.plain (OpenSpec.ofChange normalizeNotesSpec)) normalizeNotesCard

/-- THE SECOND FORM's CARD OF 'licitlaw23.NormalizeWords'. -/
def normalizeWordsUptoCard : Claim7 := { stood := { row := normalizeWordsUptoRow, standIns := [], harness := (true, "ffe8c478618351ea5cdd6941d6fc03def4e7a8dc2c802073aff4b840a9a7d616"), looks := true }, kinds := [], alts := [], laidByText := true, laidKinds := [.data, .data, .data, .data, .sentinel, .sentinel, .pinned], laidTests := true, laidLooks := .later }
def NormalizeWordsUptoCardSaid : Prop := Claim7.holds Tryd.pinned (.plain (OpenSpec.upto normalizeWordsSpec)) normalizeWordsUptoCard

/-- THE SECOND FORM's CARD OF 'licitlaw23.NormalizeClasses'. -/
def normalizeClassesUptoCard : Claim7 := { stood := { row := normalizeClassesUptoRow, standIns := [], harness := (true, "ffe8c478618351ea5cdd6941d6fc03def4e7a8dc2c802073aff4b840a9a7d616"), looks := true }, kinds := [], alts := [], laidByText := true, laidKinds := [.data, .data, .data, .data, .sentinel, .sentinel, .pinned], laidTests := true, laidLooks := .later }
def NormalizeClassesUptoCardSaid : Prop := Claim7.holds Tryd.pinned (.plain (OpenSpec.upto normalizeClassesSpec)) normalizeClassesUptoCard

/-- THE SECOND FORM's CARD OF 'licitlaw23.NormalizeCommons'. -/
def normalizeCommonsUptoCard : Claim7 := { stood := { row := normalizeCommonsUptoRow, standIns := [], harness := (true, "ffe8c478618351ea5cdd6941d6fc03def4e7a8dc2c802073aff4b840a9a7d616"), looks := true }, kinds := [], alts := [], laidByText := true, laidKinds := [.data, .data, .data, .data, .sentinel, .sentinel, .pinned], laidTests := true, laidLooks := .later }
def NormalizeCommonsUptoCardSaid : Prop := Claim7.holds Tryd.pinned (.plain (OpenSpec.upto normalizeCommonsSpec)) normalizeCommonsUptoCard

/-- THE SECOND FORM's CARD OF 'licitlaw23.NormalizeMeets'. -/
def normalizeMeetsUptoCard : Claim7 := { stood := { row := normalizeMeetsUptoRow, standIns := [], harness := (true, "ffe8c478618351ea5cdd6941d6fc03def4e7a8dc2c802073aff4b840a9a7d616"), looks := true }, kinds := [], alts := [], laidByText := true, laidKinds := [.data, .data, .data, .data, .sentinel, .sentinel, .pinned], laidTests := true, laidLooks := .later }
def NormalizeMeetsUptoCardSaid : Prop := Claim7.holds Tryd.pinned (.plain (OpenSpec.upto normalizeMeetsSpec)) normalizeMeetsUptoCard

/-- THE SECOND FORM's CARD OF 'licitlaw23.NormalizeLayout'. -/
def normalizeLayoutUptoCard : Claim7 := { stood := { row := normalizeLayoutUptoRow, standIns := [], harness := (true, "ffe8c478618351ea5cdd6941d6fc03def4e7a8dc2c802073aff4b840a9a7d616"), looks := true }, kinds := [], alts := [], laidByText := true, laidKinds := [.data, .data, .data, .data, .sentinel, .sentinel, .pinned], laidTests := true, laidLooks := .later }
def NormalizeLayoutUptoCardSaid : Prop := Claim7.holds Tryd.pinned (.plain (OpenSpec.upto normalizeLayoutSpec)) normalizeLayoutUptoCard

/-- THE SECOND FORM's CARD OF 'licitlaw23.NormalizeForms'. -/
def normalizeFormsUptoCard : Claim7 := { stood := { row := normalizeFormsUptoRow, standIns := [], harness := (true, "ffe8c478618351ea5cdd6941d6fc03def4e7a8dc2c802073aff4b840a9a7d616"), looks := true }, kinds := [], alts := [], laidByText := true, laidKinds := [.data, .data, .data, .data, .sentinel, .sentinel, .pinned], laidTests := true, laidLooks := .later }
def NormalizeFormsUptoCardSaid : Prop := Claim7.holds Tryd.pinned (.plain (OpenSpec.upto normalizeFormsSpec)) normalizeFormsUptoCard

/-- THE SECOND FORM's CARD OF 'licitlaw23.NormalizeRenames'. -/
def normalizeRenamesUptoCard : Claim7 := { stood := { row := normalizeRenamesUptoRow, standIns := [], harness := (true, "ffe8c478618351ea5cdd6941d6fc03def4e7a8dc2c802073aff4b840a9a7d616"), looks := true }, kinds := [], alts := [], laidByText := true, laidKinds := [.data, .data, .data, .data, .sentinel, .sentinel, .pinned], laidTests := true, laidLooks := .later }
def NormalizeRenamesUptoCardSaid : Prop := Claim7.holds Tryd.pinned (.plain (OpenSpec.upto normalizeRenamesSpec)) normalizeRenamesUptoCard

/-- THE SECOND FORM's CARD OF 'licitlaw23.NormalizeJoins'. -/
def normalizeJoinsUptoCard : Claim7 := { stood := { row := normalizeJoinsUptoRow, standIns := [], harness := (true, "ffe8c478618351ea5cdd6941d6fc03def4e7a8dc2c802073aff4b840a9a7d616"), looks := true }, kinds := [], alts := [], laidByText := true, laidKinds := [.data, .data, .data, .data, .sentinel, .sentinel, .pinned], laidTests := true, laidLooks := .later }
def NormalizeJoinsUptoCardSaid : Prop := Claim7.holds Tryd.pinned (.plain (OpenSpec.upto normalizeJoinsSpec)) normalizeJoinsUptoCard

/-- THE SECOND FORM's CARD OF 'licitlaw23.NormalizeNotes'. -/
def normalizeNotesUptoCard : Claim7 := { stood := { row := normalizeNotesUptoRow, standIns := [], harness := (true, "ffe8c478618351ea5cdd6941d6fc03def4e7a8dc2c802073aff4b840a9a7d616"), looks := true }, kinds := [], alts := [], laidByText := true, laidKinds := [.data, .data, .data, .data, .sentinel, .sentinel, .pinned], laidTests := true, laidLooks := .later }
def NormalizeNotesUptoCardSaid : Prop := Claim7.holds Tryd.pinned (.plain (OpenSpec.upto normalizeNotesSpec)) normalizeNotesUptoCard
end Rows
end Go.Proofs.YtlecocmopeainaaDoor
