/-
  DERIVED. GIVEN WITH THE SEED: THE CARDS: each row of YtpoelhnceebmkaaDoorRows.lean that lists a variable, with what it lists TIED to the program's text (the seventh form; the later family's looks); each row that meets fmt, with fmt's text TOLD by the authors' own Lean function (tested against real Go, not proved from fmt's source: count such statements apart). THE CARD IS WHAT COUNTS. Prove the row's statement (the work); the ties are given (YtpoelhnceebmkaaDoorTie.lean); close each card by the builder's one call (the guide's Derived/Test/ToyasCard.lean, 'card_holds'). Laid BY PROGRAM, IN A SANDBOX (cutbox-door.mjs). By AI agents, Wed Nov 11 2026. No macro, syntax, notation, axiom, sorry.
-/
import Derived.Test.YtpoelhnceebmkaaDoorRows
import GoSem.ClaimSeven
namespace Go.Proofs.YtpoelhnceebmkaaDoor
namespace Rows

/-- THE TIED CARD OF 'licitlaw35.TemplateWords'. -/
def templateWordsCard : Claim7 := { stood := { row := templateWordsRow, standIns := [], harness := (true, "f1f78a16707b06cfc6f4cacfac3aed3f6babbe6f5d2db7a6362d19cb6ced44d7"), looks := true }, kinds := [], alts := [], laidByText := true, laidKinds := [.data, .data, .data, .data, .sentinel, .sentinel, .pinned], laidTests := true, laidLooks := .later }
def TemplateWordsCardSaid : Prop := Claim7.holds Tryd.pinned (.plain (OpenSpec.ofChange templateWordsSpec)) templateWordsCard

/-- THE TIED CARD OF 'licitlaw35.TemplateLetters'. -/
def templateLettersCard : Claim7 := { stood := { row := templateLettersRow, standIns := [], harness := (true, "f1f78a16707b06cfc6f4cacfac3aed3f6babbe6f5d2db7a6362d19cb6ced44d7"), looks := true }, kinds := [], alts := [], laidByText := true, laidKinds := [.data, .data, .data, .data, .sentinel, .sentinel, .pinned], laidTests := true, laidLooks := .later }
def TemplateLettersCardSaid : Prop := Claim7.holds Tryd.pinned (.plain (OpenSpec.ofChange templateLettersSpec)) templateLettersCard

/-- THE SECOND FORM's CARD OF 'licitlaw35.TemplateWords'. -/
def templateWordsUptoCard : Claim7 := { stood := { row := templateWordsUptoRow, standIns := [], harness := (true, "f1f78a16707b06cfc6f4cacfac3aed3f6babbe6f5d2db7a6362d19cb6ced44d7"), looks := true }, kinds := [], alts := [], laidByText := true, laidKinds := [.data, .data, .data, .data, .sentinel, .sentinel, .pinned], laidTests := true, laidLooks := .later }
def TemplateWordsUptoCardSaid : Prop := Claim7.holds Tryd.pinned (.plain (OpenSpec.upto templateWordsSpec)) templateWordsUptoCard

/-- THE SECOND FORM's CARD OF 'licitlaw35.TemplateLetters'. -/
def templateLettersUptoCard : Claim7 := { stood := { row := templateLettersUptoRow, standIns := [], harness := (true, "f1f78a16707b06cfc6f4cacfac3aed3f6babbe6f5d2db7a6362d19cb6ced44d7"), looks := true }, kinds := [], alts := [], laidByText := true, laidKinds := [.data, .data, .data, .data, .sentinel, .sentinel, .pinned], laidTests := true, laidLooks := .later }
def TemplateLettersUptoCardSaid : Prop := Claim7.holds Tryd.pinned (.plain (OpenSpec.upto templateLettersSpec)) templateLettersUptoCard
end Rows
end Go.Proofs.YtpoelhnceebmkaaDoor
