/-
  DERIVED. GIVEN WITH THE SEED: THE CARDS: each row of YtpoelhnceebmkaaGreatDoorRows.lean that lists a variable, with what it lists TIED to the program's text (the seventh form; the later family's looks); each row that meets fmt, with fmt's text TOLD by the authors' own Lean function (tested against real Go, not proved from fmt's source: count such statements apart). THE CARD IS WHAT COUNTS. Prove the row's statement (the work); the ties are given (YtpoelhnceebmkaaGreatDoorTie.lean); close each card by the builder's one call (the guide's Derived/Test/ToyasCard.lean, 'card_holds'). Laid BY PROGRAM, IN A SANDBOX (cutbox-door.mjs). By AI agents, Wed Nov 11 2026. No macro, syntax, notation, axiom, sorry.
-/
import Derived.Test.YtpoelhnceebmkaaGreatDoorRows
import GoSem.ClaimSeven
namespace Go.Proofs.YtpoelhnceebmkaaGreatDoor
namespace Rows

/-- THE TIED CARD OF 'licitlaw35.TemplateParses'. -/
def templateParsesCard : Claim7 := { stood := { row := templateParsesRow, standIns := [], harness := (true, "5e535b41d611dcf2b4324917871a00fe780a2479b47516cd634581a5b7e2f61b"), looks := true }, kinds := [], alts := [], laidByText := true, laidKinds := [.data, .data, .data, .data, .sentinel, .sentinel, .pinned], laidTests := true, laidLooks := .later }
def TemplateParsesCardSaid : Prop := Claim7.holds Tryz.pinned (.plain (OpenSpec.ofChange templateParsesSpec)) templateParsesCard

/-- THE TIED CARD OF 'licitlaw35.TemplateChecks'. -/
def templateChecksCard : Claim7 := { stood := { row := templateChecksRow, standIns := [], harness := (true, "5e535b41d611dcf2b4324917871a00fe780a2479b47516cd634581a5b7e2f61b"), looks := true }, kinds := [], alts := [], laidByText := true, laidKinds := [.data, .data, .data, .data, .sentinel, .sentinel, .pinned], laidTests := true, laidLooks := .later }
def TemplateChecksCardSaid : Prop := Claim7.holds Tryz.pinned (.plain (OpenSpec.ofChange templateChecksSpec)) templateChecksCard

/-- THE TIED CARD OF 'licitlaw35.TemplateMatches'. -/
def templateMatchesCard : Claim7 := { stood := { row := templateMatchesRow, standIns := [], harness := (true, "5e535b41d611dcf2b4324917871a00fe780a2479b47516cd634581a5b7e2f61b"), looks := true }, kinds := [], alts := [], laidByText := true, laidKinds := [.data, .data, .data, .data, .sentinel, .sentinel, .pinned], laidTests := true, laidLooks := .later }
def TemplateMatchesCardSaid : Prop := Claim7.holds Tryz.pinned (.plain (OpenSpec.ofChange templateMatchesSpec)) templateMatchesCard

/-- THE TIED CARD OF 'licitlaw35.TemplateReturns'. -/
def templateReturnsCard : Claim7 := { stood := { row := templateReturnsRow, standIns := [], harness := (true, "5e535b41d611dcf2b4324917871a00fe780a2479b47516cd634581a5b7e2f61b"), looks := true }, kinds := [], alts := [], laidByText := true, laidKinds := [.data, .data, .data, .data, .sentinel, .sentinel, .pinned], laidTests := true, laidLooks := .later }
def TemplateReturnsCardSaid : Prop := Claim7.holds Tryz.pinned (.plain (OpenSpec.ofChange templateReturnsSpec)) templateReturnsCard

/-- THE TIED CARD OF 'licitlaw35.TemplateFills'. -/
def templateFillsCard : Claim7 := { stood := { row := templateFillsRow, standIns := [], harness := (true, "5e535b41d611dcf2b4324917871a00fe780a2479b47516cd634581a5b7e2f61b"), looks := true }, kinds := [], alts := [], laidByText := true, laidKinds := [.data, .data, .data, .data, .sentinel, .sentinel, .pinned], laidTests := true, laidLooks := .later }
def TemplateFillsCardSaid : Prop := Claim7.holds Tryz.pinned (.plain (OpenSpec.ofChange templateFillsSpec)) templateFillsCard

/-- THE TIED CARD OF 'licitlaw35.TemplateFinds'. -/
def templateFindsCard : Claim7 := { stood := { row := templateFindsRow, standIns := [], harness := (true, "5e535b41d611dcf2b4324917871a00fe780a2479b47516cd634581a5b7e2f61b"), looks := true }, kinds := [], alts := [], laidByText := true, laidKinds := [.data, .data, .data, .data, .sentinel, .sentinel, .pinned], laidTests := true, laidLooks := .later }
def TemplateFindsCardSaid : Prop := Claim7.holds Tryz.pinned (.plain (OpenSpec.ofChange templateFindsSpec)) templateFindsCard

/-- THE SECOND FORM's CARD OF 'licitlaw35.TemplateParses'. -/
def templateParsesUptoCard : Claim7 := { stood := { row := templateParsesUptoRow, standIns := [], harness := (true, "5e535b41d611dcf2b4324917871a00fe780a2479b47516cd634581a5b7e2f61b"), looks := true }, kinds := [], alts := [], laidByText := true, laidKinds := [.data, .data, .data, .data, .sentinel, .sentinel, .pinned], laidTests := true, laidLooks := .later }
def TemplateParsesUptoCardSaid : Prop := Claim7.holds Tryz.pinned (.plain (OpenSpec.upto templateParsesSpec)) templateParsesUptoCard

/-- THE SECOND FORM's CARD OF 'licitlaw35.TemplateChecks'. -/
def templateChecksUptoCard : Claim7 := { stood := { row := templateChecksUptoRow, standIns := [], harness := (true, "5e535b41d611dcf2b4324917871a00fe780a2479b47516cd634581a5b7e2f61b"), looks := true }, kinds := [], alts := [], laidByText := true, laidKinds := [.data, .data, .data, .data, .sentinel, .sentinel, .pinned], laidTests := true, laidLooks := .later }
def TemplateChecksUptoCardSaid : Prop := Claim7.holds Tryz.pinned (.plain (OpenSpec.upto templateChecksSpec)) templateChecksUptoCard

/-- THE SECOND FORM's CARD OF 'licitlaw35.TemplateMatches'. -/
def templateMatchesUptoCard : Claim7 := { stood := { row := templateMatchesUptoRow, standIns := [], harness := (true, "5e535b41d611dcf2b4324917871a00fe780a2479b47516cd634581a5b7e2f61b"), looks := true }, kinds := [], alts := [], laidByText := true, laidKinds := [.data, .data, .data, .data, .sentinel, .sentinel, .pinned], laidTests := true, laidLooks := .later }
def TemplateMatchesUptoCardSaid : Prop := Claim7.holds Tryz.pinned (.plain (OpenSpec.upto templateMatchesSpec)) templateMatchesUptoCard

/-- THE SECOND FORM's CARD OF 'licitlaw35.TemplateReturns'. -/
def templateReturnsUptoCard : Claim7 := { stood := { row := templateReturnsUptoRow, standIns := [], harness := (true, "5e535b41d611dcf2b4324917871a00fe780a2479b47516cd634581a5b7e2f61b"), looks := true }, kinds := [], alts := [], laidByText := true, laidKinds := [.data, .data, .data, .data, .sentinel, .sentinel, .pinned], laidTests := true, laidLooks := .later }
def TemplateReturnsUptoCardSaid : Prop := Claim7.holds Tryz.pinned (.plain (OpenSpec.upto templateReturnsSpec)) templateReturnsUptoCard

/-- THE SECOND FORM's CARD OF 'licitlaw35.TemplateFills'. -/
def templateFillsUptoCard : Claim7 := { stood := { row := templateFillsUptoRow, standIns := [], harness := (true, "5e535b41d611dcf2b4324917871a00fe780a2479b47516cd634581a5b7e2f61b"), looks := true }, kinds := [], alts := [], laidByText := true, laidKinds := [.data, .data, .data, .data, .sentinel, .sentinel, .pinned], laidTests := true, laidLooks := .later }
def TemplateFillsUptoCardSaid : Prop := Claim7.holds Tryz.pinned (.plain (OpenSpec.upto templateFillsSpec)) templateFillsUptoCard

/-- THE SECOND FORM's CARD OF 'licitlaw35.TemplateFinds'. -/
def templateFindsUptoCard : Claim7 := { stood := { row := templateFindsUptoRow, standIns := [], harness := (true, "5e535b41d611dcf2b4324917871a00fe780a2479b47516cd634581a5b7e2f61b"), looks := true }, kinds := [], alts := [], laidByText := true, laidKinds := [.data, .data, .data, .data, .sentinel, .sentinel, .pinned], laidTests := true, laidLooks := .later }
def TemplateFindsUptoCardSaid : Prop := Claim7.holds Tryz.pinned (.plain (OpenSpec.upto templateFindsSpec)) templateFindsUptoCard
end Rows
end Go.Proofs.YtpoelhnceebmkaaGreatDoor
