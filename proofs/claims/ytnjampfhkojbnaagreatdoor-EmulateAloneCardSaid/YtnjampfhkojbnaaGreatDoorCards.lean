/-
  DERIVED. GIVEN WITH THE SEED: THE CARDS: each row of YtnjampfhkojbnaaGreatDoorRows.lean that lists a variable, with what it lists TIED to the program's text (the seventh form; the later family's looks); each row that meets fmt, with fmt's text TOLD by the authors' own Lean function (tested against real Go, not proved from fmt's source: count such statements apart). THE CARD IS WHAT COUNTS. Prove the row's statement (the work); the ties are given (YtnjampfhkojbnaaGreatDoorTie.lean); close each card by the builder's one call (the guide's Derived/Test/ToyasCard.lean, 'card_holds'). Laid BY PROGRAM, IN A SANDBOX (cutbox-door.mjs). By AI agents, Wed Nov 11 2026. No macro, syntax, notation, axiom, sorry.
-/
import Derived.Test.YtnjampfhkojbnaaGreatDoorRows
import GoSem.ClaimSeven
namespace Go.Proofs.YtnjampfhkojbnaaGreatDoor
namespace Rows

/-- THE TIED CARD OF 'licitlaw13.EmulateRuns'. -/
def emulateRunsCard : Claim7 := { stood := { row := emulateRunsRow, standIns := [], harness := (true, "852df282de5a7943e55aeb19eb3145b5b341fabb8f10b228948d8c78acc9a1e9"), looks := false }, kinds := [], alts := [], laidByText := true, laidKinds := [.data, .pinned], laidTests := true, laidLooks := .later }
def EmulateRunsCardSaid : Prop := Claim7.holds Tryz.pinned (.plain (OpenSpec.ofChange emulateRunsSpec)) emulateRunsCard

/-- THE TIED CARD OF 'licitlaw13.EmulateLoads'. -/
def emulateLoadsCard : Claim7 := { stood := { row := emulateLoadsRow, standIns := [], harness := (true, "852df282de5a7943e55aeb19eb3145b5b341fabb8f10b228948d8c78acc9a1e9"), looks := false }, kinds := [], alts := [], laidByText := true, laidKinds := [.data, .pinned], laidTests := true, laidLooks := .later }
def EmulateLoadsCardSaid : Prop := Claim7.holds Tryz.pinned (.plain (OpenSpec.ofChange emulateLoadsSpec)) emulateLoadsCard

/-- THE TIED CARD OF 'licitlaw13.EmulateCalls'. -/
def emulateCallsCard : Claim7 := { stood := { row := emulateCallsRow, standIns := [], harness := (true, "852df282de5a7943e55aeb19eb3145b5b341fabb8f10b228948d8c78acc9a1e9"), looks := false }, kinds := [], alts := [], laidByText := true, laidKinds := [.data, .pinned], laidTests := true, laidLooks := .later }
def EmulateCallsCardSaid : Prop := Claim7.holds Tryz.pinned (.plain (OpenSpec.ofChange emulateCallsSpec)) emulateCallsCard

/-- THE TIED CARD OF 'licitlaw13.EmulateCode'. -/
def emulateCodeCard : Claim7 := { stood := { row := emulateCodeRow, standIns := [], harness := (true, "852df282de5a7943e55aeb19eb3145b5b341fabb8f10b228948d8c78acc9a1e9"), looks := false }, kinds := [], alts := [], laidByText := true, laidKinds := [.data, .pinned], laidTests := true, laidLooks := .later }
def EmulateCodeCardSaid : Prop := Claim7.holds Tryz.pinned (.plain (OpenSpec.ofChange emulateCodeSpec)) emulateCodeCard

/-- THE TIED CARD OF 'licitlaw13.EmulateLonger'. -/
def emulateLongerCard : Claim7 := { stood := { row := emulateLongerRow, standIns := [], harness := (true, "852df282de5a7943e55aeb19eb3145b5b341fabb8f10b228948d8c78acc9a1e9"), looks := false }, kinds := [], alts := [], laidByText := true, laidKinds := [.data, .pinned], laidTests := true, laidLooks := .later }
def EmulateLongerCardSaid : Prop := Claim7.holds Tryz.pinned (.plain (OpenSpec.ofChange emulateLongerSpec)) emulateLongerCard

/-- THE TIED CARD OF 'licitlaw13.EmulateInputs'. -/
def emulateInputsCard : Claim7 := { stood := { row := emulateInputsRow, standIns := [], harness := (true, "852df282de5a7943e55aeb19eb3145b5b341fabb8f10b228948d8c78acc9a1e9"), looks := false }, kinds := [], alts := [], laidByText := true, laidKinds := [.data, .pinned], laidTests := true, laidLooks := .later }
def EmulateInputsCardSaid : Prop := Claim7.holds Tryz.pinned (.plain (OpenSpec.ofChange emulateInputsSpec)) emulateInputsCard

/-- THE TIED CARD OF 'licitlaw13.EmulateAlone'. -/
def emulateAloneCard : Claim7 := { stood := { row := emulateAloneRow, standIns := [], harness := (true, "852df282de5a7943e55aeb19eb3145b5b341fabb8f10b228948d8c78acc9a1e9"), looks := false }, kinds := [], alts := [], laidByText := true, laidKinds := [.data, .pinned], laidTests := true, laidLooks := .later }
def EmulateAloneCardSaid : Prop := Claim7.holds Tryz.pinned (.plain (OpenSpec.ofChange emulateAloneSpec)) emulateAloneCard

/-- THE SECOND FORM's CARD OF 'licitlaw13.EmulateRuns'. -/
def emulateRunsUptoCard : Claim7 := { stood := { row := emulateRunsUptoRow, standIns := [], harness := (true, "852df282de5a7943e55aeb19eb3145b5b341fabb8f10b228948d8c78acc9a1e9"), looks := false }, kinds := [], alts := [], laidByText := true, laidKinds := [.data, .pinned], laidTests := true, laidLooks := .later }
def EmulateRunsUptoCardSaid : Prop := Claim7.holds Tryz.pinned (.plain (OpenSpec.upto emulateRunsSpec)) emulateRunsUptoCard

/-- THE SECOND FORM's CARD OF 'licitlaw13.EmulateLoads'. -/
def emulateLoadsUptoCard : Claim7 := { stood := { row := emulateLoadsUptoRow, standIns := [], harness := (true, "852df282de5a7943e55aeb19eb3145b5b341fabb8f10b228948d8c78acc9a1e9"), looks := false }, kinds := [], alts := [], laidByText := true, laidKinds := [.data, .pinned], laidTests := true, laidLooks := .later }
def EmulateLoadsUptoCardSaid : Prop := Claim7.holds Tryz.pinned (.plain (OpenSpec.upto emulateLoadsSpec)) emulateLoadsUptoCard

/-- THE SECOND FORM's CARD OF 'licitlaw13.EmulateCalls'. -/
def emulateCallsUptoCard : Claim7 := { stood := { row := emulateCallsUptoRow, standIns := [], harness := (true, "852df282de5a7943e55aeb19eb3145b5b341fabb8f10b228948d8c78acc9a1e9"), looks := false }, kinds := [], alts := [], laidByText := true, laidKinds := [.data, .pinned], laidTests := true, laidLooks := .later }
def EmulateCallsUptoCardSaid : Prop := Claim7.holds Tryz.pinned (.plain (OpenSpec.upto emulateCallsSpec)) emulateCallsUptoCard

/-- THE SECOND FORM's CARD OF 'licitlaw13.EmulateCode'. -/
def emulateCodeUptoCard : Claim7 := { stood := { row := emulateCodeUptoRow, standIns := [], harness := (true, "852df282de5a7943e55aeb19eb3145b5b341fabb8f10b228948d8c78acc9a1e9"), looks := false }, kinds := [], alts := [], laidByText := true, laidKinds := [.data, .pinned], laidTests := true, laidLooks := .later }
def EmulateCodeUptoCardSaid : Prop := Claim7.holds Tryz.pinned (.plain (OpenSpec.upto emulateCodeSpec)) emulateCodeUptoCard

/-- THE SECOND FORM's CARD OF 'licitlaw13.EmulateLonger'. -/
def emulateLongerUptoCard : Claim7 := { stood := { row := emulateLongerUptoRow, standIns := [], harness := (true, "852df282de5a7943e55aeb19eb3145b5b341fabb8f10b228948d8c78acc9a1e9"), looks := false }, kinds := [], alts := [], laidByText := true, laidKinds := [.data, .pinned], laidTests := true, laidLooks := .later }
def EmulateLongerUptoCardSaid : Prop := Claim7.holds Tryz.pinned (.plain (OpenSpec.upto emulateLongerSpec)) emulateLongerUptoCard

/-- THE SECOND FORM's CARD OF 'licitlaw13.EmulateInputs'. -/
def emulateInputsUptoCard : Claim7 := { stood := { row := emulateInputsUptoRow, standIns := [], harness := (true, "852df282de5a7943e55aeb19eb3145b5b341fabb8f10b228948d8c78acc9a1e9"), looks := false }, kinds := [], alts := [], laidByText := true, laidKinds := [.data, .pinned], laidTests := true, laidLooks := .later }
def EmulateInputsUptoCardSaid : Prop := Claim7.holds Tryz.pinned (.plain (OpenSpec.upto emulateInputsSpec)) emulateInputsUptoCard

/-- THE SECOND FORM's CARD OF 'licitlaw13.EmulateAlone'. -/
def emulateAloneUptoCard : Claim7 := { stood := { row := emulateAloneUptoRow, standIns := [], harness := (true, "852df282de5a7943e55aeb19eb3145b5b341fabb8f10b228948d8c78acc9a1e9"), looks := false }, kinds := [], alts := [], laidByText := true, laidKinds := [.data, .pinned], laidTests := true, laidLooks := .later }
def EmulateAloneUptoCardSaid : Prop := Claim7.holds Tryz.pinned (.plain (OpenSpec.upto emulateAloneSpec)) emulateAloneUptoCard
end Rows
end Go.Proofs.YtnjampfhkojbnaaGreatDoor
