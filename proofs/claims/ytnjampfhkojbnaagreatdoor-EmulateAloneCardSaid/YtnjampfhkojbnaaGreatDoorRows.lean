/-
  NARROWER THAN 'FOR EVERY INPUT', by the rows' own cells (each row's printed sentence says how): EmulateRuns: laid · EmulateLoads: laid · EmulateCalls: laid · EmulateCode: laid · EmulateLonger: laid · EmulateInputs: laid · EmulateAlone: laid.
  DERIVED. THE GIVEN ROWS OF THIS SEAT. 7 by the template 'for every input the law returns true; each argument reads behind the call as it read before'; 0 by the template 'total and deterministic' (their statements: YtnjampfhkojbnaaGreatDoorTotals.lean).
  GIVEN WITH THE SEED: the statements are not yours to turn. If you find one false, say at which input.
  Laid BY PROGRAM, IN A SANDBOX (cutbox-rows.mjs): the forced cells as the released guide's own fill.sh prints them over the translation 36dbc150696b70c9… (all of the seat's roots in one cut). By AI agents, Wed Nov 11 2026. No macro, syntax, notation, axiom, sorry.
-/
import Derived.Test.YtnjampfhkojbnaaGreatDoorChecked
import GoSem.PinnedTables
import GoSem.Claim
import GoSem.ClaimJoined
import GoSem.ClaimMapViews
import Derived.JoinedTies
import Derived.KernelRfl
namespace Go.Proofs.YtnjampfhkojbnaaGreatDoor
/- THE CELL 'sum', in the pinned program and in every row, IS THE sha256 OF THE DUMP (.gsa) THAT YtnjampfhkojbnaaGreatDoorProg.lean LOADS. Nothing in Lean hashes anything: it is a label: what it is worth is what the hold of that sum in a sandbox is worth. -/
noncomputable def Tryz.pinned : Pinned := { name := "ytnjampfhkojbnaagreatdoor", sum := "36dbc150696b70c92d9ac64b6c82d77f45e9972b21a0fa1fe1b1db49a5b2b948", checked := Tryz.checked }
namespace Rows
def none {H : Type} : Left H := { results := [], args := [] }

/- WHAT THE LISTED PACKAGE-LEVEL VARIABLES READ AS WHEN THE CALL BEGINS. Each datum BY PROGRAM (the guide's laid-datum.mjs) off the statement by which the dump's own 'gosem.cut.vars' lays the variable. In a bare row this is a premise. The card (YtnjampfhkojbnaaGreatDoorCards.lean) ties it to the program's text. -/
def laid_unicode_utf8_acceptRanges {H : Type} : DataW H := .agg [.agg [.lit (.int .u8 128), .lit (.int .u8 191)], .agg [.lit (.int .u8 160), .lit (.int .u8 191)], .agg [.lit (.int .u8 128), .lit (.int .u8 159)], .agg [.lit (.int .u8 144), .lit (.int .u8 191)], .agg [.lit (.int .u8 128), .lit (.int .u8 143)], .agg [.lit (.int .u8 0), .lit (.int .u8 0)], .agg [.lit (.int .u8 0), .lit (.int .u8 0)], .agg [.lit (.int .u8 0), .lit (.int .u8 0)], .agg [.lit (.int .u8 0), .lit (.int .u8 0)], .agg [.lit (.int .u8 0), .lit (.int .u8 0)], .agg [.lit (.int .u8 0), .lit (.int .u8 0)], .agg [.lit (.int .u8 0), .lit (.int .u8 0)], .agg [.lit (.int .u8 0), .lit (.int .u8 0)], .agg [.lit (.int .u8 0), .lit (.int .u8 0)], .agg [.lit (.int .u8 0), .lit (.int .u8 0)], .agg [.lit (.int .u8 0), .lit (.int .u8 0)]]
/-- One of Go's own tables, pinned by name: the form's constant. -/
def laid_unicode_utf8_first : DataW Unit := Go.Pinned.utf8First

/-- 'licitlaw13.EmulateRuns': WHATEVER THE INPUT: true; the input reads as it did. -/
def emulateRunsSpec : ChangeSpec := { name := "emulateRuns", fn := fun _ => fun
  | [d1, d2, d3] => { results := [.lit (.bool true)], args := [d1, d2, d3] }
  | _ => none }
def emulateRunsRow : OpenClaim := { program := "ytnjampfhkojbnaagreatdoor", sum := "36dbc150696b70c92d9ac64b6c82d77f45e9972b21a0fa1fe1b1db49a5b2b948", func := "licit/licitlaw13.EmulateRuns", spec := "emulateRuns", inPlace := ["internal/bytealg.IndexByteString", "internal/bytealg.IndexString", "internal/bytealg.CountString"], unfollowed := true, recurses := true, named := ["internal/bytealg.MaxLen", "unicode/utf8.first", "unicode/utf8.acceptRanges"], plainKeys := false, apart := false, laid := [("unicode/utf8.acceptRanges", laid_unicode_utf8_acceptRanges), ("unicode/utf8.first", laid_unicode_utf8_first)] }
def EmulateRunsSaid : Prop := emulateRunsRow.holds Tryz.pinned (OpenSpec.ofChange emulateRunsSpec)

/-- ITS FALSE NEIGHBOUR: 'it returns false'. Refute it at one input. -/
def emulateRunsWrong : ChangeSpec := { name := "emulateRuns", fn := fun _ => fun
  | [d1, d2, d3] => { results := [.lit (.bool false)], args := [d1, d2, d3] }
  | _ => none }
def EmulateRunsWrongFalsely : Prop := emulateRunsRow.holds Tryz.pinned (OpenSpec.ofChange emulateRunsWrong)

/-- 'licitlaw13.EmulateLoads': WHATEVER THE INPUT: true; the input reads as it did. -/
def emulateLoadsSpec : ChangeSpec := { name := "emulateLoads", fn := fun _ => fun
  | [d] => { results := [.lit (.bool true)], args := [d] }
  | _ => none }
def emulateLoadsRow : OpenClaim := { program := "ytnjampfhkojbnaagreatdoor", sum := "36dbc150696b70c92d9ac64b6c82d77f45e9972b21a0fa1fe1b1db49a5b2b948", func := "licit/licitlaw13.EmulateLoads", spec := "emulateLoads", inPlace := ["internal/bytealg.IndexByteString", "internal/bytealg.IndexString", "internal/bytealg.CountString"], unfollowed := true, recurses := true, named := ["internal/bytealg.MaxLen", "unicode/utf8.first", "unicode/utf8.acceptRanges"], plainKeys := false, apart := false, laid := [("unicode/utf8.acceptRanges", laid_unicode_utf8_acceptRanges), ("unicode/utf8.first", laid_unicode_utf8_first)] }
def EmulateLoadsSaid : Prop := emulateLoadsRow.holds Tryz.pinned (OpenSpec.ofChange emulateLoadsSpec)

/-- ITS FALSE NEIGHBOUR: 'it returns false'. Refute it at one input. -/
def emulateLoadsWrong : ChangeSpec := { name := "emulateLoads", fn := fun _ => fun
  | [d] => { results := [.lit (.bool false)], args := [d] }
  | _ => none }
def EmulateLoadsWrongFalsely : Prop := emulateLoadsRow.holds Tryz.pinned (OpenSpec.ofChange emulateLoadsWrong)

/-- 'licitlaw13.EmulateCalls': WHATEVER THE INPUT: true; the input reads as it did. -/
def emulateCallsSpec : ChangeSpec := { name := "emulateCalls", fn := fun _ => fun
  | [d1, d2, d3] => { results := [.lit (.bool true)], args := [d1, d2, d3] }
  | _ => none }
def emulateCallsRow : OpenClaim := { program := "ytnjampfhkojbnaagreatdoor", sum := "36dbc150696b70c92d9ac64b6c82d77f45e9972b21a0fa1fe1b1db49a5b2b948", func := "licit/licitlaw13.EmulateCalls", spec := "emulateCalls", inPlace := ["internal/bytealg.IndexByteString", "internal/bytealg.IndexString", "internal/bytealg.CountString"], unfollowed := true, recurses := true, named := ["internal/bytealg.MaxLen", "unicode/utf8.first", "unicode/utf8.acceptRanges"], plainKeys := false, apart := false, laid := [("unicode/utf8.acceptRanges", laid_unicode_utf8_acceptRanges), ("unicode/utf8.first", laid_unicode_utf8_first)] }
def EmulateCallsSaid : Prop := emulateCallsRow.holds Tryz.pinned (OpenSpec.ofChange emulateCallsSpec)

/-- ITS FALSE NEIGHBOUR: 'it returns false'. Refute it at one input. -/
def emulateCallsWrong : ChangeSpec := { name := "emulateCalls", fn := fun _ => fun
  | [d1, d2, d3] => { results := [.lit (.bool false)], args := [d1, d2, d3] }
  | _ => none }
def EmulateCallsWrongFalsely : Prop := emulateCallsRow.holds Tryz.pinned (OpenSpec.ofChange emulateCallsWrong)

/-- 'licitlaw13.EmulateCode': WHATEVER THE INPUT: true; the input reads as it did. -/
def emulateCodeSpec : ChangeSpec := { name := "emulateCode", fn := fun _ => fun
  | [d1, d2] => { results := [.lit (.bool true)], args := [d1, d2] }
  | _ => none }
def emulateCodeRow : OpenClaim := { program := "ytnjampfhkojbnaagreatdoor", sum := "36dbc150696b70c92d9ac64b6c82d77f45e9972b21a0fa1fe1b1db49a5b2b948", func := "licit/licitlaw13.EmulateCode", spec := "emulateCode", inPlace := ["internal/bytealg.IndexByteString", "internal/bytealg.IndexString", "internal/bytealg.CountString"], unfollowed := true, recurses := true, named := ["internal/bytealg.MaxLen", "unicode/utf8.first", "unicode/utf8.acceptRanges"], plainKeys := false, apart := false, laid := [("unicode/utf8.acceptRanges", laid_unicode_utf8_acceptRanges), ("unicode/utf8.first", laid_unicode_utf8_first)] }
def EmulateCodeSaid : Prop := emulateCodeRow.holds Tryz.pinned (OpenSpec.ofChange emulateCodeSpec)

/-- ITS FALSE NEIGHBOUR: 'it returns false'. Refute it at one input. -/
def emulateCodeWrong : ChangeSpec := { name := "emulateCode", fn := fun _ => fun
  | [d1, d2] => { results := [.lit (.bool false)], args := [d1, d2] }
  | _ => none }
def EmulateCodeWrongFalsely : Prop := emulateCodeRow.holds Tryz.pinned (OpenSpec.ofChange emulateCodeWrong)

/-- 'licitlaw13.EmulateLonger': WHATEVER THE INPUT: true; the input reads as it did. -/
def emulateLongerSpec : ChangeSpec := { name := "emulateLonger", fn := fun _ => fun
  | [d1, d2, d3] => { results := [.lit (.bool true)], args := [d1, d2, d3] }
  | _ => none }
def emulateLongerRow : OpenClaim := { program := "ytnjampfhkojbnaagreatdoor", sum := "36dbc150696b70c92d9ac64b6c82d77f45e9972b21a0fa1fe1b1db49a5b2b948", func := "licit/licitlaw13.EmulateLonger", spec := "emulateLonger", inPlace := ["internal/bytealg.IndexByteString", "internal/bytealg.IndexString", "internal/bytealg.CountString"], unfollowed := true, recurses := true, named := ["internal/bytealg.MaxLen", "unicode/utf8.first", "unicode/utf8.acceptRanges"], plainKeys := false, apart := false, laid := [("unicode/utf8.acceptRanges", laid_unicode_utf8_acceptRanges), ("unicode/utf8.first", laid_unicode_utf8_first)] }
def EmulateLongerSaid : Prop := emulateLongerRow.holds Tryz.pinned (OpenSpec.ofChange emulateLongerSpec)

/-- ITS FALSE NEIGHBOUR: 'it returns false'. Refute it at one input. -/
def emulateLongerWrong : ChangeSpec := { name := "emulateLonger", fn := fun _ => fun
  | [d1, d2, d3] => { results := [.lit (.bool false)], args := [d1, d2, d3] }
  | _ => none }
def EmulateLongerWrongFalsely : Prop := emulateLongerRow.holds Tryz.pinned (OpenSpec.ofChange emulateLongerWrong)

/-- 'licitlaw13.EmulateInputs': WHATEVER THE INPUT: true; the input reads as it did. -/
def emulateInputsSpec : ChangeSpec := { name := "emulateInputs", fn := fun _ => fun
  | [d1, d2, d3] => { results := [.lit (.bool true)], args := [d1, d2, d3] }
  | _ => none }
def emulateInputsRow : OpenClaim := { program := "ytnjampfhkojbnaagreatdoor", sum := "36dbc150696b70c92d9ac64b6c82d77f45e9972b21a0fa1fe1b1db49a5b2b948", func := "licit/licitlaw13.EmulateInputs", spec := "emulateInputs", inPlace := ["internal/bytealg.IndexByteString", "internal/bytealg.IndexString", "internal/bytealg.CountString"], unfollowed := true, recurses := true, named := ["internal/bytealg.MaxLen", "unicode/utf8.first", "unicode/utf8.acceptRanges"], plainKeys := false, apart := false, laid := [("unicode/utf8.acceptRanges", laid_unicode_utf8_acceptRanges), ("unicode/utf8.first", laid_unicode_utf8_first)] }
def EmulateInputsSaid : Prop := emulateInputsRow.holds Tryz.pinned (OpenSpec.ofChange emulateInputsSpec)

/-- ITS FALSE NEIGHBOUR: 'it returns false'. Refute it at one input. -/
def emulateInputsWrong : ChangeSpec := { name := "emulateInputs", fn := fun _ => fun
  | [d1, d2, d3] => { results := [.lit (.bool false)], args := [d1, d2, d3] }
  | _ => none }
def EmulateInputsWrongFalsely : Prop := emulateInputsRow.holds Tryz.pinned (OpenSpec.ofChange emulateInputsWrong)

/-- 'licitlaw13.EmulateAlone': WHATEVER THE INPUT: true; the input reads as it did. -/
def emulateAloneSpec : ChangeSpec := { name := "emulateAlone", fn := fun _ => fun
  | [d1, d2, d3] => { results := [.lit (.bool true)], args := [d1, d2, d3] }
  | _ => none }
def emulateAloneRow : OpenClaim := { program := "ytnjampfhkojbnaagreatdoor", sum := "36dbc150696b70c92d9ac64b6c82d77f45e9972b21a0fa1fe1b1db49a5b2b948", func := "licit/licitlaw13.EmulateAlone", spec := "emulateAlone", inPlace := ["internal/bytealg.IndexByteString", "internal/bytealg.IndexString", "internal/bytealg.CountString", "internal/abi.NoEscape", "internal/bytealg.MakeNoZero"], unfollowed := true, recurses := true, named := ["internal/bytealg.MaxLen", "unicode/utf8.first", "unicode/utf8.acceptRanges"], plainKeys := false, apart := false, laid := [("unicode/utf8.acceptRanges", laid_unicode_utf8_acceptRanges), ("unicode/utf8.first", laid_unicode_utf8_first)] }
def EmulateAloneSaid : Prop := emulateAloneRow.holds Tryz.pinned (OpenSpec.ofChange emulateAloneSpec)

/-- ITS FALSE NEIGHBOUR: 'it returns false'. Refute it at one input. -/
def emulateAloneWrong : ChangeSpec := { name := "emulateAlone", fn := fun _ => fun
  | [d1, d2, d3] => { results := [.lit (.bool false)], args := [d1, d2, d3] }
  | _ => none }
def EmulateAloneWrongFalsely : Prop := emulateAloneRow.holds Tryz.pinned (OpenSpec.ofChange emulateAloneWrong)

/- THE SECOND FORM. 'bulk': how many values and letters a reading holds, each counted each time it is reached (what is shared counts as often as it is met; a slice's spare places count too). A statement '..UptoSaid' is the law's where the arguments, and the package variables that the reading takes, are together of bulk at most 1048576: NARROWER than '..Said'. Prove '..Said' where nothing that the law and all that it calls make is longer than what came in: it says more and counts as full. Else prove '..UptoSaid'. A law counts once. -/
mutual
def uptoBulk {H : Type} : DataW H → Nat
  | .lit (.string bytes) => bytes.length + 1
  | .lit _ => 1
  | .nil => 1
  | .ptr d => uptoBulk d + 1
  | .slice elems spare => uptoBulkAll elems + uptoBulkAll spare + 1
  | .agg parts => uptoBulkAll parts + 1
  | .iface _ d => uptoBulk d + 1
  | .map entries => uptoBulkEntries entries + 1
  | .held _ => 1
def uptoBulkAll {H : Type} : List (DataW H) → Nat
  | [] => 0
  | d :: r => uptoBulk d + uptoBulkAll r
def uptoBulkEntries {H : Type} : List (Lit × DataW H) → Nat
  | [] => 0
  | x :: r => uptoBulkEntry x + uptoBulkEntries r
def uptoBulkEntry {H : Type} : Lit × DataW H → Nat
  | (.string bytes, d) => bytes.length + uptoBulk d + 1
  | (_, d) => uptoBulk d + 1
 end
def uptoSmall : (H : Type) → List (DataW H) → Bool := fun _ ds => decide (uptoBulkAll ds ≤ 1048576)
def OpenSpec.upto (s : _root_.Go.ChangeSpec) : _root_.Go.OpenSpec := { _root_.Go.OpenSpec.ofChange s with cond := some uptoSmall }

/-- 'licitlaw13.EmulateRuns', WHERE WHAT IT READS IS OF BULK AT MOST 1048576: true; the input reads as it did. -/
def emulateRunsUptoRow : OpenClaim := { program := "ytnjampfhkojbnaagreatdoor", sum := "36dbc150696b70c92d9ac64b6c82d77f45e9972b21a0fa1fe1b1db49a5b2b948", func := "licit/licitlaw13.EmulateRuns", spec := "emulateRuns", inPlace := ["internal/bytealg.IndexByteString", "internal/bytealg.IndexString", "internal/bytealg.CountString"], unfollowed := true, recurses := true, named := ["internal/bytealg.MaxLen", "unicode/utf8.first", "unicode/utf8.acceptRanges"], plainKeys := false, apart := false, laid := [("unicode/utf8.acceptRanges", laid_unicode_utf8_acceptRanges), ("unicode/utf8.first", laid_unicode_utf8_first)], narrowed := true }
def EmulateRunsUptoSaid : Prop := emulateRunsUptoRow.holds Tryz.pinned (OpenSpec.upto emulateRunsSpec)

/-- 'licitlaw13.EmulateLoads', WHERE WHAT IT READS IS OF BULK AT MOST 1048576: true; the input reads as it did. -/
def emulateLoadsUptoRow : OpenClaim := { program := "ytnjampfhkojbnaagreatdoor", sum := "36dbc150696b70c92d9ac64b6c82d77f45e9972b21a0fa1fe1b1db49a5b2b948", func := "licit/licitlaw13.EmulateLoads", spec := "emulateLoads", inPlace := ["internal/bytealg.IndexByteString", "internal/bytealg.IndexString", "internal/bytealg.CountString"], unfollowed := true, recurses := true, named := ["internal/bytealg.MaxLen", "unicode/utf8.first", "unicode/utf8.acceptRanges"], plainKeys := false, apart := false, laid := [("unicode/utf8.acceptRanges", laid_unicode_utf8_acceptRanges), ("unicode/utf8.first", laid_unicode_utf8_first)], narrowed := true }
def EmulateLoadsUptoSaid : Prop := emulateLoadsUptoRow.holds Tryz.pinned (OpenSpec.upto emulateLoadsSpec)

/-- 'licitlaw13.EmulateCalls', WHERE WHAT IT READS IS OF BULK AT MOST 1048576: true; the input reads as it did. -/
def emulateCallsUptoRow : OpenClaim := { program := "ytnjampfhkojbnaagreatdoor", sum := "36dbc150696b70c92d9ac64b6c82d77f45e9972b21a0fa1fe1b1db49a5b2b948", func := "licit/licitlaw13.EmulateCalls", spec := "emulateCalls", inPlace := ["internal/bytealg.IndexByteString", "internal/bytealg.IndexString", "internal/bytealg.CountString"], unfollowed := true, recurses := true, named := ["internal/bytealg.MaxLen", "unicode/utf8.first", "unicode/utf8.acceptRanges"], plainKeys := false, apart := false, laid := [("unicode/utf8.acceptRanges", laid_unicode_utf8_acceptRanges), ("unicode/utf8.first", laid_unicode_utf8_first)], narrowed := true }
def EmulateCallsUptoSaid : Prop := emulateCallsUptoRow.holds Tryz.pinned (OpenSpec.upto emulateCallsSpec)

/-- 'licitlaw13.EmulateCode', WHERE WHAT IT READS IS OF BULK AT MOST 1048576: true; the input reads as it did. -/
def emulateCodeUptoRow : OpenClaim := { program := "ytnjampfhkojbnaagreatdoor", sum := "36dbc150696b70c92d9ac64b6c82d77f45e9972b21a0fa1fe1b1db49a5b2b948", func := "licit/licitlaw13.EmulateCode", spec := "emulateCode", inPlace := ["internal/bytealg.IndexByteString", "internal/bytealg.IndexString", "internal/bytealg.CountString"], unfollowed := true, recurses := true, named := ["internal/bytealg.MaxLen", "unicode/utf8.first", "unicode/utf8.acceptRanges"], plainKeys := false, apart := false, laid := [("unicode/utf8.acceptRanges", laid_unicode_utf8_acceptRanges), ("unicode/utf8.first", laid_unicode_utf8_first)], narrowed := true }
def EmulateCodeUptoSaid : Prop := emulateCodeUptoRow.holds Tryz.pinned (OpenSpec.upto emulateCodeSpec)

/-- 'licitlaw13.EmulateLonger', WHERE WHAT IT READS IS OF BULK AT MOST 1048576: true; the input reads as it did. -/
def emulateLongerUptoRow : OpenClaim := { program := "ytnjampfhkojbnaagreatdoor", sum := "36dbc150696b70c92d9ac64b6c82d77f45e9972b21a0fa1fe1b1db49a5b2b948", func := "licit/licitlaw13.EmulateLonger", spec := "emulateLonger", inPlace := ["internal/bytealg.IndexByteString", "internal/bytealg.IndexString", "internal/bytealg.CountString"], unfollowed := true, recurses := true, named := ["internal/bytealg.MaxLen", "unicode/utf8.first", "unicode/utf8.acceptRanges"], plainKeys := false, apart := false, laid := [("unicode/utf8.acceptRanges", laid_unicode_utf8_acceptRanges), ("unicode/utf8.first", laid_unicode_utf8_first)], narrowed := true }
def EmulateLongerUptoSaid : Prop := emulateLongerUptoRow.holds Tryz.pinned (OpenSpec.upto emulateLongerSpec)

/-- 'licitlaw13.EmulateInputs', WHERE WHAT IT READS IS OF BULK AT MOST 1048576: true; the input reads as it did. -/
def emulateInputsUptoRow : OpenClaim := { program := "ytnjampfhkojbnaagreatdoor", sum := "36dbc150696b70c92d9ac64b6c82d77f45e9972b21a0fa1fe1b1db49a5b2b948", func := "licit/licitlaw13.EmulateInputs", spec := "emulateInputs", inPlace := ["internal/bytealg.IndexByteString", "internal/bytealg.IndexString", "internal/bytealg.CountString"], unfollowed := true, recurses := true, named := ["internal/bytealg.MaxLen", "unicode/utf8.first", "unicode/utf8.acceptRanges"], plainKeys := false, apart := false, laid := [("unicode/utf8.acceptRanges", laid_unicode_utf8_acceptRanges), ("unicode/utf8.first", laid_unicode_utf8_first)], narrowed := true }
def EmulateInputsUptoSaid : Prop := emulateInputsUptoRow.holds Tryz.pinned (OpenSpec.upto emulateInputsSpec)

/-- 'licitlaw13.EmulateAlone', WHERE WHAT IT READS IS OF BULK AT MOST 1048576: true; the input reads as it did. -/
def emulateAloneUptoRow : OpenClaim := { program := "ytnjampfhkojbnaagreatdoor", sum := "36dbc150696b70c92d9ac64b6c82d77f45e9972b21a0fa1fe1b1db49a5b2b948", func := "licit/licitlaw13.EmulateAlone", spec := "emulateAlone", inPlace := ["internal/bytealg.IndexByteString", "internal/bytealg.IndexString", "internal/bytealg.CountString", "internal/abi.NoEscape", "internal/bytealg.MakeNoZero"], unfollowed := true, recurses := true, named := ["internal/bytealg.MaxLen", "unicode/utf8.first", "unicode/utf8.acceptRanges"], plainKeys := false, apart := false, laid := [("unicode/utf8.acceptRanges", laid_unicode_utf8_acceptRanges), ("unicode/utf8.first", laid_unicode_utf8_first)], narrowed := true }
def EmulateAloneUptoSaid : Prop := emulateAloneUptoRow.holds Tryz.pinned (OpenSpec.upto emulateAloneSpec)

end Rows
end Go.Proofs.YtnjampfhkojbnaaGreatDoor
