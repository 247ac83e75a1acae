/- A world that has what the rows' lists of package-level variables say. No conditions. -/
import Derived.Test.YtpoelhnceebmkaaGreatDoorBase
import Derived.Test.YtpoelhnceebmkaaGreatDoorCards
import Derived.Test.YtpoelhnceebmkaaGreatDoorTie
import Derived.ProofKit
import Derived.OpenShut
import Derived.ChangeMaps5
import Derived.ChangeSame
import Derived.Deep.DeepHandedRow
import Derived.Lib.LaidTab
import Derived.Stop.LaidErr
import Derived.Lib.SmallJoins
import Derived.Lib.ItoaNum
namespace Go.Proofs.YtpoelhnceebmkaaGreatDoor
open Go Go.RowKit Go.Joins Go.ChangeShapes Go.WideShapes Go.ChangeAt

abbrev laidList : List (String × DataW Unit) := Rows.templateMatchesRow.laid

/-- A world for the witnesses: the settled one, the listed variables holding what their initialisers lay. -/
noncomputable def lowest : Nat := (World.holding Tryz.prog default ⟨#[], #[], []⟩).heap.size
noncomputable def setVar (g : Nat) (cs : Array Value) (h : Array Obj) : Array Obj := h.modify g fun
  | .cells _ t frozen => .cells cs t frozen
  | o => o
def nums (zs : List Nat) : Array Value := (zs.map fun (z : Nat) => Value.int .u8 (z : Int)).toArray
def tab32 : List Nat := [0, 1, 28, 2, 29, 14, 24, 3, 30, 22, 20, 15, 25, 17, 4, 8, 31, 27, 13, 23, 21, 19, 16, 7, 26, 12, 18, 6, 11, 5, 10, 9]
def tabAccept : List Nat := [128, 191, 160, 191, 128, 159, 144, 191, 128, 143, 0, 0, 0, 0, 0, 0, 0, 0, 0, 0, 0, 0, 0, 0, 0, 0, 0, 0, 0, 0, 0, 0]
def tab64 : List Nat := [0, 1, 56, 2, 57, 49, 28, 3, 61, 58, 42, 50, 38, 29, 17, 4, 62, 47, 59, 36, 45, 43, 51, 22, 53, 39, 33, 30, 24, 18, 12, 5, 63, 55, 48, 27, 60, 41, 37, 16, 46, 35, 44, 21, 52, 32, 23, 11, 54, 26, 40, 15, 34, 20, 31, 10, 25, 14, 19, 9, 13, 8, 7, 6]
noncomputable def laidWorld (os : Os) : World :=
  let w0 := World.holding Tryz.prog os ⟨#[.cells #[.string ⟨#[118, 97, 108, 117, 101, 32, 111, 117, 116, 32, 111, 102, 32, 114, 97, 110, 103, 101]⟩] 161, .cells #[.string ⟨#[105, 110, 118, 97, 108, 105, 100, 32, 115, 121, 110, 116, 97, 120]⟩] 161], #[], []⟩
  { w0 with heap := setVar 4 (nums Go.Pinned.utf8FirstZ) (setVar 5 (nums tabAccept) (setVar 1 #[.iface 159 (.pointer (some ⟨lowest + 1, 0, none⟩))] (setVar 2 #[.iface 159 (.pointer (some ⟨lowest, 0, none⟩))]
      (setVar 3 (Lib.pow10Tab.map fun z => Value.int .u64 z).toArray (setVar 6 (nums tab32) (setVar 7 (nums tab64) w0.heap)))))) }
theorem laid_met (os : Os) (args : Array Value) : laidMet Tryz.prog laidList ((laidWorld os).forCall (fun _ _ => 0) ⟨#[], args, []⟩).memory :=
  laidMet_of_run' 8 (by kernel_rfl) (by kernel_rfl)
end Go.Proofs.YtpoelhnceebmkaaGreatDoor
