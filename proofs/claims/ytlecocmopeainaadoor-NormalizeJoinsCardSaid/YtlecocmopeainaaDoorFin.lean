/- What the rows' lists of package-level variables give (Env), and a world that has them. -/
import Derived.Test.YtlecocmopeainaaDoorM
import Derived.Test.YtlecocmopeainaaDoorCards
import Derived.Test.YtlecocmopeainaaDoorTie
import Derived.ProofKit
import Derived.OpenShut
import Derived.ChangeMaps5
import Derived.ChangeSame
import Derived.Deep.DeepHandedRow
import Derived.Lib.LaidTab
import Derived.Stop.LaidErr
namespace Go.Proofs.YtlecocmopeainaaDoor
open Go Go.RowKit Go.Joins Go.Shelf Go.ChangeShapes Go.WideShapes Go.ChangeAt

theorem gMax : Tryd.prog.globalNamed "internal/bytealg.MaxLen" = some 0 := by kernel_rfl
theorem gSyn : Tryd.prog.globalNamed "strconv.ErrSyntax" = some 3 := by kernel_rfl
theorem gRange : Tryd.prog.globalNamed "strconv.ErrRange" = some 4 := by kernel_rfl
theorem gSynT : (Tryd.prog.globals[3]?).map (·.type) = some 82 := by kernel_rfl
theorem gRangeT : (Tryd.prog.globals[4]?).map (·.type) = some 82 := by kernel_rfl
theorem gPow10T : (Tryd.prog.globals[5]?).map (·.type) = some 150 := by kernel_rfl
theorem cells150 : Tryd.prog.cellsOf 150 = 20 := by kernel_rfl
theorem u82 : ∃ ms, Tryd.prog.underlying 82 = some (.interface ms) := ⟨_, Tryd.underlying82⟩

theorem laid_iface {P : Program} {n nm : String} {d : DataW Unit} {r : List (String × DataW Unit)} {W : World} {g ti : Nat} {ms : Array (String × TypeId)} (h : laidMet P ((n, .iface nm d) :: r) W) (hg : P.globalNamed n = some g) (ht : (P.globals[g]?).map (·.type) = some ti) (hi : P.underlying ti = some (.interface ms)) :
    ∃ u v, W.cell? ⟨g, 0, none⟩ = some (.iface u v) := by
  obtain ⟨ps, ⟨g0, t0, cs0, f0, p0, q0, hg0, ht0, hv0, hd0, _, e0⟩, _, _⟩ := h
  obtain rfl := Option.some.inj (hg.symm.trans hg0)
  obtain rfl := Option.some.inj (ht.symm.trans ht0)
  obtain ⟨l0⟩ := cs0
  obtain ⟨_, u, v, e, _, _⟩ := iface_of_trod hi hd0
  subst e
  exact ⟨u, v, by simpa using World.var?_cell hg hv0 0⟩

abbrev laidList : List (String × DataW Unit) := Rows.normalizeWordsRow.laid
theorem laid_plain {W : World} (h : laidMetH Tryd.prog laidList W) : laidMet Tryd.prog laidList W := by
  have e : laidMetH Tryd.prog laidList W = laidMet Tryd.prog laidList W := by kernel_rfl
  exact e ▸ h
theorem env_of {W : World} (h : laidMetH Tryd.prog laidList W) (hsh : W.ShapedOpen Tryd.prog) : Env W := by
  have h0 := laid_plain h
  have h2 := h0.tail.tail
  have h4 := h2.tail.tail
  obtain ⟨u4, v4, e4⟩ := laid_iface h4 gRange gRangeT Tryd.underlying82
  obtain ⟨u3, v3, e3⟩ := laid_iface h4.tail gSyn gSynT Tryd.underlying82
  exact ⟨Go.Proofs.cell_of_shapedOpen_int (zero := #[.int .i64 0]) (t := 3) hsh (of_decide_eq_true (by kernel_rfl)) (by kernel_rfl) rfl (by kernel_rfl) (by kernel_rfl) Tryd.underlying3, ⟨u3, v3, e3⟩, ⟨u4, v4, e4⟩, Lib.tabIs_of_head (rest := _) gPow10 gPow10T Tryd.underlying150 Tryd.underlying116 (by kernel_rfl) cells150 h2⟩

/-- A world for the witnesses: the settled one, the listed variables holding what their initialisers lay. -/
noncomputable def lowest : Nat := (World.holding Tryd.prog default ⟨#[], #[], []⟩).heap.size
noncomputable def setVar (g : Nat) (cs : Array Value) (h : Array Obj) : Array Obj := h.modify g fun
  | .cells _ t frozen => .cells cs t frozen
  | o => o
def nums (zs : List Nat) : Array Value := (zs.map fun (z : Nat) => Value.int .u8 (z : Int)).toArray
def tab32 : List Nat := [0, 1, 28, 2, 29, 14, 24, 3, 30, 22, 20, 15, 25, 17, 4, 8, 31, 27, 13, 23, 21, 19, 16, 7, 26, 12, 18, 6, 11, 5, 10, 9]
def tabAccept : List Nat := [128, 191, 160, 191, 128, 159, 144, 191, 128, 143, 0, 0, 0, 0, 0, 0, 0, 0, 0, 0, 0, 0, 0, 0, 0, 0, 0, 0, 0, 0, 0, 0]
def tab64 : List Nat := [0, 1, 56, 2, 57, 49, 28, 3, 61, 58, 42, 50, 38, 29, 17, 4, 62, 47, 59, 36, 45, 43, 51, 22, 53, 39, 33, 30, 24, 18, 12, 5, 63, 55, 48, 27, 60, 41, 37, 16, 46, 35, 44, 21, 52, 32, 23, 11, 54, 26, 40, 15, 34, 20, 31, 10, 25, 14, 19, 9, 13, 8, 7, 6]
noncomputable def laidWorld (os : Os) : World :=
  let w0 := World.holding Tryd.prog os ⟨#[.cells #[.string ⟨#[118, 97, 108, 117, 101, 32, 111, 117, 116, 32, 111, 102, 32, 114, 97, 110, 103, 101]⟩] 157, .cells #[.string ⟨#[105, 110, 118, 97, 108, 105, 100, 32, 115, 121, 110, 116, 97, 120]⟩] 157], #[], []⟩
  { w0 with heap := setVar 1 (nums Go.Pinned.utf8FirstZ) (setVar 2 (nums tabAccept) (setVar 3 #[.iface 155 (.pointer (some ⟨lowest + 1, 0, none⟩))] (setVar 4 #[.iface 155 (.pointer (some ⟨lowest, 0, none⟩))]
      (setVar 5 (Lib.pow10Tab.map fun z => Value.int .u64 z).toArray (setVar 6 (nums tab32) (setVar 7 (nums tab64) w0.heap)))))) }
theorem laid_met (os : Os) (args : Array Value) : laidMet Tryd.prog laidList ((laidWorld os).forCall (fun _ _ => 0) ⟨#[], args, []⟩).memory :=
  laidMet_of_run' 8 (by kernel_rfl) (by kernel_rfl)
end Go.Proofs.YtlecocmopeainaaDoor
