/- A slice of bytes that is read as data is a list of bytes. No conditions. -/
import Derived.Test.YtpoelhnceebmkaaDoorLaw
import Derived.Test.YtpoelhnceebmkaaDoorM2
namespace Go.Proofs.YtpoelhnceebmkaaDoor
open Go Go.RowKit Go.WideShapes Go.ChangeShapes Go.Joins Go.ChangeMaps Go.Deep
theorem u8_flat : ∀ (l : List UInt8), (l.map fun b : UInt8 => [Value.int .u8 (b.toNat : Int)]).flatten = u8Cells l
  | [] => rfl
  | b :: l => by rw [List.map_cons, List.flatten_cons, u8_flat l]; rfl
section
variable {H : Type} {enc : TypeId × Value → H} {w : World} {spare : Nat → Bool} {held : Bool}
theorem cells5 : Tryd.prog.cellsOf 5 = 1 := by kernel_rfl
theorem u8_wf {n : Int} (h : (Lit.int .u8 n).wf = true) : ∃ b : UInt8, n = (b.toNat : Int) := by
  simp only [Lit.wf, Bool.and_eq_true, decide_eq_true_eq] at h
  have h1 : 0 ≤ n ∧ n ≤ 255 := h
  refine ⟨UInt8.ofNat n.toNat, ?_⟩
  rw [UInt8.toNat_ofNat']
  omega
set_option maxRecDepth 100000 in
theorem open_u8s {r : Reach} {b0 : Nat} {v : Value} {d : DataW H} {p : List MemPlace} (hv : Value.okWide Tryd.prog w r b0 29 v) (h : DataW.Trod enc Tryd.prog w 0 spare held 29 v d p) :
    ∃ (A : Option Addr) (m c : Nat) (sg : List UInt8), v = .slice A m c ∧ sg.length = m ∧ Rd w 1 A m (u8Cells sg) := by
  obtain ⟨a, len, cap, rfl⟩ := okWide_slice Tryd.underlying29 hv
  obtain ⟨fuel, hf⟩ := h
  obtain ⟨A, c, fuel', css, e, _, _, _, hr, hall⟩ := open_rows Tryd.underlying29 cells5 (by decide) (show DataW.trod enc Tryd.prog w 0 spare held fuel 29 [.slice a len cap] = some (d, p) from hf)
  obtain ⟨sg, rfl, _⟩ := list_of_all (f := fun b : UInt8 => [Value.int .u8 (b.toNat : Int)]) (q := fun _ => True) (l := css) (fun cs hcs => by
    obtain ⟨y, hy⟩ := hall cs hcs
    obtain ⟨n, e1, _, hw⟩ := DataW.trod_int Tryd.underlying5 hy
    obtain ⟨b, rfl⟩ := u8_wf hw
    exact ⟨b, e1, trivial⟩)
  rw [List.length_map] at hr e
  refine ⟨A, sg.length, c, sg, e, rfl, ?_⟩
  rw [u8_flat] at hr
  exact hr
end
end Go.Proofs.YtpoelhnceebmkaaDoor
