/- Notes and lists of notes that are read as data, with their sizes; a binary with its notes' capacity. No conditions. -/
import Derived.Test.YtnknmpcgbfmfjaaGreatDoorGLaw2

namespace Go.Proofs.YtnknmpcgbfmfjaaGreatDoor
open Go Go.RowKit Go.WideShapes Go.ChangeShapes Go.Joins Go.ChangeMaps Go.Deep
section
variable {H : Type} {enc : TypeId × Value → H} {w : World} {spare : Nat → Bool} {held : Bool}
def NtZ (p : NtD) : Prop := p.name.size ≤ 9223372036854775807 ∧ p.text.size ≤ 9223372036854775807
theorem open_ntz {fuel : Nat} {cs : List Value} {x : DataW H × List MemPlace} (h : DataW.trod enc Tryz.prog w 0 spare held fuel 40 cs = some x) : ∃ p : NtD, cs = ntC p ∧ NtZ p := by
  obtain ⟨f0, f1, hu, hone, t0, t1⟩ := one40
  obtain ⟨hl, n, hf⟩ := trod_fields hu hone h
  rw [cells40] at hl
  obtain ⟨c0, c1, rfl⟩ := len2 hl
  obtain ⟨y0, h0⟩ := hf 0 f0 c0 rfl rfl
  rw [t0] at h0
  obtain ⟨v0, rfl, w0⟩ := open_s h0
  obtain ⟨y1, h1⟩ := hf 1 f1 c1 rfl rfl
  rw [t1] at h1
  obtain ⟨v1, rfl, w1⟩ := open_s h1
  exact ⟨⟨v0, v1⟩, rfl, w0, w1⟩
theorem array2 {α : Type} {cs : Array α} (h : cs.size = 2) : ∃ c0 c1, cs = #[c0, c1] := by
  obtain ⟨l⟩ := cs
  match l, h with
  | [c0, c1], _ => exact ⟨c0, c1, rfl⟩
set_option maxRecDepth 100000 in
theorem open_nt1 {r : Reach} {b0 : Nat} {v : Value} {d : DataW H} {p : List MemPlace} (hv : Value.okWide Tryz.prog w r b0 40 v) (h : DataW.Trod enc Tryz.prog w 0 spare held 40 v d p) :
    ∃ n : NtD, v = .agg #[.string n.name, .string n.text] ∧ NtZ n := by
  obtain ⟨f0, f1, hu, hone, t0, t1⟩ := one40
  obtain ⟨cs, rfl, hsz⟩ := okWide_struct hu hv
  obtain ⟨c0, c1, rfl⟩ := array2 (hsz.trans cells40)
  obtain ⟨fuel, hf0⟩ := h
  obtain ⟨n, hn, hz⟩ := open_ntz (cs := [c0, c1]) hf0
  injection hn with h1 h2
  injection h2 with h2
  subst h1 h2
  exact ⟨n, rfl, hz⟩
set_option maxRecDepth 100000 in
theorem open_nts1 {r : Reach} {b0 : Nat} {v : Value} {d : DataW H} {p : List MemPlace} (hv : Value.okWide Tryz.prog w r b0 26 v) (h : DataW.Trod enc Tryz.prog w 0 spare held 26 v d p) :
    ∃ A c l, v = .slice A (l : List NtD).length c ∧ (Rd w 2 A l.length (l.flatMap ntC) ∧ l.length ≤ 9223372036854775807) ∧ ∀ p ∈ l, NtZ p := by
  obtain ⟨a, len, cap, rfl⟩ := okWide_slice Tryz.underlying26 hv
  obtain ⟨fuel, hf0⟩ := h
  obtain ⟨A, c, f', css, e1, hc1, hc2, _, hr, hall⟩ := open_rows Tryz.underlying26 cells40 (by decide) (show DataW.trod enc Tryz.prog w 0 spare held fuel 26 [.slice a len cap] = some (d, p) from hf0)
  obtain ⟨l, rfl, hq⟩ := list_of_all (f := ntC) (q := NtZ) (l := css) (fun cs hcs => by
    obtain ⟨y, hy⟩ := hall cs hcs
    exact open_ntz hy)
  rw [List.length_map] at hc1 hr e1
  rw [← List.flatMap_def] at hr
  have hm : maxLen ≤ 9223372036854775807 := by simp [maxLen]
  exact ⟨A, c, l, e1, ⟨hr, by omega⟩, hq⟩
theorem open_nts_cap {fuel : Nat} {A : Option Addr} {n c : Nat} {x : DataW H × List MemPlace} (h : DataW.trod enc Tryz.prog w 0 spare held fuel 26 [.slice A n c] = some x) : n ≤ c := by
  obtain ⟨A', c', f', css, e1, hc1, hc2, _, hr, hall⟩ := open_rows Tryz.underlying26 cells40 (by decide) h
  injection e1 with e1 e2 e3
  omega
theorem open_bcap {b : Bn} {g : BH} {d : DataW H} {p : List MemPlace} (h : DataW.Trod enc Tryz.prog w 0 spare held 28 (.agg (bcells b g)) d p) : b.notes.length ≤ g.c5 := by
  obtain ⟨f0, f1, f2, f3, f4, f5, f6, f7, hu, hone, t0, t1, t2, t3, t4, t5, t6, t7⟩ := one28
  obtain ⟨fuel, hf0⟩ := h
  obtain ⟨hl, n, hf⟩ := trod_fields (cs := (bcells b g).toList) hu hone hf0
  obtain ⟨y7, h7⟩ := hf 7 f7 _ rfl rfl
  rw [t7] at h7
  exact open_nts_cap h7
end
end Go.Proofs.YtnknmpcgbfmfjaaGreatDoor

