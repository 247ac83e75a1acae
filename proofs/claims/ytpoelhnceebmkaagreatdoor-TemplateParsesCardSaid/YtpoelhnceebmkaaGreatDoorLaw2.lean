/- Templates, strings and slices of them that are read as data. No conditions. -/
import Derived.Test.YtpoelhnceebmkaaGreatDoorLaw
import Derived.Test.YtpoelhnceebmkaaGreatDoorE8
namespace Go.Proofs.YtpoelhnceebmkaaGreatDoor
open Go Go.RowKit Go.WideShapes Go.ChangeShapes Go.Joins Go.ChangeMaps Go.Deep
section
variable {H : Type} {enc : TypeId × Value → H} {w : World} {spare : Nat → Bool} {held : Bool}
theorem cells9 : Tryz.prog.cellsOf 9 = 1 := by kernel_rfl
theorem cells58 : Tryz.prog.cellsOf 58 = 2 := by kernel_rfl
theorem cells25 : Tryz.prog.cellsOf 25 = 2 := by kernel_rfl
theorem one58 : ∃ f0 f1, Tryz.prog.underlying 58 = some (.struct #[f0, f1]) ∧ oneCellFields Tryz.prog #[f0, f1] = true ∧ f0.type = 3 ∧ f1.type = 37 := ⟨_, _, Tryz.underlying58, by kernel_rfl, rfl, rfl⟩
theorem one25 : ∃ f0 f1, Tryz.prog.underlying 25 = some (.struct #[f0, f1]) ∧ oneCellFields Tryz.prog #[f0, f1] = true ∧ f0.type = 9 ∧ f1.type = 23 := ⟨_, _, Tryz.underlying25, by kernel_rfl, rfl, rfl⟩
theorem str_flat : ∀ (l : List ByteArray), (l.map fun s => [Value.string s]).flatten = l.map Value.string
  | [] => rfl
  | s :: l => by rw [List.map_cons, List.flatten_cons, str_flat l]; rfl
theorem q_flat : ∀ (l : List QV), (l.map fun q => [Value.int .i64 q.1.1, q.2]).flatten = qCells l
  | [] => rfl
  | q :: l => by rw [List.map_cons, List.flatten_cons, q_flat l]; rfl

theorem open_strs {fuel : Nat} {v : Value} {x : DataW H × List MemPlace} (h : DataW.trod enc Tryz.prog w 0 spare held fuel 37 [v] = some x) : ∃ ws, WRd w v ws ∧ SzX ws := by
  obtain ⟨A, c, f', css, rfl, hc1, hc2, _, hr, hall⟩ := open_rows Tryz.underlying37 cells9 (by decide) h
  obtain ⟨ws, rfl, hw⟩ := list_of_all (f := fun s : ByteArray => [Value.string s]) (q := fun s => s.size ≤ 9223372036854775807) (l := css) (fun cs hcs => by
    obtain ⟨y, hy⟩ := hall cs hcs
    obtain ⟨s, e1, _, hs⟩ := DataW.trod_string Tryz.underlying9 hy
    exact ⟨s, e1, hs⟩)
  rw [List.length_map] at hc1 hr
  rw [str_flat] at hr
  exact ⟨ws, ⟨A, c, by rw [List.length_map], hc1, hc2, hr⟩, hw⟩
theorem open_part {fuel : Nat} {cs : List Value} {x : DataW H × List MemPlace} (h : DataW.trod enc Tryz.prog w 0 spare held fuel 58 cs = some x) : ∃ q : QV, cs = [.int .i64 q.1.1, q.2] ∧ WRd w q.2 q.1.2 ∧ SzX q.1.2 := by
  obtain ⟨f0, f1, hu, hone, t0, t1⟩ := one58
  obtain ⟨y0, y1, n, _, hl, h0, h1⟩ := trod_struct2 hu h
  obtain ⟨o0, k0⟩ := hone_of hone 0 f0 rfl
  obtain ⟨o1, k1⟩ := hone_of hone 1 f1 rfl
  rw [cells58] at hl
  obtain ⟨a, b, rfl⟩ := len2 hl
  rw [o0, k0, t0] at h0
  rw [o1, k1, t1] at h1
  obtain ⟨m, e0, _, hw⟩ := DataW.trod_int Tryz.underlying3 h0
  obtain ⟨ws, hws, hz⟩ := open_strs (v := b) h1
  simp at e0
  exact ⟨((m, ws), b), by rw [e0], hws, hz⟩
theorem open_parts {fuel : Nat} {v : Value} {x : DataW H × List MemPlace} (h : DataW.trod enc Tryz.prog w 0 spare held fuel 23 [v] = some x) :
    ∃ A c ps, v = .slice A (ps : List Pt).length c ∧ ps.length ≤ c ∧ c ≤ maxLen ∧ PRd w A ps.length ps ∧ ∀ p ∈ ps, SzX p.2 := by
  obtain ⟨A, c, f', css, rfl, hc1, hc2, _, hr, hall⟩ := open_rows Tryz.underlying23 cells58 (by decide) h
  obtain ⟨qs, rfl, hq⟩ := list_of_all (f := fun q : QV => [Value.int .i64 q.1.1, q.2]) (q := fun q => WRd w q.2 q.1.2 ∧ SzX q.1.2) (l := css) (fun cs hcs => by
    obtain ⟨y, hy⟩ := hall cs hcs
    exact open_part hy)
  rw [List.length_map] at hc1 hr
  rw [q_flat, qCells_pt] at hr
  refine ⟨A, c, qs.map (·.1), by simp, by simpa using hc1, hc2, ⟨rfl, qs.map (·.2), by simp, by simpa using hr, fun i h1 h2 => ?_⟩, fun p hp => ?_⟩
  · simp only [List.getElem_map]
    exact (hq _ (List.getElem_mem _)).1
  · obtain ⟨q, hm, rfl⟩ := List.mem_map.1 hp
    exact (hq q hm).2
abbrev TV := Tm × Value
theorem open_tm {fuel : Nat} {cs : List Value} {x : DataW H × List MemPlace} (h : DataW.trod enc Tryz.prog w 0 spare held fuel 25 cs = some x) :
    ∃ t : TV, cs = [.string t.1.1, t.2] ∧ TRd w (.agg #[.string t.1.1, t.2]) t.1.1 t.1.2 ∧ ∀ p ∈ t.1.2, SzX p.2 := by
  obtain ⟨f0, f1, hu, hone, t0, t1⟩ := one25
  obtain ⟨y0, y1, n, _, hl, h0, h1⟩ := trod_struct2 hu h
  obtain ⟨o0, k0⟩ := hone_of hone 0 f0 rfl
  obtain ⟨o1, k1⟩ := hone_of hone 1 f1 rfl
  rw [cells25] at hl
  obtain ⟨a, b, rfl⟩ := len2 hl
  rw [o0, k0, t0] at h0
  rw [o1, k1, t1] at h1
  obtain ⟨s, e0, _⟩ := DataW.trod_string Tryz.underlying9 h0
  obtain ⟨A, c, ps, rfl, h2, h3, h4, h5⟩ := open_parts (v := b) h1
  simp at e0
  exact ⟨((s, ps), _), by rw [e0], ⟨A, c, rfl, h2, h3, h4⟩, h5⟩
set_option maxRecDepth 100000 in
theorem open_tms {r : Reach} {b0 : Nat} {v : Value} {d : DataW H} {p : List MemPlace} (hv : Value.okWide Tryz.prog w r b0 45 v) (h : DataW.Trod enc Tryz.prog w 0 spare held 45 v d p) :
    ∃ (A : Option Addr) (n c : Nat) (l : List Tm), v = .slice A n c ∧ TsRd w A n l ∧ ∀ t ∈ l, ∀ p ∈ t.2, SzX p.2 := by
  obtain ⟨a, len, cap, rfl⟩ := okWide_slice Tryz.underlying45 hv
  obtain ⟨fuel, hf⟩ := h
  obtain ⟨A, c, fuel', css, e, _, _, hcl, hr, hall⟩ := open_rows Tryz.underlying45 cells25 (by decide) (show DataW.trod enc Tryz.prog w 0 spare held fuel 45 [.slice a len cap] = some (d, p) from hf)
  obtain ⟨ts, rfl, hq⟩ := list_of_all (f := fun t : TV => [Value.string t.1.1, t.2]) (q := fun t => TRd w (.agg #[.string t.1.1, t.2]) t.1.1 t.1.2 ∧ ∀ p ∈ t.1.2, SzX p.2) (l := css) (fun cs hcs => by
    obtain ⟨y, hy⟩ := hall cs hcs
    exact open_tm hy)
  rw [List.length_map] at e
  refine ⟨A, ts.length, c, ts.map (·.1), e, ⟨by simp, fun h0 => ?_⟩, fun t ht => ?_⟩
  · obtain ⟨b, o, e2, _, hc⟩ := hr.2 (by simpa using h0)
    refine ⟨b, o, e2, fun i hi => ?_⟩
    have hi2 : i < ts.length := by simpa using hi
    have h1 := flatten_at hcl i 0 (by decide)
    have h2 := flatten_at hcl i 1 (by decide)
    rw [List.getElem?_map, List.getElem?_eq_getElem hi2] at h1 h2
    refine ⟨ts[i].2, ?_, ?_, ?_⟩
    · rw [List.getElem_map]; exact hc _ _ h1
    · exact hc _ _ h2
    · rw [List.getElem_map]; exact (hq _ (List.getElem_mem hi2)).1
  · obtain ⟨q, hm, rfl⟩ := List.mem_map.1 ht
    exact (hq q hm).2
set_option maxRecDepth 100000 in
theorem open_ss {r : Reach} {b0 : Nat} {v : Value} {d : DataW H} {p : List MemPlace} (hv : Value.okWide Tryz.prog w r b0 37 v) (h : DataW.Trod enc Tryz.prog w 0 spare held 37 v d p) : ∃ ws, WRd w v ws ∧ SzX ws := by
  obtain ⟨a, len, cap, rfl⟩ := okWide_slice Tryz.underlying37 hv
  obtain ⟨fuel, hf⟩ := h
  exact open_strs (fuel := fuel) (v := .slice a len cap) hf
end
end Go.Proofs.YtpoelhnceebmkaaGreatDoor
