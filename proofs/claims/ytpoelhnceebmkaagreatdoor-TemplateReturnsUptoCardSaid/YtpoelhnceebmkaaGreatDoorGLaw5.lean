/- Templates, strings and slices of them that are read as data. No conditions. What the bound on the arguments' bulk gives: lists of strings, lists of such lists and templates with the sizes of their strings. No conditions. -/
import Derived.Test.YtpoelhnceebmkaaGreatDoorGLaw
import Derived.Test.YtpoelhnceebmkaaGreatDoorGE8

namespace Go.Proofs.YtpoelhnceebmkaaGreatDoor
open Go Go.RowKit Go.WideShapes Go.ChangeShapes Go.Joins Go.ChangeMaps Go.Deep
section
variable {H : Type} {enc : TypeId × Value → H} {w : World} {spare : Nat → Bool} {held : Bool}
theorem cells9 : Tryz.prog.cellsOf 9 = 1 := by kernel_rfl
theorem cells58 : Tryz.prog.cellsOf 58 = 2 := by kernel_rfl
theorem cells25 : Tryz.prog.cellsOf 25 = 2 := by kernel_rfl
theorem one58 : ∃ f0 f1, Tryz.prog.underlying 58 = some (.struct #[f0, f1]) ∧ oneCellFields Tryz.prog #[f0, f1] = true ∧ f0.type = 3 ∧ f1.type = 37 := ⟨_, _, Tryz.underlying58, by kernel_rfl, rfl, rfl⟩
theorem one25 : ∃ f0 f1, Tryz.prog.underlying 25 = some (.struct #[f0, f1]) ∧ oneCellFields Tryz.prog #[f0, f1] = true ∧ f0.type = 9 ∧ f1.type = 23 := ⟨_, _, Tryz.underlying25, by kernel_rfl, rfl, rfl⟩
theorem str_flat : ∀ (l : List ByteArray), (l.map fun s => [Value.string s]).flatten = l.map Value.string
  | [] => rfl
  | s :: l => by rw [List.map_cons, List.flatten_cons, str_flat l]; rfl
theorem q_flat : ∀ (l : List QV), (l.map fun q => [Value.int .i64 q.1.1, q.2]).flatten = qCells l
  | [] => rfl
  | q :: l => by rw [List.map_cons, List.flatten_cons, q_flat l]; rfl

theorem open_strs {fuel : Nat} {v : Value} {x : DataW H × List MemPlace} (h : DataW.trod enc Tryz.prog w 0 spare held fuel 37 [v] = some x) : ∃ ws, WRd w v ws ∧ SzX ws := by
  obtain ⟨A, c, f', css, rfl, hc1, hc2, _, hr, hall⟩ := open_rows Tryz.underlying37 cells9 (by decide) h
  obtain ⟨ws, rfl, hw⟩ := list_of_all (f := fun s : ByteArray => [Value.string s]) (q := fun s => s.size ≤ 9223372036854775807) (l := css) (fun cs hcs => by
    obtain ⟨y, hy⟩ := hall cs hcs
    obtain ⟨s, e1, _, hs⟩ := DataW.trod_string Tryz.underlying9 hy
    exact ⟨s, e1, hs⟩)
  rw [List.length_map] at hc1 hr
  rw [str_flat] at hr
  exact ⟨ws, ⟨A, c, by rw [List.length_map], hc1, hc2, hr⟩, hw⟩
theorem open_part {fuel : Nat} {cs : List Value} {x : DataW H × List MemPlace} (h : DataW.trod enc Tryz.prog w 0 spare held fuel 58 cs = some x) : ∃ q : QV, cs = [.int .i64 q.1.1, q.2] ∧ WRd w q.2 q.1.2 ∧ SzX q.1.2 := by
  obtain ⟨f0, f1, hu, hone, t0, t1⟩ := one58
  obtain ⟨y0, y1, n, _, hl, h0, h1⟩ := trod_struct2 hu h
  obtain ⟨o0, k0⟩ := hone_of hone 0 f0 rfl
  obtain ⟨o1, k1⟩ := hone_of hone 1 f1 rfl
  rw [cells58] at hl
  obtain ⟨a, b, rfl⟩ := len2 hl
  rw [o0, k0, t0] at h0
  rw [o1, k1, t1] at h1
  obtain ⟨m, e0, _, hw⟩ := DataW.trod_int Tryz.underlying3 h0
  obtain ⟨ws, hws, hz⟩ := open_strs (v := b) h1
  simp at e0
  exact ⟨((m, ws), b), by rw [e0], hws, hz⟩
theorem open_parts {fuel : Nat} {v : Value} {x : DataW H × List MemPlace} (h : DataW.trod enc Tryz.prog w 0 spare held fuel 23 [v] = some x) :
    ∃ A c ps, v = .slice A (ps : List Pt).length c ∧ ps.length ≤ c ∧ c ≤ maxLen ∧ PRd w A ps.length ps ∧ ∀ p ∈ ps, SzX p.2 := by
  obtain ⟨A, c, f', css, rfl, hc1, hc2, _, hr, hall⟩ := open_rows Tryz.underlying23 cells58 (by decide) h
  obtain ⟨qs, rfl, hq⟩ := list_of_all (f := fun q : QV => [Value.int .i64 q.1.1, q.2]) (q := fun q => WRd w q.2 q.1.2 ∧ SzX q.1.2) (l := css) (fun cs hcs => by
    obtain ⟨y, hy⟩ := hall cs hcs
    exact open_part hy)
  rw [List.length_map] at hc1 hr
  rw [q_flat, qCells_pt] at hr
  refine ⟨A, c, qs.map (·.1), by simp, by simpa using hc1, hc2, ⟨rfl, qs.map (·.2), by simp, by simpa using hr, fun i h1 h2 => ?_⟩, fun p hp => ?_⟩
  · simp only [List.getElem_map]
    exact (hq _ (List.getElem_mem _)).1
  · obtain ⟨q, hm, rfl⟩ := List.mem_map.1 hp
    exact (hq q hm).2
abbrev TV := Tm × Value
theorem open_tm {fuel : Nat} {cs : List Value} {x : DataW H × List MemPlace} (h : DataW.trod enc Tryz.prog w 0 spare held fuel 25 cs = some x) :
    ∃ t : TV, cs = [.string t.1.1, t.2] ∧ TRd w (.agg #[.string t.1.1, t.2]) t.1.1 t.1.2 ∧ ∀ p ∈ t.1.2, SzX p.2 := by
  obtain ⟨f0, f1, hu, hone, t0, t1⟩ := one25
  obtain ⟨y0, y1, n, _, hl, h0, h1⟩ := trod_struct2 hu h
  obtain ⟨o0, k0⟩ := hone_of hone 0 f0 rfl
  obtain ⟨o1, k1⟩ := hone_of hone 1 f1 rfl
  rw [cells25] at hl
  obtain ⟨a, b, rfl⟩ := len2 hl
  rw [o0, k0, t0] at h0
  rw [o1, k1, t1] at h1
  obtain ⟨s, e0, _⟩ := DataW.trod_string Tryz.underlying9 h0
  obtain ⟨A, c, ps, rfl, h2, h3, h4, h5⟩ := open_parts (v := b) h1
  simp at e0
  exact ⟨((s, ps), _), by rw [e0], ⟨A, c, rfl, h2, h3, h4⟩, h5⟩
set_option maxRecDepth 100000 in
theorem open_tms {r : Reach} {b0 : Nat} {v : Value} {d : DataW H} {p : List MemPlace} (hv : Value.okWide Tryz.prog w r b0 45 v) (h : DataW.Trod enc Tryz.prog w 0 spare held 45 v d p) :
    ∃ (A : Option Addr) (n c : Nat) (l : List Tm), v = .slice A n c ∧ TsRd w A n l ∧ ∀ t ∈ l, ∀ p ∈ t.2, SzX p.2 := by
  obtain ⟨a, len, cap, rfl⟩ := okWide_slice Tryz.underlying45 hv
  obtain ⟨fuel, hf⟩ := h
  obtain ⟨A, c, fuel', css, e, _, _, hcl, hr, hall⟩ := open_rows Tryz.underlying45 cells25 (by decide) (show DataW.trod enc Tryz.prog w 0 spare held fuel 45 [.slice a len cap] = some (d, p) from hf)
  obtain ⟨ts, rfl, hq⟩ := list_of_all (f := fun t : TV => [Value.string t.1.1, t.2]) (q := fun t => TRd w (.agg #[.string t.1.1, t.2]) t.1.1 t.1.2 ∧ ∀ p ∈ t.1.2, SzX p.2) (l := css) (fun cs hcs => by
    obtain ⟨y, hy⟩ := hall cs hcs
    exact open_tm hy)
  rw [List.length_map] at e
  refine ⟨A, ts.length, c, ts.map (·.1), e, ⟨by simp, fun h0 => ?_⟩, fun t ht => ?_⟩
  · obtain ⟨b, o, e2, _, hc⟩ := hr.2 (by simpa using h0)
    refine ⟨b, o, e2, fun i hi => ?_⟩
    have hi2 : i < ts.length := by simpa using hi
    have h1 := flatten_at hcl i 0 (by decide)
    have h2 := flatten_at hcl i 1 (by decide)
    rw [List.getElem?_map, List.getElem?_eq_getElem hi2] at h1 h2
    refine ⟨ts[i].2, ?_, ?_, ?_⟩
    · rw [List.getElem_map]; exact hc _ _ h1
    · exact hc _ _ h2
    · rw [List.getElem_map]; exact (hq _ (List.getElem_mem hi2)).1
  · obtain ⟨q, hm, rfl⟩ := List.mem_map.1 ht
    exact (hq q hm).2
set_option maxRecDepth 100000 in
theorem open_ss {r : Reach} {b0 : Nat} {v : Value} {d : DataW H} {p : List MemPlace} (hv : Value.okWide Tryz.prog w r b0 37 v) (h : DataW.Trod enc Tryz.prog w 0 spare held 37 v d p) : ∃ ws, WRd w v ws ∧ SzX ws := by
  obtain ⟨a, len, cap, rfl⟩ := okWide_slice Tryz.underlying37 hv
  obtain ⟨fuel, hf⟩ := h
  exact open_strs (fuel := fuel) (v := .slice a len cap) hf
end
end Go.Proofs.YtpoelhnceebmkaaGreatDoor

namespace Go.Proofs.YtpoelhnceebmkaaGreatDoor
open Go Go.RowKit Go.WideShapes Go.ChangeShapes Go.Joins Go.ChangeMaps Go.Deep
section
variable {H : Type} {enc : TypeId × Value → H} {w : World} {spare : Nat → Bool} {held : Bool}
theorem bulk_mem : ∀ {l : List (DataW H)} {d : DataW H}, d ∈ l → Rows.uptoBulk d ≤ Rows.uptoBulkAll l
  | x :: r, d, h => by
    simp only [Rows.uptoBulkAll]
    rcases List.mem_cons.1 h with e | e
    · subst e; omega
    · have := bulk_mem e; omega
theorem bulk_slice {elems sp : List (DataW H)} {d : DataW H} (h : d ∈ elems) : Rows.uptoBulk d ≤ Rows.uptoBulk (.slice elems sp) := by
  have := bulk_mem h
  simp only [Rows.uptoBulk]; omega
theorem bulk_agg {parts : List (DataW H)} {d : DataW H} (h : d ∈ parts) : Rows.uptoBulk d ≤ Rows.uptoBulk (.agg parts) := by
  have := bulk_mem h
  simp only [Rows.uptoBulk]; omega
def SzB (n : Nat) (ws : List ByteArray) : Prop := ∀ x ∈ ws, x.size ≤ n
theorem open_strs2 {fuel : Nat} {v : Value} {x : DataW H × List MemPlace} (h : DataW.trod enc Tryz.prog w 0 spare held fuel 37 [v] = some x) : ∃ ws, WRd w v ws ∧ SzB (Rows.uptoBulk x.1) ws := by
  obtain ⟨A, c, f', css, rfl, hc1, hc2, _, hr, hall⟩ := open_rows2 Tryz.underlying37 cells9 (by decide) h
  obtain ⟨ws, rfl, hw⟩ := list_of_all (f := fun s : ByteArray => [Value.string s]) (q := fun s => s.size ≤ Rows.uptoBulk x.1) (l := css) (fun cs hcs => by
    rcases hall with rfl | ⟨elems, sp, e, _, hall⟩
    · cases hcs
    · obtain ⟨y, hy, hm⟩ := hall cs hcs
      obtain ⟨s, e1, e2, hs⟩ := DataW.trod_string Tryz.underlying9 hy
      have := bulk_slice (sp := sp) hm
      rw [← e, e2] at this
      simp only [Rows.uptoBulk] at this
      exact ⟨s, e1, by rw [size_eq]; omega⟩)
  rw [List.length_map] at hc1 hr
  rw [str_flat] at hr
  exact ⟨ws, ⟨A, c, by rw [List.length_map], hc1, hc2, hr⟩, hw⟩
theorem open_part2 {fuel : Nat} {cs : List Value} {x : DataW H × List MemPlace} (h : DataW.trod enc Tryz.prog w 0 spare held fuel 58 cs = some x) : ∃ q : QV, cs = [.int .i64 q.1.1, q.2] ∧ WRd w q.2 q.1.2 ∧ SzB (Rows.uptoBulk x.1) q.1.2 := by
  obtain ⟨f0, f1, hu, hone, t0, t1⟩ := one58
  obtain ⟨y0, y1, n, hx, hl, h0, h1⟩ := trod_struct2 hu h
  obtain ⟨o0, k0⟩ := hone_of hone 0 f0 rfl
  obtain ⟨o1, k1⟩ := hone_of hone 1 f1 rfl
  rw [cells58] at hl
  obtain ⟨a, b, rfl⟩ := len2 hl
  rw [o0, k0, t0] at h0
  rw [o1, k1, t1] at h1
  obtain ⟨m, e0, _, hw⟩ := DataW.trod_int Tryz.underlying3 h0
  obtain ⟨ws, hws, hz⟩ := open_strs2 (v := b) h1
  simp at e0
  refine ⟨((m, ws), b), by rw [e0], hws, fun s hs => Nat.le_trans (hz s hs) ?_⟩
  rw [hx]
  exact bulk_agg (by simp)
theorem open_parts2 {fuel : Nat} {v : Value} {x : DataW H × List MemPlace} (h : DataW.trod enc Tryz.prog w 0 spare held fuel 23 [v] = some x) :
    ∃ A c ps, v = .slice A (ps : List Pt).length c ∧ ps.length ≤ c ∧ c ≤ maxLen ∧ PRd w A ps.length ps ∧ ∀ p ∈ ps, SzB (Rows.uptoBulk x.1) p.2 := by
  obtain ⟨A, c, f', css, rfl, hc1, hc2, _, hr, hall⟩ := open_rows2 Tryz.underlying23 cells58 (by decide) h
  obtain ⟨qs, rfl, hq⟩ := list_of_all (f := fun q : QV => [Value.int .i64 q.1.1, q.2]) (q := fun q => WRd w q.2 q.1.2 ∧ SzB (Rows.uptoBulk x.1) q.1.2) (l := css) (fun cs hcs => by
    rcases hall with rfl | ⟨elems, sp, e, _, hall⟩
    · cases hcs
    · obtain ⟨y, hy, hm⟩ := hall cs hcs
      obtain ⟨q, e1, h1, h2⟩ := open_part2 hy
      have := bulk_slice (sp := sp) hm
      rw [← e] at this
      exact ⟨q, e1, h1, fun s hs => Nat.le_trans (h2 s hs) this⟩)
  rw [List.length_map] at hc1 hr
  rw [q_flat, qCells_pt] at hr
  refine ⟨A, c, qs.map (·.1), by simp, by simpa using hc1, hc2, ⟨rfl, qs.map (·.2), by simp, by simpa using hr, fun i h1 h2 => ?_⟩, fun p hp => ?_⟩
  · simp only [List.getElem_map]
    exact (hq _ (List.getElem_mem _)).1
  · obtain ⟨q, hm, rfl⟩ := List.mem_map.1 hp
    exact (hq q hm).2
abbrev WV := List ByteArray × Value
theorem v_flat : ∀ (l : List WV), (l.map fun q => [q.2]).flatten = l.map (·.2)
  | [] => rfl
  | q :: l => by rw [List.map_cons, List.flatten_cons, v_flat l]; rfl
theorem cells37 : Tryz.prog.cellsOf 37 = 1 := by kernel_rfl
set_option maxRecDepth 100000 in
/-- A slice of lists of strings. -/
theorem open_ls2 {r : Reach} {b0 : Nat} {v : Value} {d : DataW H} {p : List MemPlace} (hv : Value.okWide Tryz.prog w r b0 34 v) (h : DataW.Trod enc Tryz.prog w 0 spare held 34 v d p) :
    ∃ (A : Option Addr) (n c : Nat) (ls : List (List ByteArray)), v = .slice A n c ∧ LsRd w A n ls ∧ ∀ l ∈ ls, SzB (Rows.uptoBulk d) l := by
  obtain ⟨a, len, cap, rfl⟩ := okWide_slice Tryz.underlying34 hv
  obtain ⟨fuel, hf⟩ := h
  obtain ⟨A, c, fuel', css, e, _, _, hcl, hr, hall⟩ := open_rows2 Tryz.underlying34 cells37 (by decide) (show DataW.trod enc Tryz.prog w 0 spare held fuel 34 [.slice a len cap] = some (d, p) from hf)
  obtain ⟨qs, rfl, hq⟩ := list_of_all (f := fun q : WV => [q.2]) (q := fun q => WRd w q.2 q.1 ∧ SzB (Rows.uptoBulk d) q.1) (l := css) (fun cs hcs => by
    rcases hall with rfl | ⟨elems, sp, e, _, hall⟩
    · cases hcs
    · obtain ⟨y, hy, hm⟩ := hall cs hcs
      have hl1 := hcl cs hcs
      obtain ⟨u, rfl⟩ : ∃ u, cs = [u] := by
        match cs, hl1 with
        | [u], _ => exact ⟨u, rfl⟩
      obtain ⟨ws, h1, h2⟩ := open_strs2 hy
      have := bulk_slice (sp := sp) hm
      rw [← e] at this
      exact ⟨(ws, u), rfl, h1, fun s hs => Nat.le_trans (h2 s hs) this⟩)
  rw [List.length_map] at e
  rw [List.length_map, v_flat] at hr
  refine ⟨A, qs.length, c, qs.map (·.1), e, ⟨by simp, fun h0 => ?_⟩, fun l hl => ?_⟩
  · obtain ⟨b, o, e2, _, hc⟩ := hr.2 h0
    refine ⟨b, o, e2, fun i hi => ?_⟩
    have hi2 : i < qs.length := by simpa using hi
    refine ⟨qs[i].2, hc i _ (by rw [List.getElem?_map, List.getElem?_eq_getElem hi2]; rfl), ?_⟩
    rw [List.getElem_map]; exact (hq _ (List.getElem_mem hi2)).1
  · obtain ⟨q, hm, rfl⟩ := List.mem_map.1 hl
    exact (hq q hm).2
set_option maxRecDepth 100000 in
/-- A template, handed over by value. -/
theorem open_t2 {r : Reach} {b0 : Nat} {v : Value} {d : DataW H} {p : List MemPlace} (hv : Value.okWide Tryz.prog w r b0 25 v) (h : DataW.Trod enc Tryz.prog w 0 spare held 25 v d p) :
    ∃ (nm : ByteArray) (ps : List Pt), TRd w v nm ps ∧ ∀ q ∈ ps, SzB (Rows.uptoBulk d) q.2 := by
  obtain ⟨f0, f1, hu, hone, t0, t1⟩ := one25
  obtain ⟨v0, v1, y0, y1, n, rfl, hd, _, h0, h1⟩ := open_agg2 hu hone cells25 hv h
  rw [t0] at h0
  rw [t1] at h1
  obtain ⟨s, e0, _⟩ := DataW.trod_string Tryz.underlying9 h0
  obtain rfl : v0 = .string s := by simpa using e0
  obtain ⟨A, c, ps, rfl, h2, h3, h4, h5⟩ := open_parts2 (v := v1) h1
  refine ⟨s, ps, ⟨A, c, rfl, h2, h3, h4⟩, fun q hq x hx => Nat.le_trans (h5 q hq x hx) ?_⟩
  rw [hd]
  exact bulk_agg (by simp)
/-- What the bound says of each argument. -/
theorem bulk_of {ds gs : List (DataW H)} (hk : Rows.uptoSmall H (ds ++ gs) = true) {d : DataW H} (hd : d ∈ ds) : Rows.uptoBulk d ≤ 1048576 := by
  have h : Rows.uptoBulkAll (ds ++ gs) ≤ 1048576 := of_decide_eq_true hk
  exact Nat.le_trans (bulk_mem (List.mem_append_left _ hd)) h
theorem SzB.sm {n : Nat} {ws : List ByteArray} (h : SzB n ws) (hn : n ≤ 1048576) : SzM ws := fun x hx => by have := h x hx; omega
end
end Go.Proofs.YtpoelhnceebmkaaGreatDoor

