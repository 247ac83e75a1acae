/- The rows' last step for a law that returns true and makes new memory only; a text of words that is read as data. No conditions of ours. -/
import Derived.Test.YtlecocmopeainaaDoorPost
import Derived.Test.YtlecocmopeainaaDoorOpen
import Derived.Test.YtlecocmopeainaaDoorN4
namespace Go.Proofs.YtlecocmopeainaaDoor
open Go Go.RowKit Go.WideShapes Go.ChangeShapes Go.Joins Go.ChangeMaps Go.Deep
section
variable {H : Type} {enc : TypeId × Value → H} {P : Program}
theorem law_post {f : Func} {s : ChangeSpec} {W W' : World} {args : Array Value} {ds gs : List (DataW H)} {before : List MemPlace}
    (hs : s.vars = []) (hr : f.resultTypes = #[4]) (u4 : P.underlying 4 = some .bool) (hl : laidOutB P = true) (hp : (f.params.toList.all fun t => P.readableRec t && decide (t < P.types.size)) = true)
    (h1 : (s.fn H ds).results = [.lit (.bool true)]) (h2 : (s.fn H ds).args = ds) (h3 : (s.fn H ds).vars = [])
    (hW : DataW.Whole enc P f.params.toList s.vars false W args.toList ds gs before) (hb : New W W') : s.post enc P f false true false false W args (.bool true) W' := by
  have hW' := hW
  obtain ⟨p, q, hA, hV, rfl, hfz, hnd⟩ := hW
  have hlt := fun x hx => hW'.lt x hx
  rw [hs] at hV
  obtain ⟨rfl, rfl⟩ := trodVars_none hV
  refine post_of_below (pa := p) (pv := []) hW' (fun _ _ _ => ?_) (fun sp hsp => ?_) (fun _ _ => ?_) rfl hb (ok_one hr rfl (okWide_bool_mk u4 _))
  · rw [List.append_nil, h1, hr]; exact trodAll_cons_mk (shut_bool u4 _) trodAll_mk0
  · rw [List.append_nil, h2]
    exact trodAll_stays hl hb hp hA (fun x hx => hlt x (by simp [hx])) (fun x hx => hsp x (by simp [hx]))
  · rw [List.append_nil, h3, hs]; rfl
end
theorem laidOut_ : laidOutB Tryd.prog = true := by kernel_rfl
theorem own_ : ownKnob Tryd.prog.godebug = none := by kernel_rfl

/-! ### A text of words, opened -/
section
variable {H : Type} {enc : TypeId × Value → H} {w : World} {spare : Nat → Bool} {held : Bool}
theorem cells33 : Tryd.prog.cellsOf 33 = 2 := by kernel_rfl
theorem cells25 : Tryd.prog.cellsOf 25 = 2 := by kernel_rfl
theorem one25 : ∃ f0 f1, Tryd.prog.underlying 25 = some (.struct #[f0, f1]) ∧ oneCellFields Tryd.prog #[f0, f1] = true ∧ f0.type = 9 ∧ f1.type = 23 := ⟨_, _, Tryd.underlying25, by kernel_rfl, rfl, rfl⟩
theorem one33 : ∃ f0 f1, Tryd.prog.underlying 33 = some (.struct #[f0, f1]) ∧ oneCellFields Tryd.prog #[f0, f1] = true ∧ f0.type = 9 ∧ f1.type = 3 := ⟨_, _, Tryd.underlying33, by kernel_rfl, rfl, rfl⟩

theorem open_lexeme {fuel : Nat} {cs : List Value} {x : DataW H × List MemPlace} (h : DataW.trod enc Tryd.prog w 0 spare held fuel 33 cs = some x) :
    ∃ y : Lz, cs = [.string y.1, .int .i64 y.2] ∧ (Lit.int .i64 y.2).wf = true := by
  obtain ⟨f0, f1, hu, hone, t0, t1⟩ := one33
  obtain ⟨y0, y1, n, _, hl, h0, h1⟩ := trod_struct2 hu h
  obtain ⟨o0, k0⟩ := hone_of hone 0 f0 rfl
  obtain ⟨o1, k1⟩ := hone_of hone 1 f1 rfl
  rw [cells33] at hl
  obtain ⟨a, b, rfl⟩ := len2 hl
  rw [o0, k0, t0] at h0
  rw [o1, k1, t1] at h1
  obtain ⟨s, e0, _⟩ := DataW.trod_string Tryd.underlying9 h0
  obtain ⟨m, e1, _, hw⟩ := DataW.trod_int Tryd.underlying3 h1
  simp at e0 e1
  exact ⟨(s, m), by rw [e0, e1], hw⟩
set_option maxRecDepth 100000 in
theorem open_text {r : Reach} {b0 : Nat} {v : Value} {d : DataW H} {p : List MemPlace} (hv : Value.okWide Tryd.prog w r b0 25 v) (h : DataW.Trod enc Tryd.prog w 0 spare held 25 v d p) :
    ∃ (s : ByteArray) (ws : List Lz), ZText w v s ws ∧ ∀ x ∈ ws, (Lit.int .i64 x.2).wf = true := by
  obtain ⟨f0, f1, hu, hone, t0, t1⟩ := one25
  obtain ⟨v0, v1, y0, y1, n, rfl, _, _, h0, h1⟩ := open_agg2 hu hone cells25 hv h
  rw [t0] at h0
  rw [t1] at h1
  obtain ⟨s, e0, _⟩ := DataW.trod_string Tryd.underlying9 h0
  obtain rfl : v0 = .string s := by simpa using e0
  obtain ⟨A, c, fuel', css, rfl, hc1, hc2, _, hr, hall⟩ := open_rows Tryd.underlying23 cells33 (by decide) h1
  obtain ⟨ws, rfl, hw⟩ := list_of_all (f := fun y : Lz => [.string y.1, .int .i64 y.2]) (q := fun y => (Lit.int .i64 y.2).wf = true) (l := css) (fun cs hcs => by
    obtain ⟨y, hy⟩ := hall cs hcs
    exact open_lexeme hy)
  rw [List.length_map] at hc1 hr
  exact ⟨s, ws, ⟨A, c, by rw [List.length_map], hc1, hc2, by rw [zCells, List.flatMap_def]; exact hr⟩, hw⟩
end
end Go.Proofs.YtlecocmopeainaaDoor
