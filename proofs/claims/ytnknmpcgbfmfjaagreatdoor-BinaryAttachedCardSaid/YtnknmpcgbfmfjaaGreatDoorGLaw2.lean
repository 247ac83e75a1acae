/- Binaries, notes and lists of notes that are read as data. No conditions. (Printed by mk-law2.py.) -/
import Derived.Test.YtnknmpcgbfmfjaaGreatDoorGLaw
import Derived.Test.YtnknmpcgbfmfjaaGreatDoorGW3
import Derived.Test.YtnknmpcgbfmfjaaGreatDoorGV2

namespace Go.Proofs.YtnknmpcgbfmfjaaGreatDoor
open Go Go.RowKit Go.WideShapes Go.ChangeShapes Go.Joins Go.ChangeMaps Go.Deep
structure W64B (b : Bn) : Prop where
  kind : W64 b.kind
  entry : W64 b.entry
  pl : ∀ p ∈ b.places, W64 p.kind ∧ W64 p.pos ∧ W64 p.size
  fx : ∀ a ∈ b.fix, W64 a
  im : ∀ x ∈ b.imps, W64 x.pos
  ex : ∀ x ∈ b.exps, W64 x.pos
section
variable {H : Type} {enc : TypeId × Value → H} {P : Program} {w : World} {base : Nat} {spare : Nat → Bool} {held : Bool}
theorem take_one {α : Type} {l : List α} {i : Nat} {v : α} (h : l[i]? = some v) : (l.drop i).take 1 = [v] := by
  obtain ⟨hi, rfl⟩ := List.getElem?_eq_some_iff.1 h
  rw [List.drop_eq_getElem_cons hi]; rfl
theorem trod_fields {t : TypeId} {fs : Array Field} {fuel : Nat} {cs : List Value} {x : DataW H × List MemPlace} (hs : P.underlying t = some (.struct fs)) (hone : oneCellFields P fs = true) (h : DataW.trod enc P w base spare held fuel t cs = some x) :
    cs.length = P.cellsOf t ∧ ∃ n, ∀ (i : Nat) (f : Field) (v : Value), fs[i]? = some f → cs[i]? = some v → ∃ y, DataW.trod enc P w base spare held n f.type [v] = some y := by
  obtain ⟨xs, n, _, rfl, hl, hlen, hf⟩ := DataW.trod_struct hs h
  refine ⟨hl, n, fun i f v hi hv => ?_⟩
  have := hf i f hi
  obtain ⟨o0, k0⟩ := hone_of hone i f hi
  rw [o0, k0, take_one hv] at this
  have hix : i < xs.length := by have := (Array.getElem?_eq_some_iff.1 hi).1; omega
  rw [List.getElem?_eq_getElem hix] at this
  exact ⟨_, this⟩
theorem len5 {α : Type} : ∀ {l : List α}, l.length = 5 → ∃ a b c d e, l = [a, b, c, d, e]
  | [a, b, c, d, e], _ => ⟨a, b, c, d, e, rfl⟩
theorem array8 {α : Type} {cs : Array α} (h : cs.size = 8) : ∃ c0 c1 c2 c3 c4 c5 c6 c7, cs = #[c0, c1, c2, c3, c4, c5, c6, c7] := by
  obtain ⟨l⟩ := cs
  match l, h with
  | [c0, c1, c2, c3, c4, c5, c6, c7], _ => exact ⟨c0, c1, c2, c3, c4, c5, c6, c7, rfl⟩
end
section
variable {H : Type} {enc : TypeId × Value → H} {w : World} {spare : Nat → Bool} {held : Bool}
theorem w64_of {n : Int} (h : (Lit.int .i64 n).wf = true) : W64 n := by
  simp [Lit.wf, IntKind.min, IntKind.max, IntKind.signed, IntKind.bits] at h
  exact h
theorem open_s {n : Nat} {v : Value} {y : DataW H × List MemPlace} (h : DataW.trod enc Tryz.prog w 0 spare held n 9 [v] = some y) : ∃ s : ByteArray, v = .string s ∧ s.size ≤ 9223372036854775807 := by
  obtain ⟨s, e, _, hs⟩ := DataW.trod_string Tryz.underlying9 h
  exact ⟨s, by simpa using e, hs⟩
theorem open_n {n : Nat} {v : Value} {y : DataW H × List MemPlace} (h : DataW.trod enc Tryz.prog w 0 spare held n 3 [v] = some y) : ∃ m : Int, v = .int .i64 m ∧ W64 m := by
  obtain ⟨m, e, _, hw⟩ := DataW.trod_int Tryz.underlying3 h
  exact ⟨m, by simpa using e, w64_of hw⟩
theorem cells60 : Tryz.prog.cellsOf 60 = 5 := by kernel_rfl
theorem one60 : ∃ f0 f1 f2 f3 f4, Tryz.prog.underlying 60 = some (.struct #[f0, f1, f2, f3, f4]) ∧ oneCellFields Tryz.prog #[f0, f1, f2, f3, f4] = true ∧ f0.type = 9 ∧ f1.type = 9 ∧ f2.type = 3 ∧ f3.type = 3 ∧ f4.type = 3 := ⟨_, _, _, _, _, Tryz.underlying60, by kernel_rfl, rfl, rfl, rfl, rfl, rfl⟩
theorem open_pl {fuel : Nat} {cs : List Value} {x : DataW H × List MemPlace} (h : DataW.trod enc Tryz.prog w 0 spare held fuel 60 cs = some x) : ∃ p : PlD, cs = plC p ∧ (W64 p.kind ∧ W64 p.pos ∧ W64 p.size) := by
  obtain ⟨f0, f1, f2, f3, f4, hu, hone, t0, t1, t2, t3, t4⟩ := one60
  obtain ⟨hl, n, hf⟩ := trod_fields hu hone h
  rw [cells60] at hl
  obtain ⟨c0, c1, c2, c3, c4, rfl⟩ := len5 hl
  obtain ⟨y0, h0⟩ := hf 0 f0 c0 rfl rfl
  rw [t0] at h0
  obtain ⟨v0, rfl, w0⟩ := open_s h0
  obtain ⟨y1, h1⟩ := hf 1 f1 c1 rfl rfl
  rw [t1] at h1
  obtain ⟨v1, rfl, w1⟩ := open_s h1
  obtain ⟨y2, h2⟩ := hf 2 f2 c2 rfl rfl
  rw [t2] at h2
  obtain ⟨v2, rfl, w2⟩ := open_n h2
  obtain ⟨y3, h3⟩ := hf 3 f3 c3 rfl rfl
  rw [t3] at h3
  obtain ⟨v3, rfl, w3⟩ := open_n h3
  obtain ⟨y4, h4⟩ := hf 4 f4 c4 rfl rfl
  rw [t4] at h4
  obtain ⟨v4, rfl, w4⟩ := open_n h4
  exact ⟨⟨v0, v1, v2, v3, v4⟩, rfl, ⟨w2, w3, w4⟩⟩
theorem open_pls {fuel : Nat} {v : Value} {x : DataW H × List MemPlace} (h : DataW.trod enc Tryz.prog w 0 spare held fuel 22 [v] = some x) :
    ∃ A c l, v = .slice A (l : List PlD).length c ∧ l.length ≤ 9223372036854775807 ∧ Rd w 5 A l.length (l.flatMap plC) ∧ ∀ p ∈ l, (W64 p.kind ∧ W64 p.pos ∧ W64 p.size) := by
  obtain ⟨A, c, f', css, rfl, hc1, hc2, _, hr, hall⟩ := open_rows Tryz.underlying22 cells60 (by decide) h
  obtain ⟨l, rfl, hq⟩ := list_of_all (f := plC) (q := fun p => W64 p.kind ∧ W64 p.pos ∧ W64 p.size) (l := css) (fun cs hcs => by
    obtain ⟨y, hy⟩ := hall cs hcs
    exact open_pl hy)
  rw [List.length_map] at hc1 hr
  rw [← List.flatMap_def] at hr
  have hm : maxLen ≤ 9223372036854775807 := by simp [maxLen]
  exact ⟨A, c, l, by rw [List.length_map], by omega, hr, hq⟩
theorem cells81 : Tryz.prog.cellsOf 81 = 3 := by kernel_rfl
theorem one81 : ∃ f0 f1 f2, Tryz.prog.underlying 81 = some (.struct #[f0, f1, f2]) ∧ oneCellFields Tryz.prog #[f0, f1, f2] = true ∧ f0.type = 9 ∧ f1.type = 9 ∧ f2.type = 3 := ⟨_, _, _, Tryz.underlying81, by kernel_rfl, rfl, rfl, rfl⟩
theorem open_im {fuel : Nat} {cs : List Value} {x : DataW H × List MemPlace} (h : DataW.trod enc Tryz.prog w 0 spare held fuel 81 cs = some x) : ∃ p : ImD, cs = imC p ∧ (W64 p.pos) := by
  obtain ⟨f0, f1, f2, hu, hone, t0, t1, t2⟩ := one81
  obtain ⟨hl, n, hf⟩ := trod_fields hu hone h
  rw [cells81] at hl
  obtain ⟨c0, c1, c2, rfl⟩ := len3 hl
  obtain ⟨y0, h0⟩ := hf 0 f0 c0 rfl rfl
  rw [t0] at h0
  obtain ⟨v0, rfl, w0⟩ := open_s h0
  obtain ⟨y1, h1⟩ := hf 1 f1 c1 rfl rfl
  rw [t1] at h1
  obtain ⟨v1, rfl, w1⟩ := open_s h1
  obtain ⟨y2, h2⟩ := hf 2 f2 c2 rfl rfl
  rw [t2] at h2
  obtain ⟨v2, rfl, w2⟩ := open_n h2
  exact ⟨⟨v0, v1, v2⟩, rfl, w2⟩
theorem open_ims {fuel : Nat} {v : Value} {x : DataW H × List MemPlace} (h : DataW.trod enc Tryz.prog w 0 spare held fuel 24 [v] = some x) :
    ∃ A c l, v = .slice A (l : List ImD).length c ∧ l.length ≤ 9223372036854775807 ∧ Rd w 3 A l.length (l.flatMap imC) ∧ ∀ p ∈ l, (W64 p.pos) := by
  obtain ⟨A, c, f', css, rfl, hc1, hc2, _, hr, hall⟩ := open_rows Tryz.underlying24 cells81 (by decide) h
  obtain ⟨l, rfl, hq⟩ := list_of_all (f := imC) (q := fun p => W64 p.pos) (l := css) (fun cs hcs => by
    obtain ⟨y, hy⟩ := hall cs hcs
    exact open_im hy)
  rw [List.length_map] at hc1 hr
  rw [← List.flatMap_def] at hr
  have hm : maxLen ≤ 9223372036854775807 := by simp [maxLen]
  exact ⟨A, c, l, by rw [List.length_map], by omega, hr, hq⟩
theorem cells83 : Tryz.prog.cellsOf 83 = 2 := by kernel_rfl
theorem one83 : ∃ f0 f1, Tryz.prog.underlying 83 = some (.struct #[f0, f1]) ∧ oneCellFields Tryz.prog #[f0, f1] = true ∧ f0.type = 9 ∧ f1.type = 3 := ⟨_, _, Tryz.underlying83, by kernel_rfl, rfl, rfl⟩
theorem open_ex {fuel : Nat} {cs : List Value} {x : DataW H × List MemPlace} (h : DataW.trod enc Tryz.prog w 0 spare held fuel 83 cs = some x) : ∃ p : ExD, cs = exC p ∧ (W64 p.pos) := by
  obtain ⟨f0, f1, hu, hone, t0, t1⟩ := one83
  obtain ⟨hl, n, hf⟩ := trod_fields hu hone h
  rw [cells83] at hl
  obtain ⟨c0, c1, rfl⟩ := len2 hl
  obtain ⟨y0, h0⟩ := hf 0 f0 c0 rfl rfl
  rw [t0] at h0
  obtain ⟨v0, rfl, w0⟩ := open_s h0
  obtain ⟨y1, h1⟩ := hf 1 f1 c1 rfl rfl
  rw [t1] at h1
  obtain ⟨v1, rfl, w1⟩ := open_n h1
  exact ⟨⟨v0, v1⟩, rfl, w1⟩
theorem open_exs {fuel : Nat} {v : Value} {x : DataW H × List MemPlace} (h : DataW.trod enc Tryz.prog w 0 spare held fuel 25 [v] = some x) :
    ∃ A c l, v = .slice A (l : List ExD).length c ∧ l.length ≤ 9223372036854775807 ∧ Rd w 2 A l.length (l.flatMap exC) ∧ ∀ p ∈ l, (W64 p.pos) := by
  obtain ⟨A, c, f', css, rfl, hc1, hc2, _, hr, hall⟩ := open_rows Tryz.underlying25 cells83 (by decide) h
  obtain ⟨l, rfl, hq⟩ := list_of_all (f := exC) (q := fun p => W64 p.pos) (l := css) (fun cs hcs => by
    obtain ⟨y, hy⟩ := hall cs hcs
    exact open_ex hy)
  rw [List.length_map] at hc1 hr
  rw [← List.flatMap_def] at hr
  have hm : maxLen ≤ 9223372036854775807 := by simp [maxLen]
  exact ⟨A, c, l, by rw [List.length_map], by omega, hr, hq⟩
theorem cells40 : Tryz.prog.cellsOf 40 = 2 := by kernel_rfl
theorem one40 : ∃ f0 f1, Tryz.prog.underlying 40 = some (.struct #[f0, f1]) ∧ oneCellFields Tryz.prog #[f0, f1] = true ∧ f0.type = 9 ∧ f1.type = 9 := ⟨_, _, Tryz.underlying40, by kernel_rfl, rfl, rfl⟩
theorem open_nt {fuel : Nat} {cs : List Value} {x : DataW H × List MemPlace} (h : DataW.trod enc Tryz.prog w 0 spare held fuel 40 cs = some x) : ∃ p : NtD, cs = ntC p ∧ (True) := by
  obtain ⟨f0, f1, hu, hone, t0, t1⟩ := one40
  obtain ⟨hl, n, hf⟩ := trod_fields hu hone h
  rw [cells40] at hl
  obtain ⟨c0, c1, rfl⟩ := len2 hl
  obtain ⟨y0, h0⟩ := hf 0 f0 c0 rfl rfl
  rw [t0] at h0
  obtain ⟨v0, rfl, w0⟩ := open_s h0
  obtain ⟨y1, h1⟩ := hf 1 f1 c1 rfl rfl
  rw [t1] at h1
  obtain ⟨v1, rfl, w1⟩ := open_s h1
  exact ⟨⟨v0, v1⟩, rfl, trivial⟩
theorem open_nts {fuel : Nat} {v : Value} {x : DataW H × List MemPlace} (h : DataW.trod enc Tryz.prog w 0 spare held fuel 26 [v] = some x) :
    ∃ A c l, v = .slice A (l : List NtD).length c ∧ l.length ≤ 9223372036854775807 ∧ Rd w 2 A l.length (l.flatMap ntC) ∧ ∀ p ∈ l, (True) := by
  obtain ⟨A, c, f', css, rfl, hc1, hc2, _, hr, hall⟩ := open_rows Tryz.underlying26 cells40 (by decide) h
  obtain ⟨l, rfl, hq⟩ := list_of_all (f := ntC) (q := fun p => True) (l := css) (fun cs hcs => by
    obtain ⟨y, hy⟩ := hall cs hcs
    exact open_nt hy)
  rw [List.length_map] at hc1 hr
  rw [← List.flatMap_def] at hr
  have hm : maxLen ≤ 9223372036854775807 := by simp [maxLen]
  exact ⟨A, c, l, by rw [List.length_map], by omega, hr, hq⟩
theorem cells3' : Tryz.prog.cellsOf 3 = 1 := by kernel_rfl
theorem open_fxs {fuel : Nat} {v : Value} {x : DataW H × List MemPlace} (h : DataW.trod enc Tryz.prog w 0 spare held fuel 23 [v] = some x) :
    ∃ A c l, v = .slice A (l : List Int).length c ∧ l.length ≤ 9223372036854775807 ∧ Rd w 1 A l.length (l.flatMap fxC) ∧ ∀ p ∈ l, W64 p := by
  obtain ⟨A, c, f', css, rfl, hc1, hc2, hcl, hr, hall⟩ := open_rows Tryz.underlying23 cells3' (by decide) h
  obtain ⟨l, rfl, hq⟩ := list_of_all (f := fxC) (q := fun p => W64 p) (l := css) (fun cs hcs => by
    obtain ⟨y, hy⟩ := hall cs hcs
    have hl1 := hcl cs hcs
    obtain ⟨u, rfl⟩ : ∃ u, cs = [u] := by
      match cs, hl1 with
      | [u], _ => exact ⟨u, rfl⟩
    obtain ⟨m, rfl, hw⟩ := open_n hy
    exact ⟨m, rfl, hw⟩)
  rw [List.length_map] at hc1 hr
  rw [← List.flatMap_def] at hr
  have hm : maxLen ≤ 9223372036854775807 := by simp [maxLen]
  exact ⟨A, c, l, by rw [List.length_map], by omega, hr, hq⟩
theorem cells28 : Tryz.prog.cellsOf 28 = 8 := by kernel_rfl
theorem one28 : ∃ f0 f1 f2 f3 f4 f5 f6 f7, Tryz.prog.underlying 28 = some (.struct #[f0, f1, f2, f3, f4, f5, f6, f7]) ∧ oneCellFields Tryz.prog #[f0, f1, f2, f3, f4, f5, f6, f7] = true ∧ f0.type = 3 ∧ f1.type = 3 ∧ f2.type = 9 ∧ f3.type = 22 ∧ f4.type = 23 ∧ f5.type = 24 ∧ f6.type = 25 ∧ f7.type = 26 := ⟨_, _, _, _, _, _, _, _, Tryz.underlying28, by kernel_rfl, rfl, rfl, rfl, rfl, rfl, rfl, rfl, rfl⟩
set_option maxRecDepth 100000 in
theorem open_b {r : Reach} {b0 : Nat} {v : Value} {d : DataW H} {p : List MemPlace} (hv : Value.okWide Tryz.prog w r b0 28 v) (h : DataW.Trod enc Tryz.prog w 0 spare held 28 v d p) :
    ∃ (b : Bn) (h : BH), v = .agg (bcells b h) ∧ BRd w b h ∧ LensB b ∧ W64B b := by
  obtain ⟨f0, f1, f2, f3, f4, f5, f6, f7, hu, hone, t0, t1, t2, t3, t4, t5, t6, t7⟩ := one28
  obtain ⟨cs, rfl, hsz⟩ := okWide_struct hu hv
  obtain ⟨c0, c1, c2, c3, c4, c5, c6, c7, rfl⟩ := array8 (hsz.trans cells28)
  obtain ⟨fuel, hf0⟩ := h
  obtain ⟨hl, n, hf⟩ := trod_fields (cs := [c0, c1, c2, c3, c4, c5, c6, c7]) hu hone hf0
  obtain ⟨y0, h0⟩ := hf 0 f0 c0 rfl rfl
  rw [t0] at h0
  obtain ⟨y1, h1⟩ := hf 1 f1 c1 rfl rfl
  rw [t1] at h1
  obtain ⟨y2, h2⟩ := hf 2 f2 c2 rfl rfl
  rw [t2] at h2
  obtain ⟨y3, h3⟩ := hf 3 f3 c3 rfl rfl
  rw [t3] at h3
  obtain ⟨y4, h4⟩ := hf 4 f4 c4 rfl rfl
  rw [t4] at h4
  obtain ⟨y5, h5⟩ := hf 5 f5 c5 rfl rfl
  rw [t5] at h5
  obtain ⟨y6, h6⟩ := hf 6 f6 c6 rfl rfl
  rw [t6] at h6
  obtain ⟨y7, h7⟩ := hf 7 f7 c7 rfl rfl
  rw [t7] at h7
  obtain ⟨k, rfl, w0⟩ := open_n h0
  obtain ⟨e, rfl, w1⟩ := open_n h1
  obtain ⟨im, rfl, _⟩ := open_s h2
  obtain ⟨A1, C1, l1, rfl, z1, r1, q1⟩ := open_pls h3
  obtain ⟨A2, C2, l2, rfl, z2, r2, q2⟩ := open_fxs h4
  obtain ⟨A3, C3, l3, rfl, z3, r3, q3⟩ := open_ims h5
  obtain ⟨A4, C4, l4, rfl, z4, r4, q4⟩ := open_exs h6
  obtain ⟨A5, C5, l5, rfl, z5, r5, q5⟩ := open_nts h7
  exact ⟨⟨k, e, im, l1, l2, l3, l4, l5⟩, ⟨A1, C1, A2, C2, A3, C3, A4, C4, A5, C5⟩, rfl, ⟨r1, r2, r3, r4, r5⟩, ⟨z1, z2, z3, z4, z5⟩, ⟨w0, w1, q1, q2, q3, q4⟩⟩
end
theorem FewS.szb {b : Bn} (h : FewS b) (hw : W64B b) : SzB b := by
  have i1 := h.img
  have i2 := h.l1
  have i3 := h.l2
  have i4 := h.l3
  have i5 := h.l4
  have i6 := h.l5
  refine ⟨fun p hp => ?_, fun p hp => ?_, fun p hp => ?_, hw.fx, by omega, by omega, by omega, by omega, by omega, by omega⟩
  · have := h.pl p hp; unfold fPl at this; omega
  · have := h.nt p hp; unfold fNt at this; omega
  · have := h.im p hp; unfold fIm at this; exact ⟨by omega, by omega, hw.im p hp⟩
theorem FewS.szx {b : Bn} (h : FewS b) (hw : W64B b) : SzX b.exps := fun x hx => ⟨by have := h.ex x hx; unfold fEx at this; omega, hw.ex x hx⟩
theorem W64B.wf {b : Bn} (hw : W64B b) : WfP b.places := fun p hp => (hw.pl p hp).2
end Go.Proofs.YtnknmpcgbfmfjaaGreatDoor

