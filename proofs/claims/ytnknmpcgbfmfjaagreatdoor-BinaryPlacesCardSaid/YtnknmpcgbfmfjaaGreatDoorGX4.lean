/- The law BinaryPlaces: it answers true. Conditions: none but the world's. (Printed by mk-x4.py.) -/
import Derived.Test.YtnknmpcgbfmfjaaGreatDoorGW
import Derived.Test.YtnknmpcgbfmfjaaGreatDoorGLaw2
import Derived.Test.YtnknmpcgbfmfjaaGreatDoorGD
import Derived.Deep.RegionHeld3

namespace Go.Proofs.YtnknmpcgbfmfjaaGreatDoor
open Go Go.RowKit Go.Joins
set_option linter.unusedSimpArgs false
set_option linter.unusedVariables false

set_option maxRecDepth 100000 in
set_option maxHeartbeats 8000000 in
theorem law_places (b : Bn) (h : BH) (a i : Int) (w : World) (hr : BRd w b h) (hl : LensB b) (hw : W64B b) (hE : Env w) (ha : W64 a) (hi : W64 i) :
    Calls Tryz.prog 6 #[.agg (bcells b h), .int .i64 a, .int .i64 i] w fun e w' => e = .returned (.bool true) ∧ New w w' := by
  have HF := Lib.hid (fun W (hn : New w W) => few_any b h W (hr.new hn) hl)
  have HC1 := Lib.hid (fun (hs : FewS b) W (hn : New w W) => at_any b h a W (hr.new hn) ha hw.wf (by have := hs.l1; omega))
  have HC2 := Lib.hid (fun (hs : FewS b) W (hn : New w W) => rat_any b h a W (hr.new hn) ha hw.wf (by have := hs.l1; omega))
  have HC3 := Lib.hid (fun (hs : FewS b) W (hn : New w W) => plain_any b h i W (hr.new hn) (hs.szb hw) (hE.new hn) hi)
  have HC4 := Lib.hid (fun (hs : FewS b) W (hn : New w W) => rplain_any b h i W (hr.new hn) (hs.szb hw) hi)
  have HE := Lib.hid hE
  have HFS := Lib.hid (rfl : b = b)
  have HR : Hid (∀ W e W', FewR b W e W' → (∃ v, e = .returned (.bool v) ∧ (v = true → FewS b)) ∧ New W W') := Lib.hid (fun W e W' q => q)
  obtain ⟨px, hpx⟩ : ∃ x, plainV b i = x := ⟨_, rfl⟩
  obtain ⟨mx, hmx⟩ : ∃ x, max (idxV b.places a) 0 = x := ⟨_, rfl⟩
  obtain ⟨qx, hqx⟩ : ∃ x, decide (0 ≤ idxV b.places a) = x := ⟨_, rfl⟩
  obtain ⟨FS, hFS⟩ : ∃ x, FewS b = x := ⟨_, rfl⟩
  have HF2 := Lib.hid (fun W (hn : New w W) => (HF.out W hn).mono (fun e W' q => HR.out W e W' q))
  rw [hFS] at HF2 HC1 HC2 HC3 HC4
  rw [hpx] at HC3 HC4
  rw [hmx, hqx] at HC1 HC2
  clear hpx hmx hqx
  obtain ⟨ps, pe⟩ := px
  simp only at HC3 HC4
  have B0 := Blk.made w 28 (bcells b h)
  have n0 : New w (w.alloc (.cells (bcells b h) 28)) := (New.refl w).alloc _
  clear HF HR HFS hFS hr hl hw hE ha hi
  obtain ⟨kind, entry, image, places, fix, imps, exps, notes⟩ := b
  obtain ⟨a1, c1, a2, c2, a3, c3, a4, c4, a5, c5⟩ := h
  simp only [bcells] at *
  obtain ⟨n1, hn1⟩ : ∃ n, places.length = n := ⟨_, rfl⟩
  obtain ⟨n2, hn2⟩ : ∃ n, fix.length = n := ⟨_, rfl⟩
  obtain ⟨n3, hn3⟩ : ∃ n, imps.length = n := ⟨_, rfl⟩
  obtain ⟨n4, hn4⟩ : ∃ n, exps.length = n := ⟨_, rfl⟩
  obtain ⟨n5, hn5⟩ : ∃ n, notes.length = n := ⟨_, rfl⟩
  simp only [hn1, hn2, hn3, hn4, hn5] at *
  clear hn1 hn2 hn3 hn4 hn5
  go_enter Tryz.func6, Tryz.ntmps6
  go_wp2_with (fail)
  with_reducible refine (awake_any _ (HE.out.new n0)).mono ?_
  rintro e w1 ⟨rfl, m1⟩
  have n1' := n0.trans m1
  have B1 := B0.new m1
  have x0 := B1.cell' 0 _ rfl
  have x1 := B1.cell' 1 _ rfl
  have x2 := B1.cell' 2 _ rfl
  have x3 := B1.cell' 3 _ rfl
  have x4 := B1.cell' 4 _ rfl
  have x5 := B1.cell' 5 _ rfl
  have x6 := B1.cell' 6 _ rfl
  have x7 := B1.cell' 7 _ rfl
  go_wp2_with (fail)
  with_reducible refine (HF2.out _ n1').mono ?_
  rintro e w2 ⟨⟨v, rfl, hv⟩, m2⟩
  have n2' := n1'.trans m2
  have B2 := B1.new m2
  cases v
  · go_wp2
    go_ret
    exact ⟨rfl, n2'⟩
  have HS := Lib.hid (hv rfl)
  clear x0 x1 x2 x3 x4 x5 x6 x7
  clear hv
  have x0 := B2.cell' 0 _ rfl
  have x1 := B2.cell' 1 _ rfl
  have x2 := B2.cell' 2 _ rfl
  have x3 := B2.cell' 3 _ rfl
  have x4 := B2.cell' 4 _ rfl
  have x5 := B2.cell' 5 _ rfl
  have x6 := B2.cell' 6 _ rfl
  have x7 := B2.cell' 7 _ rfl
  go_wp2_with (fail)
  with_reducible refine (HC1.out HS.out _ n2').mono ?_
  rintro e w3 ⟨rfl, m3⟩
  have n3' := n2'.trans m3
  have B3 := B2.new m3
  clear x0 x1 x2 x3 x4 x5 x6 x7
  have x0 := B3.cell' 0 _ rfl
  have x1 := B3.cell' 1 _ rfl
  have x2 := B3.cell' 2 _ rfl
  have x3 := B3.cell' 3 _ rfl
  have x4 := B3.cell' 4 _ rfl
  have x5 := B3.cell' 5 _ rfl
  have x6 := B3.cell' 6 _ rfl
  have x7 := B3.cell' 7 _ rfl
  go_wp2_with (fail)
  with_reducible refine (HC2.out HS.out _ n3').mono ?_
  rintro e w4 ⟨rfl, m4⟩
  have n4' := n3'.trans m4
  have B4 := B3.new m4
  clear x0 x1 x2 x3 x4 x5 x6 x7
  have x0 := B4.cell' 0 _ rfl
  have x1 := B4.cell' 1 _ rfl
  have x2 := B4.cell' 2 _ rfl
  have x3 := B4.cell' 3 _ rfl
  have x4 := B4.cell' 4 _ rfl
  have x5 := B4.cell' 5 _ rfl
  have x6 := B4.cell' 6 _ rfl
  have x7 := B4.cell' 7 _ rfl
  go_wp2_with (fail)
  with_reducible refine (HC3.out HS.out _ n4').mono ?_
  rintro e w5 ⟨rfl, m5⟩
  have n5' := n4'.trans m5
  have B5 := B4.new m5
  clear x0 x1 x2 x3 x4 x5 x6 x7
  have x0 := B5.cell' 0 _ rfl
  have x1 := B5.cell' 1 _ rfl
  have x2 := B5.cell' 2 _ rfl
  have x3 := B5.cell' 3 _ rfl
  have x4 := B5.cell' 4 _ rfl
  have x5 := B5.cell' 5 _ rfl
  have x6 := B5.cell' 6 _ rfl
  have x7 := B5.cell' 7 _ rfl
  go_wp2_with (fail)
  with_reducible refine (HC4.out HS.out _ n5').mono ?_
  rintro e w6 ⟨rfl, m6⟩
  have n6' := n5'.trans m6
  have B6 := B5.new m6
  clear x0 x1 x2 x3 x4 x5 x6 x7
  have x0 := B6.cell' 0 _ rfl
  have x1 := B6.cell' 1 _ rfl
  have x2 := B6.cell' 2 _ rfl
  have x3 := B6.cell' 3 _ rfl
  have x4 := B6.cell' 4 _ rfl
  have x5 := B6.cell' 5 _ rfl
  have x6 := B6.cell' 6 _ rfl
  have x7 := B6.cell' 7 _ rfl
  go_wp2
  go_ret
  exact ⟨rfl, n6'⟩
end Go.Proofs.YtnknmpcgbfmfjaaGreatDoor

