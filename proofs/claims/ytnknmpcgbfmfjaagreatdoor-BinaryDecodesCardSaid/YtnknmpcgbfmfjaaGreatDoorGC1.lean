/- binary.Check. Conditions: sizes. (Printed by mk-c1.py.) -/
import Derived.Test.YtnknmpcgbfmfjaaGreatDoorGN2
import Derived.Test.YtnknmpcgbfmfjaaGreatDoorGI

namespace Go.Proofs.YtnknmpcgbfmfjaaGreatDoor
open Go Go.RowKit Go.Joins
set_option linter.unusedSimpArgs false
set_option linter.unusedVariables false

structure SzB (b : Bn) : Prop where
  pl : SzP b.places
  nt : SzN b.notes
  im : SzI b.imps
  fx : ∀ a ∈ b.fix, W64 a
  img : b.image.size ≤ 1000000
  l1 : b.places.length ≤ 1000000
  l2 : b.fix.length ≤ 1000000
  l3 : b.imps.length ≤ 1000000
  l4 : b.exps.length ≤ 1000000
  l5 : b.notes.length ≤ 1000000
def chkE (b : Bn) : Int := if checkV b = true then 0 else 1
set_option maxRecDepth 100000 in
set_option maxHeartbeats 8000000 in
theorem check_any (b : Bn) (h : BH) (w : World) (hr : BRd w b h) (hz : SzB b) (hE : Env w) :
    Calls Tryz.prog 14 #[.agg (bcells b h)] w fun e w' => e = .returned (.int .i64 (chkE b)) ∧ New w w' := by
  have H46 := Lib.hid (fun W (hn : New w W) => placed_any b h W (hr.new hn) hz.pl hz.img hz.l1 (hE.new hn))
  have H48 := Lib.hid (fun W (hn : New w W) => noted_any b.notes h.a5 b.notes.length h.c5 W rfl (hr.r5.below hn) hz.nt hz.l5)
  have H49 := Lib.hid (fun W (hn : New w W) => exported_any b h W (hr.new hn) hz.l4 hz.l1)
  have H47P := Lib.hid (fun (hp : placedV b = true) W (hn : New w W) => words_any b h W (placed_ok hp) (hr.new hn) hz.l2 hz.l3 hz.fx hz.im (hE.new hn))
  have HPO := Lib.hid (fun hp : placedV b = true => (placed_ok hp).pos)
  have hr1 := hr.r1
  have HCV : Hid (checkV b = (placedV b && wordsV b && notedV b.notes &&
  ((decide (b.kind = 1) && decide (b.entry = 0) && (match b.places with | [] => false | p :: _ => decide (p.kind = 1)) && decide (b.exps.length = 0)) ||
   (decide (b.kind = 2) && decide (b.entry = -1) && decide (b.imps.length = 0) && exportedV b.places b.exps)))) := Lib.hid rfl
  obtain ⟨X, hX⟩ : ∃ X, chkE b = X := ⟨_, rfl⟩
  have HX : Hid (X = if checkV b = true then 0 else 1) := Lib.hid hX.symm
  rw [hX]
  have BX := Blk.made w 28 (bcells b h)
  have hnX := (New.refl w).alloc (.cells (bcells b h) 28)
  obtain ⟨kind, entry, image, places, fix, imps, exps, notes⟩ := b
  obtain ⟨a1, c1, a2, c2, a3, c3, a4, c4, a5, c5⟩ := h
  simp only [bcells] at BX hnX H46 H47P H48 H49 HPO HCV hr1 ⊢
  obtain ⟨v1, hv1⟩ : ∃ v, placedV ⟨kind, entry, image, places, fix, imps, exps, notes⟩ = v := ⟨_, rfl⟩
  obtain ⟨v2, hv2⟩ : ∃ v, wordsV ⟨kind, entry, image, places, fix, imps, exps, notes⟩ = v := ⟨_, rfl⟩
  obtain ⟨v3, hv3⟩ : ∃ v, notedV notes = v := ⟨_, rfl⟩
  obtain ⟨v4, hv4⟩ : ∃ v, exportedV places exps = v := ⟨_, rfl⟩
  obtain ⟨v5, hv5⟩ : ∃ v, checkV ⟨kind, entry, image, places, fix, imps, exps, notes⟩ = v := ⟨_, rfl⟩
  obtain ⟨n1, hn1⟩ : ∃ n, places.length = n := ⟨_, rfl⟩
  obtain ⟨n2, hn2⟩ : ∃ n, fix.length = n := ⟨_, rfl⟩
  obtain ⟨n3, hn3⟩ : ∃ n, imps.length = n := ⟨_, rfl⟩
  obtain ⟨n4, hn4⟩ : ∃ n, exps.length = n := ⟨_, rfl⟩
  obtain ⟨n5, hn5⟩ : ∃ n, notes.length = n := ⟨_, rfl⟩
  rw [hv1] at H46 H47P HPO
  rw [hv2] at H47P
  rw [hv3] at H48
  rw [hv4] at H49
  rw [hv1, hv2, hv3, hv4, hv5, hn3, hn4] at HCV
  rw [hv5] at HX
  rw [hn1, hn2, hn3, hn4, hn5] at BX hnX H46 H47P H49 ⊢
  rw [hn5] at H48
  rw [hn1] at HPO hr1
  have HL1 := Lib.hid hn1
  clear hv1 hv2 hv3 hv4 hv5 hn1 hn2 hn3 hn4 hn5 hX hr hz hE
  cases v1
  · have hx : X = 1 := by rw [HX.out, HCV.out]; simp
    subst hx
    clear hr1
    go_enter Tryz.func14, Tryz.ntmps14
    go_wp2_with (first | (go_at_call 49; (with_reducible refine (H49.out _ (((hnX.trans n1).trans n2).trans n3)).mono ?_); rintro e w4 ⟨rfl, n4⟩) | (go_at_call 48; (with_reducible refine (H48.out _ ((hnX.trans n1).trans n2)).mono ?_); rintro e w3 ⟨rfl, n3⟩; have B3 := BX.new ((n1.trans n2).trans n3); have e0 := B3.cell' 0 _ rfl; have e1 := B3.cell' 1 _ rfl; have e2 := B3.cell' 2 _ rfl; have e3 := B3.cell' 3 _ rfl; have e4 := B3.cell' 4 _ rfl; have e5 := B3.cell' 5 _ rfl; have e6 := B3.cell' 6 _ rfl; have e7 := B3.cell' 7 _ rfl; have p2 := cell_new (((hnX.trans n1).trans n2).trans n3) p0) | (go_at_call 47; (with_reducible refine (H47.out _ (hnX.trans n1)).mono ?_); rintro e w2 ⟨rfl, n2⟩; have B2 := BX.new (n1.trans n2); have d0 := B2.cell' 0 _ rfl; have d1 := B2.cell' 1 _ rfl; have d2 := B2.cell' 2 _ rfl; have d3 := B2.cell' 3 _ rfl; have d4 := B2.cell' 4 _ rfl; have d5 := B2.cell' 5 _ rfl; have d6 := B2.cell' 6 _ rfl; have d7 := B2.cell' 7 _ rfl) | (go_at_call 46; (with_reducible refine (H46.out _ hnX).mono ?_); rintro e w1 ⟨rfl, n1⟩; have B1 := BX.new n1; have c0 := B1.cell' 0 _ rfl; have c1 := B1.cell' 1 _ rfl; have c2 := B1.cell' 2 _ rfl; have c3 := B1.cell' 3 _ rfl; have c4 := B1.cell' 4 _ rfl; have c5 := B1.cell' 5 _ rfl; have c6 := B1.cell' 6 _ rfl; have c7 := B1.cell' 7 _ rfl))
    go_ret
    exact ⟨rfl, hnX.trans n1⟩
  · have H47 := Lib.hid (H47P.out rfl)
    have hpos := HPO.out rfl
    obtain ⟨p, ps, rfl⟩ : ∃ p ps, places = p :: ps := by
      cases places with
      | nil => have := HL1.out; simp at this; omega
      | cons p ps => exact ⟨p, ps, rfl⟩
    obtain ⟨bk, o, rfl, _, hcell⟩ := hr1.2 (by omega)
    have p0 := hcell 2 (.int .i64 p.kind) rfl
    have j1 : (0 : Int) < (n1 : Int) := by omega
    simp only at HCV
    obtain ⟨pk, hpk⟩ : ∃ k, p.kind = k := ⟨_, rfl⟩
    rw [hpk] at p0 HCV
    clear H47P HPO hr1 hcell hpk HL1
    cases v2
    · have hx : X = 1 := by rw [HX.out, HCV.out]; simp
      subst hx
      go_enter Tryz.func14, Tryz.ntmps14
      go_wp2_with (first | (go_at_call 49; (with_reducible refine (H49.out _ (((hnX.trans n1).trans n2).trans n3)).mono ?_); rintro e w4 ⟨rfl, n4⟩) | (go_at_call 48; (with_reducible refine (H48.out _ ((hnX.trans n1).trans n2)).mono ?_); rintro e w3 ⟨rfl, n3⟩; have B3 := BX.new ((n1.trans n2).trans n3); have e0 := B3.cell' 0 _ rfl; have e1 := B3.cell' 1 _ rfl; have e2 := B3.cell' 2 _ rfl; have e3 := B3.cell' 3 _ rfl; have e4 := B3.cell' 4 _ rfl; have e5 := B3.cell' 5 _ rfl; have e6 := B3.cell' 6 _ rfl; have e7 := B3.cell' 7 _ rfl; have p2 := cell_new (((hnX.trans n1).trans n2).trans n3) p0) | (go_at_call 47; (with_reducible refine (H47.out _ (hnX.trans n1)).mono ?_); rintro e w2 ⟨rfl, n2⟩; have B2 := BX.new (n1.trans n2); have d0 := B2.cell' 0 _ rfl; have d1 := B2.cell' 1 _ rfl; have d2 := B2.cell' 2 _ rfl; have d3 := B2.cell' 3 _ rfl; have d4 := B2.cell' 4 _ rfl; have d5 := B2.cell' 5 _ rfl; have d6 := B2.cell' 6 _ rfl; have d7 := B2.cell' 7 _ rfl) | (go_at_call 46; (with_reducible refine (H46.out _ hnX).mono ?_); rintro e w1 ⟨rfl, n1⟩; have B1 := BX.new n1; have c0 := B1.cell' 0 _ rfl; have c1 := B1.cell' 1 _ rfl; have c2 := B1.cell' 2 _ rfl; have c3 := B1.cell' 3 _ rfl; have c4 := B1.cell' 4 _ rfl; have c5 := B1.cell' 5 _ rfl; have c6 := B1.cell' 6 _ rfl; have c7 := B1.cell' 7 _ rfl))
      go_ret
      exact ⟨rfl, (hnX.trans n1).trans n2⟩
    · cases v3
      · have hx : X = 1 := by rw [HX.out, HCV.out]; simp
        subst hx
        go_enter Tryz.func14, Tryz.ntmps14
        go_wp2_with (first | (go_at_call 49; (with_reducible refine (H49.out _ (((hnX.trans n1).trans n2).trans n3)).mono ?_); rintro e w4 ⟨rfl, n4⟩) | (go_at_call 48; (with_reducible refine (H48.out _ ((hnX.trans n1).trans n2)).mono ?_); rintro e w3 ⟨rfl, n3⟩; have B3 := BX.new ((n1.trans n2).trans n3); have e0 := B3.cell' 0 _ rfl; have e1 := B3.cell' 1 _ rfl; have e2 := B3.cell' 2 _ rfl; have e3 := B3.cell' 3 _ rfl; have e4 := B3.cell' 4 _ rfl; have e5 := B3.cell' 5 _ rfl; have e6 := B3.cell' 6 _ rfl; have e7 := B3.cell' 7 _ rfl; have p2 := cell_new (((hnX.trans n1).trans n2).trans n3) p0) | (go_at_call 47; (with_reducible refine (H47.out _ (hnX.trans n1)).mono ?_); rintro e w2 ⟨rfl, n2⟩; have B2 := BX.new (n1.trans n2); have d0 := B2.cell' 0 _ rfl; have d1 := B2.cell' 1 _ rfl; have d2 := B2.cell' 2 _ rfl; have d3 := B2.cell' 3 _ rfl; have d4 := B2.cell' 4 _ rfl; have d5 := B2.cell' 5 _ rfl; have d6 := B2.cell' 6 _ rfl; have d7 := B2.cell' 7 _ rfl) | (go_at_call 46; (with_reducible refine (H46.out _ hnX).mono ?_); rintro e w1 ⟨rfl, n1⟩; have B1 := BX.new n1; have c0 := B1.cell' 0 _ rfl; have c1 := B1.cell' 1 _ rfl; have c2 := B1.cell' 2 _ rfl; have c3 := B1.cell' 3 _ rfl; have c4 := B1.cell' 4 _ rfl; have c5 := B1.cell' 5 _ rfl; have c6 := B1.cell' 6 _ rfl; have c7 := B1.cell' 7 _ rfl))
        go_ret
        exact ⟨rfl, ((hnX.trans n1).trans n2).trans n3⟩
      · rw [Bool.true_and, Bool.true_and, Bool.true_and] at HCV
        by_cases k1 : kind = 1
        · subst k1
          by_cases k2 : entry = 0
          · subst k2
            by_cases k3 : pk = 1
            · subst k3
              by_cases k4 : n4 = 0
              · subst k4
                have hx : X = 0 := by rw [HX.out, HCV.out]; simp
                subst hx
                go_enter Tryz.func14, Tryz.ntmps14
                go_wp2_with (first | (go_at_call 49; (with_reducible refine (H49.out _ (((hnX.trans n1).trans n2).trans n3)).mono ?_); rintro e w4 ⟨rfl, n4⟩) | (go_at_call 48; (with_reducible refine (H48.out _ ((hnX.trans n1).trans n2)).mono ?_); rintro e w3 ⟨rfl, n3⟩; have B3 := BX.new ((n1.trans n2).trans n3); have e0 := B3.cell' 0 _ rfl; have e1 := B3.cell' 1 _ rfl; have e2 := B3.cell' 2 _ rfl; have e3 := B3.cell' 3 _ rfl; have e4 := B3.cell' 4 _ rfl; have e5 := B3.cell' 5 _ rfl; have e6 := B3.cell' 6 _ rfl; have e7 := B3.cell' 7 _ rfl; have p2 := cell_new (((hnX.trans n1).trans n2).trans n3) p0) | (go_at_call 47; (with_reducible refine (H47.out _ (hnX.trans n1)).mono ?_); rintro e w2 ⟨rfl, n2⟩; have B2 := BX.new (n1.trans n2); have d0 := B2.cell' 0 _ rfl; have d1 := B2.cell' 1 _ rfl; have d2 := B2.cell' 2 _ rfl; have d3 := B2.cell' 3 _ rfl; have d4 := B2.cell' 4 _ rfl; have d5 := B2.cell' 5 _ rfl; have d6 := B2.cell' 6 _ rfl; have d7 := B2.cell' 7 _ rfl) | (go_at_call 46; (with_reducible refine (H46.out _ hnX).mono ?_); rintro e w1 ⟨rfl, n1⟩; have B1 := BX.new n1; have c0 := B1.cell' 0 _ rfl; have c1 := B1.cell' 1 _ rfl; have c2 := B1.cell' 2 _ rfl; have c3 := B1.cell' 3 _ rfl; have c4 := B1.cell' 4 _ rfl; have c5 := B1.cell' 5 _ rfl; have c6 := B1.cell' 6 _ rfl; have c7 := B1.cell' 7 _ rfl))
                go_ret
                exact ⟨rfl, ((hnX.trans n1).trans n2).trans n3⟩
              · have e4 : ((n4 : Int) == 0) = false := by rw [beq_eq_false_iff_ne]; omega
                have hx : X = 1 := by rw [HX.out, HCV.out]; simp [k4]
                subst hx
                go_enter Tryz.func14, Tryz.ntmps14
                go_wp2_with (first | (go_at_call 49; (with_reducible refine (H49.out _ (((hnX.trans n1).trans n2).trans n3)).mono ?_); rintro e w4 ⟨rfl, n4⟩) | (go_at_call 48; (with_reducible refine (H48.out _ ((hnX.trans n1).trans n2)).mono ?_); rintro e w3 ⟨rfl, n3⟩; have B3 := BX.new ((n1.trans n2).trans n3); have e0 := B3.cell' 0 _ rfl; have e1 := B3.cell' 1 _ rfl; have e2 := B3.cell' 2 _ rfl; have e3 := B3.cell' 3 _ rfl; have e4 := B3.cell' 4 _ rfl; have e5 := B3.cell' 5 _ rfl; have e6 := B3.cell' 6 _ rfl; have e7 := B3.cell' 7 _ rfl; have p2 := cell_new (((hnX.trans n1).trans n2).trans n3) p0) | (go_at_call 47; (with_reducible refine (H47.out _ (hnX.trans n1)).mono ?_); rintro e w2 ⟨rfl, n2⟩; have B2 := BX.new (n1.trans n2); have d0 := B2.cell' 0 _ rfl; have d1 := B2.cell' 1 _ rfl; have d2 := B2.cell' 2 _ rfl; have d3 := B2.cell' 3 _ rfl; have d4 := B2.cell' 4 _ rfl; have d5 := B2.cell' 5 _ rfl; have d6 := B2.cell' 6 _ rfl; have d7 := B2.cell' 7 _ rfl) | (go_at_call 46; (with_reducible refine (H46.out _ hnX).mono ?_); rintro e w1 ⟨rfl, n1⟩; have B1 := BX.new n1; have c0 := B1.cell' 0 _ rfl; have c1 := B1.cell' 1 _ rfl; have c2 := B1.cell' 2 _ rfl; have c3 := B1.cell' 3 _ rfl; have c4 := B1.cell' 4 _ rfl; have c5 := B1.cell' 5 _ rfl; have c6 := B1.cell' 6 _ rfl; have c7 := B1.cell' 7 _ rfl))
                go_ret
                exact ⟨rfl, ((hnX.trans n1).trans n2).trans n3⟩
            · have e3 : (pk == 1) = false := beq_eq_false_iff_ne.2 k3
              have hx : X = 1 := by rw [HX.out, HCV.out]; simp [k3]
              subst hx
              clear k3
              go_enter Tryz.func14, Tryz.ntmps14
              go_wp2_with (first | (go_at_call 49; (with_reducible refine (H49.out _ (((hnX.trans n1).trans n2).trans n3)).mono ?_); rintro e w4 ⟨rfl, n4⟩) | (go_at_call 48; (with_reducible refine (H48.out _ ((hnX.trans n1).trans n2)).mono ?_); rintro e w3 ⟨rfl, n3⟩; have B3 := BX.new ((n1.trans n2).trans n3); have e0 := B3.cell' 0 _ rfl; have e1 := B3.cell' 1 _ rfl; have e2 := B3.cell' 2 _ rfl; have e3 := B3.cell' 3 _ rfl; have e4 := B3.cell' 4 _ rfl; have e5 := B3.cell' 5 _ rfl; have e6 := B3.cell' 6 _ rfl; have e7 := B3.cell' 7 _ rfl; have p2 := cell_new (((hnX.trans n1).trans n2).trans n3) p0) | (go_at_call 47; (with_reducible refine (H47.out _ (hnX.trans n1)).mono ?_); rintro e w2 ⟨rfl, n2⟩; have B2 := BX.new (n1.trans n2); have d0 := B2.cell' 0 _ rfl; have d1 := B2.cell' 1 _ rfl; have d2 := B2.cell' 2 _ rfl; have d3 := B2.cell' 3 _ rfl; have d4 := B2.cell' 4 _ rfl; have d5 := B2.cell' 5 _ rfl; have d6 := B2.cell' 6 _ rfl; have d7 := B2.cell' 7 _ rfl) | (go_at_call 46; (with_reducible refine (H46.out _ hnX).mono ?_); rintro e w1 ⟨rfl, n1⟩; have B1 := BX.new n1; have c0 := B1.cell' 0 _ rfl; have c1 := B1.cell' 1 _ rfl; have c2 := B1.cell' 2 _ rfl; have c3 := B1.cell' 3 _ rfl; have c4 := B1.cell' 4 _ rfl; have c5 := B1.cell' 5 _ rfl; have c6 := B1.cell' 6 _ rfl; have c7 := B1.cell' 7 _ rfl))
              go_ret
              exact ⟨rfl, ((hnX.trans n1).trans n2).trans n3⟩
          · have e2 : (entry == 0) = false := beq_eq_false_iff_ne.2 k2
            have hx : X = 1 := by rw [HX.out, HCV.out]; simp [k2]
            subst hx
            clear k2
            go_enter Tryz.func14, Tryz.ntmps14
            go_wp2_with (first | (go_at_call 49; (with_reducible refine (H49.out _ (((hnX.trans n1).trans n2).trans n3)).mono ?_); rintro e w4 ⟨rfl, n4⟩) | (go_at_call 48; (with_reducible refine (H48.out _ ((hnX.trans n1).trans n2)).mono ?_); rintro e w3 ⟨rfl, n3⟩; have B3 := BX.new ((n1.trans n2).trans n3); have e0 := B3.cell' 0 _ rfl; have e1 := B3.cell' 1 _ rfl; have e2 := B3.cell' 2 _ rfl; have e3 := B3.cell' 3 _ rfl; have e4 := B3.cell' 4 _ rfl; have e5 := B3.cell' 5 _ rfl; have e6 := B3.cell' 6 _ rfl; have e7 := B3.cell' 7 _ rfl; have p2 := cell_new (((hnX.trans n1).trans n2).trans n3) p0) | (go_at_call 47; (with_reducible refine (H47.out _ (hnX.trans n1)).mono ?_); rintro e w2 ⟨rfl, n2⟩; have B2 := BX.new (n1.trans n2); have d0 := B2.cell' 0 _ rfl; have d1 := B2.cell' 1 _ rfl; have d2 := B2.cell' 2 _ rfl; have d3 := B2.cell' 3 _ rfl; have d4 := B2.cell' 4 _ rfl; have d5 := B2.cell' 5 _ rfl; have d6 := B2.cell' 6 _ rfl; have d7 := B2.cell' 7 _ rfl) | (go_at_call 46; (with_reducible refine (H46.out _ hnX).mono ?_); rintro e w1 ⟨rfl, n1⟩; have B1 := BX.new n1; have c0 := B1.cell' 0 _ rfl; have c1 := B1.cell' 1 _ rfl; have c2 := B1.cell' 2 _ rfl; have c3 := B1.cell' 3 _ rfl; have c4 := B1.cell' 4 _ rfl; have c5 := B1.cell' 5 _ rfl; have c6 := B1.cell' 6 _ rfl; have c7 := B1.cell' 7 _ rfl))
            go_ret
            exact ⟨rfl, ((hnX.trans n1).trans n2).trans n3⟩
        · have e1 : (kind == 1) = false := beq_eq_false_iff_ne.2 k1
          by_cases k2 : kind = 2
          · subst k2
            by_cases k3 : entry = -1
            · subst k3
              by_cases k4 : n3 = 0
              · subst k4
                cases v4
                · have hx : X = 1 := by rw [HX.out, HCV.out]; simp
                  subst hx
                  clear k1
                  go_enter Tryz.func14, Tryz.ntmps14
                  go_wp2_with (first | (go_at_call 49; (with_reducible refine (H49.out _ (((hnX.trans n1).trans n2).trans n3)).mono ?_); rintro e w4 ⟨rfl, n4⟩) | (go_at_call 48; (with_reducible refine (H48.out _ ((hnX.trans n1).trans n2)).mono ?_); rintro e w3 ⟨rfl, n3⟩; have B3 := BX.new ((n1.trans n2).trans n3); have e0 := B3.cell' 0 _ rfl; have e1 := B3.cell' 1 _ rfl; have e2 := B3.cell' 2 _ rfl; have e3 := B3.cell' 3 _ rfl; have e4 := B3.cell' 4 _ rfl; have e5 := B3.cell' 5 _ rfl; have e6 := B3.cell' 6 _ rfl; have e7 := B3.cell' 7 _ rfl; have p2 := cell_new (((hnX.trans n1).trans n2).trans n3) p0) | (go_at_call 47; (with_reducible refine (H47.out _ (hnX.trans n1)).mono ?_); rintro e w2 ⟨rfl, n2⟩; have B2 := BX.new (n1.trans n2); have d0 := B2.cell' 0 _ rfl; have d1 := B2.cell' 1 _ rfl; have d2 := B2.cell' 2 _ rfl; have d3 := B2.cell' 3 _ rfl; have d4 := B2.cell' 4 _ rfl; have d5 := B2.cell' 5 _ rfl; have d6 := B2.cell' 6 _ rfl; have d7 := B2.cell' 7 _ rfl) | (go_at_call 46; (with_reducible refine (H46.out _ hnX).mono ?_); rintro e w1 ⟨rfl, n1⟩; have B1 := BX.new n1; have c0 := B1.cell' 0 _ rfl; have c1 := B1.cell' 1 _ rfl; have c2 := B1.cell' 2 _ rfl; have c3 := B1.cell' 3 _ rfl; have c4 := B1.cell' 4 _ rfl; have c5 := B1.cell' 5 _ rfl; have c6 := B1.cell' 6 _ rfl; have c7 := B1.cell' 7 _ rfl))
                  go_ret
                  exact ⟨rfl, (((hnX.trans n1).trans n2).trans n3).trans n4⟩
                · have hx : X = 0 := by rw [HX.out, HCV.out]; simp
                  subst hx
                  clear k1
                  go_enter Tryz.func14, Tryz.ntmps14
                  go_wp2_with (first | (go_at_call 49; (with_reducible refine (H49.out _ (((hnX.trans n1).trans n2).trans n3)).mono ?_); rintro e w4 ⟨rfl, n4⟩) | (go_at_call 48; (with_reducible refine (H48.out _ ((hnX.trans n1).trans n2)).mono ?_); rintro e w3 ⟨rfl, n3⟩; have B3 := BX.new ((n1.trans n2).trans n3); have e0 := B3.cell' 0 _ rfl; have e1 := B3.cell' 1 _ rfl; have e2 := B3.cell' 2 _ rfl; have e3 := B3.cell' 3 _ rfl; have e4 := B3.cell' 4 _ rfl; have e5 := B3.cell' 5 _ rfl; have e6 := B3.cell' 6 _ rfl; have e7 := B3.cell' 7 _ rfl; have p2 := cell_new (((hnX.trans n1).trans n2).trans n3) p0) | (go_at_call 47; (with_reducible refine (H47.out _ (hnX.trans n1)).mono ?_); rintro e w2 ⟨rfl, n2⟩; have B2 := BX.new (n1.trans n2); have d0 := B2.cell' 0 _ rfl; have d1 := B2.cell' 1 _ rfl; have d2 := B2.cell' 2 _ rfl; have d3 := B2.cell' 3 _ rfl; have d4 := B2.cell' 4 _ rfl; have d5 := B2.cell' 5 _ rfl; have d6 := B2.cell' 6 _ rfl; have d7 := B2.cell' 7 _ rfl) | (go_at_call 46; (with_reducible refine (H46.out _ hnX).mono ?_); rintro e w1 ⟨rfl, n1⟩; have B1 := BX.new n1; have c0 := B1.cell' 0 _ rfl; have c1 := B1.cell' 1 _ rfl; have c2 := B1.cell' 2 _ rfl; have c3 := B1.cell' 3 _ rfl; have c4 := B1.cell' 4 _ rfl; have c5 := B1.cell' 5 _ rfl; have c6 := B1.cell' 6 _ rfl; have c7 := B1.cell' 7 _ rfl))
                  go_ret
                  exact ⟨rfl, (((hnX.trans n1).trans n2).trans n3).trans n4⟩
              · have e4 : ((n3 : Int) == 0) = false := by rw [beq_eq_false_iff_ne]; omega
                have hx : X = 1 := by rw [HX.out, HCV.out]; simp [k4]
                subst hx
                clear k1
                go_enter Tryz.func14, Tryz.ntmps14
                go_wp2_with (first | (go_at_call 49; (with_reducible refine (H49.out _ (((hnX.trans n1).trans n2).trans n3)).mono ?_); rintro e w4 ⟨rfl, n4⟩) | (go_at_call 48; (with_reducible refine (H48.out _ ((hnX.trans n1).trans n2)).mono ?_); rintro e w3 ⟨rfl, n3⟩; have B3 := BX.new ((n1.trans n2).trans n3); have e0 := B3.cell' 0 _ rfl; have e1 := B3.cell' 1 _ rfl; have e2 := B3.cell' 2 _ rfl; have e3 := B3.cell' 3 _ rfl; have e4 := B3.cell' 4 _ rfl; have e5 := B3.cell' 5 _ rfl; have e6 := B3.cell' 6 _ rfl; have e7 := B3.cell' 7 _ rfl; have p2 := cell_new (((hnX.trans n1).trans n2).trans n3) p0) | (go_at_call 47; (with_reducible refine (H47.out _ (hnX.trans n1)).mono ?_); rintro e w2 ⟨rfl, n2⟩; have B2 := BX.new (n1.trans n2); have d0 := B2.cell' 0 _ rfl; have d1 := B2.cell' 1 _ rfl; have d2 := B2.cell' 2 _ rfl; have d3 := B2.cell' 3 _ rfl; have d4 := B2.cell' 4 _ rfl; have d5 := B2.cell' 5 _ rfl; have d6 := B2.cell' 6 _ rfl; have d7 := B2.cell' 7 _ rfl) | (go_at_call 46; (with_reducible refine (H46.out _ hnX).mono ?_); rintro e w1 ⟨rfl, n1⟩; have B1 := BX.new n1; have c0 := B1.cell' 0 _ rfl; have c1 := B1.cell' 1 _ rfl; have c2 := B1.cell' 2 _ rfl; have c3 := B1.cell' 3 _ rfl; have c4 := B1.cell' 4 _ rfl; have c5 := B1.cell' 5 _ rfl; have c6 := B1.cell' 6 _ rfl; have c7 := B1.cell' 7 _ rfl))
                go_ret
                exact ⟨rfl, ((hnX.trans n1).trans n2).trans n3⟩
            · have e3 : (entry == -1) = false := beq_eq_false_iff_ne.2 k3
              have hx : X = 1 := by rw [HX.out, HCV.out]; simp [k3]
              subst hx
              clear k1 k3
              go_enter Tryz.func14, Tryz.ntmps14
              go_wp2_with (first | (go_at_call 49; (with_reducible refine (H49.out _ (((hnX.trans n1).trans n2).trans n3)).mono ?_); rintro e w4 ⟨rfl, n4⟩) | (go_at_call 48; (with_reducible refine (H48.out _ ((hnX.trans n1).trans n2)).mono ?_); rintro e w3 ⟨rfl, n3⟩; have B3 := BX.new ((n1.trans n2).trans n3); have e0 := B3.cell' 0 _ rfl; have e1 := B3.cell' 1 _ rfl; have e2 := B3.cell' 2 _ rfl; have e3 := B3.cell' 3 _ rfl; have e4 := B3.cell' 4 _ rfl; have e5 := B3.cell' 5 _ rfl; have e6 := B3.cell' 6 _ rfl; have e7 := B3.cell' 7 _ rfl; have p2 := cell_new (((hnX.trans n1).trans n2).trans n3) p0) | (go_at_call 47; (with_reducible refine (H47.out _ (hnX.trans n1)).mono ?_); rintro e w2 ⟨rfl, n2⟩; have B2 := BX.new (n1.trans n2); have d0 := B2.cell' 0 _ rfl; have d1 := B2.cell' 1 _ rfl; have d2 := B2.cell' 2 _ rfl; have d3 := B2.cell' 3 _ rfl; have d4 := B2.cell' 4 _ rfl; have d5 := B2.cell' 5 _ rfl; have d6 := B2.cell' 6 _ rfl; have d7 := B2.cell' 7 _ rfl) | (go_at_call 46; (with_reducible refine (H46.out _ hnX).mono ?_); rintro e w1 ⟨rfl, n1⟩; have B1 := BX.new n1; have c0 := B1.cell' 0 _ rfl; have c1 := B1.cell' 1 _ rfl; have c2 := B1.cell' 2 _ rfl; have c3 := B1.cell' 3 _ rfl; have c4 := B1.cell' 4 _ rfl; have c5 := B1.cell' 5 _ rfl; have c6 := B1.cell' 6 _ rfl; have c7 := B1.cell' 7 _ rfl))
              go_ret
              exact ⟨rfl, ((hnX.trans n1).trans n2).trans n3⟩
          · have e2 : (kind == 2) = false := beq_eq_false_iff_ne.2 k2
            have hx : X = 1 := by rw [HX.out, HCV.out]; simp [k1, k2]
            subst hx
            clear k1 k2
            go_enter Tryz.func14, Tryz.ntmps14
            go_wp2_with (first | (go_at_call 49; (with_reducible refine (H49.out _ (((hnX.trans n1).trans n2).trans n3)).mono ?_); rintro e w4 ⟨rfl, n4⟩) | (go_at_call 48; (with_reducible refine (H48.out _ ((hnX.trans n1).trans n2)).mono ?_); rintro e w3 ⟨rfl, n3⟩; have B3 := BX.new ((n1.trans n2).trans n3); have e0 := B3.cell' 0 _ rfl; have e1 := B3.cell' 1 _ rfl; have e2 := B3.cell' 2 _ rfl; have e3 := B3.cell' 3 _ rfl; have e4 := B3.cell' 4 _ rfl; have e5 := B3.cell' 5 _ rfl; have e6 := B3.cell' 6 _ rfl; have e7 := B3.cell' 7 _ rfl; have p2 := cell_new (((hnX.trans n1).trans n2).trans n3) p0) | (go_at_call 47; (with_reducible refine (H47.out _ (hnX.trans n1)).mono ?_); rintro e w2 ⟨rfl, n2⟩; have B2 := BX.new (n1.trans n2); have d0 := B2.cell' 0 _ rfl; have d1 := B2.cell' 1 _ rfl; have d2 := B2.cell' 2 _ rfl; have d3 := B2.cell' 3 _ rfl; have d4 := B2.cell' 4 _ rfl; have d5 := B2.cell' 5 _ rfl; have d6 := B2.cell' 6 _ rfl; have d7 := B2.cell' 7 _ rfl) | (go_at_call 46; (with_reducible refine (H46.out _ hnX).mono ?_); rintro e w1 ⟨rfl, n1⟩; have B1 := BX.new n1; have c0 := B1.cell' 0 _ rfl; have c1 := B1.cell' 1 _ rfl; have c2 := B1.cell' 2 _ rfl; have c3 := B1.cell' 3 _ rfl; have c4 := B1.cell' 4 _ rfl; have c5 := B1.cell' 5 _ rfl; have c6 := B1.cell' 6 _ rfl; have c7 := B1.cell' 7 _ rfl))
            go_ret
            exact ⟨rfl, ((hnX.trans n1).trans n2).trans n3⟩
end Go.Proofs.YtnknmpcgbfmfjaaGreatDoor

