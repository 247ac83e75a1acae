/- binary.Check. Conditions: sizes. (Printed by mk-c1.py.) licitref12.Few: where it answers true the binary is small. Conditions: the lists' lengths are lengths. (Printed by mk-w3.py.) -/
import Derived.Test.YtnjampfhkojbnaaGreatDoorGN2
import Derived.Test.YtnjampfhkojbnaaGreatDoorGI

namespace Go.Proofs.YtnjampfhkojbnaaGreatDoor
open Go Go.RowKit Go.Joins
set_option linter.unusedSimpArgs false
set_option linter.unusedVariables false

structure SzB (b : Bn) : Prop where
  pl : SzP b.places
  nt : SzN b.notes
  im : SzI b.imps
  fx : ∀ a ∈ b.fix, W64 a
  img : b.image.size ≤ 1000000
  l1 : b.places.length ≤ 1000000
  l2 : b.fix.length ≤ 1000000
  l3 : b.imps.length ≤ 1000000
  l4 : b.exps.length ≤ 1000000
  l5 : b.notes.length ≤ 1000000
def chkE (b : Bn) : Int := if checkV b = true then 0 else 1
set_option maxRecDepth 100000 in
set_option maxHeartbeats 8000000 in
theorem check_any (b : Bn) (h : BH) (w : World) (hr : BRd w b h) (hz : SzB b) (hE : Env w) :
    Calls Tryz.prog 54 #[.agg (bcells b h)] w fun e w' => e = .returned (.int .i64 (chkE b)) ∧ New w w' := by
  have H46 := Lib.hid (fun W (hn : New w W) => placed_any b h W (hr.new hn) hz.pl hz.img hz.l1 (hE.new hn))
  have H48 := Lib.hid (fun W (hn : New w W) => noted_any b.notes h.a5 b.notes.length h.c5 W rfl (hr.r5.below hn) hz.nt hz.l5)
  have H49 := Lib.hid (fun W (hn : New w W) => exported_any b h W (hr.new hn) hz.l4 hz.l1)
  have H47P := Lib.hid (fun (hp : placedV b = true) W (hn : New w W) => words_any b h W (placed_ok hp) (hr.new hn) hz.l2 hz.l3 hz.fx hz.im (hE.new hn))
  have HPO := Lib.hid (fun hp : placedV b = true => (placed_ok hp).pos)
  have hr1 := hr.r1
  have HCV : Hid (checkV b = (placedV b && wordsV b && notedV b.notes &&
  ((decide (b.kind = 1) && decide (b.entry = 0) && (match b.places with | [] => false | p :: _ => decide (p.kind = 1)) && decide (b.exps.length = 0)) ||
   (decide (b.kind = 2) && decide (b.entry = -1) && decide (b.imps.length = 0) && exportedV b.places b.exps)))) := Lib.hid rfl
  obtain ⟨X, hX⟩ : ∃ X, chkE b = X := ⟨_, rfl⟩
  have HX : Hid (X = if checkV b = true then 0 else 1) := Lib.hid hX.symm
  rw [hX]
  have BX := Blk.made w 28 (bcells b h)
  have hnX := (New.refl w).alloc (.cells (bcells b h) 28)
  obtain ⟨kind, entry, image, places, fix, imps, exps, notes⟩ := b
  obtain ⟨a1, c1, a2, c2, a3, c3, a4, c4, a5, c5⟩ := h
  simp only [bcells] at BX hnX H46 H47P H48 H49 HPO HCV hr1 ⊢
  obtain ⟨v1, hv1⟩ : ∃ v, placedV ⟨kind, entry, image, places, fix, imps, exps, notes⟩ = v := ⟨_, rfl⟩
  obtain ⟨v2, hv2⟩ : ∃ v, wordsV ⟨kind, entry, image, places, fix, imps, exps, notes⟩ = v := ⟨_, rfl⟩
  obtain ⟨v3, hv3⟩ : ∃ v, notedV notes = v := ⟨_, rfl⟩
  obtain ⟨v4, hv4⟩ : ∃ v, exportedV places exps = v := ⟨_, rfl⟩
  obtain ⟨v5, hv5⟩ : ∃ v, checkV ⟨kind, entry, image, places, fix, imps, exps, notes⟩ = v := ⟨_, rfl⟩
  obtain ⟨n1, hn1⟩ : ∃ n, places.length = n := ⟨_, rfl⟩
  obtain ⟨n2, hn2⟩ : ∃ n, fix.length = n := ⟨_, rfl⟩
  obtain ⟨n3, hn3⟩ : ∃ n, imps.length = n := ⟨_, rfl⟩
  obtain ⟨n4, hn4⟩ : ∃ n, exps.length = n := ⟨_, rfl⟩
  obtain ⟨n5, hn5⟩ : ∃ n, notes.length = n := ⟨_, rfl⟩
  rw [hv1] at H46 H47P HPO
  rw [hv2] at H47P
  rw [hv3] at H48
  rw [hv4] at H49
  rw [hv1, hv2, hv3, hv4, hv5, hn3, hn4] at HCV
  rw [hv5] at HX
  rw [hn1, hn2, hn3, hn4, hn5] at BX hnX H46 H47P H49 ⊢
  rw [hn5] at H48
  rw [hn1] at HPO hr1
  have HL1 := Lib.hid hn1
  clear hv1 hv2 hv3 hv4 hv5 hn1 hn2 hn3 hn4 hn5 hX hr hz hE
  cases v1
  · have hx : X = 1 := by rw [HX.out, HCV.out]; simp
    subst hx
    clear hr1
    go_enter Tryz.func54, Tryz.ntmps54
    go_wp2_with (first | (go_at_call 81; (with_reducible refine (H49.out _ (((hnX.trans n1).trans n2).trans n3)).mono ?_); rintro e w4 ⟨rfl, n4⟩) | (go_at_call 80; (with_reducible refine (H48.out _ ((hnX.trans n1).trans n2)).mono ?_); rintro e w3 ⟨rfl, n3⟩; have B3 := BX.new ((n1.trans n2).trans n3); have e0 := B3.cell' 0 _ rfl; have e1 := B3.cell' 1 _ rfl; have e2 := B3.cell' 2 _ rfl; have e3 := B3.cell' 3 _ rfl; have e4 := B3.cell' 4 _ rfl; have e5 := B3.cell' 5 _ rfl; have e6 := B3.cell' 6 _ rfl; have e7 := B3.cell' 7 _ rfl; have p2 := cell_new (((hnX.trans n1).trans n2).trans n3) p0) | (go_at_call 79; (with_reducible refine (H47.out _ (hnX.trans n1)).mono ?_); rintro e w2 ⟨rfl, n2⟩; have B2 := BX.new (n1.trans n2); have d0 := B2.cell' 0 _ rfl; have d1 := B2.cell' 1 _ rfl; have d2 := B2.cell' 2 _ rfl; have d3 := B2.cell' 3 _ rfl; have d4 := B2.cell' 4 _ rfl; have d5 := B2.cell' 5 _ rfl; have d6 := B2.cell' 6 _ rfl; have d7 := B2.cell' 7 _ rfl) | (go_at_call 78; (with_reducible refine (H46.out _ hnX).mono ?_); rintro e w1 ⟨rfl, n1⟩; have B1 := BX.new n1; have c0 := B1.cell' 0 _ rfl; have c1 := B1.cell' 1 _ rfl; have c2 := B1.cell' 2 _ rfl; have c3 := B1.cell' 3 _ rfl; have c4 := B1.cell' 4 _ rfl; have c5 := B1.cell' 5 _ rfl; have c6 := B1.cell' 6 _ rfl; have c7 := B1.cell' 7 _ rfl))
    go_ret
    exact ⟨rfl, hnX.trans n1⟩
  · have H47 := Lib.hid (H47P.out rfl)
    have hpos := HPO.out rfl
    obtain ⟨p, ps, rfl⟩ : ∃ p ps, places = p :: ps := by
      cases places with
      | nil => have := HL1.out; simp at this; omega
      | cons p ps => exact ⟨p, ps, rfl⟩
    obtain ⟨bk, o, rfl, _, hcell⟩ := hr1.2 (by omega)
    have p0 := hcell 2 (.int .i64 p.kind) rfl
    have j1 : (0 : Int) < (n1 : Int) := by omega
    simp only at HCV
    obtain ⟨pk, hpk⟩ : ∃ k, p.kind = k := ⟨_, rfl⟩
    rw [hpk] at p0 HCV
    clear H47P HPO hr1 hcell hpk HL1
    cases v2
    · have hx : X = 1 := by rw [HX.out, HCV.out]; simp
      subst hx
      go_enter Tryz.func54, Tryz.ntmps54
      go_wp2_with (first | (go_at_call 81; (with_reducible refine (H49.out _ (((hnX.trans n1).trans n2).trans n3)).mono ?_); rintro e w4 ⟨rfl, n4⟩) | (go_at_call 80; (with_reducible refine (H48.out _ ((hnX.trans n1).trans n2)).mono ?_); rintro e w3 ⟨rfl, n3⟩; have B3 := BX.new ((n1.trans n2).trans n3); have e0 := B3.cell' 0 _ rfl; have e1 := B3.cell' 1 _ rfl; have e2 := B3.cell' 2 _ rfl; have e3 := B3.cell' 3 _ rfl; have e4 := B3.cell' 4 _ rfl; have e5 := B3.cell' 5 _ rfl; have e6 := B3.cell' 6 _ rfl; have e7 := B3.cell' 7 _ rfl; have p2 := cell_new (((hnX.trans n1).trans n2).trans n3) p0) | (go_at_call 79; (with_reducible refine (H47.out _ (hnX.trans n1)).mono ?_); rintro e w2 ⟨rfl, n2⟩; have B2 := BX.new (n1.trans n2); have d0 := B2.cell' 0 _ rfl; have d1 := B2.cell' 1 _ rfl; have d2 := B2.cell' 2 _ rfl; have d3 := B2.cell' 3 _ rfl; have d4 := B2.cell' 4 _ rfl; have d5 := B2.cell' 5 _ rfl; have d6 := B2.cell' 6 _ rfl; have d7 := B2.cell' 7 _ rfl) | (go_at_call 78; (with_reducible refine (H46.out _ hnX).mono ?_); rintro e w1 ⟨rfl, n1⟩; have B1 := BX.new n1; have c0 := B1.cell' 0 _ rfl; have c1 := B1.cell' 1 _ rfl; have c2 := B1.cell' 2 _ rfl; have c3 := B1.cell' 3 _ rfl; have c4 := B1.cell' 4 _ rfl; have c5 := B1.cell' 5 _ rfl; have c6 := B1.cell' 6 _ rfl; have c7 := B1.cell' 7 _ rfl))
      go_ret
      exact ⟨rfl, (hnX.trans n1).trans n2⟩
    · cases v3
      · have hx : X = 1 := by rw [HX.out, HCV.out]; simp
        subst hx
        go_enter Tryz.func54, Tryz.ntmps54
        go_wp2_with (first | (go_at_call 81; (with_reducible refine (H49.out _ (((hnX.trans n1).trans n2).trans n3)).mono ?_); rintro e w4 ⟨rfl, n4⟩) | (go_at_call 80; (with_reducible refine (H48.out _ ((hnX.trans n1).trans n2)).mono ?_); rintro e w3 ⟨rfl, n3⟩; have B3 := BX.new ((n1.trans n2).trans n3); have e0 := B3.cell' 0 _ rfl; have e1 := B3.cell' 1 _ rfl; have e2 := B3.cell' 2 _ rfl; have e3 := B3.cell' 3 _ rfl; have e4 := B3.cell' 4 _ rfl; have e5 := B3.cell' 5 _ rfl; have e6 := B3.cell' 6 _ rfl; have e7 := B3.cell' 7 _ rfl; have p2 := cell_new (((hnX.trans n1).trans n2).trans n3) p0) | (go_at_call 79; (with_reducible refine (H47.out _ (hnX.trans n1)).mono ?_); rintro e w2 ⟨rfl, n2⟩; have B2 := BX.new (n1.trans n2); have d0 := B2.cell' 0 _ rfl; have d1 := B2.cell' 1 _ rfl; have d2 := B2.cell' 2 _ rfl; have d3 := B2.cell' 3 _ rfl; have d4 := B2.cell' 4 _ rfl; have d5 := B2.cell' 5 _ rfl; have d6 := B2.cell' 6 _ rfl; have d7 := B2.cell' 7 _ rfl) | (go_at_call 78; (with_reducible refine (H46.out _ hnX).mono ?_); rintro e w1 ⟨rfl, n1⟩; have B1 := BX.new n1; have c0 := B1.cell' 0 _ rfl; have c1 := B1.cell' 1 _ rfl; have c2 := B1.cell' 2 _ rfl; have c3 := B1.cell' 3 _ rfl; have c4 := B1.cell' 4 _ rfl; have c5 := B1.cell' 5 _ rfl; have c6 := B1.cell' 6 _ rfl; have c7 := B1.cell' 7 _ rfl))
        go_ret
        exact ⟨rfl, ((hnX.trans n1).trans n2).trans n3⟩
      · rw [Bool.true_and, Bool.true_and, Bool.true_and] at HCV
        by_cases k1 : kind = 1
        · subst k1
          by_cases k2 : entry = 0
          · subst k2
            by_cases k3 : pk = 1
            · subst k3
              by_cases k4 : n4 = 0
              · subst k4
                have hx : X = 0 := by rw [HX.out, HCV.out]; simp
                subst hx
                go_enter Tryz.func54, Tryz.ntmps54
                go_wp2_with (first | (go_at_call 81; (with_reducible refine (H49.out _ (((hnX.trans n1).trans n2).trans n3)).mono ?_); rintro e w4 ⟨rfl, n4⟩) | (go_at_call 80; (with_reducible refine (H48.out _ ((hnX.trans n1).trans n2)).mono ?_); rintro e w3 ⟨rfl, n3⟩; have B3 := BX.new ((n1.trans n2).trans n3); have e0 := B3.cell' 0 _ rfl; have e1 := B3.cell' 1 _ rfl; have e2 := B3.cell' 2 _ rfl; have e3 := B3.cell' 3 _ rfl; have e4 := B3.cell' 4 _ rfl; have e5 := B3.cell' 5 _ rfl; have e6 := B3.cell' 6 _ rfl; have e7 := B3.cell' 7 _ rfl; have p2 := cell_new (((hnX.trans n1).trans n2).trans n3) p0) | (go_at_call 79; (with_reducible refine (H47.out _ (hnX.trans n1)).mono ?_); rintro e w2 ⟨rfl, n2⟩; have B2 := BX.new (n1.trans n2); have d0 := B2.cell' 0 _ rfl; have d1 := B2.cell' 1 _ rfl; have d2 := B2.cell' 2 _ rfl; have d3 := B2.cell' 3 _ rfl; have d4 := B2.cell' 4 _ rfl; have d5 := B2.cell' 5 _ rfl; have d6 := B2.cell' 6 _ rfl; have d7 := B2.cell' 7 _ rfl) | (go_at_call 78; (with_reducible refine (H46.out _ hnX).mono ?_); rintro e w1 ⟨rfl, n1⟩; have B1 := BX.new n1; have c0 := B1.cell' 0 _ rfl; have c1 := B1.cell' 1 _ rfl; have c2 := B1.cell' 2 _ rfl; have c3 := B1.cell' 3 _ rfl; have c4 := B1.cell' 4 _ rfl; have c5 := B1.cell' 5 _ rfl; have c6 := B1.cell' 6 _ rfl; have c7 := B1.cell' 7 _ rfl))
                go_ret
                exact ⟨rfl, ((hnX.trans n1).trans n2).trans n3⟩
              · have e4 : ((n4 : Int) == 0) = false := by rw [beq_eq_false_iff_ne]; omega
                have hx : X = 1 := by rw [HX.out, HCV.out]; simp [k4]
                subst hx
                go_enter Tryz.func54, Tryz.ntmps54
                go_wp2_with (first | (go_at_call 81; (with_reducible refine (H49.out _ (((hnX.trans n1).trans n2).trans n3)).mono ?_); rintro e w4 ⟨rfl, n4⟩) | (go_at_call 80; (with_reducible refine (H48.out _ ((hnX.trans n1).trans n2)).mono ?_); rintro e w3 ⟨rfl, n3⟩; have B3 := BX.new ((n1.trans n2).trans n3); have e0 := B3.cell' 0 _ rfl; have e1 := B3.cell' 1 _ rfl; have e2 := B3.cell' 2 _ rfl; have e3 := B3.cell' 3 _ rfl; have e4 := B3.cell' 4 _ rfl; have e5 := B3.cell' 5 _ rfl; have e6 := B3.cell' 6 _ rfl; have e7 := B3.cell' 7 _ rfl; have p2 := cell_new (((hnX.trans n1).trans n2).trans n3) p0) | (go_at_call 79; (with_reducible refine (H47.out _ (hnX.trans n1)).mono ?_); rintro e w2 ⟨rfl, n2⟩; have B2 := BX.new (n1.trans n2); have d0 := B2.cell' 0 _ rfl; have d1 := B2.cell' 1 _ rfl; have d2 := B2.cell' 2 _ rfl; have d3 := B2.cell' 3 _ rfl; have d4 := B2.cell' 4 _ rfl; have d5 := B2.cell' 5 _ rfl; have d6 := B2.cell' 6 _ rfl; have d7 := B2.cell' 7 _ rfl) | (go_at_call 78; (with_reducible refine (H46.out _ hnX).mono ?_); rintro e w1 ⟨rfl, n1⟩; have B1 := BX.new n1; have c0 := B1.cell' 0 _ rfl; have c1 := B1.cell' 1 _ rfl; have c2 := B1.cell' 2 _ rfl; have c3 := B1.cell' 3 _ rfl; have c4 := B1.cell' 4 _ rfl; have c5 := B1.cell' 5 _ rfl; have c6 := B1.cell' 6 _ rfl; have c7 := B1.cell' 7 _ rfl))
                go_ret
                exact ⟨rfl, ((hnX.trans n1).trans n2).trans n3⟩
            · have e3 : (pk == 1) = false := beq_eq_false_iff_ne.2 k3
              have hx : X = 1 := by rw [HX.out, HCV.out]; simp [k3]
              subst hx
              clear k3
              go_enter Tryz.func54, Tryz.ntmps54
              go_wp2_with (first | (go_at_call 81; (with_reducible refine (H49.out _ (((hnX.trans n1).trans n2).trans n3)).mono ?_); rintro e w4 ⟨rfl, n4⟩) | (go_at_call 80; (with_reducible refine (H48.out _ ((hnX.trans n1).trans n2)).mono ?_); rintro e w3 ⟨rfl, n3⟩; have B3 := BX.new ((n1.trans n2).trans n3); have e0 := B3.cell' 0 _ rfl; have e1 := B3.cell' 1 _ rfl; have e2 := B3.cell' 2 _ rfl; have e3 := B3.cell' 3 _ rfl; have e4 := B3.cell' 4 _ rfl; have e5 := B3.cell' 5 _ rfl; have e6 := B3.cell' 6 _ rfl; have e7 := B3.cell' 7 _ rfl; have p2 := cell_new (((hnX.trans n1).trans n2).trans n3) p0) | (go_at_call 79; (with_reducible refine (H47.out _ (hnX.trans n1)).mono ?_); rintro e w2 ⟨rfl, n2⟩; have B2 := BX.new (n1.trans n2); have d0 := B2.cell' 0 _ rfl; have d1 := B2.cell' 1 _ rfl; have d2 := B2.cell' 2 _ rfl; have d3 := B2.cell' 3 _ rfl; have d4 := B2.cell' 4 _ rfl; have d5 := B2.cell' 5 _ rfl; have d6 := B2.cell' 6 _ rfl; have d7 := B2.cell' 7 _ rfl) | (go_at_call 78; (with_reducible refine (H46.out _ hnX).mono ?_); rintro e w1 ⟨rfl, n1⟩; have B1 := BX.new n1; have c0 := B1.cell' 0 _ rfl; have c1 := B1.cell' 1 _ rfl; have c2 := B1.cell' 2 _ rfl; have c3 := B1.cell' 3 _ rfl; have c4 := B1.cell' 4 _ rfl; have c5 := B1.cell' 5 _ rfl; have c6 := B1.cell' 6 _ rfl; have c7 := B1.cell' 7 _ rfl))
              go_ret
              exact ⟨rfl, ((hnX.trans n1).trans n2).trans n3⟩
          · have e2 : (entry == 0) = false := beq_eq_false_iff_ne.2 k2
            have hx : X = 1 := by rw [HX.out, HCV.out]; simp [k2]
            subst hx
            clear k2
            go_enter Tryz.func54, Tryz.ntmps54
            go_wp2_with (first | (go_at_call 81; (with_reducible refine (H49.out _ (((hnX.trans n1).trans n2).trans n3)).mono ?_); rintro e w4 ⟨rfl, n4⟩) | (go_at_call 80; (with_reducible refine (H48.out _ ((hnX.trans n1).trans n2)).mono ?_); rintro e w3 ⟨rfl, n3⟩; have B3 := BX.new ((n1.trans n2).trans n3); have e0 := B3.cell' 0 _ rfl; have e1 := B3.cell' 1 _ rfl; have e2 := B3.cell' 2 _ rfl; have e3 := B3.cell' 3 _ rfl; have e4 := B3.cell' 4 _ rfl; have e5 := B3.cell' 5 _ rfl; have e6 := B3.cell' 6 _ rfl; have e7 := B3.cell' 7 _ rfl; have p2 := cell_new (((hnX.trans n1).trans n2).trans n3) p0) | (go_at_call 79; (with_reducible refine (H47.out _ (hnX.trans n1)).mono ?_); rintro e w2 ⟨rfl, n2⟩; have B2 := BX.new (n1.trans n2); have d0 := B2.cell' 0 _ rfl; have d1 := B2.cell' 1 _ rfl; have d2 := B2.cell' 2 _ rfl; have d3 := B2.cell' 3 _ rfl; have d4 := B2.cell' 4 _ rfl; have d5 := B2.cell' 5 _ rfl; have d6 := B2.cell' 6 _ rfl; have d7 := B2.cell' 7 _ rfl) | (go_at_call 78; (with_reducible refine (H46.out _ hnX).mono ?_); rintro e w1 ⟨rfl, n1⟩; have B1 := BX.new n1; have c0 := B1.cell' 0 _ rfl; have c1 := B1.cell' 1 _ rfl; have c2 := B1.cell' 2 _ rfl; have c3 := B1.cell' 3 _ rfl; have c4 := B1.cell' 4 _ rfl; have c5 := B1.cell' 5 _ rfl; have c6 := B1.cell' 6 _ rfl; have c7 := B1.cell' 7 _ rfl))
            go_ret
            exact ⟨rfl, ((hnX.trans n1).trans n2).trans n3⟩
        · have e1 : (kind == 1) = false := beq_eq_false_iff_ne.2 k1
          by_cases k2 : kind = 2
          · subst k2
            by_cases k3 : entry = -1
            · subst k3
              by_cases k4 : n3 = 0
              · subst k4
                cases v4
                · have hx : X = 1 := by rw [HX.out, HCV.out]; simp
                  subst hx
                  clear k1
                  go_enter Tryz.func54, Tryz.ntmps54
                  go_wp2_with (first | (go_at_call 81; (with_reducible refine (H49.out _ (((hnX.trans n1).trans n2).trans n3)).mono ?_); rintro e w4 ⟨rfl, n4⟩) | (go_at_call 80; (with_reducible refine (H48.out _ ((hnX.trans n1).trans n2)).mono ?_); rintro e w3 ⟨rfl, n3⟩; have B3 := BX.new ((n1.trans n2).trans n3); have e0 := B3.cell' 0 _ rfl; have e1 := B3.cell' 1 _ rfl; have e2 := B3.cell' 2 _ rfl; have e3 := B3.cell' 3 _ rfl; have e4 := B3.cell' 4 _ rfl; have e5 := B3.cell' 5 _ rfl; have e6 := B3.cell' 6 _ rfl; have e7 := B3.cell' 7 _ rfl; have p2 := cell_new (((hnX.trans n1).trans n2).trans n3) p0) | (go_at_call 79; (with_reducible refine (H47.out _ (hnX.trans n1)).mono ?_); rintro e w2 ⟨rfl, n2⟩; have B2 := BX.new (n1.trans n2); have d0 := B2.cell' 0 _ rfl; have d1 := B2.cell' 1 _ rfl; have d2 := B2.cell' 2 _ rfl; have d3 := B2.cell' 3 _ rfl; have d4 := B2.cell' 4 _ rfl; have d5 := B2.cell' 5 _ rfl; have d6 := B2.cell' 6 _ rfl; have d7 := B2.cell' 7 _ rfl) | (go_at_call 78; (with_reducible refine (H46.out _ hnX).mono ?_); rintro e w1 ⟨rfl, n1⟩; have B1 := BX.new n1; have c0 := B1.cell' 0 _ rfl; have c1 := B1.cell' 1 _ rfl; have c2 := B1.cell' 2 _ rfl; have c3 := B1.cell' 3 _ rfl; have c4 := B1.cell' 4 _ rfl; have c5 := B1.cell' 5 _ rfl; have c6 := B1.cell' 6 _ rfl; have c7 := B1.cell' 7 _ rfl))
                  go_ret
                  exact ⟨rfl, (((hnX.trans n1).trans n2).trans n3).trans n4⟩
                · have hx : X = 0 := by rw [HX.out, HCV.out]; simp
                  subst hx
                  clear k1
                  go_enter Tryz.func54, Tryz.ntmps54
                  go_wp2_with (first | (go_at_call 81; (with_reducible refine (H49.out _ (((hnX.trans n1).trans n2).trans n3)).mono ?_); rintro e w4 ⟨rfl, n4⟩) | (go_at_call 80; (with_reducible refine (H48.out _ ((hnX.trans n1).trans n2)).mono ?_); rintro e w3 ⟨rfl, n3⟩; have B3 := BX.new ((n1.trans n2).trans n3); have e0 := B3.cell' 0 _ rfl; have e1 := B3.cell' 1 _ rfl; have e2 := B3.cell' 2 _ rfl; have e3 := B3.cell' 3 _ rfl; have e4 := B3.cell' 4 _ rfl; have e5 := B3.cell' 5 _ rfl; have e6 := B3.cell' 6 _ rfl; have e7 := B3.cell' 7 _ rfl; have p2 := cell_new (((hnX.trans n1).trans n2).trans n3) p0) | (go_at_call 79; (with_reducible refine (H47.out _ (hnX.trans n1)).mono ?_); rintro e w2 ⟨rfl, n2⟩; have B2 := BX.new (n1.trans n2); have d0 := B2.cell' 0 _ rfl; have d1 := B2.cell' 1 _ rfl; have d2 := B2.cell' 2 _ rfl; have d3 := B2.cell' 3 _ rfl; have d4 := B2.cell' 4 _ rfl; have d5 := B2.cell' 5 _ rfl; have d6 := B2.cell' 6 _ rfl; have d7 := B2.cell' 7 _ rfl) | (go_at_call 78; (with_reducible refine (H46.out _ hnX).mono ?_); rintro e w1 ⟨rfl, n1⟩; have B1 := BX.new n1; have c0 := B1.cell' 0 _ rfl; have c1 := B1.cell' 1 _ rfl; have c2 := B1.cell' 2 _ rfl; have c3 := B1.cell' 3 _ rfl; have c4 := B1.cell' 4 _ rfl; have c5 := B1.cell' 5 _ rfl; have c6 := B1.cell' 6 _ rfl; have c7 := B1.cell' 7 _ rfl))
                  go_ret
                  exact ⟨rfl, (((hnX.trans n1).trans n2).trans n3).trans n4⟩
              · have e4 : ((n3 : Int) == 0) = false := by rw [beq_eq_false_iff_ne]; omega
                have hx : X = 1 := by rw [HX.out, HCV.out]; simp [k4]
                subst hx
                clear k1
                go_enter Tryz.func54, Tryz.ntmps54
                go_wp2_with (first | (go_at_call 81; (with_reducible refine (H49.out _ (((hnX.trans n1).trans n2).trans n3)).mono ?_); rintro e w4 ⟨rfl, n4⟩) | (go_at_call 80; (with_reducible refine (H48.out _ ((hnX.trans n1).trans n2)).mono ?_); rintro e w3 ⟨rfl, n3⟩; have B3 := BX.new ((n1.trans n2).trans n3); have e0 := B3.cell' 0 _ rfl; have e1 := B3.cell' 1 _ rfl; have e2 := B3.cell' 2 _ rfl; have e3 := B3.cell' 3 _ rfl; have e4 := B3.cell' 4 _ rfl; have e5 := B3.cell' 5 _ rfl; have e6 := B3.cell' 6 _ rfl; have e7 := B3.cell' 7 _ rfl; have p2 := cell_new (((hnX.trans n1).trans n2).trans n3) p0) | (go_at_call 79; (with_reducible refine (H47.out _ (hnX.trans n1)).mono ?_); rintro e w2 ⟨rfl, n2⟩; have B2 := BX.new (n1.trans n2); have d0 := B2.cell' 0 _ rfl; have d1 := B2.cell' 1 _ rfl; have d2 := B2.cell' 2 _ rfl; have d3 := B2.cell' 3 _ rfl; have d4 := B2.cell' 4 _ rfl; have d5 := B2.cell' 5 _ rfl; have d6 := B2.cell' 6 _ rfl; have d7 := B2.cell' 7 _ rfl) | (go_at_call 78; (with_reducible refine (H46.out _ hnX).mono ?_); rintro e w1 ⟨rfl, n1⟩; have B1 := BX.new n1; have c0 := B1.cell' 0 _ rfl; have c1 := B1.cell' 1 _ rfl; have c2 := B1.cell' 2 _ rfl; have c3 := B1.cell' 3 _ rfl; have c4 := B1.cell' 4 _ rfl; have c5 := B1.cell' 5 _ rfl; have c6 := B1.cell' 6 _ rfl; have c7 := B1.cell' 7 _ rfl))
                go_ret
                exact ⟨rfl, ((hnX.trans n1).trans n2).trans n3⟩
            · have e3 : (entry == -1) = false := beq_eq_false_iff_ne.2 k3
              have hx : X = 1 := by rw [HX.out, HCV.out]; simp [k3]
              subst hx
              clear k1 k3
              go_enter Tryz.func54, Tryz.ntmps54
              go_wp2_with (first | (go_at_call 81; (with_reducible refine (H49.out _ (((hnX.trans n1).trans n2).trans n3)).mono ?_); rintro e w4 ⟨rfl, n4⟩) | (go_at_call 80; (with_reducible refine (H48.out _ ((hnX.trans n1).trans n2)).mono ?_); rintro e w3 ⟨rfl, n3⟩; have B3 := BX.new ((n1.trans n2).trans n3); have e0 := B3.cell' 0 _ rfl; have e1 := B3.cell' 1 _ rfl; have e2 := B3.cell' 2 _ rfl; have e3 := B3.cell' 3 _ rfl; have e4 := B3.cell' 4 _ rfl; have e5 := B3.cell' 5 _ rfl; have e6 := B3.cell' 6 _ rfl; have e7 := B3.cell' 7 _ rfl; have p2 := cell_new (((hnX.trans n1).trans n2).trans n3) p0) | (go_at_call 79; (with_reducible refine (H47.out _ (hnX.trans n1)).mono ?_); rintro e w2 ⟨rfl, n2⟩; have B2 := BX.new (n1.trans n2); have d0 := B2.cell' 0 _ rfl; have d1 := B2.cell' 1 _ rfl; have d2 := B2.cell' 2 _ rfl; have d3 := B2.cell' 3 _ rfl; have d4 := B2.cell' 4 _ rfl; have d5 := B2.cell' 5 _ rfl; have d6 := B2.cell' 6 _ rfl; have d7 := B2.cell' 7 _ rfl) | (go_at_call 78; (with_reducible refine (H46.out _ hnX).mono ?_); rintro e w1 ⟨rfl, n1⟩; have B1 := BX.new n1; have c0 := B1.cell' 0 _ rfl; have c1 := B1.cell' 1 _ rfl; have c2 := B1.cell' 2 _ rfl; have c3 := B1.cell' 3 _ rfl; have c4 := B1.cell' 4 _ rfl; have c5 := B1.cell' 5 _ rfl; have c6 := B1.cell' 6 _ rfl; have c7 := B1.cell' 7 _ rfl))
              go_ret
              exact ⟨rfl, ((hnX.trans n1).trans n2).trans n3⟩
          · have e2 : (kind == 2) = false := beq_eq_false_iff_ne.2 k2
            have hx : X = 1 := by rw [HX.out, HCV.out]; simp [k1, k2]
            subst hx
            clear k1 k2
            go_enter Tryz.func54, Tryz.ntmps54
            go_wp2_with (first | (go_at_call 81; (with_reducible refine (H49.out _ (((hnX.trans n1).trans n2).trans n3)).mono ?_); rintro e w4 ⟨rfl, n4⟩) | (go_at_call 80; (with_reducible refine (H48.out _ ((hnX.trans n1).trans n2)).mono ?_); rintro e w3 ⟨rfl, n3⟩; have B3 := BX.new ((n1.trans n2).trans n3); have e0 := B3.cell' 0 _ rfl; have e1 := B3.cell' 1 _ rfl; have e2 := B3.cell' 2 _ rfl; have e3 := B3.cell' 3 _ rfl; have e4 := B3.cell' 4 _ rfl; have e5 := B3.cell' 5 _ rfl; have e6 := B3.cell' 6 _ rfl; have e7 := B3.cell' 7 _ rfl; have p2 := cell_new (((hnX.trans n1).trans n2).trans n3) p0) | (go_at_call 79; (with_reducible refine (H47.out _ (hnX.trans n1)).mono ?_); rintro e w2 ⟨rfl, n2⟩; have B2 := BX.new (n1.trans n2); have d0 := B2.cell' 0 _ rfl; have d1 := B2.cell' 1 _ rfl; have d2 := B2.cell' 2 _ rfl; have d3 := B2.cell' 3 _ rfl; have d4 := B2.cell' 4 _ rfl; have d5 := B2.cell' 5 _ rfl; have d6 := B2.cell' 6 _ rfl; have d7 := B2.cell' 7 _ rfl) | (go_at_call 78; (with_reducible refine (H46.out _ hnX).mono ?_); rintro e w1 ⟨rfl, n1⟩; have B1 := BX.new n1; have c0 := B1.cell' 0 _ rfl; have c1 := B1.cell' 1 _ rfl; have c2 := B1.cell' 2 _ rfl; have c3 := B1.cell' 3 _ rfl; have c4 := B1.cell' 4 _ rfl; have c5 := B1.cell' 5 _ rfl; have c6 := B1.cell' 6 _ rfl; have c7 := B1.cell' 7 _ rfl))
            go_ret
            exact ⟨rfl, ((hnX.trans n1).trans n2).trans n3⟩
end Go.Proofs.YtnjampfhkojbnaaGreatDoor

namespace Go.Proofs.YtnjampfhkojbnaaGreatDoor
open Go Go.RowKit Go.Joins
set_option linter.unusedSimpArgs false
set_option linter.unusedVariables false

def fPl (p : PlD) : Prop := p.obj.size ≤ 300 ∧ p.sym.size ≤ 100
def fIm (p : ImD) : Prop := p.lib.size ≤ 300 ∧ p.sym.size ≤ 100
def fEx (p : ExD) : Prop := p.sym.size ≤ 100
def fNt (p : NtD) : Prop := p.name.size ≤ 100 ∧ p.text.size ≤ 65538
structure FewS (b : Bn) : Prop where
  pl : ∀ p ∈ b.places, fPl p
  im : ∀ p ∈ b.imps, fIm p
  ex : ∀ p ∈ b.exps, fEx p
  nt : ∀ p ∈ b.notes, fNt p
  img : b.image.size ≤ 3000
  l1 : b.places.length ≤ 140
  l2 : b.fix.length ≤ 200
  l3 : b.imps.length ≤ 200
  l4 : b.exps.length ≤ 200
  l5 : b.notes.length ≤ 70
def FewR (b : Bn) (w : World) (e : Ending) (w' : World) : Prop := (∃ v, e = .returned (.bool v) ∧ (v = true → FewS b)) ∧ New w w'
theorem few_no {b : Bn} {w w' : World} {e : Ending} (he : e = .returned (.bool false)) (hn : New w w') : FewR b w e w' := ⟨⟨false, he, fun h => by cases h⟩, hn⟩
theorem few_yes {b : Bn} {w w' : World} {e : Ending} (he : e = .returned (.bool true)) (hn : New w w') (hs : FewS b) : FewR b w e w' := ⟨⟨true, he, fun _ => hs⟩, hn⟩
theorem all_next {α : Type} {l : List α} {i : Nat} {p : α} {q : α → Prop} (h : l[i]? = some p) (ha : ∀ x ∈ l.take i, q x) (hp : q p) : ∀ x ∈ l.take (i + 1), q x := by
  intro x hx
  obtain ⟨hi, he⟩ := List.getElem?_eq_some_iff.1 h
  rw [List.take_succ_eq_append_getElem hi, List.mem_append, he] at hx
  rcases hx with hx | hx
  · exact ha x hx
  · simp only [List.mem_singleton] at hx
    subst hx; exact hp
structure LensB (b : Bn) : Prop where
  l1 : b.places.length ≤ 9223372036854775807
  l2 : b.fix.length ≤ 9223372036854775807
  l3 : b.imps.length ≤ 9223372036854775807
  l4 : b.exps.length ≤ 9223372036854775807
  l5 : b.notes.length ≤ 9223372036854775807
set_option maxRecDepth 100000 in
set_option maxHeartbeats 16000000 in
theorem few_any (b : Bn) (h : BH) (w : World) (hr : BRd w b h) (hl : LensB b) :
    Calls Tryz.prog 28 #[.agg (bcells b h)] w (FewR b w) := by
  have HNO := Lib.hid (fun e w' he hn => few_no (b := b) (w := w) (e := e) (w' := w') he hn)
  have HYES := Lib.hid (fun e w' he hn hs => few_yes (b := b) (w := w) (e := e) (w' := w') he hn hs)
  have HMK : Hid (∀ (h1 : ∀ p ∈ b.places, fPl p) (h2 : ∀ p ∈ b.imps, fIm p) (h3 : ∀ p ∈ b.exps, fEx p) (h4 : ∀ p ∈ b.notes, fNt p) (h5 : b.image.size ≤ 3000) (l1 : b.places.length ≤ 140) (l2 : b.fix.length ≤ 200) (l3 : b.imps.length ≤ 200) (l4 : b.exps.length ≤ 200) (l5 : b.notes.length ≤ 70), FewS b) := Lib.hid (fun h1 h2 h3 h4 h5 l1 l2 l3 l4 l5 => ⟨h1, h2, h3, h4, h5, l1, l2, l3, l4, l5⟩)
  generalize FewR b w = PP at *
  generalize FewS b = FS at *
  obtain ⟨kind, entry, image, places, fix, imps, exps, notes⟩ := b
  obtain ⟨a1, c1, a2, c2, a3, c3, a4, c4, a5, c5⟩ := h
  obtain ⟨hr1, hr2, hr3, hr4, hr5⟩ := hr
  obtain ⟨hl1, hl2, hl3, hl4, hl5⟩ := hl
  simp only [bcells] at HMK hr1 hr3 hr4 hr5 hl1 hl2 hl3 hl4 hl5 ⊢
  obtain ⟨n1, hn1⟩ : ∃ n, places.length = n := ⟨_, rfl⟩
  obtain ⟨n2, hn2⟩ : ∃ n, fix.length = n := ⟨_, rfl⟩
  obtain ⟨n3, hn3⟩ : ∃ n, imps.length = n := ⟨_, rfl⟩
  obtain ⟨n4, hn4⟩ : ∃ n, exps.length = n := ⟨_, rfl⟩
  obtain ⟨n5, hn5⟩ : ∃ n, notes.length = n := ⟨_, rfl⟩
  rw [hn1] at hr1 hl1
  rw [hn2] at hl2
  rw [hn3] at hr3 hl3
  rw [hn4] at hr4 hl4
  rw [hn5] at hr5 hl5
  rw [hn1, hn2, hn3, hn4, hn5] at HMK ⊢
  have HN1 := Lib.hid hn1
  have HN3 := Lib.hid hn3
  have HN4 := Lib.hid hn4
  have HN5 := Lib.hid hn5
  have HR1 := Lib.hid hr1
  have HR3 := Lib.hid hr3
  have HR4 := Lib.hid hr4
  have HR5 := Lib.hid hr5
  clear hn1 hn2 hn3 hn4 hn5 hr1 hr2 hr3 hr4 hr5
  have hw1 := (New.refl w).alloc (.cells #[.int .i64 kind, .int .i64 entry, .string image, .slice a1 n1 c1, .slice a2 n2 c2, .slice a3 n3 c3, .slice a4 n4 c4, .slice a5 n5 c5] 28)
  have B1 := Blk.made w 28 #[.int .i64 kind, .int .i64 entry, .string image, .slice a1 n1 c1, .slice a2 n2 c2, .slice a3 n3 c3, .slice a4 n4 c4, .slice a5 n5 c5]
  go_enter Tryz.func28, Tryz.ntmps28
  have b1_0 := B1.cell' 0 _ rfl
  have b1_1 := B1.cell' 1 _ rfl
  have b1_2 := B1.cell' 2 _ rfl
  have b1_3 := B1.cell' 3 _ rfl
  have b1_4 := B1.cell' 4 _ rfl
  have b1_5 := B1.cell' 5 _ rfl
  have b1_6 := B1.cell' 6 _ rfl
  have b1_7 := B1.cell' 7 _ rfl
  go_wp2
  go_loopw [14] (fun v14 wr => ∃ i : Nat, v14 = .int .i64 i ∧ i ≤ n1 ∧ New w wr ∧ Blk wr w.heap.size 28 #[.int .i64 kind, .int .i64 entry, .string image, .slice a1 n1 c1, .slice a2 n2 c2, .slice a3 n3 c3, .slice a4 n4 c4, .slice a5 n5 c5] ∧ Hid (∀ p ∈ places.take i, fPl p)) (fun v14 _ => n1 - (intOf v14).toNat)
  case atStart => exact ⟨0, rfl, by omega, hw1, B1, Lib.hid (by simp)⟩
  case round =>
    clear hw1 B1 b1_0 b1_1 b1_2 b1_3 b1_4 b1_5 b1_6 b1_7
    obtain ⟨i, rfl, hi9, hw11, B11, HA1⟩ := hrel
    have d1_0 := B11.cell' 0 _ rfl
    have d1_1 := B11.cell' 1 _ rfl
    have d1_2 := B11.cell' 2 _ rfl
    have d1_3 := B11.cell' 3 _ rfl
    have d1_4 := B11.cell' 4 _ rfl
    have d1_5 := B11.cell' 5 _ rfl
    have d1_6 := B11.cell' 6 _ rfl
    have d1_7 := B11.cell' 7 _ rfl
    by_cases hlt : i < n1
    · obtain ⟨bk, o, rfl, hbk, p, hp, hcell⟩ := rd_row (f := plC) (k := 5) (fun _ => rfl) HN1.out (HR1.out.below hw11) hlt
      have HNX := Lib.hid (fun (q : fPl p) => all_next hp HA1.out q)
      obtain ⟨po, ps, pk, pa, pz⟩ := p
      simp only [fPl] at HNX
      have q0 := hcell 0 (.string po) (by omega) rfl
      have q1 := hcell 1 (.string ps) (by omega) rfl
      have q2 := hcell 2 (.int .i64 pk) (by omega) rfl
      have q3 := hcell 3 (.int .i64 pa) (by omega) rfl
      have q4 := hcell 4 (.int .i64 pz) (by omega) rfl
      simp only [Nat.add_zero] at q0
      rw [← Nat.add_assoc] at q1 q2 q3 q4
      have i0 : (0 : Int) ≤ (i : Int) := by omega
      have i1 : (i : Int) < (n1 : Int) := by omega
      clear hcell hp
      by_cases g_po : 300 < po.size
      · have t_po : decide ((300 : Int) < (po.size : Int)) = true := decide_eq_true (by omega)
        have T_po := Lib.hid g_po
        clear g_po HNX
        go_wp2
        exact HNO.out _ _ rfl (hw11.alloc _)
      · have t_po : decide ((300 : Int) < (po.size : Int)) = false := decide_eq_false (by omega)
        have T_po : Hid (po.size ≤ 300) := Lib.hid (by omega)
        clear g_po
        by_cases g_ps : 100 < ps.size
        · have t_ps : decide ((100 : Int) < (ps.size : Int)) = true := decide_eq_true (by omega)
          have T_ps := Lib.hid g_ps
          clear g_ps HNX
          go_wp2
          exact HNO.out _ _ rfl (hw11.alloc _)
        · have t_ps : decide ((100 : Int) < (ps.size : Int)) = false := decide_eq_false (by omega)
          have T_ps : Hid (ps.size ≤ 100) := Lib.hid (by omega)
          clear g_ps
          have HX := Lib.hid (HNX.out ⟨T_po.out, T_ps.out⟩)
          clear HNX
          go_wp2
          go_roundw
          case rel => exact ⟨i + 1, by go_num, by omega, hw11.alloc _, B11.alloc _, HX⟩
          case measure => simp [intOf]; omega
    · obtain rfl : n1 = i := by omega
      have HF1 : Hid (∀ p ∈ places, fPl p) := Lib.hid (by have q := HA1.out; rwa [List.take_of_length_le (by rw [HN1.out]; exact Nat.le_refl _)] at q)
      clear HA1 hlt hi9
      clear d1_0 d1_1 d1_2 d1_3 d1_4 d1_5 d1_6 d1_7
      have b3_0 := B11.cell' 0 _ rfl
      have b3_1 := B11.cell' 1 _ rfl
      have b3_2 := B11.cell' 2 _ rfl
      have b3_3 := B11.cell' 3 _ rfl
      have b3_4 := B11.cell' 4 _ rfl
      have b3_5 := B11.cell' 5 _ rfl
      have b3_6 := B11.cell' 6 _ rfl
      have b3_7 := B11.cell' 7 _ rfl
      go_wp2
      go_loopw [32] (fun v32 wr => ∃ i : Nat, v32 = .int .i64 i ∧ i ≤ n3 ∧ New w wr ∧ Blk wr w.heap.size 28 #[.int .i64 kind, .int .i64 entry, .string image, .slice a1 n1 c1, .slice a2 n2 c2, .slice a3 n3 c3, .slice a4 n4 c4, .slice a5 n5 c5] ∧ Hid (∀ p ∈ imps.take i, fIm p)) (fun v32 _ => n3 - (intOf v32).toNat)
      case atStart => exact ⟨0, rfl, by omega, hw11, B11, Lib.hid (by simp)⟩
      case round =>
        clear hw11 B11 b3_0 b3_1 b3_2 b3_3 b3_4 b3_5 b3_6 b3_7
        obtain ⟨i, rfl, hi9, hw13, B13, HA3⟩ := hrel
        have d3_0 := B13.cell' 0 _ rfl
        have d3_1 := B13.cell' 1 _ rfl
        have d3_2 := B13.cell' 2 _ rfl
        have d3_3 := B13.cell' 3 _ rfl
        have d3_4 := B13.cell' 4 _ rfl
        have d3_5 := B13.cell' 5 _ rfl
        have d3_6 := B13.cell' 6 _ rfl
        have d3_7 := B13.cell' 7 _ rfl
        by_cases hlt : i < n3
        · obtain ⟨bk, o, rfl, hbk, p, hp, hcell⟩ := rd_row (f := imC) (k := 3) (fun _ => rfl) HN3.out (HR3.out.below hw13) hlt
          have HNX := Lib.hid (fun (q : fIm p) => all_next hp HA3.out q)
          obtain ⟨po, ps, pa⟩ := p
          simp only [fIm] at HNX
          have q0 := hcell 0 (.string po) (by omega) rfl
          have q1 := hcell 1 (.string ps) (by omega) rfl
          have q2 := hcell 2 (.int .i64 pa) (by omega) rfl
          simp only [Nat.add_zero] at q0
          rw [← Nat.add_assoc] at q1 q2
          have i0 : (0 : Int) ≤ (i : Int) := by omega
          have i1 : (i : Int) < (n3 : Int) := by omega
          clear hcell hp
          by_cases g_po : 300 < po.size
          · have t_po : decide ((300 : Int) < (po.size : Int)) = true := decide_eq_true (by omega)
            have T_po := Lib.hid g_po
            clear g_po HNX
            go_wp2
            exact HNO.out _ _ rfl (hw13.alloc _)
          · have t_po : decide ((300 : Int) < (po.size : Int)) = false := decide_eq_false (by omega)
            have T_po : Hid (po.size ≤ 300) := Lib.hid (by omega)
            clear g_po
            by_cases g_ps : 100 < ps.size
            · have t_ps : decide ((100 : Int) < (ps.size : Int)) = true := decide_eq_true (by omega)
              have T_ps := Lib.hid g_ps
              clear g_ps HNX
              go_wp2
              exact HNO.out _ _ rfl (hw13.alloc _)
            · have t_ps : decide ((100 : Int) < (ps.size : Int)) = false := decide_eq_false (by omega)
              have T_ps : Hid (ps.size ≤ 100) := Lib.hid (by omega)
              clear g_ps
              have HX := Lib.hid (HNX.out ⟨T_po.out, T_ps.out⟩)
              clear HNX
              go_wp2
              go_roundw
              case rel => exact ⟨i + 1, by go_num, by omega, hw13.alloc _, B13.alloc _, HX⟩
              case measure => simp [intOf]; omega
        · obtain rfl : n3 = i := by omega
          have HF3 : Hid (∀ p ∈ imps, fIm p) := Lib.hid (by have q := HA3.out; rwa [List.take_of_length_le (by rw [HN3.out]; exact Nat.le_refl _)] at q)
          clear HA3 hlt hi9
          clear d3_0 d3_1 d3_2 d3_3 d3_4 d3_5 d3_6 d3_7
          have b4_0 := B13.cell' 0 _ rfl
          have b4_1 := B13.cell' 1 _ rfl
          have b4_2 := B13.cell' 2 _ rfl
          have b4_3 := B13.cell' 3 _ rfl
          have b4_4 := B13.cell' 4 _ rfl
          have b4_5 := B13.cell' 5 _ rfl
          have b4_6 := B13.cell' 6 _ rfl
          have b4_7 := B13.cell' 7 _ rfl
          go_wp2
          go_loopw [50] (fun v50 wr => ∃ i : Nat, v50 = .int .i64 i ∧ i ≤ n4 ∧ New w wr ∧ Blk wr w.heap.size 28 #[.int .i64 kind, .int .i64 entry, .string image, .slice a1 n1 c1, .slice a2 n2 c2, .slice a3 n3 c3, .slice a4 n4 c4, .slice a5 n5 c5] ∧ Hid (∀ p ∈ exps.take i, fEx p)) (fun v50 _ => n4 - (intOf v50).toNat)
          case atStart => exact ⟨0, rfl, by omega, hw13, B13, Lib.hid (by simp)⟩
          case round =>
            clear hw13 B13 b4_0 b4_1 b4_2 b4_3 b4_4 b4_5 b4_6 b4_7
            obtain ⟨i, rfl, hi9, hw14, B14, HA4⟩ := hrel
            have d4_0 := B14.cell' 0 _ rfl
            have d4_1 := B14.cell' 1 _ rfl
            have d4_2 := B14.cell' 2 _ rfl
            have d4_3 := B14.cell' 3 _ rfl
            have d4_4 := B14.cell' 4 _ rfl
            have d4_5 := B14.cell' 5 _ rfl
            have d4_6 := B14.cell' 6 _ rfl
            have d4_7 := B14.cell' 7 _ rfl
            by_cases hlt : i < n4
            · obtain ⟨bk, o, rfl, hbk, p, hp, hcell⟩ := rd_row (f := exC) (k := 2) (fun _ => rfl) HN4.out (HR4.out.below hw14) hlt
              have HNX := Lib.hid (fun (q : fEx p) => all_next hp HA4.out q)
              obtain ⟨ps, pa⟩ := p
              simp only [fEx] at HNX
              have q0 := hcell 0 (.string ps) (by omega) rfl
              have q1 := hcell 1 (.int .i64 pa) (by omega) rfl
              simp only [Nat.add_zero] at q0
              rw [← Nat.add_assoc] at q1
              have i0 : (0 : Int) ≤ (i : Int) := by omega
              have i1 : (i : Int) < (n4 : Int) := by omega
              clear hcell hp
              by_cases g_ps : 100 < ps.size
              · have t_ps : decide ((100 : Int) < (ps.size : Int)) = true := decide_eq_true (by omega)
                have T_ps := Lib.hid g_ps
                clear g_ps HNX
                go_wp2
                exact HNO.out _ _ rfl (hw14.alloc _)
              · have t_ps : decide ((100 : Int) < (ps.size : Int)) = false := decide_eq_false (by omega)
                have T_ps : Hid (ps.size ≤ 100) := Lib.hid (by omega)
                clear g_ps
                have HX := Lib.hid (HNX.out T_ps.out)
                clear HNX
                go_wp2
                go_roundw
                case rel => exact ⟨i + 1, by go_num, by omega, hw14.alloc _, B14.alloc _, HX⟩
                case measure => simp [intOf]; omega
            · obtain rfl : n4 = i := by omega
              have HF4 : Hid (∀ p ∈ exps, fEx p) := Lib.hid (by have q := HA4.out; rwa [List.take_of_length_le (by rw [HN4.out]; exact Nat.le_refl _)] at q)
              clear HA4 hlt hi9
              clear d4_0 d4_1 d4_2 d4_3 d4_4 d4_5 d4_6 d4_7
              have b5_0 := B14.cell' 0 _ rfl
              have b5_1 := B14.cell' 1 _ rfl
              have b5_2 := B14.cell' 2 _ rfl
              have b5_3 := B14.cell' 3 _ rfl
              have b5_4 := B14.cell' 4 _ rfl
              have b5_5 := B14.cell' 5 _ rfl
              have b5_6 := B14.cell' 6 _ rfl
              have b5_7 := B14.cell' 7 _ rfl
              go_wp2
              go_loopw [62] (fun v62 wr => ∃ i : Nat, v62 = .int .i64 i ∧ i ≤ n5 ∧ New w wr ∧ Blk wr w.heap.size 28 #[.int .i64 kind, .int .i64 entry, .string image, .slice a1 n1 c1, .slice a2 n2 c2, .slice a3 n3 c3, .slice a4 n4 c4, .slice a5 n5 c5] ∧ Hid (∀ p ∈ notes.take i, fNt p)) (fun v62 _ => n5 - (intOf v62).toNat)
              case atStart => exact ⟨0, rfl, by omega, hw14, B14, Lib.hid (by simp)⟩
              case round =>
                clear hw14 B14 b5_0 b5_1 b5_2 b5_3 b5_4 b5_5 b5_6 b5_7
                obtain ⟨i, rfl, hi9, hw15, B15, HA5⟩ := hrel
                have d5_0 := B15.cell' 0 _ rfl
                have d5_1 := B15.cell' 1 _ rfl
                have d5_2 := B15.cell' 2 _ rfl
                have d5_3 := B15.cell' 3 _ rfl
                have d5_4 := B15.cell' 4 _ rfl
                have d5_5 := B15.cell' 5 _ rfl
                have d5_6 := B15.cell' 6 _ rfl
                have d5_7 := B15.cell' 7 _ rfl
                by_cases hlt : i < n5
                · obtain ⟨bk, o, rfl, hbk, p, hp, hcell⟩ := rd_row (f := ntC) (k := 2) (fun _ => rfl) HN5.out (HR5.out.below hw15) hlt
                  have HNX := Lib.hid (fun (q : fNt p) => all_next hp HA5.out q)
                  obtain ⟨po, pt⟩ := p
                  simp only [fNt] at HNX
                  have q0 := hcell 0 (.string po) (by omega) rfl
                  have q1 := hcell 1 (.string pt) (by omega) rfl
                  simp only [Nat.add_zero] at q0
                  rw [← Nat.add_assoc] at q1
                  have i0 : (0 : Int) ≤ (i : Int) := by omega
                  have i1 : (i : Int) < (n5 : Int) := by omega
                  clear hcell hp
                  have dA := (B15.alloc (.cells #[.string po, .string pt] 66)).cell' 7 _ rfl
                  by_cases g1 : 100 < po.size
                  · have t1 : decide ((100 : Int) < (po.size : Int)) = true := decide_eq_true (by omega)
                    clear g1 HNX
                    go_wp2
                    exact HNO.out _ _ rfl (hw15.alloc _)
                  · have t1 : decide ((100 : Int) < (po.size : Int)) = false := decide_eq_false (by omega)
                    by_cases g2 : 300 < pt.size
                    · have t2 : decide ((300 : Int) < (pt.size : Int)) = true := decide_eq_true (by omega)
                      by_cases g3 : pt.size < 65534
                      · have t3 : decide ((pt.size : Int) < 65534) = true := decide_eq_true (by omega)
                        clear g1 g2 g3 HNX
                        go_wp2
                        exact HNO.out _ _ rfl (hw15.alloc _)
                      · have t3 : decide ((pt.size : Int) < 65534) = false := decide_eq_false (by omega)
                        by_cases g4 : 65538 < pt.size
                        · have t4 : decide ((65538 : Int) < (pt.size : Int)) = true := decide_eq_true (by omega)
                          clear g1 g2 g3 g4 HNX
                          go_wp2
                          exact HNO.out _ _ rfl (hw15.alloc _)
                        · have t4 : decide ((65538 : Int) < (pt.size : Int)) = false := decide_eq_false (by omega)
                          by_cases g5 : 2 < n5
                          · have t5 : decide ((2 : Int) < (n5 : Int)) = true := decide_eq_true (by omega)
                            clear g1 g2 g3 g4 g5 HNX
                            go_wp2
                            exact HNO.out _ _ rfl (hw15.alloc _)
                          · have t5 : decide ((2 : Int) < (n5 : Int)) = false := decide_eq_false (by omega)
                            have TT : Hid (po.size ≤ 100 ∧ pt.size ≤ 65538) := Lib.hid ⟨by omega, by omega⟩
                            clear g1 g2 g3 g4 g5
                            have HX := Lib.hid (HNX.out TT.out)
                            clear HNX
                            go_wp2
                            go_roundw
                            case rel => exact ⟨i + 1, by go_num, by omega, hw15.alloc _, B15.alloc _, HX⟩
                            case measure => simp [intOf]; omega
                    · have t2 : decide ((300 : Int) < (pt.size : Int)) = false := decide_eq_false (by omega)
                      have TT : Hid (po.size ≤ 100 ∧ pt.size ≤ 65538) := Lib.hid ⟨by omega, by omega⟩
                      clear g1 g2
                      have HX := Lib.hid (HNX.out TT.out)
                      clear HNX
                      go_wp2
                      go_roundw
                      case rel => exact ⟨i + 1, by go_num, by omega, hw15.alloc _, B15.alloc _, HX⟩
                      case measure => simp [intOf]; omega
                · obtain rfl : n5 = i := by omega
                  have HF5 : Hid (∀ p ∈ notes, fNt p) := Lib.hid (by have q := HA5.out; rwa [List.take_of_length_le (by rw [HN5.out]; exact Nat.le_refl _)] at q)
                  clear HA5 hlt hi9
                  clear d5_0 d5_1 d5_2 d5_3 d5_4 d5_5 d5_6 d5_7
                  have z0 := B15.cell' 0 _ rfl
                  have z1 := B15.cell' 1 _ rfl
                  have z2 := B15.cell' 2 _ rfl
                  have z3 := B15.cell' 3 _ rfl
                  have z4 := B15.cell' 4 _ rfl
                  have z5 := B15.cell' 5 _ rfl
                  have z6 := B15.cell' 6 _ rfl
                  have z7 := B15.cell' 7 _ rfl
                  by_cases y_img : image.size ≤ 3000
                  rotate_left
                  · have u_img : decide ((image.size : Int) ≤ 3000) = false := decide_eq_false (by omega)
                    clear HMK
                    go_wp2
                    exact HNO.out _ _ rfl hw15
                  have u_img : decide ((image.size : Int) ≤ 3000) = true := decide_eq_true (by omega)
                  have U_img := Lib.hid y_img
                  clear y_img
                  by_cases y_1 : n1 ≤ 140
                  rotate_left
                  · have u_1 : decide ((n1 : Int) ≤ 140) = false := decide_eq_false (by omega)
                    clear HMK
                    go_wp2
                    exact HNO.out _ _ rfl hw15
                  have u_1 : decide ((n1 : Int) ≤ 140) = true := decide_eq_true (by omega)
                  have U_1 := Lib.hid y_1
                  clear y_1
                  by_cases y_2 : n2 ≤ 200
                  rotate_left
                  · have u_2 : decide ((n2 : Int) ≤ 200) = false := decide_eq_false (by omega)
                    clear HMK
                    go_wp2
                    exact HNO.out _ _ rfl hw15
                  have u_2 : decide ((n2 : Int) ≤ 200) = true := decide_eq_true (by omega)
                  have U_2 := Lib.hid y_2
                  clear y_2
                  by_cases y_3 : n3 ≤ 200
                  rotate_left
                  · have u_3 : decide ((n3 : Int) ≤ 200) = false := decide_eq_false (by omega)
                    clear HMK
                    go_wp2
                    exact HNO.out _ _ rfl hw15
                  have u_3 : decide ((n3 : Int) ≤ 200) = true := decide_eq_true (by omega)
                  have U_3 := Lib.hid y_3
                  clear y_3
                  by_cases y_4 : n4 ≤ 200
                  rotate_left
                  · have u_4 : decide ((n4 : Int) ≤ 200) = false := decide_eq_false (by omega)
                    clear HMK
                    go_wp2
                    exact HNO.out _ _ rfl hw15
                  have u_4 : decide ((n4 : Int) ≤ 200) = true := decide_eq_true (by omega)
                  have U_4 := Lib.hid y_4
                  clear y_4
                  by_cases y_5 : n5 ≤ 70
                  rotate_left
                  · have u_5 : decide ((n5 : Int) ≤ 70) = false := decide_eq_false (by omega)
                    clear HMK
                    go_wp2
                    exact HNO.out _ _ rfl hw15
                  have u_5 : decide ((n5 : Int) ≤ 70) = true := decide_eq_true (by omega)
                  have U_5 := Lib.hid y_5
                  clear y_5
                  go_wp2
                  exact (HYES.out _ _ rfl hw15 (HMK.out HF1.out HF3.out HF4.out HF5.out U_img.out U_1.out U_2.out U_3.out U_4.out U_5.out))
end Go.Proofs.YtnjampfhkojbnaaGreatDoor

