/- The reference's places: which places are right. Conditions: sizes. (Printed by mk-r4.py.) The reference's words: which fixups and imports are right. Conditions: the places are right; sizes. (Printed by mk-r5.py.) The reference's Check. Conditions: sizes. (Printed by mk-c2.py.) -/
import Derived.Test.YtnjampfhkojbnaaGreatDoorGBase
import Derived.Test.YtnjampfhkojbnaaGreatDoorGR
import Derived.Test.YtnjampfhkojbnaaGreatDoorGI
import Derived.Deep.RegionHeld3
import Derived.Test.YtnjampfhkojbnaaGreatDoorGN2
import Derived.Test.YtnjampfhkojbnaaGreatDoorGC1

namespace Go.Proofs.YtnjampfhkojbnaaGreatDoor
open Go Go.RowKit Go.Joins
set_option linter.unusedSimpArgs false
set_option linter.unusedVariables false

def seenT (l : List PlD) (i : Nat) : List (ByteArray × ByteArray) := ((l.take i).map fun p => (p.obj, p.sym)).reverse
theorem seenT_succ {l : List PlD} {i : Nat} {p : PlD} (h : l[i]? = some p) : seenT l (i + 1) = (p.obj, p.sym) :: seenT l i := by
  obtain ⟨hi, he⟩ := List.getElem?_eq_some_iff.1 h
  unfold seenT
  rw [List.take_succ_eq_append_getElem hi, he, List.map_append, List.reverse_append]; rfl
theorem seenT_iff (l : List PlD) (i : Nat) (o s : ByteArray) : seenB (seenT l i) o s = true ↔ ∃ q ∈ l.take i, q.obj = o ∧ q.sym = s := by
  rw [seenB_iff]
  unfold seenT
  rw [List.mem_reverse, List.mem_map]
  constructor
  · rintro ⟨q, hq, e⟩
    injection e with e1 e2
    exact ⟨q, hq, e1, e2⟩
  · rintro ⟨q, hq, rfl, rfl⟩
    exact ⟨q, hq, rfl⟩
theorem zero_iff {s : ByteArray} {a b : Nat} (hb : b ≤ s.size) : zeroB s a b = true ↔ ∀ j (hj : j < s.size), a ≤ j → j < b → s[j] = 0 := by
  unfold zeroB
  rw [extract_S, data_S, List.all_eq_true]
  have hl := size_eq s
  constructor
  · intro h j hj h1 h2
    have : s[j] ∈ (s.data.toList.drop a).take (b - a) := by
      rw [List.mem_take_iff_getElem]
      refine ⟨j - a, by rw [List.length_drop]; omega, ?_⟩
      rw [List.getElem_drop, get_eq]
      congr 1
      omega
    simpa using h _ this
  · intro h x hx
    obtain ⟨k, hk, rfl⟩ := List.mem_take_iff_getElem.1 hx
    rw [List.length_drop] at hk
    have := h (a + k) (by omega) (by omega) (by omega)
    rw [get_eq] at this
    rw [List.getElem_drop]
    simpa using this
set_option maxRecDepth 100000 in
set_option maxHeartbeats 8000000 in
theorem rplaces_any (b : Bn) (h : BH) (w : World) (hr : BRd w b h) (hz : SzP b.places) (hi : b.image.size ≤ 1000000) (hl : b.places.length ≤ 1000000) :
    Calls Tryz.prog 48 #[.agg (bcells b h)] w fun e w' => e = .returned (.bool (placedV b)) ∧ New w w' := by
  obtain ⟨kind, entry, image, places, fix, imps, exps, notes⟩ := b
  obtain ⟨a1, c1, a2, c2, a3, c3, a4, c4, a5, c5⟩ := h
  simp only [bcells] at hr hi hz hl ⊢
  have hv : placedV ⟨kind, entry, image, places, fix, imps, exps, notes⟩ = (decide (1 ≤ places.length) && decide (places.length ≤ 128) && decide (image.size ≤ 65536) && decide (placedGo image places 0 [] = some image.size)) := rfl
  rw [hv]
  have hR := hr.r1
  simp only at hR
  clear hv hr
  generalize fix.length = n2 at *
  generalize imps.length = n3 at *
  generalize exps.length = n4 at *
  generalize notes.length = n5 at *
  obtain ⟨n, hn⟩ : ∃ n, places.length = n := ⟨_, rfl⟩
  rw [hn] at hR hl ⊢
  have HN := Lib.hid hn
  have HR := Lib.hid hR
  have HZ := Lib.hid hz
  have B1 := Blk.made w 28 #[.int .i64 kind, .int .i64 entry, .string image, .slice a1 n c1, .slice a2 n2 c2, .slice a3 n3 c3, .slice a4 n4 c4, .slice a5 n5 c5]
  have hn1 := (New.refl w).alloc (.cells #[.int .i64 kind, .int .i64 entry, .string image, .slice a1 n c1, .slice a2 n2 c2, .slice a3 n3 c3, .slice a4 n4 c4, .slice a5 n5 c5] 28)
  clear hR hz hn
  by_cases g1 : 1 ≤ n ∧ n ≤ 128 ∧ image.size ≤ 65536
  · obtain ⟨g1, g2, g3⟩ := g1
    have d1 : (decide (1 ≤ n) && decide (n ≤ 128) && decide (image.size ≤ 65536)) = true := by simp [g1, g2, g3]
    rw [d1, Bool.true_and]
    have t1 : ¬ (n : Int) < 1 := by omega
    have t2 : ¬ (128 : Int) < (n : Int) := by omega
    have t3 : ¬ (65536 : Int) < (image.size : Int) := by omega
    obtain ⟨R, hR9⟩ : ∃ R, decide (placedGo image places 0 [] = some image.size) = R := ⟨_, rfl⟩
    rw [hR9]
    have HRR := Lib.hid hR9
    clear d1 hR9
    go_enter Tryz.func48, Tryz.ntmps48
    go_wp2
    go_loopw [3, 27] (fun v3 v27 wr => ∃ (i e : Nat), v27 = .int .i64 i ∧ v3 = .int .i64 e ∧ i ≤ n ∧ e ≤ image.size ∧ New w wr ∧ Blk wr w.heap.size 28 #[.int .i64 kind, .int .i64 entry, .string image, .slice a1 n c1, .slice a2 n2 c2, .slice a3 n3 c3, .slice a4 n4 c4, .slice a5 n5 c5] ∧ Hid (placedGo image (places.drop i) e (seenT places i) = placedGo image places 0 [])) (fun _ v27 _ => n - (intOf v27).toNat)
    case atStart => exact ⟨0, 0, rfl, rfl, by omega, by omega, hn1, B1, Lib.hid rfl⟩
    case round =>
      clear hn1 B1
      obtain ⟨i, e, rfl, rfl, hi9, he9, hnr, BR, HGo⟩ := hrel
      obtain ⟨wo, rfl⟩ : ∃ wo : World, wo = wr := ⟨_, rfl⟩
      by_cases hlt : i < n
      · obtain ⟨bk, o, rfl, hbk, p, hp, hcell⟩ := rd_row (f := plC) (k := 5) (fun _ => rfl) HN.out (HR.out.below hnr) hlt
        obtain ⟨z1, z2⟩ := HZ.out p (List.mem_of_getElem? hp)
        have hgo := placedGo_at (img := image) (e := e) (seen := seenT places i) hp
        rw [HGo.out] at hgo
        have HG := Lib.hid hgo
        have HSN := Lib.hid (seenT_succ hp)
        obtain ⟨po, ps, pk, pa, pz⟩ := p
        have HSQ := Lib.hid (seenT_iff places i po ps)
        have q0 := hcell 0 (.string po) (by omega) rfl
        have q1 := hcell 1 (.string ps) (by omega) rfl
        have q2 := hcell 2 (.int .i64 pk) (by omega) rfl
        have q3 := hcell 3 (.int .i64 pa) (by omega) rfl
        have q4 := hcell 4 (.int .i64 pz) (by omega) rfl
        simp only [Nat.add_zero] at q0
        rw [← Nat.add_assoc] at q1 q2 q3 q4
        simp only at z1 z2 HSN HG
        have nA := (New.refl wo).alloc (.cells #[.string po, .string ps, .int .i64 pk, .int .i64 pa, .int .i64 pz] 52)
        have BP := Blk.made wo 52 #[.string po, .string ps, .int .i64 pk, .int .i64 pa, .int .i64 pz]
        have BB := BR.new nA
        have i0 : (0 : Int) ≤ (i : Int) := by omega
        have i1 : (i : Int) < (n : Int) := by omega
        clear hcell hgo hp BR
        obtain ⟨u4, hu4⟩ : ∃ u, up4 e = u := ⟨_, rfl⟩
        have hue : u4 ≤ e + 3 ∧ e ≤ u4 := by rw [← hu4]; unfold up4; omega
        have HUP := Lib.hid (fun w => rup_any e w (by omega))
        rw [hu4] at HUP HG
        have HPO : Hid (placeOK image e ⟨po, ps, pk, pa, pz⟩ = (namedV po && nameV ps && kindOK ⟨po, ps, pk, pa, pz⟩ && decide (pz ≤ 8192) && decide (pa = (u4 : Nat)) && decide ((u4 : Nat) + pz ≤ (image.size : Int)) && zeroB image e u4)) := Lib.hid (by rw [← hu4]; rfl)
        have HBad : Hid (placeOK image e ⟨po, ps, pk, pa, pz⟩ = false → R = false) := Lib.hid (fun q => by
          rw [← HRR.out, HG.out, if_neg (by rw [q]; simp)]; rfl)
        have HBad2 : Hid (seenB (seenT places i) po ps = true → R = false) := Lib.hid (fun q => by
          rw [← HRR.out, HG.out, if_neg (by rw [q]; simp)]; rfl)
        have HG2 : Hid (seenB (seenT places i) po ps = false → placeOK image e ⟨po, ps, pk, pa, pz⟩ = true → placedGo image places 0 [] = placedGo image (places.drop (i + 1)) (u4 + pz.toNat) ((po, ps) :: seenT places i)) := Lib.hid (fun x1 x2 => by rw [HG.out, if_pos ⟨x1, x2⟩])
        have HA1 := Lib.hid (fun w => rnamed_any po w (by omega))
        have HA2 := Lib.hid (fun w => rname_any ps w)
        have HKO : Hid (kindOK ⟨po, ps, pk, pa, pz⟩ = ((pk == 1 && decide (2 ≤ pz)) || (pk == 2 && decide (0 ≤ pz) && pz % 4 == 0))) := Lib.hid rfl
        clear hu4 HG
        generalize namedV po = b1 at *
        generalize nameV ps = b2 at *
        cases b1
        · have hRf := HBad.out (by rw [HPO.out]; simp)
          subst hRf
          go_wp2_with (first | (go_at_call 50; (with_reducible refine (HA2.out _).mono ?_); rintro e w2 ⟨rfl, n2⟩; have f2 := (BP.new (n1.trans n2)).cell' 2 _ rfl; have f4 := (BP.new (n1.trans n2)).cell' 4 _ rfl) | (go_at_call 73; (with_reducible refine (HA1.out _).mono ?_); rintro e w1 ⟨rfl, n1⟩; have f1 := (BP.new n1).cell' 1 _ rfl))
          go_ret
          exact ⟨rfl, (hnr.trans nA).trans n1⟩
        · cases b2
          · have hRf := HBad.out (by rw [HPO.out]; simp)
            subst hRf
            go_wp2_with (first | (go_at_call 50; (with_reducible refine (HA2.out _).mono ?_); rintro e w2 ⟨rfl, n2⟩; have f2 := (BP.new (n1.trans n2)).cell' 2 _ rfl; have f4 := (BP.new (n1.trans n2)).cell' 4 _ rfl) | (go_at_call 73; (with_reducible refine (HA1.out _).mono ?_); rintro e w1 ⟨rfl, n1⟩; have f1 := (BP.new n1).cell' 1 _ rfl))
            go_ret
            exact ⟨rfl, ((hnr.trans nA).trans n1).trans n2⟩
          · rw [Bool.true_and, Bool.true_and] at HPO
            by_cases z0 : 0 ≤ pz ∧ pz ≤ 8192
            · obtain ⟨z0, z8⟩ := z0
              rw [decide_eq_true z8, Bool.and_true] at HPO
              have s1 : ¬ pz < 0 := by omega
              have s2 : ¬ (8192 : Int) < pz := by omega
              by_cases k1 : pk = 1
              · subst k1
                by_cases k2 : 2 ≤ pz
                · have s3 : ¬ pz < 2 := by omega
                  have hk : kindOK ⟨po, ps, 1, pa, pz⟩ = true := by rw [HKO.out]; simp [k2]
                  rw [hk, Bool.true_and] at HPO
                  have HPO2 := Lib.hid HPO.out
                  clear HPO HKO hk
                  go_wp2_with (first | (go_at_call 50; (with_reducible refine (HA2.out _).mono ?_); rintro e w2 ⟨rfl, n2⟩; have f2 := (BP.new (n1.trans n2)).cell' 2 _ rfl; have f4 := (BP.new (n1.trans n2)).cell' 4 _ rfl) | (go_at_call 73; (with_reducible refine (HA1.out _).mono ?_); rintro e w1 ⟨rfl, n1⟩; have f1 := (BP.new n1).cell' 1 _ rfl))
                  have nB := ((hnr.trans nA).trans n1).trans n2
                  have BP2 := BP.new (n1.trans n2)
                  have BB2 := BB.new (n1.trans n2)
                  clear nA BP BB HA1 HA2
                  go_loopw [6] (fun v6 wr => ∃ j : Nat, v6 = .int .i64 j ∧ j ≤ i ∧ New w2 wr ∧ Hid (∀ q ∈ places.take j, ¬ (q.obj = po ∧ q.sym = ps))) (fun v6 _ => i - (intOf v6).toNat)
                  case atStart => exact ⟨0, rfl, by omega, New.refl _, Lib.hid (by simp)⟩
                  case round =>
                    obtain ⟨j, rfl, hj9, hnj, HNO⟩ := hrel
                    obtain ⟨wj, rfl⟩ : ∃ wj : World, wj = wr := ⟨_, rfl⟩
                    have x0 := (BP2.new hnj).cell' 0 _ rfl
                    have x1 := (BP2.new hnj).cell' 1 _ rfl
                    have x3 := (BP2.new hnj).cell' 3 _ rfl
                    have x4 := (BP2.new hnj).cell' 4 _ rfl
                    have d3 := (BB2.new hnj).cell' 3 _ rfl
                    have d2 := (BB2.new hnj).cell' 2 _ rfl
                    by_cases hlt2 : j < i
                    · obtain ⟨bk', o', hA, _, y, hy, hcy⟩ := rd_row (f := plC) (k := 5) (fun _ => rfl) HN.out (HR.out.below (nB.trans hnj)) (show j < n by omega)
                      injection hA with hA
                      injection hA with hA1 hA2
                      subst hA1 hA2
                      have HTK : Hid (∀ q ∈ places.take (j + 1), q ∈ places.take j ∨ q = y) := Lib.hid (fun q hq => by
                        obtain ⟨hi, he⟩ := List.getElem?_eq_some_iff.1 hy
                        rw [List.take_succ_eq_append_getElem hi, List.mem_append, he] at hq
                        simpa using hq)
                      have HYM : Hid (y ∈ places.take i) := Lib.hid (by
                        obtain ⟨hi, he⟩ := List.getElem?_eq_some_iff.1 hy
                        rw [List.mem_take_iff_getElem]; exact ⟨j, by omega, he⟩)
                      obtain ⟨yo, ys, yk, ya, yz⟩ := y
                      have y0 := hcy 0 (.string yo) (by omega) rfl
                      have y1 := hcy 1 (.string ys) (by omega) rfl
                      simp only [Nat.add_zero] at y0
                      rw [← Nat.add_assoc] at y1
                      have j0 : (0 : Int) ≤ (j : Int) := by omega
                      have j1 : (j : Int) < (n : Int) := by omega
                      have HE1 := Lib.hid (str_eq yo po)
                      have HE2 := Lib.hid (str_eq ys ps)
                      clear hcy hy
                      by_cases h1 : yo = po
                      · have c1' : (yo.toList == po.toList) = true := by rw [HE1.out, decide_eq_true h1]
                        by_cases h2 : ys = ps
                        · have c2' : (ys.toList == ps.toList) = true := by rw [HE2.out, decide_eq_true h2]
                          have hRf := HBad2.out (HSQ.out.2 ⟨_, HYM.out, h1, h2⟩)
                          subst hRf
                          clear h1 h2
                          go_wp2_with (fail)
                          refine wp_region_held_drew (S := (New _)) (by kernel_rfl) ((New.refl _).drew) (fun hS => ?_)
                          refine tkT 0 (v := ?v1) hS (fun wq hSq => ?y1) ?_; (case y1 => clear hSq; go_simp; (try with_reducible rfl)); simp only [Act.put, gqD, gqE, gqF]
                          refine tkT 1 (v := ?v2) hS (fun wq hSq => ?y2) ?_; (case y2 => have hf0 := cell_new hSq x0; have hf1 := cell_new hSq x1; have hf2 := cell_new hSq d3; have hf3 := cell_new hSq y0; have hf4 := cell_new hSq y1; clear hSq; go_simp; (try with_reducible rfl)); simp only [Act.put, gqD, gqE, gqF]
                          refine tkT 2 (v := ?v3) hS (fun wq hSq => ?y3) ?_; (case y3 => clear hSq; go_simp; (try with_reducible rfl)); simp only [Act.put, gqD, gqE, gqF]
                          refine tkT 3 (v := ?v4) hS (fun wq hSq => ?y4) ?_; (case y4 => clear hSq; go_simp; (try with_reducible rfl)); simp only [Act.put, gqD, gqE, gqF]
                          refine tkT 4 (v := ?v5) hS (fun wq hSq => ?y5) ?_; (case y5 => clear hSq; go_simp; (try with_reducible rfl)); simp only [Act.put, gqD, gqE, gqF]
                          refine tkT 5 (v := ?v6) hS (fun wq hSq => ?y6) ?_; (case y6 => have hf0 := cell_new hSq x0; have hf1 := cell_new hSq x1; have hf2 := cell_new hSq d3; have hf3 := cell_new hSq y0; have hf4 := cell_new hSq y1; clear hSq; go_simp; (try with_reducible rfl)); simp only [Act.put, gqD, gqE, gqF]
                          refine tkT 6 (v := ?v7) hS (fun wq hSq => ?y7) ?_; (case y7 => clear hSq; go_simp; (try with_reducible rfl)); simp only [Act.put, gqD, gqE, gqF]
                          refine tkT 7 (v := ?v8) hS (fun wq hSq => ?y8) ?_; (case y8 => have hf0 := cell_new hSq x0; have hf1 := cell_new hSq x1; have hf2 := cell_new hSq d3; have hf3 := cell_new hSq y0; have hf4 := cell_new hSq y1; clear hSq; go_simp; (try with_reducible rfl)); simp only [Act.put, gqD, gqE, gqF]
                          refine tkT 8 (v := ?v9) hS (fun wq hSq => ?y9) ?_; (case y9 => clear hSq; go_simp; (try with_reducible rfl)); simp only [Act.put, gqD, gqE, gqF]
                          refine tkT 9 (v := ?v10) hS (fun wq hSq => ?y10) ?_; (case y10 => clear hSq; go_simp; (try with_reducible rfl)); simp only [Act.put, gqD, gqE, gqF]
                          refine tkT 10 (v := ?v11) hS (fun wq hSq => ?y11) ?_; (case y11 => clear hSq; go_simp; (try with_reducible rfl)); simp only [Act.put, gqD, gqE, gqF]
                          refine tkT 11 (v := ?v12) hS (fun wq hSq => ?y12) ?_; (case y12 => have hf0 := cell_new hSq x0; have hf1 := cell_new hSq x1; have hf2 := cell_new hSq d3; have hf3 := cell_new hSq y0; have hf4 := cell_new hSq y1; clear hSq; go_simp; (try with_reducible rfl)); simp only [Act.put, gqD, gqE, gqF]
                          refine tkT 12 (v := ?v13) hS (fun wq hSq => ?y13) ?_; (case y13 => clear hSq; go_simp; (try with_reducible rfl)); simp only [Act.put, gqD, gqE, gqF]
                          refine tkT 13 (v := ?v14) hS (fun wq hSq => ?y14) ?_; (case y14 => clear hSq; go_simp; (try with_reducible rfl)); simp only [Act.put, gqD, gqE, gqF]
                          refine tkT 14 (v := ?v15) hS (fun wq hSq => ?y15) ?_; (case y15 => clear hSq; go_simp; (try with_reducible rfl)); simp only [Act.put, gqD, gqE, gqF]
                          refine tkT 15 (v := ?v16) hS (fun wq hSq => ?y16) ?_; (case y16 => have hf0 := cell_new hSq x0; have hf1 := cell_new hSq x1; have hf2 := cell_new hSq d3; have hf3 := cell_new hSq y0; have hf4 := cell_new hSq y1; clear hSq; go_simp; (try with_reducible rfl)); simp only [Act.put, gqD, gqE, gqF]
                          refine tkT 16 (v := ?v17) hS (fun wq hSq => ?y17) ?_; (case y17 => clear hSq; go_simp; (try with_reducible rfl)); simp only [Act.put, gqD, gqE, gqF]
                          refine tkT 17 (v := ?v18) hS (fun wq hSq => ?y18) ?_; (case y18 => have hf0 := cell_new hSq x0; have hf1 := cell_new hSq x1; have hf2 := cell_new hSq d3; have hf3 := cell_new hSq y0; have hf4 := cell_new hSq y1; clear hSq; go_simp; (try with_reducible rfl)); simp only [Act.put, gqD, gqE, gqF]
                          refine tkT 18 (v := ?v19) hS (fun wq hSq => ?y19) ?_; (case y19 => clear hSq; go_simp; (try with_reducible rfl)); simp only [Act.put, gqD, gqE, gqF]
                          refine tkT 19 (v := ?v20) hS (fun wq hSq => ?y20) ?_; (case y20 => clear hSq; go_simp; (try with_reducible rfl)); simp only [Act.put, gqD, gqE, gqF]
                          refine wpAnyH_done (by kernel_rfl) ?_ _
                          go_wp2
                          go_ret
                          exact ⟨rfl, nB.trans (hnj.trans (New.refl _).drew)⟩
                        · have c2' : (ys.toList == ps.toList) = false := by rw [HE2.out, decide_eq_false h2]
                          have HNE := Lib.hid h2
                          clear h1 h2
                          go_wp2_with (fail)
                          refine wp_region_held_drew (S := (New _)) (by kernel_rfl) ((New.refl _).drew) (fun hS => ?_)
                          refine tkT 0 (v := ?v73) hS (fun wq hSq => ?y73) ?_; (case y73 => clear hSq; go_simp; (try with_reducible rfl)); simp only [Act.put, gqD, gqE, gqF]
                          refine tkT 1 (v := ?v74) hS (fun wq hSq => ?y74) ?_; (case y74 => have hf0 := cell_new hSq x0; have hf1 := cell_new hSq x1; have hf2 := cell_new hSq d3; have hf3 := cell_new hSq y0; have hf4 := cell_new hSq y1; clear hSq; go_simp; (try with_reducible rfl)); simp only [Act.put, gqD, gqE, gqF]
                          refine tkT 2 (v := ?v75) hS (fun wq hSq => ?y75) ?_; (case y75 => clear hSq; go_simp; (try with_reducible rfl)); simp only [Act.put, gqD, gqE, gqF]
                          refine tkT 3 (v := ?v76) hS (fun wq hSq => ?y76) ?_; (case y76 => clear hSq; go_simp; (try with_reducible rfl)); simp only [Act.put, gqD, gqE, gqF]
                          refine tkT 4 (v := ?v77) hS (fun wq hSq => ?y77) ?_; (case y77 => clear hSq; go_simp; (try with_reducible rfl)); simp only [Act.put, gqD, gqE, gqF]
                          refine tkT 5 (v := ?v78) hS (fun wq hSq => ?y78) ?_; (case y78 => have hf0 := cell_new hSq x0; have hf1 := cell_new hSq x1; have hf2 := cell_new hSq d3; have hf3 := cell_new hSq y0; have hf4 := cell_new hSq y1; clear hSq; go_simp; (try with_reducible rfl)); simp only [Act.put, gqD, gqE, gqF]
                          refine tkT 6 (v := ?v79) hS (fun wq hSq => ?y79) ?_; (case y79 => clear hSq; go_simp; (try with_reducible rfl)); simp only [Act.put, gqD, gqE, gqF]
                          refine tkT 7 (v := ?v80) hS (fun wq hSq => ?y80) ?_; (case y80 => have hf0 := cell_new hSq x0; have hf1 := cell_new hSq x1; have hf2 := cell_new hSq d3; have hf3 := cell_new hSq y0; have hf4 := cell_new hSq y1; clear hSq; go_simp; (try with_reducible rfl)); simp only [Act.put, gqD, gqE, gqF]
                          refine tkT 8 (v := ?v81) hS (fun wq hSq => ?y81) ?_; (case y81 => clear hSq; go_simp; (try with_reducible rfl)); simp only [Act.put, gqD, gqE, gqF]
                          refine tkT 9 (v := ?v82) hS (fun wq hSq => ?y82) ?_; (case y82 => clear hSq; go_simp; (try with_reducible rfl)); simp only [Act.put, gqD, gqE, gqF]
                          refine tkT 10 (v := ?v83) hS (fun wq hSq => ?y83) ?_; (case y83 => clear hSq; go_simp; (try with_reducible rfl)); simp only [Act.put, gqD, gqE, gqF]
                          refine tkT 11 (v := ?v84) hS (fun wq hSq => ?y84) ?_; (case y84 => have hf0 := cell_new hSq x0; have hf1 := cell_new hSq x1; have hf2 := cell_new hSq d3; have hf3 := cell_new hSq y0; have hf4 := cell_new hSq y1; clear hSq; go_simp; (try with_reducible rfl)); simp only [Act.put, gqD, gqE, gqF]
                          refine tkT 12 (v := ?v85) hS (fun wq hSq => ?y85) ?_; (case y85 => clear hSq; go_simp; (try with_reducible rfl)); simp only [Act.put, gqD, gqE, gqF]
                          refine tkT 13 (v := ?v86) hS (fun wq hSq => ?y86) ?_; (case y86 => clear hSq; go_simp; (try with_reducible rfl)); simp only [Act.put, gqD, gqE, gqF]
                          refine tkT 14 (v := ?v87) hS (fun wq hSq => ?y87) ?_; (case y87 => clear hSq; go_simp; (try with_reducible rfl)); simp only [Act.put, gqD, gqE, gqF]
                          refine tkT 15 (v := ?v88) hS (fun wq hSq => ?y88) ?_; (case y88 => have hf0 := cell_new hSq x0; have hf1 := cell_new hSq x1; have hf2 := cell_new hSq d3; have hf3 := cell_new hSq y0; have hf4 := cell_new hSq y1; clear hSq; go_simp; (try with_reducible rfl)); simp only [Act.put, gqD, gqE, gqF]
                          refine tkT 16 (v := ?v89) hS (fun wq hSq => ?y89) ?_; (case y89 => clear hSq; go_simp; (try with_reducible rfl)); simp only [Act.put, gqD, gqE, gqF]
                          refine tkT 17 (v := ?v90) hS (fun wq hSq => ?y90) ?_; (case y90 => have hf0 := cell_new hSq x0; have hf1 := cell_new hSq x1; have hf2 := cell_new hSq d3; have hf3 := cell_new hSq y0; have hf4 := cell_new hSq y1; clear hSq; go_simp; (try with_reducible rfl)); simp only [Act.put, gqD, gqE, gqF]
                          refine tkT 18 (v := ?v91) hS (fun wq hSq => ?y91) ?_; (case y91 => clear hSq; go_simp; (try with_reducible rfl)); simp only [Act.put, gqD, gqE, gqF]
                          refine tkT 19 (v := ?v92) hS (fun wq hSq => ?y92) ?_; (case y92 => clear hSq; go_simp; (try with_reducible rfl)); simp only [Act.put, gqD, gqE, gqF]
                          refine wpAnyH_done (by kernel_rfl) ?_ _
                          go_wp2
                          go_roundw
                          case rel => exact ⟨j + 1, by go_num, by omega, hnj.trans (New.refl _).drew, Lib.hid (fun q hq => by
                            rcases HTK.out q hq with h | rfl
                            · exact HNO.out q h
                            · exact fun x => HNE.out x.2)⟩
                          case measure => simp [intOf]; omega
                      · have c1' : (yo.toList == po.toList) = false := by rw [HE1.out, decide_eq_false h1]
                        have HNE := Lib.hid h1
                        clear h1
                        go_wp2_with (fail)
                        refine wp_region_held_drew (S := (New _)) (by kernel_rfl) ((New.refl _).drew) (fun hS => ?_)
                        refine tkT 0 (v := ?v21) hS (fun wq hSq => ?y21) ?_; (case y21 => clear hSq; go_simp; (try with_reducible rfl)); simp only [Act.put, gqD, gqE, gqF]
                        refine tkT 1 (v := ?v22) hS (fun wq hSq => ?y22) ?_; (case y22 => have hf0 := cell_new hSq x0; have hf1 := cell_new hSq x1; have hf2 := cell_new hSq d3; have hf3 := cell_new hSq y0; have hf4 := cell_new hSq y1; clear hSq; go_simp; (try with_reducible rfl)); simp only [Act.put, gqD, gqE, gqF]
                        refine tkT 2 (v := ?v23) hS (fun wq hSq => ?y23) ?_; (case y23 => clear hSq; go_simp; (try with_reducible rfl)); simp only [Act.put, gqD, gqE, gqF]
                        refine tkT 3 (v := ?v24) hS (fun wq hSq => ?y24) ?_; (case y24 => clear hSq; go_simp; (try with_reducible rfl)); simp only [Act.put, gqD, gqE, gqF]
                        refine tkT 4 (v := ?v25) hS (fun wq hSq => ?y25) ?_; (case y25 => clear hSq; go_simp; (try with_reducible rfl)); simp only [Act.put, gqD, gqE, gqF]
                        refine tkT 5 (v := ?v26) hS (fun wq hSq => ?y26) ?_; (case y26 => have hf0 := cell_new hSq x0; have hf1 := cell_new hSq x1; have hf2 := cell_new hSq d3; have hf3 := cell_new hSq y0; have hf4 := cell_new hSq y1; clear hSq; go_simp; (try with_reducible rfl)); simp only [Act.put, gqD, gqE, gqF]
                        refine tkT 6 (v := ?v27) hS (fun wq hSq => ?y27) ?_; (case y27 => clear hSq; go_simp; (try with_reducible rfl)); simp only [Act.put, gqD, gqE, gqF]
                        refine tkT 7 (v := ?v28) hS (fun wq hSq => ?y28) ?_; (case y28 => have hf0 := cell_new hSq x0; have hf1 := cell_new hSq x1; have hf2 := cell_new hSq d3; have hf3 := cell_new hSq y0; have hf4 := cell_new hSq y1; clear hSq; go_simp; (try with_reducible rfl)); simp only [Act.put, gqD, gqE, gqF]
                        refine tkT 8 (v := ?v29) hS (fun wq hSq => ?y29) ?_; (case y29 => clear hSq; go_simp; (try with_reducible rfl)); simp only [Act.put, gqD, gqE, gqF]
                        refine tkT 9 (v := ?v30) hS (fun wq hSq => ?y30) ?_; (case y30 => clear hSq; go_simp; (try with_reducible rfl)); simp only [Act.put, gqD, gqE, gqF]
                        refine tkU 10 hS ?_; simp only [Act.put, gqD, gqE, gqF]
                        refine tkU 11 hS ?_; simp only [Act.put, gqD, gqE, gqF]
                        refine tkU 12 hS ?_; simp only [Act.put, gqD, gqE, gqF]
                        refine tkU 13 hS ?_; simp only [Act.put, gqD, gqE, gqF]
                        refine tkU 14 hS ?_; simp only [Act.put, gqD, gqE, gqF]
                        refine tkU 15 hS ?_; simp only [Act.put, gqD, gqE, gqF]
                        refine tkU 16 hS ?_; simp only [Act.put, gqD, gqE, gqF]
                        refine tkU 17 hS ?_; simp only [Act.put, gqD, gqE, gqF]
                        refine tkU 18 hS ?_; simp only [Act.put, gqD, gqE, gqF]
                        refine tkT 19 (v := ?v40) hS (fun wq hSq => ?y40) ?_; (case y40 => clear hSq; go_simp; (try with_reducible rfl)); simp only [Act.put, gqD, gqE, gqF]
                        refine wpAnyH_done (by kernel_rfl) ?_ _
                        go_wp2
                        go_roundw
                        case rel => exact ⟨j + 1, by go_num, by omega, hnj.trans (New.refl _).drew, Lib.hid (fun q hq => by
                          rcases HTK.out q hq with h | rfl
                          · exact HNO.out q h
                          · exact fun x => HNE.out x.1)⟩
                        case measure => simp [intOf]; omega
                    · obtain rfl : i = j := by omega
                      have HS0 : Hid (seenB (seenT places i) po ps = false) := Lib.hid (by
                        rw [Bool.eq_false_iff]
                        intro q
                        obtain ⟨y, h1, h2⟩ := HSQ.out.1 q
                        exact HNO.out y h1 h2)
                      by_cases hpa : pa = (u4 : Int)
                      · subst hpa
                        have w3 : IntKind.i64.wrap ((u4 : Int) + pz) = (u4 : Int) + pz := IntWalk.i64_in _ (by omega)
                        have e5 : ((u4 : Int) == (u4 : Int)) = true := beq_self_eq_true _
                        have e5' : ((u4 : Int) != (u4 : Int)) = false := by rw [bne, e5]; rfl
                        rw [decide_eq_true rfl, Bool.true_and] at HPO2
                        by_cases hsm : (u4 : Int) + pz ≤ (image.size : Int)
                        · have t5 : decide ((image.size : Int) < (u4 : Int) + pz) = false := decide_eq_false (by omega)
                          rw [decide_eq_true hsm, Bool.true_and] at HPO2
                          have HZ9 := Lib.hid (zero_iff (s := image) (a := e) (b := u4) (by omega))
                          go_wp2_with (fail)
                          refine wp_region_held_drew (S := (New _)) (by kernel_rfl) ((New.refl _).drew) (fun hS => ?_)
                          refine tkT 0 (v := ?v41) hS (fun wq hSq => ?y41) ?_; (case y41 => clear hSq; go_simp; (try with_reducible rfl)); simp only [Act.put, gqD, gqE, gqF]
                          refine tkT 1 (v := ?v42) hS (fun wq hSq => ?y42) ?_; (case y42 => have hf0 := cell_new hSq x3; have hf1 := cell_new hSq x4; have hf2 := cell_new hSq d2; clear hSq; go_simp; (try with_reducible rfl)); simp only [Act.put, gqD, gqE, gqF]
                          refine tkT 2 (v := ?v43) hS (fun wq hSq => ?y43) ?_; (case y43 => clear hSq; go_simp; (try with_reducible rfl)); simp only [Act.put, gqD, gqE, gqF]
                          refine wpAnyH_ready (rs := [3]) (by kernel_rfl) (by simp) ?_
                          refine AllReadyH.cons (o := ?oi44) ?hi44 (fun K hK => ?_) AllReadyH.nil
                          case hi44 => (simp only [gqA, gqB, gqC]; rfl)
                          go_simp
                          refine (HUP.out _).mono ?_
                          rintro e w5 ⟨rfl, rfl⟩
                          refine hK.out _ _ (hS.trans (New.refl _)) (fun hS => ?_)
                          clear hK K
                          refine tkT 4 (v := ?v45) hS (fun wq hSq => ?y45) ?_; (case y45 => clear hSq; go_simp; (try with_reducible rfl)); simp only [Act.put, gqD, gqE, gqF]
                          refine tkT 5 (v := ?v46) hS (fun wq hSq => ?y46) ?_; (case y46 => clear hSq; go_simp; (try with_reducible rfl)); simp only [Act.put, gqD, gqE, gqF]
                          refine tkT 6 (v := ?v47) hS (fun wq hSq => ?y47) ?_; (case y47 => clear hSq; go_simp; (try with_reducible rfl)); simp only [Act.put, gqD, gqE, gqF]
                          refine tkT 7 (v := ?v48) hS (fun wq hSq => ?y48) ?_; (case y48 => have hf0 := cell_new hSq x3; have hf1 := cell_new hSq x4; have hf2 := cell_new hSq d2; clear hSq; go_simp; (try with_reducible rfl)); simp only [Act.put, gqD, gqE, gqF]
                          refine tkT 8 (v := ?v49) hS (fun wq hSq => ?y49) ?_; (case y49 => clear hSq; go_simp; (try with_reducible rfl)); simp only [Act.put, gqD, gqE, gqF]
                          refine tkT 9 (v := ?v50) hS (fun wq hSq => ?y50) ?_; (case y50 => have hf0 := cell_new hSq x3; have hf1 := cell_new hSq x4; have hf2 := cell_new hSq d2; clear hSq; go_simp; (try with_reducible rfl)); simp only [Act.put, gqD, gqE, gqF]
                          refine tkT 10 (v := ?v51) hS (fun wq hSq => ?y51) ?_; (case y51 => clear hSq; go_simp; (try with_reducible rfl)); simp only [Act.put, gqD, gqE, gqF]
                          refine tkT 11 (v := ?v52) hS (fun wq hSq => ?y52) ?_; (case y52 => clear hSq; go_simp; (try with_reducible rfl)); simp only [Act.put, gqD, gqE, gqF]
                          refine tkT 12 (v := ?v53) hS (fun wq hSq => ?y53) ?_; (case y53 => have hf0 := cell_new hSq x3; have hf1 := cell_new hSq x4; have hf2 := cell_new hSq d2; clear hSq; go_simp; (try with_reducible rfl)); simp only [Act.put, gqD, gqE, gqF]
                          refine tkT 13 (v := ?v54) hS (fun wq hSq => ?y54) ?_; (case y54 => clear hSq; go_simp; (try with_reducible rfl)); simp only [Act.put, gqD, gqE, gqF]
                          refine tkT 14 (v := ?v55) hS (fun wq hSq => ?y55) ?_; (case y55 => clear hSq; go_simp; (try with_reducible rfl)); simp only [Act.put, gqD, gqE, gqF]
                          refine tkT 15 (v := ?v56) hS (fun wq hSq => ?y56) ?_; (case y56 => clear hSq; go_simp; (try with_reducible rfl)); simp only [Act.put, gqD, gqE, gqF]
                          refine wpAnyH_done (by kernel_rfl) ?_ _
                          have nU : New w2 wj.drew := hnj.trans (New.refl _).drew
                          go_wp2
                          go_loopw [7] (fun v7 wr => ∃ k : Nat, v7 = .int .i64 k ∧ e ≤ k ∧ k ≤ u4 ∧ New w2 wr ∧ Hid (∀ j (hj : j < image.size), e ≤ j → j < k → image[j] = 0)) (fun v7 _ => u4 - (intOf v7).toNat)
                          case atStart => exact ⟨e, rfl, by omega, by omega, nU, Lib.hid (fun j hj h1 h2 => absurd h1 (by omega))⟩
                          case round =>
                            clear x0 x1 x3 x4 d3 d2 hnj nU
                            obtain ⟨k, rfl, hke, hku, hnk, HZR⟩ := hrel
                            have x3 := (BP2.new hnk).cell' 3 _ rfl
                            have x4 := (BP2.new hnk).cell' 4 _ rfl
                            have d2 := (BB2.new hnk).cell' 2 _ rfl
                            by_cases hlt3 : k < u4
                            · have hks : k < image.size := by omega
                              have k0 : (0 : Int) ≤ (k : Int) := by omega
                              have k1 : (k : Int) < (image.size : Int) := by omega
                              by_cases hc : (image[k].toNat : Int) = 0
                              · have e6 : ((image[k].toNat : Int) == 0) = true := beq_iff_eq.2 hc
                                have e6' : ((image[k].toNat : Int) != 0) = false := by rw [bne, e6]; rfl
                                have HC0 : Hid (image[k] = 0) := Lib.hid (UInt8.toNat_inj.1 (by have : (0 : UInt8).toNat = 0 := rfl; omega))
                                clear hc
                                go_wp2
                                go_roundw
                                case rel => exact ⟨k + 1, by go_num, by omega, by omega, hnk, Lib.hid (fun j hj h1 h2 => by
                                  by_cases h : j = k
                                  · subst h; exact HC0.out
                                  · exact HZR.out j hj h1 (by omega))⟩
                                case measure => simp [intOf]; omega
                              · have e6 : ((image[k].toNat : Int) == 0) = false := beq_eq_false_iff_ne.2 hc
                                have e6' : ((image[k].toNat : Int) != 0) = true := by rw [bne, e6]; rfl
                                have hRf := HBad.out (by
                                  rw [HPO2.out, Bool.eq_false_iff]
                                  intro q
                                  have := HZ9.out.1 q k hks (by omega) hlt3
                                  rw [this] at hc
                                  exact hc rfl)
                                subst hRf
                                clear hc
                                go_wp2
                                go_ret
                                exact ⟨rfl, nB.trans hnk⟩
                            · obtain rfl : k = u4 := by omega
                              have HF := Lib.hid (HG2.out HS0.out (by rw [HPO2.out]; exact HZ9.out.2 HZR.out))
                              obtain ⟨zn, rfl⟩ : ∃ zn : Nat, pz = (zn : Int) := ⟨pz.toNat, by omega⟩
                              go_wp2
                              go_roundw
                              case rel => exact ⟨i + 1, k + zn, by go_num, by go_num, by omega, by omega, nB.trans hnk, BB2.new hnk, Lib.hid (by rw [HSN.out, HF.out, Int.toNat_natCast])⟩
                              case measure => simp [intOf]; omega
                        · have t5 : decide ((image.size : Int) < (u4 : Int) + pz) = true := decide_eq_true (by omega)
                          have hRf := HBad.out (by rw [HPO2.out, decide_eq_false hsm]; rfl)
                          subst hRf
                          go_wp2_with (fail)
                          refine wp_region_held_drew (S := (New _)) (by kernel_rfl) ((New.refl _).drew) (fun hS => ?_)
                          refine tkT 0 (v := ?v93) hS (fun wq hSq => ?y93) ?_; (case y93 => clear hSq; go_simp; (try with_reducible rfl)); simp only [Act.put, gqD, gqE, gqF]
                          refine tkT 1 (v := ?v94) hS (fun wq hSq => ?y94) ?_; (case y94 => have hf0 := cell_new hSq x3; have hf1 := cell_new hSq x4; have hf2 := cell_new hSq d2; clear hSq; go_simp; (try with_reducible rfl)); simp only [Act.put, gqD, gqE, gqF]
                          refine tkT 2 (v := ?v95) hS (fun wq hSq => ?y95) ?_; (case y95 => clear hSq; go_simp; (try with_reducible rfl)); simp only [Act.put, gqD, gqE, gqF]
                          refine wpAnyH_ready (rs := [3]) (by kernel_rfl) (by simp) ?_
                          refine AllReadyH.cons (o := ?oi96) ?hi96 (fun K hK => ?_) AllReadyH.nil
                          case hi96 => (simp only [gqA, gqB, gqC]; rfl)
                          go_simp
                          refine (HUP.out _).mono ?_
                          rintro e w5 ⟨rfl, rfl⟩
                          refine hK.out _ _ (hS.trans (New.refl _)) (fun hS => ?_)
                          clear hK K
                          refine tkT 4 (v := ?v97) hS (fun wq hSq => ?y97) ?_; (case y97 => clear hSq; go_simp; (try with_reducible rfl)); simp only [Act.put, gqD, gqE, gqF]
                          refine tkT 5 (v := ?v98) hS (fun wq hSq => ?y98) ?_; (case y98 => clear hSq; go_simp; (try with_reducible rfl)); simp only [Act.put, gqD, gqE, gqF]
                          refine tkT 6 (v := ?v99) hS (fun wq hSq => ?y99) ?_; (case y99 => clear hSq; go_simp; (try with_reducible rfl)); simp only [Act.put, gqD, gqE, gqF]
                          refine tkT 7 (v := ?v100) hS (fun wq hSq => ?y100) ?_; (case y100 => have hf0 := cell_new hSq x3; have hf1 := cell_new hSq x4; have hf2 := cell_new hSq d2; clear hSq; go_simp; (try with_reducible rfl)); simp only [Act.put, gqD, gqE, gqF]
                          refine tkT 8 (v := ?v101) hS (fun wq hSq => ?y101) ?_; (case y101 => clear hSq; go_simp; (try with_reducible rfl)); simp only [Act.put, gqD, gqE, gqF]
                          refine tkT 9 (v := ?v102) hS (fun wq hSq => ?y102) ?_; (case y102 => have hf0 := cell_new hSq x3; have hf1 := cell_new hSq x4; have hf2 := cell_new hSq d2; clear hSq; go_simp; (try with_reducible rfl)); simp only [Act.put, gqD, gqE, gqF]
                          refine tkT 10 (v := ?v103) hS (fun wq hSq => ?y103) ?_; (case y103 => clear hSq; go_simp; (try with_reducible rfl)); simp only [Act.put, gqD, gqE, gqF]
                          refine tkT 11 (v := ?v104) hS (fun wq hSq => ?y104) ?_; (case y104 => clear hSq; go_simp; (try with_reducible rfl)); simp only [Act.put, gqD, gqE, gqF]
                          refine tkT 12 (v := ?v105) hS (fun wq hSq => ?y105) ?_; (case y105 => have hf0 := cell_new hSq x3; have hf1 := cell_new hSq x4; have hf2 := cell_new hSq d2; clear hSq; go_simp; (try with_reducible rfl)); simp only [Act.put, gqD, gqE, gqF]
                          refine tkT 13 (v := ?v106) hS (fun wq hSq => ?y106) ?_; (case y106 => clear hSq; go_simp; (try with_reducible rfl)); simp only [Act.put, gqD, gqE, gqF]
                          refine tkT 14 (v := ?v107) hS (fun wq hSq => ?y107) ?_; (case y107 => clear hSq; go_simp; (try with_reducible rfl)); simp only [Act.put, gqD, gqE, gqF]
                          refine tkT 15 (v := ?v108) hS (fun wq hSq => ?y108) ?_; (case y108 => clear hSq; go_simp; (try with_reducible rfl)); simp only [Act.put, gqD, gqE, gqF]
                          refine wpAnyH_done (by kernel_rfl) ?_ _
                          go_wp2
                          go_ret
                          exact ⟨rfl, nB.trans (hnj.trans (New.refl _).drew)⟩
                      · have e5 : (pa == (u4 : Int)) = false := beq_eq_false_iff_ne.2 hpa
                        have e5' : (pa != (u4 : Int)) = true := by rw [bne, e5]; rfl
                        have hRf := HBad.out (by rw [HPO2.out, decide_eq_false hpa]; rfl)
                        subst hRf
                        clear hpa
                        go_wp2_with (fail)
                        refine wp_region_held_drew (S := (New _)) (by kernel_rfl) ((New.refl _).drew) (fun hS => ?_)
                        refine tkT 0 (v := ?v57) hS (fun wq hSq => ?y57) ?_; (case y57 => clear hSq; go_simp; (try with_reducible rfl)); simp only [Act.put, gqD, gqE, gqF]
                        refine tkT 1 (v := ?v58) hS (fun wq hSq => ?y58) ?_; (case y58 => have hf0 := cell_new hSq x3; have hf1 := cell_new hSq x4; have hf2 := cell_new hSq d2; clear hSq; go_simp; (try with_reducible rfl)); simp only [Act.put, gqD, gqE, gqF]
                        refine tkT 2 (v := ?v59) hS (fun wq hSq => ?y59) ?_; (case y59 => clear hSq; go_simp; (try with_reducible rfl)); simp only [Act.put, gqD, gqE, gqF]
                        refine wpAnyH_ready (rs := [3]) (by kernel_rfl) (by simp) ?_
                        refine AllReadyH.cons (o := ?oi60) ?hi60 (fun K hK => ?_) AllReadyH.nil
                        case hi60 => (simp only [gqA, gqB, gqC]; rfl)
                        go_simp
                        refine (HUP.out _).mono ?_
                        rintro e w5 ⟨rfl, rfl⟩
                        refine hK.out _ _ (hS.trans (New.refl _)) (fun hS => ?_)
                        clear hK K
                        refine tkT 4 (v := ?v61) hS (fun wq hSq => ?y61) ?_; (case y61 => clear hSq; go_simp; (try with_reducible rfl)); simp only [Act.put, gqD, gqE, gqF]
                        refine tkT 5 (v := ?v62) hS (fun wq hSq => ?y62) ?_; (case y62 => clear hSq; go_simp; (try with_reducible rfl)); simp only [Act.put, gqD, gqE, gqF]
                        refine tkU 6 hS ?_; simp only [Act.put, gqD, gqE, gqF]
                        refine tkU 7 hS ?_; simp only [Act.put, gqD, gqE, gqF]
                        refine tkU 8 hS ?_; simp only [Act.put, gqD, gqE, gqF]
                        refine tkU 9 hS ?_; simp only [Act.put, gqD, gqE, gqF]
                        refine tkU 10 hS ?_; simp only [Act.put, gqD, gqE, gqF]
                        refine tkU 11 hS ?_; simp only [Act.put, gqD, gqE, gqF]
                        refine tkU 12 hS ?_; simp only [Act.put, gqD, gqE, gqF]
                        refine tkU 13 hS ?_; simp only [Act.put, gqD, gqE, gqF]
                        refine tkU 14 hS ?_; simp only [Act.put, gqD, gqE, gqF]
                        refine tkT 15 (v := ?v72) hS (fun wq hSq => ?y72) ?_; (case y72 => clear hSq; go_simp; (try with_reducible rfl)); simp only [Act.put, gqD, gqE, gqF]
                        refine wpAnyH_done (by kernel_rfl) ?_ _
                        go_wp2
                        go_ret
                        exact ⟨rfl, nB.trans (hnj.trans (New.refl _).drew)⟩
                · have s3 : pz < 2 := by omega
                  have hk : kindOK ⟨po, ps, 1, pa, pz⟩ = false := by rw [HKO.out]; simp; omega
                  have hRf := HBad.out (by rw [HPO.out, hk]; rfl)
                  subst hRf
                  clear hk
                  go_wp2_with (first | (go_at_call 50; (with_reducible refine (HA2.out _).mono ?_); rintro e w2 ⟨rfl, n2⟩; have f2 := (BP.new (n1.trans n2)).cell' 2 _ rfl; have f4 := (BP.new (n1.trans n2)).cell' 4 _ rfl) | (go_at_call 73; (with_reducible refine (HA1.out _).mono ?_); rintro e w1 ⟨rfl, n1⟩; have f1 := (BP.new n1).cell' 1 _ rfl))
                  go_ret
                  exact ⟨rfl, ((hnr.trans nA).trans n1).trans n2⟩
              · have e1 : (pk == 1) = false := beq_eq_false_iff_ne.2 k1
                have e1' : (pk != 1) = true := by rw [bne, e1]; rfl
                by_cases k2 : pk = 2
                · subst k2
                  by_cases k3 : pz % 4 = 0
                  · have hk : kindOK ⟨po, ps, 2, pa, pz⟩ = true := by rw [HKO.out]; simp [k3, z0]
                    rw [hk, Bool.true_and] at HPO
                    have HPO2 := Lib.hid HPO.out
                    have e3 : (pz % 4 == 0) = true := beq_iff_eq.2 k3
                    have e3' : (pz % 4 != 0) = false := by rw [bne, e3]; rfl
                    clear HPO HKO hk k3
                    go_wp2_with (first | (go_at_call 50; (with_reducible refine (HA2.out _).mono ?_); rintro e w2 ⟨rfl, n2⟩; have f2 := (BP.new (n1.trans n2)).cell' 2 _ rfl; have f4 := (BP.new (n1.trans n2)).cell' 4 _ rfl) | (go_at_call 73; (with_reducible refine (HA1.out _).mono ?_); rintro e w1 ⟨rfl, n1⟩; have f1 := (BP.new n1).cell' 1 _ rfl))
                    have nB := ((hnr.trans nA).trans n1).trans n2
                    have BP2 := BP.new (n1.trans n2)
                    have BB2 := BB.new (n1.trans n2)
                    clear nA BP BB HA1 HA2
                    go_loopw [6] (fun v6 wr => ∃ j : Nat, v6 = .int .i64 j ∧ j ≤ i ∧ New w2 wr ∧ Hid (∀ q ∈ places.take j, ¬ (q.obj = po ∧ q.sym = ps))) (fun v6 _ => i - (intOf v6).toNat)
                    case atStart => exact ⟨0, rfl, by omega, New.refl _, Lib.hid (by simp)⟩
                    case round =>
                      obtain ⟨j, rfl, hj9, hnj, HNO⟩ := hrel
                      obtain ⟨wj, rfl⟩ : ∃ wj : World, wj = wr := ⟨_, rfl⟩
                      have x0 := (BP2.new hnj).cell' 0 _ rfl
                      have x1 := (BP2.new hnj).cell' 1 _ rfl
                      have x3 := (BP2.new hnj).cell' 3 _ rfl
                      have x4 := (BP2.new hnj).cell' 4 _ rfl
                      have d3 := (BB2.new hnj).cell' 3 _ rfl
                      have d2 := (BB2.new hnj).cell' 2 _ rfl
                      by_cases hlt2 : j < i
                      · obtain ⟨bk', o', hA, _, y, hy, hcy⟩ := rd_row (f := plC) (k := 5) (fun _ => rfl) HN.out (HR.out.below (nB.trans hnj)) (show j < n by omega)
                        injection hA with hA
                        injection hA with hA1 hA2
                        subst hA1 hA2
                        have HTK : Hid (∀ q ∈ places.take (j + 1), q ∈ places.take j ∨ q = y) := Lib.hid (fun q hq => by
                          obtain ⟨hi, he⟩ := List.getElem?_eq_some_iff.1 hy
                          rw [List.take_succ_eq_append_getElem hi, List.mem_append, he] at hq
                          simpa using hq)
                        have HYM : Hid (y ∈ places.take i) := Lib.hid (by
                          obtain ⟨hi, he⟩ := List.getElem?_eq_some_iff.1 hy
                          rw [List.mem_take_iff_getElem]; exact ⟨j, by omega, he⟩)
                        obtain ⟨yo, ys, yk, ya, yz⟩ := y
                        have y0 := hcy 0 (.string yo) (by omega) rfl
                        have y1 := hcy 1 (.string ys) (by omega) rfl
                        simp only [Nat.add_zero] at y0
                        rw [← Nat.add_assoc] at y1
                        have j0 : (0 : Int) ≤ (j : Int) := by omega
                        have j1 : (j : Int) < (n : Int) := by omega
                        have HE1 := Lib.hid (str_eq yo po)
                        have HE2 := Lib.hid (str_eq ys ps)
                        clear hcy hy
                        by_cases h1 : yo = po
                        · have c1' : (yo.toList == po.toList) = true := by rw [HE1.out, decide_eq_true h1]
                          by_cases h2 : ys = ps
                          · have c2' : (ys.toList == ps.toList) = true := by rw [HE2.out, decide_eq_true h2]
                            have hRf := HBad2.out (HSQ.out.2 ⟨_, HYM.out, h1, h2⟩)
                            subst hRf
                            clear h1 h2
                            go_wp2_with (fail)
                            refine wp_region_held_drew (S := (New _)) (by kernel_rfl) ((New.refl _).drew) (fun hS => ?_)
                            refine tkT 0 (v := ?v109) hS (fun wq hSq => ?y109) ?_; (case y109 => clear hSq; go_simp; (try with_reducible rfl)); simp only [Act.put, gqD, gqE, gqF]
                            refine tkT 1 (v := ?v110) hS (fun wq hSq => ?y110) ?_; (case y110 => have hf0 := cell_new hSq x0; have hf1 := cell_new hSq x1; have hf2 := cell_new hSq d3; have hf3 := cell_new hSq y0; have hf4 := cell_new hSq y1; clear hSq; go_simp; (try with_reducible rfl)); simp only [Act.put, gqD, gqE, gqF]
                            refine tkT 2 (v := ?v111) hS (fun wq hSq => ?y111) ?_; (case y111 => clear hSq; go_simp; (try with_reducible rfl)); simp only [Act.put, gqD, gqE, gqF]
                            refine tkT 3 (v := ?v112) hS (fun wq hSq => ?y112) ?_; (case y112 => clear hSq; go_simp; (try with_reducible rfl)); simp only [Act.put, gqD, gqE, gqF]
                            refine tkT 4 (v := ?v113) hS (fun wq hSq => ?y113) ?_; (case y113 => clear hSq; go_simp; (try with_reducible rfl)); simp only [Act.put, gqD, gqE, gqF]
                            refine tkT 5 (v := ?v114) hS (fun wq hSq => ?y114) ?_; (case y114 => have hf0 := cell_new hSq x0; have hf1 := cell_new hSq x1; have hf2 := cell_new hSq d3; have hf3 := cell_new hSq y0; have hf4 := cell_new hSq y1; clear hSq; go_simp; (try with_reducible rfl)); simp only [Act.put, gqD, gqE, gqF]
                            refine tkT 6 (v := ?v115) hS (fun wq hSq => ?y115) ?_; (case y115 => clear hSq; go_simp; (try with_reducible rfl)); simp only [Act.put, gqD, gqE, gqF]
                            refine tkT 7 (v := ?v116) hS (fun wq hSq => ?y116) ?_; (case y116 => have hf0 := cell_new hSq x0; have hf1 := cell_new hSq x1; have hf2 := cell_new hSq d3; have hf3 := cell_new hSq y0; have hf4 := cell_new hSq y1; clear hSq; go_simp; (try with_reducible rfl)); simp only [Act.put, gqD, gqE, gqF]
                            refine tkT 8 (v := ?v117) hS (fun wq hSq => ?y117) ?_; (case y117 => clear hSq; go_simp; (try with_reducible rfl)); simp only [Act.put, gqD, gqE, gqF]
                            refine tkT 9 (v := ?v118) hS (fun wq hSq => ?y118) ?_; (case y118 => clear hSq; go_simp; (try with_reducible rfl)); simp only [Act.put, gqD, gqE, gqF]
                            refine tkT 10 (v := ?v119) hS (fun wq hSq => ?y119) ?_; (case y119 => clear hSq; go_simp; (try with_reducible rfl)); simp only [Act.put, gqD, gqE, gqF]
                            refine tkT 11 (v := ?v120) hS (fun wq hSq => ?y120) ?_; (case y120 => have hf0 := cell_new hSq x0; have hf1 := cell_new hSq x1; have hf2 := cell_new hSq d3; have hf3 := cell_new hSq y0; have hf4 := cell_new hSq y1; clear hSq; go_simp; (try with_reducible rfl)); simp only [Act.put, gqD, gqE, gqF]
                            refine tkT 12 (v := ?v121) hS (fun wq hSq => ?y121) ?_; (case y121 => clear hSq; go_simp; (try with_reducible rfl)); simp only [Act.put, gqD, gqE, gqF]
                            refine tkT 13 (v := ?v122) hS (fun wq hSq => ?y122) ?_; (case y122 => clear hSq; go_simp; (try with_reducible rfl)); simp only [Act.put, gqD, gqE, gqF]
                            refine tkT 14 (v := ?v123) hS (fun wq hSq => ?y123) ?_; (case y123 => clear hSq; go_simp; (try with_reducible rfl)); simp only [Act.put, gqD, gqE, gqF]
                            refine tkT 15 (v := ?v124) hS (fun wq hSq => ?y124) ?_; (case y124 => have hf0 := cell_new hSq x0; have hf1 := cell_new hSq x1; have hf2 := cell_new hSq d3; have hf3 := cell_new hSq y0; have hf4 := cell_new hSq y1; clear hSq; go_simp; (try with_reducible rfl)); simp only [Act.put, gqD, gqE, gqF]
                            refine tkT 16 (v := ?v125) hS (fun wq hSq => ?y125) ?_; (case y125 => clear hSq; go_simp; (try with_reducible rfl)); simp only [Act.put, gqD, gqE, gqF]
                            refine tkT 17 (v := ?v126) hS (fun wq hSq => ?y126) ?_; (case y126 => have hf0 := cell_new hSq x0; have hf1 := cell_new hSq x1; have hf2 := cell_new hSq d3; have hf3 := cell_new hSq y0; have hf4 := cell_new hSq y1; clear hSq; go_simp; (try with_reducible rfl)); simp only [Act.put, gqD, gqE, gqF]
                            refine tkT 18 (v := ?v127) hS (fun wq hSq => ?y127) ?_; (case y127 => clear hSq; go_simp; (try with_reducible rfl)); simp only [Act.put, gqD, gqE, gqF]
                            refine tkT 19 (v := ?v128) hS (fun wq hSq => ?y128) ?_; (case y128 => clear hSq; go_simp; (try with_reducible rfl)); simp only [Act.put, gqD, gqE, gqF]
                            refine wpAnyH_done (by kernel_rfl) ?_ _
                            go_wp2
                            go_ret
                            exact ⟨rfl, nB.trans (hnj.trans (New.refl _).drew)⟩
                          · have c2' : (ys.toList == ps.toList) = false := by rw [HE2.out, decide_eq_false h2]
                            have HNE := Lib.hid h2
                            clear h1 h2
                            go_wp2_with (fail)
                            refine wp_region_held_drew (S := (New _)) (by kernel_rfl) ((New.refl _).drew) (fun hS => ?_)
                            refine tkT 0 (v := ?v181) hS (fun wq hSq => ?y181) ?_; (case y181 => clear hSq; go_simp; (try with_reducible rfl)); simp only [Act.put, gqD, gqE, gqF]
                            refine tkT 1 (v := ?v182) hS (fun wq hSq => ?y182) ?_; (case y182 => have hf0 := cell_new hSq x0; have hf1 := cell_new hSq x1; have hf2 := cell_new hSq d3; have hf3 := cell_new hSq y0; have hf4 := cell_new hSq y1; clear hSq; go_simp; (try with_reducible rfl)); simp only [Act.put, gqD, gqE, gqF]
                            refine tkT 2 (v := ?v183) hS (fun wq hSq => ?y183) ?_; (case y183 => clear hSq; go_simp; (try with_reducible rfl)); simp only [Act.put, gqD, gqE, gqF]
                            refine tkT 3 (v := ?v184) hS (fun wq hSq => ?y184) ?_; (case y184 => clear hSq; go_simp; (try with_reducible rfl)); simp only [Act.put, gqD, gqE, gqF]
                            refine tkT 4 (v := ?v185) hS (fun wq hSq => ?y185) ?_; (case y185 => clear hSq; go_simp; (try with_reducible rfl)); simp only [Act.put, gqD, gqE, gqF]
                            refine tkT 5 (v := ?v186) hS (fun wq hSq => ?y186) ?_; (case y186 => have hf0 := cell_new hSq x0; have hf1 := cell_new hSq x1; have hf2 := cell_new hSq d3; have hf3 := cell_new hSq y0; have hf4 := cell_new hSq y1; clear hSq; go_simp; (try with_reducible rfl)); simp only [Act.put, gqD, gqE, gqF]
                            refine tkT 6 (v := ?v187) hS (fun wq hSq => ?y187) ?_; (case y187 => clear hSq; go_simp; (try with_reducible rfl)); simp only [Act.put, gqD, gqE, gqF]
                            refine tkT 7 (v := ?v188) hS (fun wq hSq => ?y188) ?_; (case y188 => have hf0 := cell_new hSq x0; have hf1 := cell_new hSq x1; have hf2 := cell_new hSq d3; have hf3 := cell_new hSq y0; have hf4 := cell_new hSq y1; clear hSq; go_simp; (try with_reducible rfl)); simp only [Act.put, gqD, gqE, gqF]
                            refine tkT 8 (v := ?v189) hS (fun wq hSq => ?y189) ?_; (case y189 => clear hSq; go_simp; (try with_reducible rfl)); simp only [Act.put, gqD, gqE, gqF]
                            refine tkT 9 (v := ?v190) hS (fun wq hSq => ?y190) ?_; (case y190 => clear hSq; go_simp; (try with_reducible rfl)); simp only [Act.put, gqD, gqE, gqF]
                            refine tkT 10 (v := ?v191) hS (fun wq hSq => ?y191) ?_; (case y191 => clear hSq; go_simp; (try with_reducible rfl)); simp only [Act.put, gqD, gqE, gqF]
                            refine tkT 11 (v := ?v192) hS (fun wq hSq => ?y192) ?_; (case y192 => have hf0 := cell_new hSq x0; have hf1 := cell_new hSq x1; have hf2 := cell_new hSq d3; have hf3 := cell_new hSq y0; have hf4 := cell_new hSq y1; clear hSq; go_simp; (try with_reducible rfl)); simp only [Act.put, gqD, gqE, gqF]
                            refine tkT 12 (v := ?v193) hS (fun wq hSq => ?y193) ?_; (case y193 => clear hSq; go_simp; (try with_reducible rfl)); simp only [Act.put, gqD, gqE, gqF]
                            refine tkT 13 (v := ?v194) hS (fun wq hSq => ?y194) ?_; (case y194 => clear hSq; go_simp; (try with_reducible rfl)); simp only [Act.put, gqD, gqE, gqF]
                            refine tkT 14 (v := ?v195) hS (fun wq hSq => ?y195) ?_; (case y195 => clear hSq; go_simp; (try with_reducible rfl)); simp only [Act.put, gqD, gqE, gqF]
                            refine tkT 15 (v := ?v196) hS (fun wq hSq => ?y196) ?_; (case y196 => have hf0 := cell_new hSq x0; have hf1 := cell_new hSq x1; have hf2 := cell_new hSq d3; have hf3 := cell_new hSq y0; have hf4 := cell_new hSq y1; clear hSq; go_simp; (try with_reducible rfl)); simp only [Act.put, gqD, gqE, gqF]
                            refine tkT 16 (v := ?v197) hS (fun wq hSq => ?y197) ?_; (case y197 => clear hSq; go_simp; (try with_reducible rfl)); simp only [Act.put, gqD, gqE, gqF]
                            refine tkT 17 (v := ?v198) hS (fun wq hSq => ?y198) ?_; (case y198 => have hf0 := cell_new hSq x0; have hf1 := cell_new hSq x1; have hf2 := cell_new hSq d3; have hf3 := cell_new hSq y0; have hf4 := cell_new hSq y1; clear hSq; go_simp; (try with_reducible rfl)); simp only [Act.put, gqD, gqE, gqF]
                            refine tkT 18 (v := ?v199) hS (fun wq hSq => ?y199) ?_; (case y199 => clear hSq; go_simp; (try with_reducible rfl)); simp only [Act.put, gqD, gqE, gqF]
                            refine tkT 19 (v := ?v200) hS (fun wq hSq => ?y200) ?_; (case y200 => clear hSq; go_simp; (try with_reducible rfl)); simp only [Act.put, gqD, gqE, gqF]
                            refine wpAnyH_done (by kernel_rfl) ?_ _
                            go_wp2
                            go_roundw
                            case rel => exact ⟨j + 1, by go_num, by omega, hnj.trans (New.refl _).drew, Lib.hid (fun q hq => by
                              rcases HTK.out q hq with h | rfl
                              · exact HNO.out q h
                              · exact fun x => HNE.out x.2)⟩
                            case measure => simp [intOf]; omega
                        · have c1' : (yo.toList == po.toList) = false := by rw [HE1.out, decide_eq_false h1]
                          have HNE := Lib.hid h1
                          clear h1
                          go_wp2_with (fail)
                          refine wp_region_held_drew (S := (New _)) (by kernel_rfl) ((New.refl _).drew) (fun hS => ?_)
                          refine tkT 0 (v := ?v129) hS (fun wq hSq => ?y129) ?_; (case y129 => clear hSq; go_simp; (try with_reducible rfl)); simp only [Act.put, gqD, gqE, gqF]
                          refine tkT 1 (v := ?v130) hS (fun wq hSq => ?y130) ?_; (case y130 => have hf0 := cell_new hSq x0; have hf1 := cell_new hSq x1; have hf2 := cell_new hSq d3; have hf3 := cell_new hSq y0; have hf4 := cell_new hSq y1; clear hSq; go_simp; (try with_reducible rfl)); simp only [Act.put, gqD, gqE, gqF]
                          refine tkT 2 (v := ?v131) hS (fun wq hSq => ?y131) ?_; (case y131 => clear hSq; go_simp; (try with_reducible rfl)); simp only [Act.put, gqD, gqE, gqF]
                          refine tkT 3 (v := ?v132) hS (fun wq hSq => ?y132) ?_; (case y132 => clear hSq; go_simp; (try with_reducible rfl)); simp only [Act.put, gqD, gqE, gqF]
                          refine tkT 4 (v := ?v133) hS (fun wq hSq => ?y133) ?_; (case y133 => clear hSq; go_simp; (try with_reducible rfl)); simp only [Act.put, gqD, gqE, gqF]
                          refine tkT 5 (v := ?v134) hS (fun wq hSq => ?y134) ?_; (case y134 => have hf0 := cell_new hSq x0; have hf1 := cell_new hSq x1; have hf2 := cell_new hSq d3; have hf3 := cell_new hSq y0; have hf4 := cell_new hSq y1; clear hSq; go_simp; (try with_reducible rfl)); simp only [Act.put, gqD, gqE, gqF]
                          refine tkT 6 (v := ?v135) hS (fun wq hSq => ?y135) ?_; (case y135 => clear hSq; go_simp; (try with_reducible rfl)); simp only [Act.put, gqD, gqE, gqF]
                          refine tkT 7 (v := ?v136) hS (fun wq hSq => ?y136) ?_; (case y136 => have hf0 := cell_new hSq x0; have hf1 := cell_new hSq x1; have hf2 := cell_new hSq d3; have hf3 := cell_new hSq y0; have hf4 := cell_new hSq y1; clear hSq; go_simp; (try with_reducible rfl)); simp only [Act.put, gqD, gqE, gqF]
                          refine tkT 8 (v := ?v137) hS (fun wq hSq => ?y137) ?_; (case y137 => clear hSq; go_simp; (try with_reducible rfl)); simp only [Act.put, gqD, gqE, gqF]
                          refine tkT 9 (v := ?v138) hS (fun wq hSq => ?y138) ?_; (case y138 => clear hSq; go_simp; (try with_reducible rfl)); simp only [Act.put, gqD, gqE, gqF]
                          refine tkU 10 hS ?_; simp only [Act.put, gqD, gqE, gqF]
                          refine tkU 11 hS ?_; simp only [Act.put, gqD, gqE, gqF]
                          refine tkU 12 hS ?_; simp only [Act.put, gqD, gqE, gqF]
                          refine tkU 13 hS ?_; simp only [Act.put, gqD, gqE, gqF]
                          refine tkU 14 hS ?_; simp only [Act.put, gqD, gqE, gqF]
                          refine tkU 15 hS ?_; simp only [Act.put, gqD, gqE, gqF]
                          refine tkU 16 hS ?_; simp only [Act.put, gqD, gqE, gqF]
                          refine tkU 17 hS ?_; simp only [Act.put, gqD, gqE, gqF]
                          refine tkU 18 hS ?_; simp only [Act.put, gqD, gqE, gqF]
                          refine tkT 19 (v := ?v148) hS (fun wq hSq => ?y148) ?_; (case y148 => clear hSq; go_simp; (try with_reducible rfl)); simp only [Act.put, gqD, gqE, gqF]
                          refine wpAnyH_done (by kernel_rfl) ?_ _
                          go_wp2
                          go_roundw
                          case rel => exact ⟨j + 1, by go_num, by omega, hnj.trans (New.refl _).drew, Lib.hid (fun q hq => by
                            rcases HTK.out q hq with h | rfl
                            · exact HNO.out q h
                            · exact fun x => HNE.out x.1)⟩
                          case measure => simp [intOf]; omega
                      · obtain rfl : i = j := by omega
                        have HS0 : Hid (seenB (seenT places i) po ps = false) := Lib.hid (by
                          rw [Bool.eq_false_iff]
                          intro q
                          obtain ⟨y, h1, h2⟩ := HSQ.out.1 q
                          exact HNO.out y h1 h2)
                        by_cases hpa : pa = (u4 : Int)
                        · subst hpa
                          have w3 : IntKind.i64.wrap ((u4 : Int) + pz) = (u4 : Int) + pz := IntWalk.i64_in _ (by omega)
                          have e5 : ((u4 : Int) == (u4 : Int)) = true := beq_self_eq_true _
                          have e5' : ((u4 : Int) != (u4 : Int)) = false := by rw [bne, e5]; rfl
                          rw [decide_eq_true rfl, Bool.true_and] at HPO2
                          by_cases hsm : (u4 : Int) + pz ≤ (image.size : Int)
                          · have t5 : decide ((image.size : Int) < (u4 : Int) + pz) = false := decide_eq_false (by omega)
                            rw [decide_eq_true hsm, Bool.true_and] at HPO2
                            have HZ9 := Lib.hid (zero_iff (s := image) (a := e) (b := u4) (by omega))
                            go_wp2_with (fail)
                            refine wp_region_held_drew (S := (New _)) (by kernel_rfl) ((New.refl _).drew) (fun hS => ?_)
                            refine tkT 0 (v := ?v149) hS (fun wq hSq => ?y149) ?_; (case y149 => clear hSq; go_simp; (try with_reducible rfl)); simp only [Act.put, gqD, gqE, gqF]
                            refine tkT 1 (v := ?v150) hS (fun wq hSq => ?y150) ?_; (case y150 => have hf0 := cell_new hSq x3; have hf1 := cell_new hSq x4; have hf2 := cell_new hSq d2; clear hSq; go_simp; (try with_reducible rfl)); simp only [Act.put, gqD, gqE, gqF]
                            refine tkT 2 (v := ?v151) hS (fun wq hSq => ?y151) ?_; (case y151 => clear hSq; go_simp; (try with_reducible rfl)); simp only [Act.put, gqD, gqE, gqF]
                            refine wpAnyH_ready (rs := [3]) (by kernel_rfl) (by simp) ?_
                            refine AllReadyH.cons (o := ?oi152) ?hi152 (fun K hK => ?_) AllReadyH.nil
                            case hi152 => (simp only [gqA, gqB, gqC]; rfl)
                            go_simp
                            refine (HUP.out _).mono ?_
                            rintro e w5 ⟨rfl, rfl⟩
                            refine hK.out _ _ (hS.trans (New.refl _)) (fun hS => ?_)
                            clear hK K
                            refine tkT 4 (v := ?v153) hS (fun wq hSq => ?y153) ?_; (case y153 => clear hSq; go_simp; (try with_reducible rfl)); simp only [Act.put, gqD, gqE, gqF]
                            refine tkT 5 (v := ?v154) hS (fun wq hSq => ?y154) ?_; (case y154 => clear hSq; go_simp; (try with_reducible rfl)); simp only [Act.put, gqD, gqE, gqF]
                            refine tkT 6 (v := ?v155) hS (fun wq hSq => ?y155) ?_; (case y155 => clear hSq; go_simp; (try with_reducible rfl)); simp only [Act.put, gqD, gqE, gqF]
                            refine tkT 7 (v := ?v156) hS (fun wq hSq => ?y156) ?_; (case y156 => have hf0 := cell_new hSq x3; have hf1 := cell_new hSq x4; have hf2 := cell_new hSq d2; clear hSq; go_simp; (try with_reducible rfl)); simp only [Act.put, gqD, gqE, gqF]
                            refine tkT 8 (v := ?v157) hS (fun wq hSq => ?y157) ?_; (case y157 => clear hSq; go_simp; (try with_reducible rfl)); simp only [Act.put, gqD, gqE, gqF]
                            refine tkT 9 (v := ?v158) hS (fun wq hSq => ?y158) ?_; (case y158 => have hf0 := cell_new hSq x3; have hf1 := cell_new hSq x4; have hf2 := cell_new hSq d2; clear hSq; go_simp; (try with_reducible rfl)); simp only [Act.put, gqD, gqE, gqF]
                            refine tkT 10 (v := ?v159) hS (fun wq hSq => ?y159) ?_; (case y159 => clear hSq; go_simp; (try with_reducible rfl)); simp only [Act.put, gqD, gqE, gqF]
                            refine tkT 11 (v := ?v160) hS (fun wq hSq => ?y160) ?_; (case y160 => clear hSq; go_simp; (try with_reducible rfl)); simp only [Act.put, gqD, gqE, gqF]
                            refine tkT 12 (v := ?v161) hS (fun wq hSq => ?y161) ?_; (case y161 => have hf0 := cell_new hSq x3; have hf1 := cell_new hSq x4; have hf2 := cell_new hSq d2; clear hSq; go_simp; (try with_reducible rfl)); simp only [Act.put, gqD, gqE, gqF]
                            refine tkT 13 (v := ?v162) hS (fun wq hSq => ?y162) ?_; (case y162 => clear hSq; go_simp; (try with_reducible rfl)); simp only [Act.put, gqD, gqE, gqF]
                            refine tkT 14 (v := ?v163) hS (fun wq hSq => ?y163) ?_; (case y163 => clear hSq; go_simp; (try with_reducible rfl)); simp only [Act.put, gqD, gqE, gqF]
                            refine tkT 15 (v := ?v164) hS (fun wq hSq => ?y164) ?_; (case y164 => clear hSq; go_simp; (try with_reducible rfl)); simp only [Act.put, gqD, gqE, gqF]
                            refine wpAnyH_done (by kernel_rfl) ?_ _
                            have nU : New w2 wj.drew := hnj.trans (New.refl _).drew
                            go_wp2
                            go_loopw [7] (fun v7 wr => ∃ k : Nat, v7 = .int .i64 k ∧ e ≤ k ∧ k ≤ u4 ∧ New w2 wr ∧ Hid (∀ j (hj : j < image.size), e ≤ j → j < k → image[j] = 0)) (fun v7 _ => u4 - (intOf v7).toNat)
                            case atStart => exact ⟨e, rfl, by omega, by omega, nU, Lib.hid (fun j hj h1 h2 => absurd h1 (by omega))⟩
                            case round =>
                              clear x0 x1 x3 x4 d3 d2 hnj nU
                              obtain ⟨k, rfl, hke, hku, hnk, HZR⟩ := hrel
                              have x3 := (BP2.new hnk).cell' 3 _ rfl
                              have x4 := (BP2.new hnk).cell' 4 _ rfl
                              have d2 := (BB2.new hnk).cell' 2 _ rfl
                              by_cases hlt3 : k < u4
                              · have hks : k < image.size := by omega
                                have k0 : (0 : Int) ≤ (k : Int) := by omega
                                have k1 : (k : Int) < (image.size : Int) := by omega
                                by_cases hc : (image[k].toNat : Int) = 0
                                · have e6 : ((image[k].toNat : Int) == 0) = true := beq_iff_eq.2 hc
                                  have e6' : ((image[k].toNat : Int) != 0) = false := by rw [bne, e6]; rfl
                                  have HC0 : Hid (image[k] = 0) := Lib.hid (UInt8.toNat_inj.1 (by have : (0 : UInt8).toNat = 0 := rfl; omega))
                                  clear hc
                                  go_wp2
                                  go_roundw
                                  case rel => exact ⟨k + 1, by go_num, by omega, by omega, hnk, Lib.hid (fun j hj h1 h2 => by
                                    by_cases h : j = k
                                    · subst h; exact HC0.out
                                    · exact HZR.out j hj h1 (by omega))⟩
                                  case measure => simp [intOf]; omega
                                · have e6 : ((image[k].toNat : Int) == 0) = false := beq_eq_false_iff_ne.2 hc
                                  have e6' : ((image[k].toNat : Int) != 0) = true := by rw [bne, e6]; rfl
                                  have hRf := HBad.out (by
                                    rw [HPO2.out, Bool.eq_false_iff]
                                    intro q
                                    have := HZ9.out.1 q k hks (by omega) hlt3
                                    rw [this] at hc
                                    exact hc rfl)
                                  subst hRf
                                  clear hc
                                  go_wp2
                                  go_ret
                                  exact ⟨rfl, nB.trans hnk⟩
                              · obtain rfl : k = u4 := by omega
                                have HF := Lib.hid (HG2.out HS0.out (by rw [HPO2.out]; exact HZ9.out.2 HZR.out))
                                obtain ⟨zn, rfl⟩ : ∃ zn : Nat, pz = (zn : Int) := ⟨pz.toNat, by omega⟩
                                go_wp2
                                go_roundw
                                case rel => exact ⟨i + 1, k + zn, by go_num, by go_num, by omega, by omega, nB.trans hnk, BB2.new hnk, Lib.hid (by rw [HSN.out, HF.out, Int.toNat_natCast])⟩
                                case measure => simp [intOf]; omega
                          · have t5 : decide ((image.size : Int) < (u4 : Int) + pz) = true := decide_eq_true (by omega)
                            have hRf := HBad.out (by rw [HPO2.out, decide_eq_false hsm]; rfl)
                            subst hRf
                            go_wp2_with (fail)
                            refine wp_region_held_drew (S := (New _)) (by kernel_rfl) ((New.refl _).drew) (fun hS => ?_)
                            refine tkT 0 (v := ?v201) hS (fun wq hSq => ?y201) ?_; (case y201 => clear hSq; go_simp; (try with_reducible rfl)); simp only [Act.put, gqD, gqE, gqF]
                            refine tkT 1 (v := ?v202) hS (fun wq hSq => ?y202) ?_; (case y202 => have hf0 := cell_new hSq x3; have hf1 := cell_new hSq x4; have hf2 := cell_new hSq d2; clear hSq; go_simp; (try with_reducible rfl)); simp only [Act.put, gqD, gqE, gqF]
                            refine tkT 2 (v := ?v203) hS (fun wq hSq => ?y203) ?_; (case y203 => clear hSq; go_simp; (try with_reducible rfl)); simp only [Act.put, gqD, gqE, gqF]
                            refine wpAnyH_ready (rs := [3]) (by kernel_rfl) (by simp) ?_
                            refine AllReadyH.cons (o := ?oi204) ?hi204 (fun K hK => ?_) AllReadyH.nil
                            case hi204 => (simp only [gqA, gqB, gqC]; rfl)
                            go_simp
                            refine (HUP.out _).mono ?_
                            rintro e w5 ⟨rfl, rfl⟩
                            refine hK.out _ _ (hS.trans (New.refl _)) (fun hS => ?_)
                            clear hK K
                            refine tkT 4 (v := ?v205) hS (fun wq hSq => ?y205) ?_; (case y205 => clear hSq; go_simp; (try with_reducible rfl)); simp only [Act.put, gqD, gqE, gqF]
                            refine tkT 5 (v := ?v206) hS (fun wq hSq => ?y206) ?_; (case y206 => clear hSq; go_simp; (try with_reducible rfl)); simp only [Act.put, gqD, gqE, gqF]
                            refine tkT 6 (v := ?v207) hS (fun wq hSq => ?y207) ?_; (case y207 => clear hSq; go_simp; (try with_reducible rfl)); simp only [Act.put, gqD, gqE, gqF]
                            refine tkT 7 (v := ?v208) hS (fun wq hSq => ?y208) ?_; (case y208 => have hf0 := cell_new hSq x3; have hf1 := cell_new hSq x4; have hf2 := cell_new hSq d2; clear hSq; go_simp; (try with_reducible rfl)); simp only [Act.put, gqD, gqE, gqF]
                            refine tkT 8 (v := ?v209) hS (fun wq hSq => ?y209) ?_; (case y209 => clear hSq; go_simp; (try with_reducible rfl)); simp only [Act.put, gqD, gqE, gqF]
                            refine tkT 9 (v := ?v210) hS (fun wq hSq => ?y210) ?_; (case y210 => have hf0 := cell_new hSq x3; have hf1 := cell_new hSq x4; have hf2 := cell_new hSq d2; clear hSq; go_simp; (try with_reducible rfl)); simp only [Act.put, gqD, gqE, gqF]
                            refine tkT 10 (v := ?v211) hS (fun wq hSq => ?y211) ?_; (case y211 => clear hSq; go_simp; (try with_reducible rfl)); simp only [Act.put, gqD, gqE, gqF]
                            refine tkT 11 (v := ?v212) hS (fun wq hSq => ?y212) ?_; (case y212 => clear hSq; go_simp; (try with_reducible rfl)); simp only [Act.put, gqD, gqE, gqF]
                            refine tkT 12 (v := ?v213) hS (fun wq hSq => ?y213) ?_; (case y213 => have hf0 := cell_new hSq x3; have hf1 := cell_new hSq x4; have hf2 := cell_new hSq d2; clear hSq; go_simp; (try with_reducible rfl)); simp only [Act.put, gqD, gqE, gqF]
                            refine tkT 13 (v := ?v214) hS (fun wq hSq => ?y214) ?_; (case y214 => clear hSq; go_simp; (try with_reducible rfl)); simp only [Act.put, gqD, gqE, gqF]
                            refine tkT 14 (v := ?v215) hS (fun wq hSq => ?y215) ?_; (case y215 => clear hSq; go_simp; (try with_reducible rfl)); simp only [Act.put, gqD, gqE, gqF]
                            refine tkT 15 (v := ?v216) hS (fun wq hSq => ?y216) ?_; (case y216 => clear hSq; go_simp; (try with_reducible rfl)); simp only [Act.put, gqD, gqE, gqF]
                            refine wpAnyH_done (by kernel_rfl) ?_ _
                            go_wp2
                            go_ret
                            exact ⟨rfl, nB.trans (hnj.trans (New.refl _).drew)⟩
                        · have e5 : (pa == (u4 : Int)) = false := beq_eq_false_iff_ne.2 hpa
                          have e5' : (pa != (u4 : Int)) = true := by rw [bne, e5]; rfl
                          have hRf := HBad.out (by rw [HPO2.out, decide_eq_false hpa]; rfl)
                          subst hRf
                          clear hpa
                          go_wp2_with (fail)
                          refine wp_region_held_drew (S := (New _)) (by kernel_rfl) ((New.refl _).drew) (fun hS => ?_)
                          refine tkT 0 (v := ?v165) hS (fun wq hSq => ?y165) ?_; (case y165 => clear hSq; go_simp; (try with_reducible rfl)); simp only [Act.put, gqD, gqE, gqF]
                          refine tkT 1 (v := ?v166) hS (fun wq hSq => ?y166) ?_; (case y166 => have hf0 := cell_new hSq x3; have hf1 := cell_new hSq x4; have hf2 := cell_new hSq d2; clear hSq; go_simp; (try with_reducible rfl)); simp only [Act.put, gqD, gqE, gqF]
                          refine tkT 2 (v := ?v167) hS (fun wq hSq => ?y167) ?_; (case y167 => clear hSq; go_simp; (try with_reducible rfl)); simp only [Act.put, gqD, gqE, gqF]
                          refine wpAnyH_ready (rs := [3]) (by kernel_rfl) (by simp) ?_
                          refine AllReadyH.cons (o := ?oi168) ?hi168 (fun K hK => ?_) AllReadyH.nil
                          case hi168 => (simp only [gqA, gqB, gqC]; rfl)
                          go_simp
                          refine (HUP.out _).mono ?_
                          rintro e w5 ⟨rfl, rfl⟩
                          refine hK.out _ _ (hS.trans (New.refl _)) (fun hS => ?_)
                          clear hK K
                          refine tkT 4 (v := ?v169) hS (fun wq hSq => ?y169) ?_; (case y169 => clear hSq; go_simp; (try with_reducible rfl)); simp only [Act.put, gqD, gqE, gqF]
                          refine tkT 5 (v := ?v170) hS (fun wq hSq => ?y170) ?_; (case y170 => clear hSq; go_simp; (try with_reducible rfl)); simp only [Act.put, gqD, gqE, gqF]
                          refine tkU 6 hS ?_; simp only [Act.put, gqD, gqE, gqF]
                          refine tkU 7 hS ?_; simp only [Act.put, gqD, gqE, gqF]
                          refine tkU 8 hS ?_; simp only [Act.put, gqD, gqE, gqF]
                          refine tkU 9 hS ?_; simp only [Act.put, gqD, gqE, gqF]
                          refine tkU 10 hS ?_; simp only [Act.put, gqD, gqE, gqF]
                          refine tkU 11 hS ?_; simp only [Act.put, gqD, gqE, gqF]
                          refine tkU 12 hS ?_; simp only [Act.put, gqD, gqE, gqF]
                          refine tkU 13 hS ?_; simp only [Act.put, gqD, gqE, gqF]
                          refine tkU 14 hS ?_; simp only [Act.put, gqD, gqE, gqF]
                          refine tkT 15 (v := ?v180) hS (fun wq hSq => ?y180) ?_; (case y180 => clear hSq; go_simp; (try with_reducible rfl)); simp only [Act.put, gqD, gqE, gqF]
                          refine wpAnyH_done (by kernel_rfl) ?_ _
                          go_wp2
                          go_ret
                          exact ⟨rfl, nB.trans (hnj.trans (New.refl _).drew)⟩
                  · have hk : kindOK ⟨po, ps, 2, pa, pz⟩ = false := by rw [HKO.out]; simp; omega
                    have hRf := HBad.out (by rw [HPO.out, hk]; rfl)
                    have e3 : (pz % 4 == 0) = false := beq_eq_false_iff_ne.2 k3
                    have e3' : (pz % 4 != 0) = true := by rw [bne, e3]; rfl
                    subst hRf
                    clear hk
                    go_wp2_with (first | (go_at_call 50; (with_reducible refine (HA2.out _).mono ?_); rintro e w2 ⟨rfl, n2⟩; have f2 := (BP.new (n1.trans n2)).cell' 2 _ rfl; have f4 := (BP.new (n1.trans n2)).cell' 4 _ rfl) | (go_at_call 73; (with_reducible refine (HA1.out _).mono ?_); rintro e w1 ⟨rfl, n1⟩; have f1 := (BP.new n1).cell' 1 _ rfl))
                    go_ret
                    exact ⟨rfl, ((hnr.trans nA).trans n1).trans n2⟩
                · have e2 : (pk == 2) = false := beq_eq_false_iff_ne.2 k2
                  have e2' : (pk != 2) = true := by rw [bne, e2]; rfl
                  have hk : kindOK ⟨po, ps, pk, pa, pz⟩ = false := by rw [HKO.out, e1, e2]; rfl
                  have hRf := HBad.out (by rw [HPO.out, hk]; rfl)
                  subst hRf
                  clear hk
                  go_wp2_with (first | (go_at_call 50; (with_reducible refine (HA2.out _).mono ?_); rintro e w2 ⟨rfl, n2⟩; have f2 := (BP.new (n1.trans n2)).cell' 2 _ rfl; have f4 := (BP.new (n1.trans n2)).cell' 4 _ rfl) | (go_at_call 73; (with_reducible refine (HA1.out _).mono ?_); rintro e w1 ⟨rfl, n1⟩; have f1 := (BP.new n1).cell' 1 _ rfl))
                  go_ret
                  exact ⟨rfl, ((hnr.trans nA).trans n1).trans n2⟩
            · have hRf := HBad.out (by
                rw [HPO.out, HKO.out, Bool.eq_false_iff]
                intro q
                simp only [Bool.and_eq_true, Bool.or_eq_true, decide_eq_true_eq] at q
                have q1 := q.1.1.1.1
                have q2 := q.1.1.1.2
                rcases q1 with ⟨_, q1⟩ | ⟨⟨_, q1⟩, _⟩ <;> omega)
              subst hRf
              by_cases s1 : pz < 0
              · go_wp2_with (first | (go_at_call 50; (with_reducible refine (HA2.out _).mono ?_); rintro e w2 ⟨rfl, n2⟩; have f2 := (BP.new (n1.trans n2)).cell' 2 _ rfl; have f4 := (BP.new (n1.trans n2)).cell' 4 _ rfl) | (go_at_call 73; (with_reducible refine (HA1.out _).mono ?_); rintro e w1 ⟨rfl, n1⟩; have f1 := (BP.new n1).cell' 1 _ rfl))
                go_ret
                exact ⟨rfl, ((hnr.trans nA).trans n1).trans n2⟩
              · have s2 : (8192 : Int) < pz := by omega
                go_wp2_with (first | (go_at_call 50; (with_reducible refine (HA2.out _).mono ?_); rintro e w2 ⟨rfl, n2⟩; have f2 := (BP.new (n1.trans n2)).cell' 2 _ rfl; have f4 := (BP.new (n1.trans n2)).cell' 4 _ rfl) | (go_at_call 73; (with_reducible refine (HA1.out _).mono ?_); rintro e w1 ⟨rfl, n1⟩; have f1 := (BP.new n1).cell' 1 _ rfl))
                go_ret
                exact ⟨rfl, ((hnr.trans nA).trans n1).trans n2⟩
      · obtain rfl : n = i := by omega
        have hgo := HGo.out
        rw [List.drop_of_length_le (by rw [HN.out]; exact Nat.le_refl _), placedGo] at hgo
        have b2' := BR.cell' 2 _ rfl
        by_cases he : e = image.size
        · have hRt : R = true := by rw [← HRR.out, ← hgo, he]; simp
          subst hRt
          clear hgo
          have e9 : ((e : Int) == (image.size : Int)) = true := by rw [he]; simp
          go_wp2
          go_ret
          exact ⟨rfl, hnr⟩
        · have hRf : R = false := by
            rw [← HRR.out, ← hgo]
            exact decide_eq_false (fun q => he (Option.some.inj q))
          subst hRf
          clear hgo
          have e9 : ((e : Int) == (image.size : Int)) = false := by rw [beq_eq_false_iff_ne]; omega
          go_wp2
          go_ret
          exact ⟨rfl, hnr⟩
  · have hRf : (decide (1 ≤ n) && decide (n ≤ 128) && decide (image.size ≤ 65536) && decide (placedGo image places 0 [] = some image.size)) = false := by
      have : (decide (1 ≤ n) && decide (n ≤ 128) && decide (image.size ≤ 65536)) = false := by
        rw [Bool.eq_false_iff]
        simp only [ne_eq, Bool.and_eq_true, decide_eq_true_eq]
        omega
      rw [this, Bool.false_and]
    rw [hRf]
    clear hRf
    by_cases t1 : (n : Int) < 1
    · go_enter Tryz.func48, Tryz.ntmps48
      go_wp2
      go_ret
      exact ⟨rfl, hn1⟩
    · by_cases t2 : (128 : Int) < (n : Int)
      · go_enter Tryz.func48, Tryz.ntmps48
        go_wp2
        go_ret
        exact ⟨rfl, hn1⟩
      · have t3 : (65536 : Int) < (image.size : Int) := by omega
        go_enter Tryz.func48, Tryz.ntmps48
        go_wp2
        go_ret
        exact ⟨rfl, hn1⟩
end Go.Proofs.YtnjampfhkojbnaaGreatDoor

namespace Go.Proofs.YtnjampfhkojbnaaGreatDoor
open Go Go.RowKit Go.Joins
set_option linter.unusedSimpArgs false
set_option linter.unusedVariables false

def LastOK (T : List Int) (last : Int) : Prop := (T = [] ∧ last = -4) ∨ ((∃ r, T = last :: r) ∧ (∀ f ∈ T, f ≤ last) ∧ 0 ≤ last ∧ last ≤ 65536)
theorem LastOK.bd {T : List Int} {last : Int} (h : LastOK T last) : -4 ≤ last ∧ last ≤ 65536 := by
  rcases h with ⟨_, h⟩ | ⟨_, _, h1, h2⟩ <;> omega
theorem last_take {b : Bn} (hP : PlOK b) {T : List Int} {last a : Int} (h : LastOK T last) :
    (ltHead T a && takeV b.places T a) = (decide (last + 4 ≤ a) && withinV b.places a) := by
  unfold takeV
  cases hw : withinV b.places a
  · simp
  · obtain ⟨b1, b2⟩ := within_bd hP hw
    rw [Bool.true_and, Bool.and_true]
    rcases h with ⟨rfl, rfl⟩ | ⟨⟨r, rfl⟩, h1, h2, h3⟩
    · rw [decide_eq_true (by omega : (-4 : Int) + 4 ≤ a)]; rfl
    · show (decide (last < a) && !clash (last :: r) a) = _
      by_cases hc : last + 4 ≤ a
      · have : clash (last :: r) a = false := by
          unfold clash
          rw [List.any_eq_false]
          intro f hf
          have := h1 f hf
          rw [decide_eq_false (by omega : ¬ a < f + 4), Bool.and_false]
          decide
        rw [this, decide_eq_true hc, decide_eq_true (by omega : last < a)]; rfl
      · rw [decide_eq_false hc]
        by_cases hl : last < a
        · have : clash (last :: r) a = true := by
            unfold clash
            rw [List.any_eq_true]
            exact ⟨last, List.mem_cons_self, by rw [decide_eq_true (by omega : last < a + 4), decide_eq_true (by omega : a < last + 4)]; rfl⟩
          rw [this]; simp
        · rw [decide_eq_false hl]; rfl
theorem last_next {b : Bn} (hP : PlOK b) {T : List Int} {last a : Int} (h : LastOK T last) (h1 : last + 4 ≤ a) (hw : withinV b.places a = true) : LastOK (a :: T) a := by
  obtain ⟨b1, b2⟩ := within_bd hP hw
  have := hP.le
  refine Or.inr ⟨⟨T, rfl⟩, fun f hf => ?_, b1, by omega⟩
  rcases List.mem_cons.1 hf with rfl | hf
  · omega
  · rcases h with ⟨rfl, _⟩ | ⟨_, h2, _⟩
    · cases hf
    · have := h2 f hf; omega
theorem clash_app (P F : List Int) (a : Int) : clash (P ++ F) a = (clash P a || clash F a) := by unfold clash; rw [List.any_append]
theorem clash_rev (F : List Int) (a : Int) : clash F.reverse a = clash F a := by unfold clash; rw [List.any_reverse]
theorem imp_ref {b : Bn} (hP : PlOK b) {P F : List Int} {last : Int} {x : ImD} (h : LastOK P last) :
    impOK b.places b.image P F.reverse x = (decide (last + 4 ≤ x.pos) && withinV b.places x.pos && decide (wordV b.image x.pos.toNat = 0) && pathOK x.lib && nameV x.sym && !clash F x.pos) := by
  have ht := last_take hP (a := x.pos) h
  unfold impOK
  unfold takeV at ht ⊢
  rw [clash_app, clash_rev]
  rw [← Bool.and_assoc] at ht
  rw [← ht]
  cases ltHead P x.pos <;> cases withinV b.places x.pos <;> cases clash P x.pos <;> cases clash F x.pos <;> cases decide (wordV b.image x.pos.toNat = 0) <;> cases pathOK x.lib <;> cases nameV x.sym <;> rfl
theorem begP_starts (ps : List PlD) (a : Int) : ps.any (begP a ⟨#[]⟩) = startsV ps a := by
  unfold startsV
  congr 1
  funext p
  unfold begP posV
  rw [decide_eq_true (by rfl : (⟨#[]⟩ : ByteArray).size = 0), Bool.true_or, Bool.and_true]
set_option maxRecDepth 100000 in
set_option maxHeartbeats 8000000 in
theorem rwords_any (b : Bn) (h : BH) (w : World) (hP : PlOK b) (hr : BRd w b h) (hl1 : b.fix.length ≤ 1000000) (hl2 : b.imps.length ≤ 1000000) (hz1 : ∀ a ∈ b.fix, W64 a) (hz2 : SzI b.imps) :
    Calls Tryz.prog 49 #[.agg (bcells b h)] w fun e w' => e = .returned (.bool (wordsV b)) ∧ New w w' := by
  have HWI := Lib.hid (fun a W (hn : New w W) => rwithin_any b h a W hP (hr.new hn))
  have HBG := Lib.hid (fun a W (hn : New w W) => rbegins_any b h a ⟨#[]⟩ W (by have := hP.len; omega) (hr.new hn))
  have HBd := Lib.hid (fun a (hw : withinV b.places a = true) => within_bd hP hw)
  have HLT := Lib.hid (fun T last a (hh : LastOK T last) => last_take hP (a := a) hh)
  have HLN := Lib.hid (fun T last a (hh : LastOK T last) (h1 : last + 4 ≤ a) (hw : withinV b.places a = true) => last_next hP hh h1 hw)
  have HIR := Lib.hid (fun P F last x (hh : LastOK P last) => imp_ref hP (F := F) (x := x) hh)
  have hle := hP.le
  have hR2 := hr.r2
  have hR3 := hr.r3
  obtain ⟨kind, entry, image, places, fix, imps, exps, notes⟩ := b
  obtain ⟨a1, c1, a2, c2, a3, c3, a4, c4, a5, c5⟩ := h
  simp only [bcells] at HWI HBG HBd HLT HLN HIR hle hl1 hl2 hz1 hz2 hR2 hR3 ⊢
  have HZ1 := Lib.hid hz1
  have HZ2 := Lib.hid hz2
  have HST := Lib.hid (begP_starts places)
  obtain ⟨n1, hn1⟩ : ∃ n, places.length = n := ⟨_, rfl⟩
  obtain ⟨n, hn⟩ : ∃ n, fix.length = n := ⟨_, rfl⟩
  obtain ⟨n3, hn3⟩ : ∃ n, imps.length = n := ⟨_, rfl⟩
  rw [hn] at hR2 hl1
  rw [hn3] at hR3 hl2
  have HN := Lib.hid hn
  have HN3 := Lib.hid hn3
  have HR2 := Lib.hid hR2
  have HR3 := Lib.hid hR3
  rw [hn1, hn, hn3] at HWI HBG ⊢
  generalize exps.length = n4 at *
  generalize notes.length = n5 at *
  have hv : wordsV ⟨kind, entry, image, places, fix, imps, exps, notes⟩ = (fixGo places image fix [] && impGo places image fix.reverse imps []) := rfl
  rw [hv]
  obtain ⟨R, hR9⟩ : ∃ R, (fixGo places image fix [] && impGo places image fix.reverse imps []) = R := ⟨_, rfl⟩
  rw [hR9]
  have HRR := Lib.hid hR9
  have B1 := Blk.made w 28 #[.int .i64 kind, .int .i64 entry, .string image, .slice a1 n1 c1, .slice a2 n c2, .slice a3 n3 c3, .slice a4 n4 c4, .slice a5 n5 c5]
  have hw1 := (New.refl w).alloc (.cells #[.int .i64 kind, .int .i64 entry, .string image, .slice a1 n1 c1, .slice a2 n c2, .slice a3 n3 c3, .slice a4 n4 c4, .slice a5 n5 c5] 28)
  clear hv hr hz1 hz2 hR2 hR3 hn1 hn hn3 hP hR9
  go_enter Tryz.func49, Tryz.ntmps49
  go_wp2
  go_loopw [3, 13] (fun v3 v13 wr => ∃ (i : Nat) (last : Int), v13 = .int .i64 i ∧ v3 = .int .i64 last ∧ i ≤ n ∧ New w wr ∧ Blk wr w.heap.size 28 #[.int .i64 kind, .int .i64 entry, .string image, .slice a1 n1 c1, .slice a2 n c2, .slice a3 n3 c3, .slice a4 n4 c4, .slice a5 n5 c5] ∧ Hid (LastOK (fix.take i).reverse last) ∧ Hid (fixGo places image fix [] = fixGo places image (fix.drop i) (fix.take i).reverse)) (fun _ v13 _ => n - (intOf v13).toNat)
  case atStart => exact ⟨0, -4, rfl, rfl, by omega, hw1, B1, Lib.hid (Or.inl ⟨rfl, rfl⟩), Lib.hid rfl⟩
  case round =>
    clear B1 hw1
    obtain ⟨i, last, rfl, rfl, hi9, hnr, BR, HLO, HGo⟩ := hrel
    obtain ⟨b1, b2⟩ := HLO.out.bd
    by_cases hlt : i < n
    · have hil : i < fix.length := by rw [HN.out]; exact hlt
      obtain ⟨bk, o, rfl, hbk, hcell⟩ := (HR2.out.below hnr).2 (by omega)
      obtain ⟨a, hx⟩ : ∃ x, fix[i]? = some x := ⟨_, List.getElem?_eq_getElem hil⟩
      have q0 := hcell i (.int .i64 a) (by rw [flat_one, hx]; rfl)
      have HG2 := Lib.hid (fixGo_at (ps := places) (img := image) (T := (fix.take i).reverse) hx)
      have HRV := Lib.hid (rev_take hx)
      have ha := HZ1.out a (List.mem_of_getElem? hx)
      have HFX : Hid (fixOK places image (fix.take i).reverse a = (decide (last + 4 ≤ a) && withinV places a && startsV places (wordV image a.toNat))) := Lib.hid (by
        have := HLT.out _ last a HLO.out
        unfold fixOK
        rw [this])
      have HBad : Hid (fixOK places image (fix.take i).reverse a = false → R = false) := Lib.hid (fun q => by rw [← HRR.out, HGo.out, HG2.out, q]; rfl)
      have HI := Lib.hid (HWI.out a)
      have d0 := BR.cell' 0 _ rfl
      have d1 := BR.cell' 1 _ rfl
      have d2 := BR.cell' 2 _ rfl
      have d3 := BR.cell' 3 _ rfl
      have d4 := BR.cell' 4 _ rfl
      have d5 := BR.cell' 5 _ rfl
      have d6 := BR.cell' 6 _ rfl
      have d7 := BR.cell' 7 _ rfl
      have i0 : (0 : Int) ≤ (i : Int) := by omega
      have i1 : (i : Int) < (n : Int) := by omega
      have wl : IntKind.i64.wrap (last + 4) = last + 4 := IntWalk.i64_in _ (by omega)
      clear hcell hx hil
      by_cases hla : last + 4 ≤ a
      · have t1 : decide (a < last + 4) = false := decide_eq_false (by omega)
        rw [decide_eq_true hla, Bool.true_and] at HFX
        obtain ⟨wi, hwi⟩ : ∃ x, withinV places a = x := ⟨_, rfl⟩
        rw [hwi] at HI HFX
        cases wi
        · have hRf := HBad.out (by rw [HFX.out]; rfl)
          subst hRf
          clear hwi
          go_wp2_with (fail)
          refine wp_region_held_drew (S := (New _)) (by kernel_rfl) ((New.refl _).drew) (fun hS => ?_)
          refine tkT 0 (v := ?v21) hS (fun wq hSq => ?y21) ?_; (case y21 => clear hSq; go_simp; (try with_reducible rfl)); simp only [Act.put, gqD, gqE, gqF]
          refine tkT 1 (v := ?v22) hS (fun wq hSq => ?y22) ?_; (case y22 => clear hSq; go_simp; (try with_reducible rfl)); simp only [Act.put, gqD, gqE, gqF]
          refine tkT 2 (v := ?v23) hS (fun wq hSq => ?y23) ?_; (case y23 => clear hSq; go_simp; (try with_reducible rfl)); simp only [Act.put, gqD, gqE, gqF]
          refine tkT 3 (v := ?v24) hS (fun wq hSq => ?y24) ?_; (case y24 => clear hSq; go_simp; (try with_reducible rfl)); simp only [Act.put, gqD, gqE, gqF]
          refine tkT 4 (v := ?v25) hS (fun wq hSq => ?y25) ?_; (case y25 => clear hSq; go_simp; (try with_reducible rfl)); simp only [Act.put, gqD, gqE, gqF]
          refine tkT 5 (v := ?v26) hS (fun wq hSq => ?y26) ?_; (case y26 => have hf0 := cell_new hSq d0; have hf1 := cell_new hSq d1; have hf2 := cell_new hSq d2; have hf3 := cell_new hSq d3; have hf4 := cell_new hSq d4; have hf5 := cell_new hSq d5; have hf6 := cell_new hSq d6; have hf7 := cell_new hSq d7; clear hSq; go_simp; (try with_reducible rfl)); simp only [Act.put, gqD, gqE, gqF]
          refine tkT 6 (v := ?v27) hS (fun wq hSq => ?y27) ?_; (case y27 => clear hSq; go_simp; (try with_reducible rfl)); simp only [Act.put, gqD, gqE, gqF]
          refine wpAnyH_ready (rs := [7]) (by kernel_rfl) (by simp) ?_
          refine AllReadyH.cons (o := ?oi28) ?hi28 (fun K hK => ?_) AllReadyH.nil
          case hi28 => (simp only [gqA, gqB, gqC]; rfl)
          go_simp
          with_reducible refine (HI.out _ ((New.trans hnr (New.refl _).drew))).mono ?_
          rintro e w2 ⟨rfl, hn2⟩
          refine hK.out _ _ (hS.trans hn2) (fun hS => ?_)
          clear hK K
          refine tkT 8 (v := ?v29) hS (fun wq hSq => ?y29) ?_; (case y29 => clear hSq; go_simp; (try with_reducible rfl)); simp only [Act.put, gqD, gqE, gqF]
          refine tkT 9 (v := ?v30) hS (fun wq hSq => ?y30) ?_; (case y30 => clear hSq; go_simp; (try with_reducible rfl)); simp only [Act.put, gqD, gqE, gqF]
          refine tkT 10 (v := ?v31) hS (fun wq hSq => ?y31) ?_; (case y31 => clear hSq; go_simp; (try with_reducible rfl)); simp only [Act.put, gqD, gqE, gqF]
          refine tkU 11 hS ?_; simp only [Act.put, gqD, gqE, gqF]
          refine tkU 12 hS ?_; simp only [Act.put, gqD, gqE, gqF]
          refine tkU 13 hS ?_; simp only [Act.put, gqD, gqE, gqF]
          refine tkU 14 hS ?_; simp only [Act.put, gqD, gqE, gqF]
          refine tkU 15 hS ?_; simp only [Act.put, gqD, gqE, gqF]
          refine tkU 16 hS ?_; simp only [Act.put, gqD, gqE, gqF]
          refine tkU 17 hS ?_; simp only [Act.put, gqD, gqE, gqF]
          refine tkU 18 hS ?_; simp only [Act.put, gqD, gqE, gqF]
          refine tkT 19 (v := ?v40) hS (fun wq hSq => ?y40) ?_; (case y40 => clear hSq; go_simp; (try with_reducible rfl)); simp only [Act.put, gqD, gqE, gqF]
          refine wpAnyH_done (by kernel_rfl) ?_ _
          go_wp2
          go_ret
          exact ⟨rfl, New.trans (New.trans hnr (New.refl _).drew) hn2⟩
        · have HWT := Lib.hid hwi
          obtain ⟨b3, b4⟩ := HBd.out a hwi
          obtain ⟨an, rfl⟩ : ∃ an : Nat, a = (an : Int) := ⟨a.toNat, by omega⟩
          rw [Int.toNat_natCast, Bool.true_and] at HFX
          have HW := Lib.hid (fun W => rword_any image an W (by omega) (by omega))
          have HB0 := Lib.hid (HBG.out (wordV image an))
          have hwr : 0 ≤ wordV image an ∧ wordV image an < 4294967296 := by
            unfold wordV
            have h0 := byN_lt image an
            have h1 := byN_lt image (an + 1)
            have h2 := byN_lt image (an + 2)
            have h3 := byN_lt image (an + 3)
            omega
          have HS9 := Lib.hid (HST.out (wordV image an))
          rw [← HS9.out] at HFX
          clear hwi HS9
          generalize wordV image an = wv at *
          obtain ⟨hwr1, hwr2⟩ := hwr
          have wwv : IntKind.i64.wrap wv = wv := IntWalk.i64_in _ (by omega)
          have HB := Lib.hid HB0.out
          clear HB0
          obtain ⟨st, hst⟩ : ∃ st, places.any (begP wv ⟨#[]⟩) = st := ⟨_, rfl⟩
          rw [hst] at HB HFX
          clear hst
          cases st
          · have hRf := HBad.out HFX.out
            subst hRf
            go_wp2_with (fail)
            refine wp_region_held_drew (S := (New _)) (by kernel_rfl) ((New.refl _).drew) (fun hS => ?_)
            refine tkT 0 (v := ?v41) hS (fun wq hSq => ?y41) ?_; (case y41 => clear hSq; go_simp; (try with_reducible rfl)); simp only [Act.put, gqD, gqE, gqF]
            refine tkT 1 (v := ?v42) hS (fun wq hSq => ?y42) ?_; (case y42 => clear hSq; go_simp; (try with_reducible rfl)); simp only [Act.put, gqD, gqE, gqF]
            refine tkT 2 (v := ?v43) hS (fun wq hSq => ?y43) ?_; (case y43 => clear hSq; go_simp; (try with_reducible rfl)); simp only [Act.put, gqD, gqE, gqF]
            refine tkT 3 (v := ?v44) hS (fun wq hSq => ?y44) ?_; (case y44 => clear hSq; go_simp; (try with_reducible rfl)); simp only [Act.put, gqD, gqE, gqF]
            refine tkT 4 (v := ?v45) hS (fun wq hSq => ?y45) ?_; (case y45 => clear hSq; go_simp; (try with_reducible rfl)); simp only [Act.put, gqD, gqE, gqF]
            refine tkT 5 (v := ?v46) hS (fun wq hSq => ?y46) ?_; (case y46 => have hf0 := cell_new hSq d0; have hf1 := cell_new hSq d1; have hf2 := cell_new hSq d2; have hf3 := cell_new hSq d3; have hf4 := cell_new hSq d4; have hf5 := cell_new hSq d5; have hf6 := cell_new hSq d6; have hf7 := cell_new hSq d7; clear hSq; go_simp; (try with_reducible rfl)); simp only [Act.put, gqD, gqE, gqF]
            refine tkT 6 (v := ?v47) hS (fun wq hSq => ?y47) ?_; (case y47 => clear hSq; go_simp; (try with_reducible rfl)); simp only [Act.put, gqD, gqE, gqF]
            refine wpAnyH_ready (rs := [7]) (by kernel_rfl) (by simp) ?_
            refine AllReadyH.cons (o := ?oi48) ?hi48 (fun K hK => ?_) AllReadyH.nil
            case hi48 => (simp only [gqA, gqB, gqC]; rfl)
            go_simp
            with_reducible refine (HI.out _ ((New.trans hnr (New.refl _).drew))).mono ?_
            rintro e w2 ⟨rfl, hn2⟩
            refine hK.out _ _ (hS.trans hn2) (fun hS => ?_)
            clear hK K
            refine tkT 8 (v := ?v49) hS (fun wq hSq => ?y49) ?_; (case y49 => clear hSq; go_simp; (try with_reducible rfl)); simp only [Act.put, gqD, gqE, gqF]
            refine tkT 9 (v := ?v50) hS (fun wq hSq => ?y50) ?_; (case y50 => clear hSq; go_simp; (try with_reducible rfl)); simp only [Act.put, gqD, gqE, gqF]
            refine tkT 10 (v := ?v51) hS (fun wq hSq => ?y51) ?_; (case y51 => clear hSq; go_simp; (try with_reducible rfl)); simp only [Act.put, gqD, gqE, gqF]
            refine tkT 11 (v := ?v52) hS (fun wq hSq => ?y52) ?_; (case y52 => have hf0 := cell_new hSq d0; have hf1 := cell_new hSq d1; have hf2 := cell_new hSq d2; have hf3 := cell_new hSq d3; have hf4 := cell_new hSq d4; have hf5 := cell_new hSq d5; have hf6 := cell_new hSq d6; have hf7 := cell_new hSq d7; clear hSq; go_simp; (try with_reducible rfl)); simp only [Act.put, gqD, gqE, gqF]
            refine tkT 12 (v := ?v53) hS (fun wq hSq => ?y53) ?_; (case y53 => clear hSq; go_simp; (try with_reducible rfl)); simp only [Act.put, gqD, gqE, gqF]
            refine tkT 13 (v := ?v54) hS (fun wq hSq => ?y54) ?_; (case y54 => have hf0 := cell_new hSq d0; have hf1 := cell_new hSq d1; have hf2 := cell_new hSq d2; have hf3 := cell_new hSq d3; have hf4 := cell_new hSq d4; have hf5 := cell_new hSq d5; have hf6 := cell_new hSq d6; have hf7 := cell_new hSq d7; clear hSq; go_simp; (try with_reducible rfl)); simp only [Act.put, gqD, gqE, gqF]
            refine tkT 14 (v := ?v55) hS (fun wq hSq => ?y55) ?_; (case y55 => clear hSq; go_simp; (try with_reducible rfl)); simp only [Act.put, gqD, gqE, gqF]
            refine wpAnyH_ready (rs := [15]) (by kernel_rfl) (by simp) ?_
            refine AllReadyH.cons (o := ?oi56) ?hi56 (fun K hK => ?_) AllReadyH.nil
            case hi56 => (simp only [gqA, gqB, gqC]; rfl)
            go_simp
            with_reducible refine (HW.out _).mono ?_
            rintro e w3 ⟨rfl, hn3⟩
            refine hK.out _ _ (hS.trans hn3) (fun hS => ?_)
            clear hK K
            refine tkT 16 (v := ?v57) hS (fun wq hSq => ?y57) ?_; (case y57 => clear hSq; go_simp; (try with_reducible rfl)); simp only [Act.put, gqD, gqE, gqF]
            refine wpAnyH_ready (rs := [17]) (by kernel_rfl) (by simp) ?_
            refine AllReadyH.cons (o := ?oi58) ?hi58 (fun K hK => ?_) AllReadyH.nil
            case hi58 => (simp only [gqA, gqB, gqC]; rfl)
            go_simp
            with_reducible refine (HB.out _ (New.trans (New.trans (New.trans hnr (New.refl _).drew) hn2) hn3)).mono ?_
            rintro e w4 ⟨rfl, hn4⟩
            refine hK.out _ _ (hS.trans hn4) (fun hS => ?_)
            clear hK K
            refine tkT 18 (v := ?v59) hS (fun wq hSq => ?y59) ?_; (case y59 => clear hSq; go_simp; (try with_reducible rfl)); simp only [Act.put, gqD, gqE, gqF]
            refine tkT 19 (v := ?v60) hS (fun wq hSq => ?y60) ?_; (case y60 => clear hSq; go_simp; (try with_reducible rfl)); simp only [Act.put, gqD, gqE, gqF]
            refine wpAnyH_done (by kernel_rfl) ?_ _
            go_wp2
            go_ret
            exact ⟨rfl, New.trans (New.trans (New.trans (New.trans hnr (New.refl _).drew) hn2) hn3) hn4⟩
          · have HLN2 := Lib.hid (HLN.out _ last (an : Int) HLO.out hla HWT.out)
            go_wp2_with (fail)
            refine wp_region_held_drew (S := (New _)) (by kernel_rfl) ((New.refl _).drew) (fun hS => ?_)
            refine tkT 0 (v := ?v61) hS (fun wq hSq => ?y61) ?_; (case y61 => clear hSq; go_simp; (try with_reducible rfl)); simp only [Act.put, gqD, gqE, gqF]
            refine tkT 1 (v := ?v62) hS (fun wq hSq => ?y62) ?_; (case y62 => clear hSq; go_simp; (try with_reducible rfl)); simp only [Act.put, gqD, gqE, gqF]
            refine tkT 2 (v := ?v63) hS (fun wq hSq => ?y63) ?_; (case y63 => clear hSq; go_simp; (try with_reducible rfl)); simp only [Act.put, gqD, gqE, gqF]
            refine tkT 3 (v := ?v64) hS (fun wq hSq => ?y64) ?_; (case y64 => clear hSq; go_simp; (try with_reducible rfl)); simp only [Act.put, gqD, gqE, gqF]
            refine tkT 4 (v := ?v65) hS (fun wq hSq => ?y65) ?_; (case y65 => clear hSq; go_simp; (try with_reducible rfl)); simp only [Act.put, gqD, gqE, gqF]
            refine tkT 5 (v := ?v66) hS (fun wq hSq => ?y66) ?_; (case y66 => have hf0 := cell_new hSq d0; have hf1 := cell_new hSq d1; have hf2 := cell_new hSq d2; have hf3 := cell_new hSq d3; have hf4 := cell_new hSq d4; have hf5 := cell_new hSq d5; have hf6 := cell_new hSq d6; have hf7 := cell_new hSq d7; clear hSq; go_simp; (try with_reducible rfl)); simp only [Act.put, gqD, gqE, gqF]
            refine tkT 6 (v := ?v67) hS (fun wq hSq => ?y67) ?_; (case y67 => clear hSq; go_simp; (try with_reducible rfl)); simp only [Act.put, gqD, gqE, gqF]
            refine wpAnyH_ready (rs := [7]) (by kernel_rfl) (by simp) ?_
            refine AllReadyH.cons (o := ?oi68) ?hi68 (fun K hK => ?_) AllReadyH.nil
            case hi68 => (simp only [gqA, gqB, gqC]; rfl)
            go_simp
            with_reducible refine (HI.out _ ((New.trans hnr (New.refl _).drew))).mono ?_
            rintro e w2 ⟨rfl, hn2⟩
            refine hK.out _ _ (hS.trans hn2) (fun hS => ?_)
            clear hK K
            refine tkT 8 (v := ?v69) hS (fun wq hSq => ?y69) ?_; (case y69 => clear hSq; go_simp; (try with_reducible rfl)); simp only [Act.put, gqD, gqE, gqF]
            refine tkT 9 (v := ?v70) hS (fun wq hSq => ?y70) ?_; (case y70 => clear hSq; go_simp; (try with_reducible rfl)); simp only [Act.put, gqD, gqE, gqF]
            refine tkT 10 (v := ?v71) hS (fun wq hSq => ?y71) ?_; (case y71 => clear hSq; go_simp; (try with_reducible rfl)); simp only [Act.put, gqD, gqE, gqF]
            refine tkT 11 (v := ?v72) hS (fun wq hSq => ?y72) ?_; (case y72 => have hf0 := cell_new hSq d0; have hf1 := cell_new hSq d1; have hf2 := cell_new hSq d2; have hf3 := cell_new hSq d3; have hf4 := cell_new hSq d4; have hf5 := cell_new hSq d5; have hf6 := cell_new hSq d6; have hf7 := cell_new hSq d7; clear hSq; go_simp; (try with_reducible rfl)); simp only [Act.put, gqD, gqE, gqF]
            refine tkT 12 (v := ?v73) hS (fun wq hSq => ?y73) ?_; (case y73 => clear hSq; go_simp; (try with_reducible rfl)); simp only [Act.put, gqD, gqE, gqF]
            refine tkT 13 (v := ?v74) hS (fun wq hSq => ?y74) ?_; (case y74 => have hf0 := cell_new hSq d0; have hf1 := cell_new hSq d1; have hf2 := cell_new hSq d2; have hf3 := cell_new hSq d3; have hf4 := cell_new hSq d4; have hf5 := cell_new hSq d5; have hf6 := cell_new hSq d6; have hf7 := cell_new hSq d7; clear hSq; go_simp; (try with_reducible rfl)); simp only [Act.put, gqD, gqE, gqF]
            refine tkT 14 (v := ?v75) hS (fun wq hSq => ?y75) ?_; (case y75 => clear hSq; go_simp; (try with_reducible rfl)); simp only [Act.put, gqD, gqE, gqF]
            refine wpAnyH_ready (rs := [15]) (by kernel_rfl) (by simp) ?_
            refine AllReadyH.cons (o := ?oi76) ?hi76 (fun K hK => ?_) AllReadyH.nil
            case hi76 => (simp only [gqA, gqB, gqC]; rfl)
            go_simp
            with_reducible refine (HW.out _).mono ?_
            rintro e w3 ⟨rfl, hn3⟩
            refine hK.out _ _ (hS.trans hn3) (fun hS => ?_)
            clear hK K
            refine tkT 16 (v := ?v77) hS (fun wq hSq => ?y77) ?_; (case y77 => clear hSq; go_simp; (try with_reducible rfl)); simp only [Act.put, gqD, gqE, gqF]
            refine wpAnyH_ready (rs := [17]) (by kernel_rfl) (by simp) ?_
            refine AllReadyH.cons (o := ?oi78) ?hi78 (fun K hK => ?_) AllReadyH.nil
            case hi78 => (simp only [gqA, gqB, gqC]; rfl)
            go_simp
            with_reducible refine (HB.out _ (New.trans (New.trans (New.trans hnr (New.refl _).drew) hn2) hn3)).mono ?_
            rintro e w4 ⟨rfl, hn4⟩
            refine hK.out _ _ (hS.trans hn4) (fun hS => ?_)
            clear hK K
            refine tkT 18 (v := ?v79) hS (fun wq hSq => ?y79) ?_; (case y79 => clear hSq; go_simp; (try with_reducible rfl)); simp only [Act.put, gqD, gqE, gqF]
            refine tkT 19 (v := ?v80) hS (fun wq hSq => ?y80) ?_; (case y80 => clear hSq; go_simp; (try with_reducible rfl)); simp only [Act.put, gqD, gqE, gqF]
            refine wpAnyH_done (by kernel_rfl) ?_ _
            have hN : New wr w4 := New.trans (New.trans (New.refl _).drew hn2) (New.trans hn3 hn4)
            go_wp2
            go_roundw
            case rel => exact ⟨i + 1, (an : Int), by go_num, rfl, by omega, New.trans hnr hN, BR.new hN, Lib.hid (by rw [HRV.out]; exact HLN2.out), Lib.hid (by rw [HRV.out, HGo.out, HG2.out, HFX.out, Bool.true_and])⟩
            case measure => simp [intOf]; omega
      · have t1 : decide (a < last + 4) = true := decide_eq_true (by omega)
        have hRf := HBad.out (by rw [HFX.out, decide_eq_false hla]; rfl)
        subst hRf
        go_wp2_with (fail)
        refine wp_region_held_drew (S := (New _)) (by kernel_rfl) ((New.refl _).drew) (fun hS => ?_)
        refine tkT 0 (v := ?v1) hS (fun wq hSq => ?y1) ?_; (case y1 => clear hSq; go_simp; (try with_reducible rfl)); simp only [Act.put, gqD, gqE, gqF]
        refine tkT 1 (v := ?v2) hS (fun wq hSq => ?y2) ?_; (case y2 => clear hSq; go_simp; (try with_reducible rfl)); simp only [Act.put, gqD, gqE, gqF]
        refine tkT 2 (v := ?v3) hS (fun wq hSq => ?y3) ?_; (case y3 => clear hSq; go_simp; (try with_reducible rfl)); simp only [Act.put, gqD, gqE, gqF]
        refine tkT 3 (v := ?v4) hS (fun wq hSq => ?y4) ?_; (case y4 => clear hSq; go_simp; (try with_reducible rfl)); simp only [Act.put, gqD, gqE, gqF]
        refine tkT 4 (v := ?v5) hS (fun wq hSq => ?y5) ?_; (case y5 => clear hSq; go_simp; (try with_reducible rfl)); simp only [Act.put, gqD, gqE, gqF]
        refine tkU 5 hS ?_; simp only [Act.put, gqD, gqE, gqF]
        refine tkU 6 hS ?_; simp only [Act.put, gqD, gqE, gqF]
        refine tkU 7 hS ?_; simp only [Act.put, gqD, gqE, gqF]
        refine tkU 8 hS ?_; simp only [Act.put, gqD, gqE, gqF]
        refine tkT 9 (v := ?v10) hS (fun wq hSq => ?y10) ?_; (case y10 => clear hSq; go_simp; (try with_reducible rfl)); simp only [Act.put, gqD, gqE, gqF]
        refine tkT 10 (v := ?v11) hS (fun wq hSq => ?y11) ?_; (case y11 => clear hSq; go_simp; (try with_reducible rfl)); simp only [Act.put, gqD, gqE, gqF]
        refine tkU 11 hS ?_; simp only [Act.put, gqD, gqE, gqF]
        refine tkU 12 hS ?_; simp only [Act.put, gqD, gqE, gqF]
        refine tkU 13 hS ?_; simp only [Act.put, gqD, gqE, gqF]
        refine tkU 14 hS ?_; simp only [Act.put, gqD, gqE, gqF]
        refine tkU 15 hS ?_; simp only [Act.put, gqD, gqE, gqF]
        refine tkU 16 hS ?_; simp only [Act.put, gqD, gqE, gqF]
        refine tkU 17 hS ?_; simp only [Act.put, gqD, gqE, gqF]
        refine tkU 18 hS ?_; simp only [Act.put, gqD, gqE, gqF]
        refine tkT 19 (v := ?v20) hS (fun wq hSq => ?y20) ?_; (case y20 => clear hSq; go_simp; (try with_reducible rfl)); simp only [Act.put, gqD, gqE, gqF]
        refine wpAnyH_done (by kernel_rfl) ?_ _
        go_wp2
        go_ret
        exact ⟨rfl, New.trans hnr (New.refl _).drew⟩
    · obtain rfl : n = i := by omega
      have HG3 : Hid (fixGo places image fix [] = true) := Lib.hid (by rw [HGo.out, List.drop_of_length_le (by rw [HN.out]; exact Nat.le_refl _), fixGo])
      have HRR2 : Hid (impGo places image fix.reverse imps [] = R) := Lib.hid (by have := HRR.out; rwa [HG3.out, Bool.true_and] at this)
      obtain ⟨wo, rfl⟩ : ∃ wo : World, wo = wr := ⟨_, rfl⟩
      have g5 := BR.cell' 5 _ rfl
      clear HRR HG3 hi9 hlt HGo HLO b1 b2
      go_wp2
      go_loopw [3, 42] (fun v3 v42 wr => ∃ (i : Nat) (last : Int), v42 = .int .i64 i ∧ v3 = .int .i64 last ∧ i ≤ n3 ∧ New w wr ∧ Blk wr w.heap.size 28 #[.int .i64 kind, .int .i64 entry, .string image, .slice a1 n1 c1, .slice a2 n c2, .slice a3 n3 c3, .slice a4 n4 c4, .slice a5 n5 c5] ∧ Hid (LastOK (posR imps i) last) ∧ Hid (impGo places image fix.reverse imps [] = impGo places image fix.reverse (imps.drop i) (posR imps i))) (fun _ v42 _ => n3 - (intOf v42).toNat)
      case atStart => exact ⟨0, -4, rfl, rfl, by omega, hnr, BR, Lib.hid (Or.inl ⟨rfl, rfl⟩), Lib.hid rfl⟩
      case round =>
        clear g5 BR hnr
        obtain ⟨i, last, rfl, rfl, hi9, hnr, BR, HLO, HGo⟩ := hrel
        obtain ⟨b1, b2⟩ := HLO.out.bd
        obtain ⟨wp, rfl⟩ : ∃ wp : World, wp = wr := ⟨_, rfl⟩
        by_cases hlt : i < n3
        · obtain ⟨bk, o, rfl, hbk, x, hx, hcell⟩ := rd_row (f := imC) (k := 3) (fun _ => rfl) HN3.out (HR3.out.below hnr) hlt
          obtain ⟨z1, z2, z3⟩ := HZ2.out x (List.mem_of_getElem? hx)
          have HG2 := Lib.hid (impGo_at (ps := places) (img := image) (F := fix.reverse) (P := posR imps i) hx)
          have HRV := Lib.hid (posR_succ hx)
          have HIX := Lib.hid (HIR.out (posR imps i) fix last x HLO.out)
          obtain ⟨xl, xs, xp⟩ := x
          simp only at z1 z2 z3 HRV HIX
          have q0 := hcell 0 (.string xl) (by omega) rfl
          have q1 := hcell 1 (.string xs) (by omega) rfl
          have q2 := hcell 2 (.int .i64 xp) (by omega) rfl
          simp only [Nat.add_zero] at q0
          rw [← Nat.add_assoc] at q1 q2
          have BX := Blk.made wp 85 #[.string xl, .string xs, .int .i64 xp]
          have hnX := New.alloc hnr (.cells #[.string xl, .string xs, .int .i64 xp] 85)
          have BB := BR.alloc (.cells #[.string xl, .string xs, .int .i64 xp] 85)
          have HBad : Hid (impOK places image (posR imps i) fix.reverse ⟨xl, xs, xp⟩ = false → R = false) := Lib.hid (fun q => by rw [← HRR2.out, HGo.out, HG2.out, q]; rfl)
          have HI := Lib.hid (HWI.out xp)
          have HPa := Lib.hid (fun w => rpath_any xl w)
          have HNa := Lib.hid (fun w => rname_any xs w)
          have hpe : pathE xl = (if pathOK xl = true then 0 else 2) := rfl
          rw [hpe] at HPa
          have d0 := BB.cell' 0 _ rfl
          have d1 := BB.cell' 1 _ rfl
          have d2 := BB.cell' 2 _ rfl
          have d3 := BB.cell' 3 _ rfl
          have d4 := BB.cell' 4 _ rfl
          have d5 := BB.cell' 5 _ rfl
          have d6 := BB.cell' 6 _ rfl
          have d7 := BB.cell' 7 _ rfl
          have i0 : (0 : Int) ≤ (i : Int) := by omega
          have i1 : (i : Int) < (n3 : Int) := by omega
          have wl : IntKind.i64.wrap (last + 4) = last + 4 := IntWalk.i64_in _ (by omega)
          clear hcell hx hpe
          by_cases hla : last + 4 ≤ xp
          · have t1 : ¬ xp < last + 4 := by omega
            rw [decide_eq_true hla, Bool.true_and] at HIX
            obtain ⟨wi, hwi⟩ : ∃ x, withinV places xp = x := ⟨_, rfl⟩
            rw [hwi] at HI HIX
            cases wi
            · have hRf := HBad.out (by rw [HIX.out]; rfl)
              subst hRf
              clear hwi
              go_wp2_with (first | (go_at_call 50; (with_reducible refine (HNa.out _).mono ?_); rintro e w5 ⟨rfl, hn5⟩; have hg4 := (BB.new (New.trans (New.trans hn2 hn3) (New.trans hn4 hn5))).cell' 4 _ rfl) | (go_at_call 56; (with_reducible refine (HPa.out _).mono ?_); rintro e w4 ⟨rfl, hn4⟩; have k0c := (BX.new (New.trans (New.trans hn2 hn3) hn4)).cell' 0 _ rfl; have k1c := (BX.new (New.trans (New.trans hn2 hn3) hn4)).cell' 1 _ rfl; have k2c := (BX.new (New.trans (New.trans hn2 hn3) hn4)).cell' 2 _ rfl; have h2c := (BB.new (New.trans (New.trans hn2 hn3) hn4)).cell' 2 _ rfl) | (go_at_call 57; (with_reducible refine (HW.out _).mono ?_); rintro e w3 ⟨rfl, hn3⟩; have k0b := (BX.new (New.trans hn2 hn3)).cell' 0 _ rfl; have k1b := (BX.new (New.trans hn2 hn3)).cell' 1 _ rfl; have k2b := (BX.new (New.trans hn2 hn3)).cell' 2 _ rfl; have h2b := (BB.new (New.trans hn2 hn3)).cell' 2 _ rfl) | (go_at_call 75; (with_reducible refine (HI.out _ hnX).mono ?_); rintro e w2 ⟨rfl, hn2⟩; have k0a := (BX.new hn2).cell' 0 _ rfl; have k1a := (BX.new hn2).cell' 1 _ rfl; have k2a := (BX.new hn2).cell' 2 _ rfl; have h2a := (BB.new hn2).cell' 2 _ rfl))
              go_ret
              exact ⟨rfl, New.trans hnX hn2⟩
            · have HWT := Lib.hid hwi
              obtain ⟨b3, b4⟩ := HBd.out xp hwi
              obtain ⟨xn, rfl⟩ : ∃ xn : Nat, xp = (xn : Int) := ⟨xp.toNat, by omega⟩
              rw [Int.toNat_natCast, Bool.true_and] at HIX
              have HW := Lib.hid (fun W => rword_any image xn W (by omega) (by omega))
              clear hwi
              generalize wordV image xn = wv at *
              by_cases hw0 : wv = 0
              · subst hw0
                rw [decide_eq_true rfl, Bool.true_and] at HIX
                generalize pathOK xl = pk at *
                cases pk
                · have hRf := HBad.out (by rw [HIX.out]; rfl)
                  subst hRf
                  simp only [Bool.false_eq_true, if_false] at HPa
                  go_wp2_with (first | (go_at_call 50; (with_reducible refine (HNa.out _).mono ?_); rintro e w5 ⟨rfl, hn5⟩; have hg4 := (BB.new (New.trans (New.trans hn2 hn3) (New.trans hn4 hn5))).cell' 4 _ rfl) | (go_at_call 56; (with_reducible refine (HPa.out _).mono ?_); rintro e w4 ⟨rfl, hn4⟩; have k0c := (BX.new (New.trans (New.trans hn2 hn3) hn4)).cell' 0 _ rfl; have k1c := (BX.new (New.trans (New.trans hn2 hn3) hn4)).cell' 1 _ rfl; have k2c := (BX.new (New.trans (New.trans hn2 hn3) hn4)).cell' 2 _ rfl; have h2c := (BB.new (New.trans (New.trans hn2 hn3) hn4)).cell' 2 _ rfl) | (go_at_call 57; (with_reducible refine (HW.out _).mono ?_); rintro e w3 ⟨rfl, hn3⟩; have k0b := (BX.new (New.trans hn2 hn3)).cell' 0 _ rfl; have k1b := (BX.new (New.trans hn2 hn3)).cell' 1 _ rfl; have k2b := (BX.new (New.trans hn2 hn3)).cell' 2 _ rfl; have h2b := (BB.new (New.trans hn2 hn3)).cell' 2 _ rfl) | (go_at_call 75; (with_reducible refine (HI.out _ hnX).mono ?_); rintro e w2 ⟨rfl, hn2⟩; have k0a := (BX.new hn2).cell' 0 _ rfl; have k1a := (BX.new hn2).cell' 1 _ rfl; have k2a := (BX.new hn2).cell' 2 _ rfl; have h2a := (BB.new hn2).cell' 2 _ rfl))
                  go_ret
                  exact ⟨rfl, New.trans (New.trans (New.trans hnX hn2) hn3) hn4⟩
                · rw [Bool.true_and] at HIX
                  simp only [if_true] at HPa
                  generalize nameV xs = nk at *
                  cases nk
                  · have hRf := HBad.out (by rw [HIX.out]; rfl)
                    subst hRf
                    go_wp2_with (first | (go_at_call 50; (with_reducible refine (HNa.out _).mono ?_); rintro e w5 ⟨rfl, hn5⟩; have hg4 := (BB.new (New.trans (New.trans hn2 hn3) (New.trans hn4 hn5))).cell' 4 _ rfl) | (go_at_call 56; (with_reducible refine (HPa.out _).mono ?_); rintro e w4 ⟨rfl, hn4⟩; have k0c := (BX.new (New.trans (New.trans hn2 hn3) hn4)).cell' 0 _ rfl; have k1c := (BX.new (New.trans (New.trans hn2 hn3) hn4)).cell' 1 _ rfl; have k2c := (BX.new (New.trans (New.trans hn2 hn3) hn4)).cell' 2 _ rfl; have h2c := (BB.new (New.trans (New.trans hn2 hn3) hn4)).cell' 2 _ rfl) | (go_at_call 57; (with_reducible refine (HW.out _).mono ?_); rintro e w3 ⟨rfl, hn3⟩; have k0b := (BX.new (New.trans hn2 hn3)).cell' 0 _ rfl; have k1b := (BX.new (New.trans hn2 hn3)).cell' 1 _ rfl; have k2b := (BX.new (New.trans hn2 hn3)).cell' 2 _ rfl; have h2b := (BB.new (New.trans hn2 hn3)).cell' 2 _ rfl) | (go_at_call 75; (with_reducible refine (HI.out _ hnX).mono ?_); rintro e w2 ⟨rfl, hn2⟩; have k0a := (BX.new hn2).cell' 0 _ rfl; have k1a := (BX.new hn2).cell' 1 _ rfl; have k2a := (BX.new hn2).cell' 2 _ rfl; have h2a := (BB.new hn2).cell' 2 _ rfl))
                    go_ret
                    exact ⟨rfl, New.trans (New.trans (New.trans (New.trans hnX hn2) hn3) hn4) hn5⟩
                  · rw [Bool.true_and] at HIX
                    have HLN2 := Lib.hid (HLN.out _ last (xn : Int) HLO.out hla HWT.out)
                    go_wp2_with (first | (go_at_call 50; (with_reducible refine (HNa.out _).mono ?_); rintro e w5 ⟨rfl, hn5⟩; have hg4 := (BB.new (New.trans (New.trans hn2 hn3) (New.trans hn4 hn5))).cell' 4 _ rfl) | (go_at_call 56; (with_reducible refine (HPa.out _).mono ?_); rintro e w4 ⟨rfl, hn4⟩; have k0c := (BX.new (New.trans (New.trans hn2 hn3) hn4)).cell' 0 _ rfl; have k1c := (BX.new (New.trans (New.trans hn2 hn3) hn4)).cell' 1 _ rfl; have k2c := (BX.new (New.trans (New.trans hn2 hn3) hn4)).cell' 2 _ rfl; have h2c := (BB.new (New.trans (New.trans hn2 hn3) hn4)).cell' 2 _ rfl) | (go_at_call 57; (with_reducible refine (HW.out _).mono ?_); rintro e w3 ⟨rfl, hn3⟩; have k0b := (BX.new (New.trans hn2 hn3)).cell' 0 _ rfl; have k1b := (BX.new (New.trans hn2 hn3)).cell' 1 _ rfl; have k2b := (BX.new (New.trans hn2 hn3)).cell' 2 _ rfl; have h2b := (BB.new (New.trans hn2 hn3)).cell' 2 _ rfl) | (go_at_call 75; (with_reducible refine (HI.out _ hnX).mono ?_); rintro e w2 ⟨rfl, hn2⟩; have k0a := (BX.new hn2).cell' 0 _ rfl; have k1a := (BX.new hn2).cell' 1 _ rfl; have k2a := (BX.new hn2).cell' 2 _ rfl; have h2a := (BB.new hn2).cell' 2 _ rfl))
                    have hN5 : New wp w5 := New.trans (New.trans (New.alloc (New.refl wp) _) hn2) (New.trans (New.trans hn3 hn4) hn5)
                    have BB5 := BR.new hN5
                    have BX5 := BX.new (New.trans (New.trans hn2 hn3) (New.trans hn4 hn5))
                    have g4 := BB5.cell' 4 _ rfl
                    have x2 := BX5.cell' 2 _ rfl
                    clear BX BB HW HI HPa HNa
                    go_loop [81] (fun v81 => ∃ j : Nat, v81 = .int .i64 j ∧ j ≤ n ∧ Hid (∀ f ∈ fix.take j, ¬ (f < (xn : Int) + 4 ∧ (xn : Int) < f + 4))) (fun v81 => n - (intOf v81).toNat)
                    case atStart => exact ⟨0, rfl, by omega, Lib.hid (by simp)⟩
                    case round =>
                      obtain ⟨j, rfl, hj9, HNO⟩ := hrel
                      by_cases hlj : j < n
                      · have hil : j < fix.length := by rw [HN.out]; exact hlj
                        obtain ⟨bf, fo, rfl, hbf, hcf⟩ := (HR2.out.below (New.trans hnr hN5)).2 (by omega)
                        obtain ⟨f, hf⟩ : ∃ x, fix[j]? = some x := ⟨_, List.getElem?_eq_getElem hil⟩
                        have f0 := hcf j (.int .i64 f) (by rw [flat_one, hf]; rfl)
                        have hwf := HZ1.out f (List.mem_of_getElem? hf)
                        have HFM := Lib.hid (List.mem_of_getElem? hf)
                        have HTK : Hid (∀ q ∈ fix.take (j + 1), q ∈ fix.take j ∨ q = f) := Lib.hid (fun q hq => by
                          obtain ⟨hi, he⟩ := List.getElem?_eq_some_iff.1 hf
                          rw [List.take_succ_eq_append_getElem hi, List.mem_append, he] at hq
                          simpa using hq)
                        have j0 : (0 : Int) ≤ (j : Int) := by omega
                        have j1 : (j : Int) < (n : Int) := by omega
                        clear hcf hf hil
                        by_cases h1 : (xn : Int) - 4 < f
                        · by_cases h2 : f < (xn : Int) + 4
                          · have hRf := HBad.out (by
                              rw [HIX.out]
                              have : clash fix (xn : Int) = true := by
                                unfold clash; rw [List.any_eq_true]
                                exact ⟨f, HFM.out, by rw [decide_eq_true h2, decide_eq_true (by omega)]; rfl⟩
                              rw [this]; rfl)
                            subst hRf
                            go_wp2
                            go_ret
                            exact ⟨rfl, New.trans hnr hN5⟩
                          · have HNE : Hid (¬ (f < (xn : Int) + 4 ∧ (xn : Int) < f + 4)) := Lib.hid (fun x => h2 x.1)
                            go_wp2
                            go_round
                            case rel => exact ⟨j + 1, by go_num, by omega, Lib.hid (fun q hq => by
                              rcases HTK.out q hq with h | rfl
                              · exact HNO.out q h
                              · exact HNE.out)⟩
                            case measure => simp [intOf]; omega
                        · have HNE : Hid (¬ (f < (xn : Int) + 4 ∧ (xn : Int) < f + 4)) := Lib.hid (fun x => by omega)
                          go_wp2
                          go_round
                          case rel => exact ⟨j + 1, by go_num, by omega, Lib.hid (fun q hq => by
                            rcases HTK.out q hq with h | rfl
                            · exact HNO.out q h
                            · exact HNE.out)⟩
                          case measure => simp [intOf]; omega
                      · obtain rfl : n = j := by omega
                        have HNC : Hid (clash fix (xn : Int) = false) := Lib.hid (by
                          unfold clash
                          rw [List.any_eq_false]
                          intro f hf
                          have := HNO.out f (by rw [List.take_of_length_le (by rw [HN.out]; exact Nat.le_refl _)]; exact hf)
                          simpa using this)
                        have HIX2 : Hid (impOK places image (posR imps i) fix.reverse ⟨xl, xs, (xn : Int)⟩ = true) := Lib.hid (by rw [HIX.out, HNC.out]; rfl)
                        go_wp2
                        go_roundw
                        case rel => exact ⟨i + 1, (xn : Int), by go_num, rfl, by omega, New.trans hnr hN5, BB5, Lib.hid (by rw [HRV.out]; exact HLN2.out), Lib.hid (by rw [HRV.out, HGo.out, HG2.out, HIX2.out, Bool.true_and])⟩
                        case measure => simp [intOf]; omega
              · have hw1 : (wv == 0) = false := beq_eq_false_iff_ne.2 hw0
                have hw2 : (wv != 0) = true := by rw [bne, hw1]; rfl
                have hRf := HBad.out (by rw [HIX.out, decide_eq_false hw0]; rfl)
                subst hRf
                clear hw0
                go_wp2_with (first | (go_at_call 50; (with_reducible refine (HNa.out _).mono ?_); rintro e w5 ⟨rfl, hn5⟩; have hg4 := (BB.new (New.trans (New.trans hn2 hn3) (New.trans hn4 hn5))).cell' 4 _ rfl) | (go_at_call 56; (with_reducible refine (HPa.out _).mono ?_); rintro e w4 ⟨rfl, hn4⟩; have k0c := (BX.new (New.trans (New.trans hn2 hn3) hn4)).cell' 0 _ rfl; have k1c := (BX.new (New.trans (New.trans hn2 hn3) hn4)).cell' 1 _ rfl; have k2c := (BX.new (New.trans (New.trans hn2 hn3) hn4)).cell' 2 _ rfl; have h2c := (BB.new (New.trans (New.trans hn2 hn3) hn4)).cell' 2 _ rfl) | (go_at_call 57; (with_reducible refine (HW.out _).mono ?_); rintro e w3 ⟨rfl, hn3⟩; have k0b := (BX.new (New.trans hn2 hn3)).cell' 0 _ rfl; have k1b := (BX.new (New.trans hn2 hn3)).cell' 1 _ rfl; have k2b := (BX.new (New.trans hn2 hn3)).cell' 2 _ rfl; have h2b := (BB.new (New.trans hn2 hn3)).cell' 2 _ rfl) | (go_at_call 75; (with_reducible refine (HI.out _ hnX).mono ?_); rintro e w2 ⟨rfl, hn2⟩; have k0a := (BX.new hn2).cell' 0 _ rfl; have k1a := (BX.new hn2).cell' 1 _ rfl; have k2a := (BX.new hn2).cell' 2 _ rfl; have h2a := (BB.new hn2).cell' 2 _ rfl))
                go_ret
                exact ⟨rfl, New.trans (New.trans hnX hn2) hn3⟩
          · have t1 : xp < last + 4 := by omega
            have hRf := HBad.out (by rw [HIX.out, decide_eq_false hla]; rfl)
            subst hRf
            go_wp2
            go_ret
            exact ⟨rfl, hnX⟩
        · obtain rfl : n3 = i := by omega
          have HG3 : Hid (R = true) := Lib.hid (by rw [← HRR2.out, HGo.out, List.drop_of_length_le (by rw [HN3.out]; exact Nat.le_refl _), impGo])
          have hRt := HG3.out
          subst hRt
          go_wp2
          go_ret
          exact ⟨rfl, hnr⟩
end Go.Proofs.YtnjampfhkojbnaaGreatDoor

namespace Go.Proofs.YtnjampfhkojbnaaGreatDoor
open Go Go.RowKit Go.Joins
set_option linter.unusedSimpArgs false
set_option linter.unusedVariables false

theorem less_total : ∀ x y : List UInt8, Op.bytesLess y x = !(Op.bytesLess x y || x == y)
  | [], [] => rfl
  | [], b :: y => by simp [Op.bytesLess]
  | a :: x, [] => by simp [Op.bytesLess]
  | a :: x, b :: y => by
    have ih := less_total x y
    rw [Op.bytesLess, Op.bytesLess, ih]
    by_cases e : a = b
    · subst e
      have h1 : decide (a < a) = false := decide_eq_false (UInt8.lt_irrefl a)
      have h2 : (a == a) = true := beq_self_eq_true a
      rw [h1, h2]
      have h3 : (a :: x == a :: y) = (x == y) := by simp
      rw [h3]; simp
    · have h2 : (a == b) = false := beq_eq_false_iff_ne.2 e
      have h3 : (b == a) = false := beq_eq_false_iff_ne.2 (fun q => e q.symm)
      have h4 : (a :: x == b :: y) = false := beq_eq_false_iff_ne.2 (fun q => e (List.cons.inj q).1)
      rw [h2, h3, h4]
      have hne : a.toNat ≠ b.toNat := fun q => e (UInt8.toNat_inj.1 q)
      by_cases hl : a < b
      · have : ¬ b < a := by rw [UInt8.lt_iff_toNat_lt] at hl ⊢; omega
        rw [decide_eq_true hl, decide_eq_false this]; rfl
      · have : b < a := by rw [UInt8.lt_iff_toNat_lt] at hl ⊢; omega
        rw [decide_eq_false hl, decide_eq_true this]; rfl
def LastX (l : List ExD) (i : Nat) (last : ByteArray) : Prop := (i = 0 ∧ last = ⟨#[]⟩) ∨ (∃ m y, i = m + 1 ∧ l[m]? = some y ∧ last = y.sym)
theorem name_ne {s : ByteArray} (h : nameV s = true) : s.size ≠ 0 := fun h0 => by
  unfold nameV at h
  rw [formV_nil h0] at h
  cases h
theorem exp_ref {ps : List PlD} {l : List ExD} {i : Nat} {x : ExD} {last : ByteArray} (hx : l[i]? = some x) (hL : LastX l i last) (hn : nameV x.sym = true) :
    expOK ps l i = (!(Op.bytesLess x.sym.toList last.toList || x.sym.toList == last.toList) && ps.any (begP x.pos x.sym)) := by
  have hb : ps.any (begP x.pos x.sym) = ps.any (expV x.sym x.pos) := by
    congr 1
    funext p
    unfold begP expV
    rw [decide_eq_false (name_ne hn), Bool.false_or, Bool.and_comm]
  unfold expOK
  rw [hx, hb]
  rcases hL with ⟨rfl, rfl⟩ | ⟨m, y, rfl, hy, rfl⟩
  · simp only
    have h1 : x.sym.toList ≠ [] := fun e => name_ne hn (by rw [size_eq, ← toList_eq, e]; rfl)
    have h2 : (⟨#[]⟩ : ByteArray).toList = [] := by rw [toList_eq]
    rw [h2]
    cases hc : x.sym.toList with
    | nil => exact absurd hc h1
    | cons c r => simp [Op.bytesLess]
  · simp only [hy]
    unfold ltX
    rw [less_total]
theorem exp_noname {ps : List PlD} {l : List ExD} {i : Nat} {x : ExD} (hx : l[i]? = some x) (hN : ∀ p ∈ ps, nameV p.sym = true) (hn : nameV x.sym = false) : expOK ps l i = false := by
  have : ps.any (expV x.sym x.pos) = false := by
    rw [List.any_eq_false]
    intro p hp he
    unfold expV at he
    simp only [Bool.and_eq_true, decide_eq_true_eq] at he
    have := hN p hp
    rw [he.1, hn] at this
    cases this
  unfold expOK
  simp only [hx]
  rw [this, Bool.and_false]
theorem placed_names {img : ByteArray} : ∀ {l : List PlD} {e z : Nat} {seen : List (ByteArray × ByteArray)}, placedGo img l e seen = some z → ∀ p ∈ l, nameV p.sym = true
  | [], e, z, seen, h, p, hp => by cases hp
  | q :: r, e, z, seen, h, p, hp => by
    rw [placedGo] at h
    split at h
    · rename_i hc
      obtain ⟨_, hc⟩ := hc
      rcases List.mem_cons.1 hp with rfl | hp
      · unfold placeOK at hc
        simp only [Bool.and_eq_true] at hc
        exact hc.1.1.1.1.1.2
      · exact placed_names h p hp
    · cases h
theorem placedV_names {b : Bn} (h : placedV b = true) : ∀ p ∈ b.places, nameV p.sym = true := by
  unfold placedV at h
  simp only [Bool.and_eq_true, decide_eq_true_eq] at h
  exact placed_names h.2
theorem take_note {l : List NtD} {j : Nat} {x : NtD} (h : l[j]? = some x) :
    (l.take (j + 1)).map (fun p => Value.string p.name) = (l.take j).map (fun p => Value.string p.name) ++ [.string x.name] ∧ ((l.take (j + 1)).map fun p => p.name).reverse = x.name :: ((l.take j).map fun p => p.name).reverse := by
  obtain ⟨hi, he⟩ := List.getElem?_eq_some_iff.1 h
  rw [List.take_succ_eq_append_getElem hi, he, List.map_append, List.map_append, List.reverse_append]
  exact ⟨rfl, rfl⟩
theorem has_seen (l : List NtD) (s : ByteArray) (j : Nat) (A : Option Addr) (c : Nat) (w : World) (hj : j ≤ l.length) (hr : Rd w 1 A j ((l.take j).map fun p => Value.string p.name)) (hn : j ≤ 4294967295) :
    Calls Tryz.prog 52 #[.slice A j c, .string s] w fun e w' => e = .returned (.bool (seenN ((l.take j).map fun p => p.name).reverse s)) ∧ w = w' := by
  have h := rhas_any ((l.take j).map fun p => p.name) s A j c w (by rw [List.length_map, List.length_take]; omega) (by rw [List.map_map]; exact hr) hn
  have e : hasV ((l.take j).map fun p => p.name) s = seenN ((l.take j).map fun p => p.name).reverse s := by
    unfold hasV seenN
    rw [List.any_reverse]
  rw [e] at h
  exact h
set_option maxRecDepth 100000 in
set_option maxHeartbeats 8000000 in
theorem rcheck_any (b : Bn) (h : BH) (w : World) (hr : BRd w b h) (hz : SzB b) :
    Calls Tryz.prog 26 #[.agg (bcells b h)] w fun e w' => e = .returned (.int .i64 (chkE b)) ∧ New w w' := by
  obtain ⟨i0, hi, hz0, hz1, hz2⟩ := info_parts Tryz.info9'
  have H50 := Lib.hid (fun W (hn : New w W) => rplaces_any b h W (hr.new hn) hz.pl hz.img hz.l1)
  have H51P := Lib.hid (fun (hp : placedV b = true) W (hn : New w W) => rwords_any b h W (placed_ok hp) (hr.new hn) hz.l2 hz.l3 hz.fx hz.im)
  have HBG := Lib.hid (fun a s W (hn : New w W) => rbegins_any b h a s W hz.l1 (hr.new hn))
  have HPO := Lib.hid (fun hp : placedV b = true => (placed_ok hp).pos)
  have HPNP := Lib.hid (fun hp : placedV b = true => placedV_names hp)
  have hr1 := hr.r1
  have HR4 := Lib.hid hr.r4
  have HR5 := Lib.hid hr.r5
  have hl4 := hz.l4
  have hl5 := hz.l5
  have HCV : Hid (checkV b = (placedV b && wordsV b && notedV b.notes &&
  ((decide (b.kind = 1) && decide (b.entry = 0) && (match b.places with | [] => false | p :: _ => decide (p.kind = 1)) && decide (b.exps.length = 0)) ||
   (decide (b.kind = 2) && decide (b.entry = -1) && decide (b.imps.length = 0) && exportedV b.places b.exps)))) := Lib.hid rfl
  obtain ⟨X, hX⟩ : ∃ X, chkE b = X := ⟨_, rfl⟩
  have HX : Hid (X = if checkV b = true then 0 else 1) := Lib.hid hX.symm
  rw [hX]
  have BX := Blk.made w 28 (bcells b h)
  have hnX := (New.refl w).alloc (.cells (bcells b h) 28)
  obtain ⟨kind, entry, image, places, fix, imps, exps, notes⟩ := b
  obtain ⟨a1, c1, a2, c2, a3, c3, a4, c4, a5, c5⟩ := h
  simp only [bcells] at BX hnX H50 H51P HBG HPO HPNP HCV hr1 HR4 HR5 hl4 hl5 ⊢
  obtain ⟨v1, hv1⟩ : ∃ v, placedV ⟨kind, entry, image, places, fix, imps, exps, notes⟩ = v := ⟨_, rfl⟩
  obtain ⟨v2, hv2⟩ : ∃ v, wordsV ⟨kind, entry, image, places, fix, imps, exps, notes⟩ = v := ⟨_, rfl⟩
  obtain ⟨cv, hv5⟩ : ∃ v, checkV ⟨kind, entry, image, places, fix, imps, exps, notes⟩ = v := ⟨_, rfl⟩
  obtain ⟨n1, hn1⟩ : ∃ n, places.length = n := ⟨_, rfl⟩
  obtain ⟨n2, hn2⟩ : ∃ n, fix.length = n := ⟨_, rfl⟩
  obtain ⟨n3, hn3⟩ : ∃ n, imps.length = n := ⟨_, rfl⟩
  obtain ⟨n4, hn4⟩ : ∃ n, exps.length = n := ⟨_, rfl⟩
  obtain ⟨n5, hn5⟩ : ∃ n, notes.length = n := ⟨_, rfl⟩
  rw [hv1] at H50 H51P HPO HPNP
  rw [hv2] at H51P
  rw [hv1, hv2, hv5, hn3, hn4] at HCV
  rw [hv5] at HX
  rw [hn1, hn2, hn3, hn4, hn5] at BX hnX H50 H51P HBG ⊢
  rw [hn1] at HPO hr1
  rw [hn4] at HR4 hl4
  rw [hn5] at HR5 hl5
  have HL1 := Lib.hid hn1
  have HL4 := Lib.hid hn4
  have HL5 := Lib.hid hn5
  have HE0 : Hid (n4 = 0 → exportedV places exps = true) := Lib.hid (fun q => exported_good (fun j hj => by omega))
  have HN64 : Hid (64 < n5 → notedV notes = false) := Lib.hid (fun q => by unfold notedV; rw [hn5, decide_eq_false (by omega : ¬ n5 ≤ 64), Bool.and_false])
  clear hv1 hv2 hv5 hn1 hn2 hn3 hn4 hn5 hX hr hz
  cases v1
  · have hx : X = 1 := by rw [HX.out, HCV.out]; simp
    subst hx
    clear hr1
    go_enter Tryz.func26, Tryz.ntmps26
    go_wp2_with (first | (go_at_call 49; (with_reducible refine (H51.out _ (hnX.trans k1)).mono ?_); rintro e w2 ⟨rfl, k2⟩; have B2 := BX.new (k1.trans k2); have d0 := B2.cell' 0 _ rfl; have d1 := B2.cell' 1 _ rfl; have d2 := B2.cell' 2 _ rfl; have d3 := B2.cell' 3 _ rfl; have d4 := B2.cell' 4 _ rfl; have d5 := B2.cell' 5 _ rfl; have d6 := B2.cell' 6 _ rfl; have d7 := B2.cell' 7 _ rfl; have p2 := cell_new ((hnX.trans k1).trans k2) p0) | (go_at_call 48; (with_reducible refine (H50.out _ hnX).mono ?_); rintro e w1 ⟨rfl, k1⟩; have B1 := BX.new k1; have ca0 := B1.cell' 0 _ rfl; have ca1 := B1.cell' 1 _ rfl; have ca2 := B1.cell' 2 _ rfl; have ca3 := B1.cell' 3 _ rfl; have ca4 := B1.cell' 4 _ rfl; have ca5 := B1.cell' 5 _ rfl; have ca6 := B1.cell' 6 _ rfl; have ca7 := B1.cell' 7 _ rfl))
    go_ret
    exact ⟨rfl, hnX.trans k1⟩
  · have H51 := Lib.hid (H51P.out rfl)
    have HPN := Lib.hid (HPNP.out rfl)
    have hpos := HPO.out rfl
    obtain ⟨p, ps, hps⟩ : ∃ p ps, places = p :: ps := by
      cases places with
      | nil => have := HL1.out; simp at this; omega
      | cons p ps => exact ⟨p, ps, rfl⟩
    obtain ⟨bk, o, rfl, _, hcell⟩ := hr1.2 (by omega)
    have p0 := hcell 2 (.int .i64 p.kind) (by rw [hps]; rfl)
    rw [hps] at HCV
    dsimp only at HCV
    rw [← hps] at HCV
    have j1 : (0 : Int) < (n1 : Int) := by omega
    obtain ⟨pk, hpk⟩ : ∃ k, p.kind = k := ⟨_, rfl⟩
    rw [hpk] at p0 HCV
    clear H51P HPO HPNP hr1 hcell hpk HL1 hps
    cases v2
    · have hx : X = 1 := by rw [HX.out, HCV.out]; simp
      subst hx
      go_enter Tryz.func26, Tryz.ntmps26
      go_wp2_with (first | (go_at_call 49; (with_reducible refine (H51.out _ (hnX.trans k1)).mono ?_); rintro e w2 ⟨rfl, k2⟩; have B2 := BX.new (k1.trans k2); have d0 := B2.cell' 0 _ rfl; have d1 := B2.cell' 1 _ rfl; have d2 := B2.cell' 2 _ rfl; have d3 := B2.cell' 3 _ rfl; have d4 := B2.cell' 4 _ rfl; have d5 := B2.cell' 5 _ rfl; have d6 := B2.cell' 6 _ rfl; have d7 := B2.cell' 7 _ rfl; have p2 := cell_new ((hnX.trans k1).trans k2) p0) | (go_at_call 48; (with_reducible refine (H50.out _ hnX).mono ?_); rintro e w1 ⟨rfl, k1⟩; have B1 := BX.new k1; have ca0 := B1.cell' 0 _ rfl; have ca1 := B1.cell' 1 _ rfl; have ca2 := B1.cell' 2 _ rfl; have ca3 := B1.cell' 3 _ rfl; have ca4 := B1.cell' 4 _ rfl; have ca5 := B1.cell' 5 _ rfl; have ca6 := B1.cell' 6 _ rfl; have ca7 := B1.cell' 7 _ rfl))
      go_ret
      exact ⟨rfl, (hnX.trans k1).trans k2⟩
    · by_cases h64 : n5 ≤ 64
      · have t64 : ¬ (64 : Int) < (n5 : Int) := by omega
        rw [Bool.true_and, Bool.true_and] at HCV
        by_cases e1 : kind = 1
        · subst e1
          by_cases e2 : entry = 0
          · subst e2
            by_cases e3 : pk = 1
            · subst e3
              by_cases e4 : n4 = 0
              · subst e4
                have HCV9 : Hid (cv = (notedV notes && exportedV places exps)) := Lib.hid (by rw [HCV.out, HE0.out rfl]; simp)
                clear HCV HE0
                have HCV := Lib.hid HCV9.out
                clear HCV9
                go_enter Tryz.func26, Tryz.ntmps26
                go_wp2_with (first | (go_at_call 49; (with_reducible refine (H51.out _ (hnX.trans k1)).mono ?_); rintro e w2 ⟨rfl, k2⟩; have B2 := BX.new (k1.trans k2); have d0 := B2.cell' 0 _ rfl; have d1 := B2.cell' 1 _ rfl; have d2 := B2.cell' 2 _ rfl; have d3 := B2.cell' 3 _ rfl; have d4 := B2.cell' 4 _ rfl; have d5 := B2.cell' 5 _ rfl; have d6 := B2.cell' 6 _ rfl; have d7 := B2.cell' 7 _ rfl; have p2 := cell_new ((hnX.trans k1).trans k2) p0) | (go_at_call 48; (with_reducible refine (H50.out _ hnX).mono ?_); rintro e w1 ⟨rfl, k1⟩; have B1 := BX.new k1; have ca0 := B1.cell' 0 _ rfl; have ca1 := B1.cell' 1 _ rfl; have ca2 := B1.cell' 2 _ rfl; have ca3 := B1.cell' 3 _ rfl; have ca4 := B1.cell' 4 _ rfl; have ca5 := B1.cell' 5 _ rfl; have ca6 := B1.cell' 6 _ rfl; have ca7 := B1.cell' 7 _ rfl))
                have hn2' : New w w2 := (hnX.trans k1).trans k2
                have g6 := B2.cell' 6 _ rfl
                go_loopw [3, 58] (fun v3 v58 wr => ∃ (i : Nat) (last : ByteArray), v58 = .int .i64 i ∧ v3 = .string last ∧ i ≤ 0 ∧ New w wr ∧ Blk wr w.heap.size 28 #[.int .i64 1, .int .i64 0, .string image, .slice (some ⟨bk, o, none⟩) n1 c1, .slice a2 n2 c2, .slice a3 n3 c3, .slice a4 0 c4, .slice a5 n5 c5] ∧ Hid (LastX exps i last) ∧ Hid (∀ j, j < i → expOK places exps j = true)) (fun _ v58 _ => 0 - (intOf v58).toNat)
                case atStart => exact ⟨0, ⟨#[]⟩, rfl, rfl, by omega, hn2', B2, Lib.hid (Or.inl ⟨rfl, rfl⟩), Lib.hid (fun j hj => absurd hj (by omega))⟩
                case round =>
                  clear hn2' B2 g6 d0 d1 d2 d3 d4 d5 d6 d7
                  obtain ⟨i, last, rfl, rfl, hi9, hn3', BR, HLX, HOK⟩ := hrel
                  obtain ⟨wp, rfl⟩ : ∃ wp : World, wp = wr := ⟨_, rfl⟩
                  have h0i : i = 0 := by omega
                  subst h0i
                  have HEX : Hid (exportedV places exps = true) := Lib.hid (exported_good (fun j hj => HOK.out j (by rw [HL4.out] at hj; exact hj)))
                  have HCV2 : Hid (cv = notedV notes) := Lib.hid (by rw [HCV.out, HEX.out, Bool.and_true])
                  have g7 := BR.cell' 7 _ rfl
                  clear HEX HOK HLX HCV hi9
                  go_wp2
                  go_loopw [6, 87] (fun v6 v87 wr => ∃ (j : Nat), v87 = .int .i64 j ∧ j ≤ n5 ∧ wr.ownsRow w.heap.size 9 1 v6 j ((notes.take j).map fun p => Value.string p.name) ∧ New w wr ∧ Hid (notedGo (notes.drop j) ((notes.take j).map fun p => p.name).reverse = notedGo notes [])) (fun _ v87 _ => n5 - (intOf v87).toNat)
                  case atStart => exact ⟨0, rfl, by omega, World.ownsRow_nil .., hn3', Lib.hid rfl⟩
                  case round =>
                    clear hn3' BR g7
                    obtain ⟨j, rfl, hj9, hown, hn6, HGo⟩ := hrel
                    by_cases hlt : j < n5
                    · obtain ⟨bk, o, rfl, hbk, x, hx, hcell⟩ := rd_row (f := ntC) (k := 2) (fun _ => rfl) HL5.out (HR5.out.below hn6) hlt
                      have HGA := Lib.hid (notedGo_at (seen := ((notes.take j).map fun p => p.name).reverse) hx)
                      have HTK := Lib.hid (take_note hx)
                      obtain ⟨xs, xt⟩ := x
                      simp only at HGA HTK
                      obtain ⟨A6, c6', rfl, _, _, hrd⟩ := own_form hown
                      have q0 := hcell 0 (.string xs) (by omega) rfl
                      have q1 := hcell 1 (.string xt) (by omega) rfl
                      simp only [Nat.add_zero] at q0
                      rw [← Nat.add_assoc] at q1
                      have BXX := Blk.made wr 66 #[.string xs, .string xt]
                      have hnX3 := New.alloc hn6 (.cells #[.string xs, .string xt] 66)
                      have HNa := Lib.hid (fun w => rname_any xs w)
                      have HRD := Lib.hid hrd
                      have HHs := Lib.hid (fun W (hW : New (wr.alloc (.cells #[.string xs, .string xt] 66)) W) => has_seen notes xs j A6 c6' W (by have := HL5.out; omega) (HRD.out.below (New.trans ((New.refl wr).alloc _) hW)) (by omega))
                      have hown6 := Lib.hid (fun W (hW : New (wr.alloc (.cells #[.string xs, .string xt] 66)) W) => hown.kept (New.trans ((New.refl wr).alloc _) hW |>.grown_ none) (by cases A6 <;> simp [Value.ownBlock]))
                      have HNO : Hid (noteOK ⟨xs, xt⟩ = (nameV xs && decide (xt.size ≤ 65536))) := Lib.hid rfl
                      have i0' : (0 : Int) ≤ (j : Int) := by omega
                      have i1 : (j : Int) < (n5 : Int) := by omega
                      clear hcell hx hrd hown
                      obtain ⟨nk, hnk⟩ : ∃ b, nameV xs = b := ⟨_, rfl⟩
                      rw [hnk] at HNa HNO
                      obtain ⟨sk, hsk⟩ : ∃ b, seenN ((notes.take j).map fun p => p.name).reverse xs = b := ⟨_, rfl⟩
                      rw [hsk] at HHs HGA
                      clear hnk hsk
                      have HBad : Hid (¬ (sk = false ∧ noteOK ⟨xs, xt⟩ = true) → X = 1) := Lib.hid (fun q => by
                        rw [HX.out, HCV2.out]
                        unfold notedV
                        rw [← HGo.out, HGA.out, if_neg q]; rfl)
                      cases nk
                      · have hxX := HBad.out (by rw [HNO.out]; simp)
                        subst hxX
                        go_wp2_with (first | (go_at_call 52; (with_reducible refine (HHs.out _ k6).mono ?_); rintro e w7 ⟨rfl, rfl⟩) | (go_at_call 50; (with_reducible refine (HNa.out _).mono ?_); rintro e w6 ⟨rfl, k6⟩; have X6 := BXX.new k6; have f60 := X6.cell' 0 _ rfl; have f61 := X6.cell' 1 _ rfl))
                        go_ret
                        exact ⟨rfl, New.trans hnX3 k6⟩
                      · cases sk
                        · by_cases h6 : xt.size ≤ 65536
                          · have t6 : ¬ (65536 : Int) < (xt.size : Int) := by omega
                            have HG9 : Hid (notedGo (notes.drop (j + 1)) (xs :: ((notes.take j).map fun p => p.name).reverse) = notedGo notes []) := Lib.hid (by
                              rw [← HGo.out, HGA.out, if_pos ⟨rfl, by rw [HNO.out, decide_eq_true h6]; rfl⟩])
                            go_wp2_with (first | (at_builtin; refine wpList_append_own _ rfl (.tmp 107) (.tmp 110) 120 rfl w.heap.size 9 i0 (.string ByteArray.empty) 1 16 Tryz.underlying120 hi hz0 hz1 hz2 rfl (by decide) _ _ _ rfl ((hown6.out _ k6).alloc _) ⟨w6.heap.size, 0, none⟩ 1 1 [.string xs] rfl rfl (cell_one_new _ _ _) (by simp [Value.oneCell']) (by simp [maxLen]; omega) (by omega) (by have := (New.trans hnX3 k6).size; simp; omega) ?_; intro v' w8 hown8 hg8 _) | (go_at_call 52; (with_reducible refine (HHs.out _ k6).mono ?_); rintro e w7 ⟨rfl, rfl⟩) | (go_at_call 50; (with_reducible refine (HNa.out _).mono ?_); rintro e w6 ⟨rfl, k6⟩; have X6 := BXX.new k6; have f60 := X6.cell' 0 _ rfl; have f61 := X6.cell' 1 _ rfl))
                            go_roundw
                            case rel => first | exact ⟨j + 1, by go_num, by omega, by rw [HTK.out.1]; simpa using hown8, Below.grown ((New.trans hnX3 k6).alloc _) hg8 (by have := (New.trans hnX3 k6).size; simp; omega) (fun k hk => ((hown6.out _ k6).lt k hk).1), Lib.hid (by rw [HTK.out.2]; exact HG9.out)⟩ | ((repeat apply Exists.intro); exact ⟨⟨j + 1, by go_num, by omega, by rw [HTK.out.1]; simpa using hown8, Below.grown ((New.trans hnX3 k6).alloc _) hg8 (by have := (New.trans hnX3 k6).size; simp; omega) (fun k hk => ((hown6.out _ k6).lt k hk).1), Lib.hid (by rw [HTK.out.2]; exact HG9.out)⟩, rfl⟩)
                            case measure => simp [intOf]; omega
                          · have t6 : (65536 : Int) < (xt.size : Int) := by omega
                            have hxX := HBad.out (by rw [HNO.out, decide_eq_false h6]; simp)
                            subst hxX
                            go_wp2_with (first | (go_at_call 52; (with_reducible refine (HHs.out _ k6).mono ?_); rintro e w7 ⟨rfl, rfl⟩) | (go_at_call 50; (with_reducible refine (HNa.out _).mono ?_); rintro e w6 ⟨rfl, k6⟩; have X6 := BXX.new k6; have f60 := X6.cell' 0 _ rfl; have f61 := X6.cell' 1 _ rfl))
                            go_ret
                            exact ⟨rfl, New.trans hnX3 k6⟩
                        · have hxX := HBad.out (by simp)
                          subst hxX
                          go_wp2_with (first | (go_at_call 52; (with_reducible refine (HHs.out _ k6).mono ?_); rintro e w7 ⟨rfl, rfl⟩) | (go_at_call 50; (with_reducible refine (HNa.out _).mono ?_); rintro e w6 ⟨rfl, k6⟩; have X6 := BXX.new k6; have f60 := X6.cell' 0 _ rfl; have f61 := X6.cell' 1 _ rfl))
                          go_ret
                          exact ⟨rfl, New.trans hnX3 k6⟩
                    · obtain rfl : n5 = j := by omega
                      have hxX : X = 0 := by
                        rw [HX.out, HCV2.out]
                        have hg := HGo.out
                        rw [List.drop_of_length_le (by rw [HL5.out]; exact Nat.le_refl _), notedGo] at hg
                        unfold notedV
                        rw [← hg, HL5.out, decide_eq_true h64]; rfl
                      subst hxX
                      go_wp2
                      go_ret
                      exact ⟨rfl, hn6⟩
              · have e5 : ((n4 : Int) == 0) = false := by rw [beq_eq_false_iff_ne]; omega
                have e6 : (0 : Int) < (n4 : Int) := by omega
                have hx : X = 1 := by rw [HX.out, HCV.out]; simp [e4]
                subst hx
                go_enter Tryz.func26, Tryz.ntmps26
                go_wp2_with (first | (go_at_call 49; (with_reducible refine (H51.out _ (hnX.trans k1)).mono ?_); rintro e w2 ⟨rfl, k2⟩; have B2 := BX.new (k1.trans k2); have d0 := B2.cell' 0 _ rfl; have d1 := B2.cell' 1 _ rfl; have d2 := B2.cell' 2 _ rfl; have d3 := B2.cell' 3 _ rfl; have d4 := B2.cell' 4 _ rfl; have d5 := B2.cell' 5 _ rfl; have d6 := B2.cell' 6 _ rfl; have d7 := B2.cell' 7 _ rfl; have p2 := cell_new ((hnX.trans k1).trans k2) p0) | (go_at_call 48; (with_reducible refine (H50.out _ hnX).mono ?_); rintro e w1 ⟨rfl, k1⟩; have B1 := BX.new k1; have ca0 := B1.cell' 0 _ rfl; have ca1 := B1.cell' 1 _ rfl; have ca2 := B1.cell' 2 _ rfl; have ca3 := B1.cell' 3 _ rfl; have ca4 := B1.cell' 4 _ rfl; have ca5 := B1.cell' 5 _ rfl; have ca6 := B1.cell' 6 _ rfl; have ca7 := B1.cell' 7 _ rfl))
                go_ret
                exact ⟨rfl, (hnX.trans k1).trans k2⟩
            · have e5 : (pk == 1) = false := beq_eq_false_iff_ne.2 e3
              have e6 : (pk != 1) = true := by rw [bne, e5]; rfl
              have hx : X = 1 := by rw [HX.out, HCV.out]; simp [e3]
              subst hx
              clear e3
              go_enter Tryz.func26, Tryz.ntmps26
              go_wp2_with (first | (go_at_call 49; (with_reducible refine (H51.out _ (hnX.trans k1)).mono ?_); rintro e w2 ⟨rfl, k2⟩; have B2 := BX.new (k1.trans k2); have d0 := B2.cell' 0 _ rfl; have d1 := B2.cell' 1 _ rfl; have d2 := B2.cell' 2 _ rfl; have d3 := B2.cell' 3 _ rfl; have d4 := B2.cell' 4 _ rfl; have d5 := B2.cell' 5 _ rfl; have d6 := B2.cell' 6 _ rfl; have d7 := B2.cell' 7 _ rfl; have p2 := cell_new ((hnX.trans k1).trans k2) p0) | (go_at_call 48; (with_reducible refine (H50.out _ hnX).mono ?_); rintro e w1 ⟨rfl, k1⟩; have B1 := BX.new k1; have ca0 := B1.cell' 0 _ rfl; have ca1 := B1.cell' 1 _ rfl; have ca2 := B1.cell' 2 _ rfl; have ca3 := B1.cell' 3 _ rfl; have ca4 := B1.cell' 4 _ rfl; have ca5 := B1.cell' 5 _ rfl; have ca6 := B1.cell' 6 _ rfl; have ca7 := B1.cell' 7 _ rfl))
              go_ret
              exact ⟨rfl, (hnX.trans k1).trans k2⟩
          · have e5 : (entry == 0) = false := beq_eq_false_iff_ne.2 e2
            have e6 : (entry != 0) = true := by rw [bne, e5]; rfl
            have hx : X = 1 := by rw [HX.out, HCV.out]; simp [e2]
            subst hx
            clear e2
            go_enter Tryz.func26, Tryz.ntmps26
            go_wp2_with (first | (go_at_call 49; (with_reducible refine (H51.out _ (hnX.trans k1)).mono ?_); rintro e w2 ⟨rfl, k2⟩; have B2 := BX.new (k1.trans k2); have d0 := B2.cell' 0 _ rfl; have d1 := B2.cell' 1 _ rfl; have d2 := B2.cell' 2 _ rfl; have d3 := B2.cell' 3 _ rfl; have d4 := B2.cell' 4 _ rfl; have d5 := B2.cell' 5 _ rfl; have d6 := B2.cell' 6 _ rfl; have d7 := B2.cell' 7 _ rfl; have p2 := cell_new ((hnX.trans k1).trans k2) p0) | (go_at_call 48; (with_reducible refine (H50.out _ hnX).mono ?_); rintro e w1 ⟨rfl, k1⟩; have B1 := BX.new k1; have ca0 := B1.cell' 0 _ rfl; have ca1 := B1.cell' 1 _ rfl; have ca2 := B1.cell' 2 _ rfl; have ca3 := B1.cell' 3 _ rfl; have ca4 := B1.cell' 4 _ rfl; have ca5 := B1.cell' 5 _ rfl; have ca6 := B1.cell' 6 _ rfl; have ca7 := B1.cell' 7 _ rfl))
            go_ret
            exact ⟨rfl, (hnX.trans k1).trans k2⟩
        · have e5 : (kind == 1) = false := beq_eq_false_iff_ne.2 e1
          by_cases e2 : kind = 2
          · subst e2
            by_cases e3 : entry = -1
            · subst e3
              by_cases e4 : n3 = 0
              · subst e4
                have HCV9 : Hid (cv = (notedV notes && exportedV places exps)) := Lib.hid (by rw [HCV.out]; simp)
                clear HCV HE0 e1
                have HCV := Lib.hid HCV9.out
                clear HCV9
                go_enter Tryz.func26, Tryz.ntmps26
                go_wp2_with (first | (go_at_call 49; (with_reducible refine (H51.out _ (hnX.trans k1)).mono ?_); rintro e w2 ⟨rfl, k2⟩; have B2 := BX.new (k1.trans k2); have d0 := B2.cell' 0 _ rfl; have d1 := B2.cell' 1 _ rfl; have d2 := B2.cell' 2 _ rfl; have d3 := B2.cell' 3 _ rfl; have d4 := B2.cell' 4 _ rfl; have d5 := B2.cell' 5 _ rfl; have d6 := B2.cell' 6 _ rfl; have d7 := B2.cell' 7 _ rfl; have p2 := cell_new ((hnX.trans k1).trans k2) p0) | (go_at_call 48; (with_reducible refine (H50.out _ hnX).mono ?_); rintro e w1 ⟨rfl, k1⟩; have B1 := BX.new k1; have ca0 := B1.cell' 0 _ rfl; have ca1 := B1.cell' 1 _ rfl; have ca2 := B1.cell' 2 _ rfl; have ca3 := B1.cell' 3 _ rfl; have ca4 := B1.cell' 4 _ rfl; have ca5 := B1.cell' 5 _ rfl; have ca6 := B1.cell' 6 _ rfl; have ca7 := B1.cell' 7 _ rfl))
                have hn2' : New w w2 := (hnX.trans k1).trans k2
                have g6 := B2.cell' 6 _ rfl
                go_loopw [3, 58] (fun v3 v58 wr => ∃ (i : Nat) (last : ByteArray), v58 = .int .i64 i ∧ v3 = .string last ∧ i ≤ n4 ∧ New w wr ∧ Blk wr w.heap.size 28 #[.int .i64 2, .int .i64 (-1), .string image, .slice (some ⟨bk, o, none⟩) n1 c1, .slice a2 n2 c2, .slice a3 0 c3, .slice a4 n4 c4, .slice a5 n5 c5] ∧ Hid (LastX exps i last) ∧ Hid (∀ j, j < i → expOK places exps j = true)) (fun _ v58 _ => n4 - (intOf v58).toNat)
                case atStart => exact ⟨0, ⟨#[]⟩, rfl, rfl, by omega, hn2', B2, Lib.hid (Or.inl ⟨rfl, rfl⟩), Lib.hid (fun j hj => absurd hj (by omega))⟩
                case round =>
                  clear hn2' B2 g6 d0 d1 d2 d3 d4 d5 d6 d7
                  obtain ⟨i, last, rfl, rfl, hi9, hn3', BR, HLX, HOK⟩ := hrel
                  obtain ⟨wp, rfl⟩ : ∃ wp : World, wp = wr := ⟨_, rfl⟩
                  by_cases hlt : i < n4
                  · obtain ⟨bk, o, rfl, hbk, x, hx, hcell⟩ := rd_row (f := exC) (k := 2) (fun _ => rfl) HL4.out (HR4.out.below hn3') hlt
                    have HEB := Lib.hid (fun q => exported_bad (ps := places) (l := exps) (i := i) (by rw [HL4.out]; exact hlt) q)
                    have HER := Lib.hid (fun hn => exp_ref (ps := places) hx HLX.out hn)
                    have HEN := Lib.hid (fun hn => exp_noname (ps := places) hx HPN.out hn)
                    have HLN : Hid (LastX exps (i + 1) x.sym) := Lib.hid (Or.inr ⟨i, x, rfl, hx, rfl⟩)
                    obtain ⟨xs, xp⟩ := x
                    simp only at HER HEN HLN
                    have q0 := hcell 0 (.string xs) (by omega) rfl
                    have q1 := hcell 1 (.int .i64 xp) (by omega) rfl
                    simp only [Nat.add_zero] at q0
                    rw [← Nat.add_assoc] at q1
                    have BXX := Blk.made wp 81 #[.string xs, .int .i64 xp]
                    have hnX3 := New.alloc hn3' (.cells #[.string xs, .int .i64 xp] 81)
                    have BB3 := BR.alloc (.cells #[.string xs, .int .i64 xp] 81)
                    have HNa := Lib.hid (fun w => rname_any xs w)
                    have HBg := Lib.hid (HBG.out xp xs)
                    have i0' : (0 : Int) ≤ (i : Int) := by omega
                    have i1 : (i : Int) < (n4 : Int) := by omega
                    clear hcell hx
                    obtain ⟨nk, hnk⟩ : ∃ b, nameV xs = b := ⟨_, rfl⟩
                    rw [hnk] at HNa HER HEN
                    clear hnk
                    cases nk
                    · have hxX : X = 1 := by rw [HX.out, HCV.out, HEB.out (HEN.out rfl)]; simp
                      subst hxX
                      go_wp2_with (first | (go_at_call 51; (with_reducible refine (HBg.out _ (New.trans hnX3 k4)).mono ?_); rintro e w5 ⟨rfl, k5⟩; have X5 := X4.new k5; have f50 := X5.cell' 0 _ rfl) | (go_at_call 50; (with_reducible refine (HNa.out _).mono ?_); rintro e w4 ⟨rfl, k4⟩; have X4 := BXX.new k4; have f40 := X4.cell' 0 _ rfl; have f41 := X4.cell' 1 _ rfl; have B4 := BB3.new k4; have m0 := B4.cell' 0 _ rfl; have m1 := B4.cell' 1 _ rfl; have m2 := B4.cell' 2 _ rfl; have m3 := B4.cell' 3 _ rfl; have m4 := B4.cell' 4 _ rfl; have m5 := B4.cell' 5 _ rfl; have m6 := B4.cell' 6 _ rfl; have m7 := B4.cell' 7 _ rfl))
                      go_ret
                      exact ⟨rfl, New.trans hnX3 k4⟩
                    · have HER2 := Lib.hid (HER.out rfl)
                      obtain ⟨l1, hl1⟩ : ∃ b, Op.bytesLess xs.toList last.toList = b := ⟨_, rfl⟩
                      obtain ⟨l2, hl2⟩ : ∃ b, (xs.toList == last.toList) = b := ⟨_, rfl⟩
                      obtain ⟨l3, hl3⟩ : ∃ b, places.any (begP xp xs) = b := ⟨_, rfl⟩
                      rw [hl1, hl2, hl3] at HER2
                      rw [hl3] at HBg
                      clear hl3 HER HEN
                      cases l1
                      · cases l2
                        · cases l3
                          · have hxX : X = 1 := by rw [HX.out, HCV.out, HEB.out (by rw [HER2.out]; rfl)]; simp
                            subst hxX
                            go_wp2_with (first | (go_at_call 51; (with_reducible refine (HBg.out _ (New.trans hnX3 k4)).mono ?_); rintro e w5 ⟨rfl, k5⟩; have X5 := X4.new k5; have f50 := X5.cell' 0 _ rfl) | (go_at_call 50; (with_reducible refine (HNa.out _).mono ?_); rintro e w4 ⟨rfl, k4⟩; have X4 := BXX.new k4; have f40 := X4.cell' 0 _ rfl; have f41 := X4.cell' 1 _ rfl; have B4 := BB3.new k4; have m0 := B4.cell' 0 _ rfl; have m1 := B4.cell' 1 _ rfl; have m2 := B4.cell' 2 _ rfl; have m3 := B4.cell' 3 _ rfl; have m4 := B4.cell' 4 _ rfl; have m5 := B4.cell' 5 _ rfl; have m6 := B4.cell' 6 _ rfl; have m7 := B4.cell' 7 _ rfl))
                            go_ret
                            exact ⟨rfl, New.trans (New.trans hnX3 k4) k5⟩
                          · have HOK2 : Hid (∀ j, j < i + 1 → expOK places exps j = true) := Lib.hid (fun j hj => by
                              rcases Nat.lt_or_ge j i with hj2 | hj2
                              · exact HOK.out j hj2
                              · obtain rfl : j = i := by omega
                                rw [HER2.out]; rfl)
                            go_wp2_with (first | (go_at_call 51; (with_reducible refine (HBg.out _ (New.trans hnX3 k4)).mono ?_); rintro e w5 ⟨rfl, k5⟩; have X5 := X4.new k5; have f50 := X5.cell' 0 _ rfl) | (go_at_call 50; (with_reducible refine (HNa.out _).mono ?_); rintro e w4 ⟨rfl, k4⟩; have X4 := BXX.new k4; have f40 := X4.cell' 0 _ rfl; have f41 := X4.cell' 1 _ rfl; have B4 := BB3.new k4; have m0 := B4.cell' 0 _ rfl; have m1 := B4.cell' 1 _ rfl; have m2 := B4.cell' 2 _ rfl; have m3 := B4.cell' 3 _ rfl; have m4 := B4.cell' 4 _ rfl; have m5 := B4.cell' 5 _ rfl; have m6 := B4.cell' 6 _ rfl; have m7 := B4.cell' 7 _ rfl))
                            go_roundw
                            case rel => exact ⟨i + 1, xs, by go_num, rfl, by omega, New.trans (New.trans hnX3 k4) k5, B4.new k5, HLN, HOK2⟩
                            case measure => simp [intOf]; omega
                        · have hxX : X = 1 := by rw [HX.out, HCV.out, HEB.out (by rw [HER2.out]; rfl)]; simp
                          subst hxX
                          go_wp2_with (first | (go_at_call 51; (with_reducible refine (HBg.out _ (New.trans hnX3 k4)).mono ?_); rintro e w5 ⟨rfl, k5⟩; have X5 := X4.new k5; have f50 := X5.cell' 0 _ rfl) | (go_at_call 50; (with_reducible refine (HNa.out _).mono ?_); rintro e w4 ⟨rfl, k4⟩; have X4 := BXX.new k4; have f40 := X4.cell' 0 _ rfl; have f41 := X4.cell' 1 _ rfl; have B4 := BB3.new k4; have m0 := B4.cell' 0 _ rfl; have m1 := B4.cell' 1 _ rfl; have m2 := B4.cell' 2 _ rfl; have m3 := B4.cell' 3 _ rfl; have m4 := B4.cell' 4 _ rfl; have m5 := B4.cell' 5 _ rfl; have m6 := B4.cell' 6 _ rfl; have m7 := B4.cell' 7 _ rfl))
                          go_ret
                          exact ⟨rfl, New.trans hnX3 k4⟩
                      · have hxX : X = 1 := by rw [HX.out, HCV.out, HEB.out (by rw [HER2.out]; rfl)]; simp
                        subst hxX
                        go_wp2_with (first | (go_at_call 51; (with_reducible refine (HBg.out _ (New.trans hnX3 k4)).mono ?_); rintro e w5 ⟨rfl, k5⟩; have X5 := X4.new k5; have f50 := X5.cell' 0 _ rfl) | (go_at_call 50; (with_reducible refine (HNa.out _).mono ?_); rintro e w4 ⟨rfl, k4⟩; have X4 := BXX.new k4; have f40 := X4.cell' 0 _ rfl; have f41 := X4.cell' 1 _ rfl; have B4 := BB3.new k4; have m0 := B4.cell' 0 _ rfl; have m1 := B4.cell' 1 _ rfl; have m2 := B4.cell' 2 _ rfl; have m3 := B4.cell' 3 _ rfl; have m4 := B4.cell' 4 _ rfl; have m5 := B4.cell' 5 _ rfl; have m6 := B4.cell' 6 _ rfl; have m7 := B4.cell' 7 _ rfl))
                        go_ret
                        exact ⟨rfl, New.trans hnX3 k4⟩
                  · obtain rfl : n4 = i := by omega
                    have HEX : Hid (exportedV places exps = true) := Lib.hid (exported_good (fun j hj => HOK.out j (by rw [HL4.out] at hj; exact hj)))
                    have HCV2 : Hid (cv = notedV notes) := Lib.hid (by rw [HCV.out, HEX.out, Bool.and_true])
                    have g7 := BR.cell' 7 _ rfl
                    clear HEX HOK HLX HCV hi9 hlt
                    go_wp2
                    go_loopw [6, 87] (fun v6 v87 wr => ∃ (j : Nat), v87 = .int .i64 j ∧ j ≤ n5 ∧ wr.ownsRow w.heap.size 9 1 v6 j ((notes.take j).map fun p => Value.string p.name) ∧ New w wr ∧ Hid (notedGo (notes.drop j) ((notes.take j).map fun p => p.name).reverse = notedGo notes [])) (fun _ v87 _ => n5 - (intOf v87).toNat)
                    case atStart => exact ⟨0, rfl, by omega, World.ownsRow_nil .., hn3', Lib.hid rfl⟩
                    case round =>
                      clear hn3' BR g7
                      obtain ⟨j, rfl, hj9, hown, hn6, HGo⟩ := hrel
                      by_cases hlt : j < n5
                      · obtain ⟨bk, o, rfl, hbk, x, hx, hcell⟩ := rd_row (f := ntC) (k := 2) (fun _ => rfl) HL5.out (HR5.out.below hn6) hlt
                        have HGA := Lib.hid (notedGo_at (seen := ((notes.take j).map fun p => p.name).reverse) hx)
                        have HTK := Lib.hid (take_note hx)
                        obtain ⟨xs, xt⟩ := x
                        simp only at HGA HTK
                        obtain ⟨A6, c6', rfl, _, _, hrd⟩ := own_form hown
                        have q0 := hcell 0 (.string xs) (by omega) rfl
                        have q1 := hcell 1 (.string xt) (by omega) rfl
                        simp only [Nat.add_zero] at q0
                        rw [← Nat.add_assoc] at q1
                        have BXX := Blk.made wr 66 #[.string xs, .string xt]
                        have hnX3 := New.alloc hn6 (.cells #[.string xs, .string xt] 66)
                        have HNa := Lib.hid (fun w => rname_any xs w)
                        have HRD := Lib.hid hrd
                        have HHs := Lib.hid (fun W (hW : New (wr.alloc (.cells #[.string xs, .string xt] 66)) W) => has_seen notes xs j A6 c6' W (by have := HL5.out; omega) (HRD.out.below (New.trans ((New.refl wr).alloc _) hW)) (by omega))
                        have hown6 := Lib.hid (fun W (hW : New (wr.alloc (.cells #[.string xs, .string xt] 66)) W) => hown.kept (New.trans ((New.refl wr).alloc _) hW |>.grown_ none) (by cases A6 <;> simp [Value.ownBlock]))
                        have HNO : Hid (noteOK ⟨xs, xt⟩ = (nameV xs && decide (xt.size ≤ 65536))) := Lib.hid rfl
                        have i0' : (0 : Int) ≤ (j : Int) := by omega
                        have i1 : (j : Int) < (n5 : Int) := by omega
                        clear hcell hx hrd hown
                        obtain ⟨nk, hnk⟩ : ∃ b, nameV xs = b := ⟨_, rfl⟩
                        rw [hnk] at HNa HNO
                        obtain ⟨sk, hsk⟩ : ∃ b, seenN ((notes.take j).map fun p => p.name).reverse xs = b := ⟨_, rfl⟩
                        rw [hsk] at HHs HGA
                        clear hnk hsk
                        have HBad : Hid (¬ (sk = false ∧ noteOK ⟨xs, xt⟩ = true) → X = 1) := Lib.hid (fun q => by
                          rw [HX.out, HCV2.out]
                          unfold notedV
                          rw [← HGo.out, HGA.out, if_neg q]; rfl)
                        cases nk
                        · have hxX := HBad.out (by rw [HNO.out]; simp)
                          subst hxX
                          go_wp2_with (first | (go_at_call 52; (with_reducible refine (HHs.out _ k6).mono ?_); rintro e w7 ⟨rfl, rfl⟩) | (go_at_call 50; (with_reducible refine (HNa.out _).mono ?_); rintro e w6 ⟨rfl, k6⟩; have X6 := BXX.new k6; have f60 := X6.cell' 0 _ rfl; have f61 := X6.cell' 1 _ rfl))
                          go_ret
                          exact ⟨rfl, New.trans hnX3 k6⟩
                        · cases sk
                          · by_cases h6 : xt.size ≤ 65536
                            · have t6 : ¬ (65536 : Int) < (xt.size : Int) := by omega
                              have HG9 : Hid (notedGo (notes.drop (j + 1)) (xs :: ((notes.take j).map fun p => p.name).reverse) = notedGo notes []) := Lib.hid (by
                                rw [← HGo.out, HGA.out, if_pos ⟨rfl, by rw [HNO.out, decide_eq_true h6]; rfl⟩])
                              go_wp2_with (first | (at_builtin; refine wpList_append_own _ rfl (.tmp 107) (.tmp 110) 120 rfl w.heap.size 9 i0 (.string ByteArray.empty) 1 16 Tryz.underlying120 hi hz0 hz1 hz2 rfl (by decide) _ _ _ rfl ((hown6.out _ k6).alloc _) ⟨w6.heap.size, 0, none⟩ 1 1 [.string xs] rfl rfl (cell_one_new _ _ _) (by simp [Value.oneCell']) (by simp [maxLen]; omega) (by omega) (by have := (New.trans hnX3 k6).size; simp; omega) ?_; intro v' w8 hown8 hg8 _) | (go_at_call 52; (with_reducible refine (HHs.out _ k6).mono ?_); rintro e w7 ⟨rfl, rfl⟩) | (go_at_call 50; (with_reducible refine (HNa.out _).mono ?_); rintro e w6 ⟨rfl, k6⟩; have X6 := BXX.new k6; have f60 := X6.cell' 0 _ rfl; have f61 := X6.cell' 1 _ rfl))
                              go_roundw
                              case rel => first | exact ⟨j + 1, by go_num, by omega, by rw [HTK.out.1]; simpa using hown8, Below.grown ((New.trans hnX3 k6).alloc _) hg8 (by have := (New.trans hnX3 k6).size; simp; omega) (fun k hk => ((hown6.out _ k6).lt k hk).1), Lib.hid (by rw [HTK.out.2]; exact HG9.out)⟩ | ((repeat apply Exists.intro); exact ⟨⟨j + 1, by go_num, by omega, by rw [HTK.out.1]; simpa using hown8, Below.grown ((New.trans hnX3 k6).alloc _) hg8 (by have := (New.trans hnX3 k6).size; simp; omega) (fun k hk => ((hown6.out _ k6).lt k hk).1), Lib.hid (by rw [HTK.out.2]; exact HG9.out)⟩, rfl⟩)
                              case measure => simp [intOf]; omega
                            · have t6 : (65536 : Int) < (xt.size : Int) := by omega
                              have hxX := HBad.out (by rw [HNO.out, decide_eq_false h6]; simp)
                              subst hxX
                              go_wp2_with (first | (go_at_call 52; (with_reducible refine (HHs.out _ k6).mono ?_); rintro e w7 ⟨rfl, rfl⟩) | (go_at_call 50; (with_reducible refine (HNa.out _).mono ?_); rintro e w6 ⟨rfl, k6⟩; have X6 := BXX.new k6; have f60 := X6.cell' 0 _ rfl; have f61 := X6.cell' 1 _ rfl))
                              go_ret
                              exact ⟨rfl, New.trans hnX3 k6⟩
                          · have hxX := HBad.out (by simp)
                            subst hxX
                            go_wp2_with (first | (go_at_call 52; (with_reducible refine (HHs.out _ k6).mono ?_); rintro e w7 ⟨rfl, rfl⟩) | (go_at_call 50; (with_reducible refine (HNa.out _).mono ?_); rintro e w6 ⟨rfl, k6⟩; have X6 := BXX.new k6; have f60 := X6.cell' 0 _ rfl; have f61 := X6.cell' 1 _ rfl))
                            go_ret
                            exact ⟨rfl, New.trans hnX3 k6⟩
                      · obtain rfl : n5 = j := by omega
                        have hxX : X = 0 := by
                          rw [HX.out, HCV2.out]
                          have hg := HGo.out
                          rw [List.drop_of_length_le (by rw [HL5.out]; exact Nat.le_refl _), notedGo] at hg
                          unfold notedV
                          rw [← hg, HL5.out, decide_eq_true h64]; rfl
                        subst hxX
                        go_wp2
                        go_ret
                        exact ⟨rfl, hn6⟩
              · have e6 : ((n3 : Int) == 0) = false := by rw [beq_eq_false_iff_ne]; omega
                have e7 : (0 : Int) < (n3 : Int) := by omega
                have hx : X = 1 := by rw [HX.out, HCV.out]; simp [e4]
                subst hx
                clear e1
                go_enter Tryz.func26, Tryz.ntmps26
                go_wp2_with (first | (go_at_call 49; (with_reducible refine (H51.out _ (hnX.trans k1)).mono ?_); rintro e w2 ⟨rfl, k2⟩; have B2 := BX.new (k1.trans k2); have d0 := B2.cell' 0 _ rfl; have d1 := B2.cell' 1 _ rfl; have d2 := B2.cell' 2 _ rfl; have d3 := B2.cell' 3 _ rfl; have d4 := B2.cell' 4 _ rfl; have d5 := B2.cell' 5 _ rfl; have d6 := B2.cell' 6 _ rfl; have d7 := B2.cell' 7 _ rfl; have p2 := cell_new ((hnX.trans k1).trans k2) p0) | (go_at_call 48; (with_reducible refine (H50.out _ hnX).mono ?_); rintro e w1 ⟨rfl, k1⟩; have B1 := BX.new k1; have ca0 := B1.cell' 0 _ rfl; have ca1 := B1.cell' 1 _ rfl; have ca2 := B1.cell' 2 _ rfl; have ca3 := B1.cell' 3 _ rfl; have ca4 := B1.cell' 4 _ rfl; have ca5 := B1.cell' 5 _ rfl; have ca6 := B1.cell' 6 _ rfl; have ca7 := B1.cell' 7 _ rfl))
                go_ret
                exact ⟨rfl, (hnX.trans k1).trans k2⟩
            · have e6 : (entry == -1) = false := beq_eq_false_iff_ne.2 e3
              have e7 : (entry != -1) = true := by rw [bne, e6]; rfl
              have hx : X = 1 := by rw [HX.out, HCV.out]; simp [e3]
              subst hx
              clear e1 e3
              go_enter Tryz.func26, Tryz.ntmps26
              go_wp2_with (first | (go_at_call 49; (with_reducible refine (H51.out _ (hnX.trans k1)).mono ?_); rintro e w2 ⟨rfl, k2⟩; have B2 := BX.new (k1.trans k2); have d0 := B2.cell' 0 _ rfl; have d1 := B2.cell' 1 _ rfl; have d2 := B2.cell' 2 _ rfl; have d3 := B2.cell' 3 _ rfl; have d4 := B2.cell' 4 _ rfl; have d5 := B2.cell' 5 _ rfl; have d6 := B2.cell' 6 _ rfl; have d7 := B2.cell' 7 _ rfl; have p2 := cell_new ((hnX.trans k1).trans k2) p0) | (go_at_call 48; (with_reducible refine (H50.out _ hnX).mono ?_); rintro e w1 ⟨rfl, k1⟩; have B1 := BX.new k1; have ca0 := B1.cell' 0 _ rfl; have ca1 := B1.cell' 1 _ rfl; have ca2 := B1.cell' 2 _ rfl; have ca3 := B1.cell' 3 _ rfl; have ca4 := B1.cell' 4 _ rfl; have ca5 := B1.cell' 5 _ rfl; have ca6 := B1.cell' 6 _ rfl; have ca7 := B1.cell' 7 _ rfl))
              go_ret
              exact ⟨rfl, (hnX.trans k1).trans k2⟩
          · have e6 : (kind == 2) = false := beq_eq_false_iff_ne.2 e2
            have hx : X = 1 := by rw [HX.out, HCV.out]; simp [e1, e2]
            subst hx
            clear e1 e2
            go_enter Tryz.func26, Tryz.ntmps26
            go_wp2_with (first | (go_at_call 49; (with_reducible refine (H51.out _ (hnX.trans k1)).mono ?_); rintro e w2 ⟨rfl, k2⟩; have B2 := BX.new (k1.trans k2); have d0 := B2.cell' 0 _ rfl; have d1 := B2.cell' 1 _ rfl; have d2 := B2.cell' 2 _ rfl; have d3 := B2.cell' 3 _ rfl; have d4 := B2.cell' 4 _ rfl; have d5 := B2.cell' 5 _ rfl; have d6 := B2.cell' 6 _ rfl; have d7 := B2.cell' 7 _ rfl; have p2 := cell_new ((hnX.trans k1).trans k2) p0) | (go_at_call 48; (with_reducible refine (H50.out _ hnX).mono ?_); rintro e w1 ⟨rfl, k1⟩; have B1 := BX.new k1; have ca0 := B1.cell' 0 _ rfl; have ca1 := B1.cell' 1 _ rfl; have ca2 := B1.cell' 2 _ rfl; have ca3 := B1.cell' 3 _ rfl; have ca4 := B1.cell' 4 _ rfl; have ca5 := B1.cell' 5 _ rfl; have ca6 := B1.cell' 6 _ rfl; have ca7 := B1.cell' 7 _ rfl))
            go_ret
            exact ⟨rfl, (hnX.trans k1).trans k2⟩
      · have t64 : (64 : Int) < (n5 : Int) := by omega
        have hx : X = 1 := by rw [HX.out, HCV.out, HN64.out (by omega)]; simp
        subst hx
        go_enter Tryz.func26, Tryz.ntmps26
        go_wp2_with (first | (go_at_call 49; (with_reducible refine (H51.out _ (hnX.trans k1)).mono ?_); rintro e w2 ⟨rfl, k2⟩; have B2 := BX.new (k1.trans k2); have d0 := B2.cell' 0 _ rfl; have d1 := B2.cell' 1 _ rfl; have d2 := B2.cell' 2 _ rfl; have d3 := B2.cell' 3 _ rfl; have d4 := B2.cell' 4 _ rfl; have d5 := B2.cell' 5 _ rfl; have d6 := B2.cell' 6 _ rfl; have d7 := B2.cell' 7 _ rfl; have p2 := cell_new ((hnX.trans k1).trans k2) p0) | (go_at_call 48; (with_reducible refine (H50.out _ hnX).mono ?_); rintro e w1 ⟨rfl, k1⟩; have B1 := BX.new k1; have ca0 := B1.cell' 0 _ rfl; have ca1 := B1.cell' 1 _ rfl; have ca2 := B1.cell' 2 _ rfl; have ca3 := B1.cell' 3 _ rfl; have ca4 := B1.cell' 4 _ rfl; have ca5 := B1.cell' 5 _ rfl; have ca6 := B1.cell' 6 _ rfl; have ca7 := B1.cell' 7 _ rfl))
        go_ret
        exact ⟨rfl, (hnX.trans k1).trans k2⟩
end Go.Proofs.YtnjampfhkojbnaaGreatDoor

