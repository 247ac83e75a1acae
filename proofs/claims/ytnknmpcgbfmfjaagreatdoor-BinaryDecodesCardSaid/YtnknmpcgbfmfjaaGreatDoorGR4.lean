/- The reference's places: which places are right. Conditions: sizes. (Printed by mk-r4.py.) -/
import Derived.Test.YtnknmpcgbfmfjaaGreatDoorGBase
import Derived.Test.YtnknmpcgbfmfjaaGreatDoorGR1
import Derived.Test.YtnknmpcgbfmfjaaGreatDoorGI
import Derived.Deep.RegionHeld3

namespace Go.Proofs.YtnknmpcgbfmfjaaGreatDoor
open Go Go.RowKit Go.Joins
set_option linter.unusedSimpArgs false
set_option linter.unusedVariables false

def seenT (l : List PlD) (i : Nat) : List (ByteArray × ByteArray) := ((l.take i).map fun p => (p.obj, p.sym)).reverse
theorem seenT_succ {l : List PlD} {i : Nat} {p : PlD} (h : l[i]? = some p) : seenT l (i + 1) = (p.obj, p.sym) :: seenT l i := by
  obtain ⟨hi, he⟩ := List.getElem?_eq_some_iff.1 h
  unfold seenT
  rw [List.take_succ_eq_append_getElem hi, he, List.map_append, List.reverse_append]; rfl
theorem seenT_iff (l : List PlD) (i : Nat) (o s : ByteArray) : seenB (seenT l i) o s = true ↔ ∃ q ∈ l.take i, q.obj = o ∧ q.sym = s := by
  rw [seenB_iff]
  unfold seenT
  rw [List.mem_reverse, List.mem_map]
  constructor
  · rintro ⟨q, hq, e⟩
    injection e with e1 e2
    exact ⟨q, hq, e1, e2⟩
  · rintro ⟨q, hq, rfl, rfl⟩
    exact ⟨q, hq, rfl⟩
theorem zero_iff {s : ByteArray} {a b : Nat} (hb : b ≤ s.size) : zeroB s a b = true ↔ ∀ j (hj : j < s.size), a ≤ j → j < b → s[j] = 0 := by
  unfold zeroB
  rw [extract_S, data_S, List.all_eq_true]
  have hl := size_eq s
  constructor
  · intro h j hj h1 h2
    have : s[j] ∈ (s.data.toList.drop a).take (b - a) := by
      rw [List.mem_take_iff_getElem]
      refine ⟨j - a, by rw [List.length_drop]; omega, ?_⟩
      rw [List.getElem_drop, get_eq]
      congr 1
      omega
    simpa using h _ this
  · intro h x hx
    obtain ⟨k, hk, rfl⟩ := List.mem_take_iff_getElem.1 hx
    rw [List.length_drop] at hk
    have := h (a + k) (by omega) (by omega) (by omega)
    rw [get_eq] at this
    rw [List.getElem_drop]
    simpa using this
set_option maxRecDepth 100000 in
set_option maxHeartbeats 8000000 in
theorem rplaces_any (b : Bn) (h : BH) (w : World) (hr : BRd w b h) (hz : SzP b.places) (hi : b.image.size ≤ 1000000) (hl : b.places.length ≤ 1000000) :
    Calls Tryz.prog 50 #[.agg (bcells b h)] w fun e w' => e = .returned (.bool (placedV b)) ∧ New w w' := by
  obtain ⟨kind, entry, image, places, fix, imps, exps, notes⟩ := b
  obtain ⟨a1, c1, a2, c2, a3, c3, a4, c4, a5, c5⟩ := h
  simp only [bcells] at hr hi hz hl ⊢
  have hv : placedV ⟨kind, entry, image, places, fix, imps, exps, notes⟩ = (decide (1 ≤ places.length) && decide (places.length ≤ 128) && decide (image.size ≤ 65536) && decide (placedGo image places 0 [] = some image.size)) := rfl
  rw [hv]
  have hR := hr.r1
  simp only at hR
  clear hv hr
  generalize fix.length = n2 at *
  generalize imps.length = n3 at *
  generalize exps.length = n4 at *
  generalize notes.length = n5 at *
  obtain ⟨n, hn⟩ : ∃ n, places.length = n := ⟨_, rfl⟩
  rw [hn] at hR hl ⊢
  have HN := Lib.hid hn
  have HR := Lib.hid hR
  have HZ := Lib.hid hz
  have B1 := Blk.made w 28 #[.int .i64 kind, .int .i64 entry, .string image, .slice a1 n c1, .slice a2 n2 c2, .slice a3 n3 c3, .slice a4 n4 c4, .slice a5 n5 c5]
  have hn1 := (New.refl w).alloc (.cells #[.int .i64 kind, .int .i64 entry, .string image, .slice a1 n c1, .slice a2 n2 c2, .slice a3 n3 c3, .slice a4 n4 c4, .slice a5 n5 c5] 28)
  clear hR hz hn
  by_cases g1 : 1 ≤ n ∧ n ≤ 128 ∧ image.size ≤ 65536
  · obtain ⟨g1, g2, g3⟩ := g1
    have d1 : (decide (1 ≤ n) && decide (n ≤ 128) && decide (image.size ≤ 65536)) = true := by simp [g1, g2, g3]
    rw [d1, Bool.true_and]
    have t1 : ¬ (n : Int) < 1 := by omega
    have t2 : ¬ (128 : Int) < (n : Int) := by omega
    have t3 : ¬ (65536 : Int) < (image.size : Int) := by omega
    obtain ⟨R, hR9⟩ : ∃ R, decide (placedGo image places 0 [] = some image.size) = R := ⟨_, rfl⟩
    rw [hR9]
    have HRR := Lib.hid hR9
    clear d1 hR9
    go_enter Tryz.func50, Tryz.ntmps50
    go_wp2
    go_loopw [3, 27] (fun v3 v27 wr => ∃ (i e : Nat), v27 = .int .i64 i ∧ v3 = .int .i64 e ∧ i ≤ n ∧ e ≤ image.size ∧ New w wr ∧ Blk wr w.heap.size 28 #[.int .i64 kind, .int .i64 entry, .string image, .slice a1 n c1, .slice a2 n2 c2, .slice a3 n3 c3, .slice a4 n4 c4, .slice a5 n5 c5] ∧ Hid (placedGo image (places.drop i) e (seenT places i) = placedGo image places 0 [])) (fun _ v27 _ => n - (intOf v27).toNat)
    case atStart => exact ⟨0, 0, rfl, rfl, by omega, by omega, hn1, B1, Lib.hid rfl⟩
    case round =>
      clear hn1 B1
      obtain ⟨i, e, rfl, rfl, hi9, he9, hnr, BR, HGo⟩ := hrel
      obtain ⟨wo, rfl⟩ : ∃ wo : World, wo = wr := ⟨_, rfl⟩
      by_cases hlt : i < n
      · obtain ⟨bk, o, rfl, hbk, p, hp, hcell⟩ := rd_row (f := plC) (k := 5) (fun _ => rfl) HN.out (HR.out.below hnr) hlt
        obtain ⟨z1, z2⟩ := HZ.out p (List.mem_of_getElem? hp)
        have hgo := placedGo_at (img := image) (e := e) (seen := seenT places i) hp
        rw [HGo.out] at hgo
        have HG := Lib.hid hgo
        have HSN := Lib.hid (seenT_succ hp)
        obtain ⟨po, ps, pk, pa, pz⟩ := p
        have HSQ := Lib.hid (seenT_iff places i po ps)
        have q0 := hcell 0 (.string po) (by omega) rfl
        have q1 := hcell 1 (.string ps) (by omega) rfl
        have q2 := hcell 2 (.int .i64 pk) (by omega) rfl
        have q3 := hcell 3 (.int .i64 pa) (by omega) rfl
        have q4 := hcell 4 (.int .i64 pz) (by omega) rfl
        simp only [Nat.add_zero] at q0
        rw [← Nat.add_assoc] at q1 q2 q3 q4
        simp only at z1 z2 HSN HG
        have nA := (New.refl wo).alloc (.cells #[.string po, .string ps, .int .i64 pk, .int .i64 pa, .int .i64 pz] 60)
        have BP := Blk.made wo 60 #[.string po, .string ps, .int .i64 pk, .int .i64 pa, .int .i64 pz]
        have BB := BR.new nA
        have i0 : (0 : Int) ≤ (i : Int) := by omega
        have i1 : (i : Int) < (n : Int) := by omega
        clear hcell hgo hp BR
        obtain ⟨u4, hu4⟩ : ∃ u, up4 e = u := ⟨_, rfl⟩
        have hue : u4 ≤ e + 3 ∧ e ≤ u4 := by rw [← hu4]; unfold up4; omega
        have HUP := Lib.hid (fun w => rup_any e w (by omega))
        rw [hu4] at HUP HG
        have HPO : Hid (placeOK image e ⟨po, ps, pk, pa, pz⟩ = (namedV po && nameV ps && kindOK ⟨po, ps, pk, pa, pz⟩ && decide (pz ≤ 8192) && decide (pa = (u4 : Nat)) && decide ((u4 : Nat) + pz ≤ (image.size : Int)) && zeroB image e u4)) := Lib.hid (by rw [← hu4]; rfl)
        have HBad : Hid (placeOK image e ⟨po, ps, pk, pa, pz⟩ = false → R = false) := Lib.hid (fun q => by
          rw [← HRR.out, HG.out, if_neg (by rw [q]; simp)]; rfl)
        have HBad2 : Hid (seenB (seenT places i) po ps = true → R = false) := Lib.hid (fun q => by
          rw [← HRR.out, HG.out, if_neg (by rw [q]; simp)]; rfl)
        have HG2 : Hid (seenB (seenT places i) po ps = false → placeOK image e ⟨po, ps, pk, pa, pz⟩ = true → placedGo image places 0 [] = placedGo image (places.drop (i + 1)) (u4 + pz.toNat) ((po, ps) :: seenT places i)) := Lib.hid (fun x1 x2 => by rw [HG.out, if_pos ⟨x1, x2⟩])
        have HA1 := Lib.hid (fun w => rnamed_any po w (by omega))
        have HA2 := Lib.hid (fun w => rname_any ps w)
        have HKO : Hid (kindOK ⟨po, ps, pk, pa, pz⟩ = ((pk == 1 && decide (2 ≤ pz)) || (pk == 2 && decide (0 ≤ pz) && pz % 4 == 0))) := Lib.hid rfl
        clear hu4 HG
        generalize namedV po = b1 at *
        generalize nameV ps = b2 at *
        cases b1
        · have hRf := HBad.out (by rw [HPO.out]; simp)
          subst hRf
          go_wp2_with (first | (go_at_call 34; (with_reducible refine (HA2.out _).mono ?_); rintro e w2 ⟨rfl, n2⟩; have f2 := (BP.new (n1.trans n2)).cell' 2 _ rfl; have f4 := (BP.new (n1.trans n2)).cell' 4 _ rfl) | (go_at_call 102; (with_reducible refine (HA1.out _).mono ?_); rintro e w1 ⟨rfl, n1⟩; have f1 := (BP.new n1).cell' 1 _ rfl))
          go_ret
          exact ⟨rfl, (hnr.trans nA).trans n1⟩
        · cases b2
          · have hRf := HBad.out (by rw [HPO.out]; simp)
            subst hRf
            go_wp2_with (first | (go_at_call 34; (with_reducible refine (HA2.out _).mono ?_); rintro e w2 ⟨rfl, n2⟩; have f2 := (BP.new (n1.trans n2)).cell' 2 _ rfl; have f4 := (BP.new (n1.trans n2)).cell' 4 _ rfl) | (go_at_call 102; (with_reducible refine (HA1.out _).mono ?_); rintro e w1 ⟨rfl, n1⟩; have f1 := (BP.new n1).cell' 1 _ rfl))
            go_ret
            exact ⟨rfl, ((hnr.trans nA).trans n1).trans n2⟩
          · rw [Bool.true_and, Bool.true_and] at HPO
            by_cases z0 : 0 ≤ pz ∧ pz ≤ 8192
            · obtain ⟨z0, z8⟩ := z0
              rw [decide_eq_true z8, Bool.and_true] at HPO
              have s1 : ¬ pz < 0 := by omega
              have s2 : ¬ (8192 : Int) < pz := by omega
              by_cases k1 : pk = 1
              · subst k1
                by_cases k2 : 2 ≤ pz
                · have s3 : ¬ pz < 2 := by omega
                  have hk : kindOK ⟨po, ps, 1, pa, pz⟩ = true := by rw [HKO.out]; simp [k2]
                  rw [hk, Bool.true_and] at HPO
                  have HPO2 := Lib.hid HPO.out
                  clear HPO HKO hk
                  go_wp2_with (first | (go_at_call 34; (with_reducible refine (HA2.out _).mono ?_); rintro e w2 ⟨rfl, n2⟩; have f2 := (BP.new (n1.trans n2)).cell' 2 _ rfl; have f4 := (BP.new (n1.trans n2)).cell' 4 _ rfl) | (go_at_call 102; (with_reducible refine (HA1.out _).mono ?_); rintro e w1 ⟨rfl, n1⟩; have f1 := (BP.new n1).cell' 1 _ rfl))
                  have nB := ((hnr.trans nA).trans n1).trans n2
                  have BP2 := BP.new (n1.trans n2)
                  have BB2 := BB.new (n1.trans n2)
                  clear nA BP BB HA1 HA2
                  go_loopw [6] (fun v6 wr => ∃ j : Nat, v6 = .int .i64 j ∧ j ≤ i ∧ New w2 wr ∧ Hid (∀ q ∈ places.take j, ¬ (q.obj = po ∧ q.sym = ps))) (fun v6 _ => i - (intOf v6).toNat)
                  case atStart => exact ⟨0, rfl, by omega, New.refl _, Lib.hid (by simp)⟩
                  case round =>
                    obtain ⟨j, rfl, hj9, hnj, HNO⟩ := hrel
                    obtain ⟨wj, rfl⟩ : ∃ wj : World, wj = wr := ⟨_, rfl⟩
                    have x0 := (BP2.new hnj).cell' 0 _ rfl
                    have x1 := (BP2.new hnj).cell' 1 _ rfl
                    have x3 := (BP2.new hnj).cell' 3 _ rfl
                    have x4 := (BP2.new hnj).cell' 4 _ rfl
                    have d3 := (BB2.new hnj).cell' 3 _ rfl
                    have d2 := (BB2.new hnj).cell' 2 _ rfl
                    by_cases hlt2 : j < i
                    · obtain ⟨bk', o', hA, _, y, hy, hcy⟩ := rd_row (f := plC) (k := 5) (fun _ => rfl) HN.out (HR.out.below (nB.trans hnj)) (show j < n by omega)
                      injection hA with hA
                      injection hA with hA1 hA2
                      subst hA1 hA2
                      have HTK : Hid (∀ q ∈ places.take (j + 1), q ∈ places.take j ∨ q = y) := Lib.hid (fun q hq => by
                        obtain ⟨hi, he⟩ := List.getElem?_eq_some_iff.1 hy
                        rw [List.take_succ_eq_append_getElem hi, List.mem_append, he] at hq
                        simpa using hq)
                      have HYM : Hid (y ∈ places.take i) := Lib.hid (by
                        obtain ⟨hi, he⟩ := List.getElem?_eq_some_iff.1 hy
                        rw [List.mem_take_iff_getElem]; exact ⟨j, by omega, he⟩)
                      obtain ⟨yo, ys, yk, ya, yz⟩ := y
                      have y0 := hcy 0 (.string yo) (by omega) rfl
                      have y1 := hcy 1 (.string ys) (by omega) rfl
                      simp only [Nat.add_zero] at y0
                      rw [← Nat.add_assoc] at y1
                      have j0 : (0 : Int) ≤ (j : Int) := by omega
                      have j1 : (j : Int) < (n : Int) := by omega
                      have HE1 := Lib.hid (str_eq yo po)
                      have HE2 := Lib.hid (str_eq ys ps)
                      clear hcy hy
                      by_cases h1 : yo = po
                      · have c1' : (yo.toList == po.toList) = true := by rw [HE1.out, decide_eq_true h1]
                        by_cases h2 : ys = ps
                        · have c2' : (ys.toList == ps.toList) = true := by rw [HE2.out, decide_eq_true h2]
                          have hRf := HBad2.out (HSQ.out.2 ⟨_, HYM.out, h1, h2⟩)
                          subst hRf
                          clear h1 h2
                          go_wp2_with (fail)
                          refine wp_region_held_drew (S := (New _)) (by kernel_rfl) ((New.refl _).drew) (fun hS => ?_)
                          refine tkQ (i := 0) (oi := ?o1) (v := ?v1) ?h1 ?q1 ?y1 hS ?_; (case h1 => (simp only [gqA, gqB, gqC]; rfl)); (case q1 => exact fun _ _ _ h => h); (case y1 => (refine Or.inl ⟨by kernel_rfl, ?_⟩; intro wq hSq; clear hSq; go_simp; (try with_reducible rfl))); simp only [Act.put, List.setIfInBounds_toArray, List.set_cons_zero, List.set_cons_succ]
                          refine tkQ (i := 1) (oi := ?o2) (v := ?v2) ?h2 ?q2 ?y2 hS ?_; (case h2 => (simp only [gqA, gqB, gqC]; rfl)); (case q2 => exact fun _ _ _ h => h); (case y2 => (refine Or.inl ⟨by kernel_rfl, ?_⟩; intro wq hSq; have hf0 := cell_new hSq x0; have hf1 := cell_new hSq x1; have hf2 := cell_new hSq d3; have hf3 := cell_new hSq y0; have hf4 := cell_new hSq y1; clear hSq; go_simp; (try with_reducible rfl))); simp only [Act.put, List.setIfInBounds_toArray, List.set_cons_zero, List.set_cons_succ]
                          refine tkQ (i := 2) (oi := ?o3) (v := ?v3) ?h3 ?q3 ?y3 hS ?_; (case h3 => (simp only [gqA, gqB, gqC]; rfl)); (case q3 => exact fun _ _ _ h => h); (case y3 => (refine Or.inl ⟨by kernel_rfl, ?_⟩; intro wq hSq; clear hSq; go_simp; (try with_reducible rfl))); simp only [Act.put, List.setIfInBounds_toArray, List.set_cons_zero, List.set_cons_succ]
                          refine tkQ (i := 3) (oi := ?o4) (v := ?v4) ?h4 ?q4 ?y4 hS ?_; (case h4 => (simp only [gqA, gqB, gqC]; rfl)); (case q4 => exact fun _ _ _ h => h); (case y4 => (refine Or.inl ⟨by kernel_rfl, ?_⟩; intro wq hSq; clear hSq; go_simp; (try with_reducible rfl))); simp only [Act.put, List.setIfInBounds_toArray, List.set_cons_zero, List.set_cons_succ]
                          refine tkQ (i := 4) (oi := ?o5) (v := ?v5) ?h5 ?q5 ?y5 hS ?_; (case h5 => (simp only [gqA, gqB, gqC]; rfl)); (case q5 => exact fun _ _ _ h => h); (case y5 => (refine Or.inl ⟨by kernel_rfl, ?_⟩; intro wq hSq; clear hSq; go_simp; (try with_reducible rfl))); simp only [Act.put, List.setIfInBounds_toArray, List.set_cons_zero, List.set_cons_succ]
                          refine tkQ (i := 5) (oi := ?o6) (v := ?v6) ?h6 ?q6 ?y6 hS ?_; (case h6 => (simp only [gqA, gqB, gqC]; rfl)); (case q6 => exact fun _ _ _ h => h); (case y6 => (refine Or.inl ⟨by kernel_rfl, ?_⟩; intro wq hSq; have hf0 := cell_new hSq x0; have hf1 := cell_new hSq x1; have hf2 := cell_new hSq d3; have hf3 := cell_new hSq y0; have hf4 := cell_new hSq y1; clear hSq; go_simp; (try with_reducible rfl))); simp only [Act.put, List.setIfInBounds_toArray, List.set_cons_zero, List.set_cons_succ]
                          refine tkQ (i := 6) (oi := ?o7) (v := ?v7) ?h7 ?q7 ?y7 hS ?_; (case h7 => (simp only [gqA, gqB, gqC]; rfl)); (case q7 => exact fun _ _ _ h => h); (case y7 => (refine Or.inl ⟨by kernel_rfl, ?_⟩; intro wq hSq; clear hSq; go_simp; (try with_reducible rfl))); simp only [Act.put, List.setIfInBounds_toArray, List.set_cons_zero, List.set_cons_succ]
                          refine tkQ (i := 7) (oi := ?o8) (v := ?v8) ?h8 ?q8 ?y8 hS ?_; (case h8 => (simp only [gqA, gqB, gqC]; rfl)); (case q8 => exact fun _ _ _ h => h); (case y8 => (refine Or.inl ⟨by kernel_rfl, ?_⟩; intro wq hSq; have hf0 := cell_new hSq x0; have hf1 := cell_new hSq x1; have hf2 := cell_new hSq d3; have hf3 := cell_new hSq y0; have hf4 := cell_new hSq y1; clear hSq; go_simp; (try with_reducible rfl))); simp only [Act.put, List.setIfInBounds_toArray, List.set_cons_zero, List.set_cons_succ]
                          refine tkQ (i := 8) (oi := ?o9) (v := ?v9) ?h9 ?q9 ?y9 hS ?_; (case h9 => (simp only [gqA, gqB, gqC]; rfl)); (case q9 => exact fun _ _ _ h => h); (case y9 => (refine Or.inl ⟨by kernel_rfl, ?_⟩; intro wq hSq; clear hSq; go_simp; (try with_reducible rfl))); simp only [Act.put, List.setIfInBounds_toArray, List.set_cons_zero, List.set_cons_succ]
                          refine tkQ (i := 9) (oi := ?o10) (v := ?v10) ?h10 ?q10 ?y10 hS ?_; (case h10 => (simp only [gqA, gqB, gqC]; rfl)); (case q10 => exact fun _ _ _ h => h); (case y10 => (refine Or.inl ⟨by kernel_rfl, ?_⟩; intro wq hSq; clear hSq; go_simp; (try with_reducible rfl))); simp only [Act.put, List.setIfInBounds_toArray, List.set_cons_zero, List.set_cons_succ]
                          refine tkQ (i := 10) (oi := ?o11) (v := ?v11) ?h11 ?q11 ?y11 hS ?_; (case h11 => (simp only [gqA, gqB, gqC]; rfl)); (case q11 => exact fun _ _ _ h => h); (case y11 => (refine Or.inl ⟨by kernel_rfl, ?_⟩; intro wq hSq; clear hSq; go_simp; (try with_reducible rfl))); simp only [Act.put, List.setIfInBounds_toArray, List.set_cons_zero, List.set_cons_succ]
                          refine tkQ (i := 11) (oi := ?o12) (v := ?v12) ?h12 ?q12 ?y12 hS ?_; (case h12 => (simp only [gqA, gqB, gqC]; rfl)); (case q12 => exact fun _ _ _ h => h); (case y12 => (refine Or.inl ⟨by kernel_rfl, ?_⟩; intro wq hSq; have hf0 := cell_new hSq x0; have hf1 := cell_new hSq x1; have hf2 := cell_new hSq d3; have hf3 := cell_new hSq y0; have hf4 := cell_new hSq y1; clear hSq; go_simp; (try with_reducible rfl))); simp only [Act.put, List.setIfInBounds_toArray, List.set_cons_zero, List.set_cons_succ]
                          refine tkQ (i := 12) (oi := ?o13) (v := ?v13) ?h13 ?q13 ?y13 hS ?_; (case h13 => (simp only [gqA, gqB, gqC]; rfl)); (case q13 => exact fun _ _ _ h => h); (case y13 => (refine Or.inl ⟨by kernel_rfl, ?_⟩; intro wq hSq; clear hSq; go_simp; (try with_reducible rfl))); simp only [Act.put, List.setIfInBounds_toArray, List.set_cons_zero, List.set_cons_succ]
                          refine tkQ (i := 13) (oi := ?o14) (v := ?v14) ?h14 ?q14 ?y14 hS ?_; (case h14 => (simp only [gqA, gqB, gqC]; rfl)); (case q14 => exact fun _ _ _ h => h); (case y14 => (refine Or.inl ⟨by kernel_rfl, ?_⟩; intro wq hSq; clear hSq; go_simp; (try with_reducible rfl))); simp only [Act.put, List.setIfInBounds_toArray, List.set_cons_zero, List.set_cons_succ]
                          refine tkQ (i := 14) (oi := ?o15) (v := ?v15) ?h15 ?q15 ?y15 hS ?_; (case h15 => (simp only [gqA, gqB, gqC]; rfl)); (case q15 => exact fun _ _ _ h => h); (case y15 => (refine Or.inl ⟨by kernel_rfl, ?_⟩; intro wq hSq; clear hSq; go_simp; (try with_reducible rfl))); simp only [Act.put, List.setIfInBounds_toArray, List.set_cons_zero, List.set_cons_succ]
                          refine tkQ (i := 15) (oi := ?o16) (v := ?v16) ?h16 ?q16 ?y16 hS ?_; (case h16 => (simp only [gqA, gqB, gqC]; rfl)); (case q16 => exact fun _ _ _ h => h); (case y16 => (refine Or.inl ⟨by kernel_rfl, ?_⟩; intro wq hSq; have hf0 := cell_new hSq x0; have hf1 := cell_new hSq x1; have hf2 := cell_new hSq d3; have hf3 := cell_new hSq y0; have hf4 := cell_new hSq y1; clear hSq; go_simp; (try with_reducible rfl))); simp only [Act.put, List.setIfInBounds_toArray, List.set_cons_zero, List.set_cons_succ]
                          refine tkQ (i := 16) (oi := ?o17) (v := ?v17) ?h17 ?q17 ?y17 hS ?_; (case h17 => (simp only [gqA, gqB, gqC]; rfl)); (case q17 => exact fun _ _ _ h => h); (case y17 => (refine Or.inl ⟨by kernel_rfl, ?_⟩; intro wq hSq; clear hSq; go_simp; (try with_reducible rfl))); simp only [Act.put, List.setIfInBounds_toArray, List.set_cons_zero, List.set_cons_succ]
                          refine tkQ (i := 17) (oi := ?o18) (v := ?v18) ?h18 ?q18 ?y18 hS ?_; (case h18 => (simp only [gqA, gqB, gqC]; rfl)); (case q18 => exact fun _ _ _ h => h); (case y18 => (refine Or.inl ⟨by kernel_rfl, ?_⟩; intro wq hSq; have hf0 := cell_new hSq x0; have hf1 := cell_new hSq x1; have hf2 := cell_new hSq d3; have hf3 := cell_new hSq y0; have hf4 := cell_new hSq y1; clear hSq; go_simp; (try with_reducible rfl))); simp only [Act.put, List.setIfInBounds_toArray, List.set_cons_zero, List.set_cons_succ]
                          refine tkQ (i := 18) (oi := ?o19) (v := ?v19) ?h19 ?q19 ?y19 hS ?_; (case h19 => (simp only [gqA, gqB, gqC]; rfl)); (case q19 => exact fun _ _ _ h => h); (case y19 => (refine Or.inl ⟨by kernel_rfl, ?_⟩; intro wq hSq; clear hSq; go_simp; (try with_reducible rfl))); simp only [Act.put, List.setIfInBounds_toArray, List.set_cons_zero, List.set_cons_succ]
                          refine tkQ (i := 19) (oi := ?o20) (v := ?v20) ?h20 ?q20 ?y20 hS ?_; (case h20 => (simp only [gqA, gqB, gqC]; rfl)); (case q20 => exact fun _ _ _ h => h); (case y20 => (refine Or.inl ⟨by kernel_rfl, ?_⟩; intro wq hSq; clear hSq; go_simp; (try with_reducible rfl))); simp only [Act.put, List.setIfInBounds_toArray, List.set_cons_zero, List.set_cons_succ]
                          refine wpAnyH_done (by kernel_rfl) ?_ _
                          go_wp2
                          go_ret
                          exact ⟨rfl, nB.trans (hnj.trans (New.refl _).drew)⟩
                        · have c2' : (ys.toList == ps.toList) = false := by rw [HE2.out, decide_eq_false h2]
                          have HNE := Lib.hid h2
                          clear h1 h2
                          go_wp2_with (fail)
                          refine wp_region_held_drew (S := (New _)) (by kernel_rfl) ((New.refl _).drew) (fun hS => ?_)
                          refine tkQ (i := 0) (oi := ?o73) (v := ?v73) ?h73 ?q73 ?y73 hS ?_; (case h73 => (simp only [gqA, gqB, gqC]; rfl)); (case q73 => exact fun _ _ _ h => h); (case y73 => (refine Or.inl ⟨by kernel_rfl, ?_⟩; intro wq hSq; clear hSq; go_simp; (try with_reducible rfl))); simp only [Act.put, List.setIfInBounds_toArray, List.set_cons_zero, List.set_cons_succ]
                          refine tkQ (i := 1) (oi := ?o74) (v := ?v74) ?h74 ?q74 ?y74 hS ?_; (case h74 => (simp only [gqA, gqB, gqC]; rfl)); (case q74 => exact fun _ _ _ h => h); (case y74 => (refine Or.inl ⟨by kernel_rfl, ?_⟩; intro wq hSq; have hf0 := cell_new hSq x0; have hf1 := cell_new hSq x1; have hf2 := cell_new hSq d3; have hf3 := cell_new hSq y0; have hf4 := cell_new hSq y1; clear hSq; go_simp; (try with_reducible rfl))); simp only [Act.put, List.setIfInBounds_toArray, List.set_cons_zero, List.set_cons_succ]
                          refine tkQ (i := 2) (oi := ?o75) (v := ?v75) ?h75 ?q75 ?y75 hS ?_; (case h75 => (simp only [gqA, gqB, gqC]; rfl)); (case q75 => exact fun _ _ _ h => h); (case y75 => (refine Or.inl ⟨by kernel_rfl, ?_⟩; intro wq hSq; clear hSq; go_simp; (try with_reducible rfl))); simp only [Act.put, List.setIfInBounds_toArray, List.set_cons_zero, List.set_cons_succ]
                          refine tkQ (i := 3) (oi := ?o76) (v := ?v76) ?h76 ?q76 ?y76 hS ?_; (case h76 => (simp only [gqA, gqB, gqC]; rfl)); (case q76 => exact fun _ _ _ h => h); (case y76 => (refine Or.inl ⟨by kernel_rfl, ?_⟩; intro wq hSq; clear hSq; go_simp; (try with_reducible rfl))); simp only [Act.put, List.setIfInBounds_toArray, List.set_cons_zero, List.set_cons_succ]
                          refine tkQ (i := 4) (oi := ?o77) (v := ?v77) ?h77 ?q77 ?y77 hS ?_; (case h77 => (simp only [gqA, gqB, gqC]; rfl)); (case q77 => exact fun _ _ _ h => h); (case y77 => (refine Or.inl ⟨by kernel_rfl, ?_⟩; intro wq hSq; clear hSq; go_simp; (try with_reducible rfl))); simp only [Act.put, List.setIfInBounds_toArray, List.set_cons_zero, List.set_cons_succ]
                          refine tkQ (i := 5) (oi := ?o78) (v := ?v78) ?h78 ?q78 ?y78 hS ?_; (case h78 => (simp only [gqA, gqB, gqC]; rfl)); (case q78 => exact fun _ _ _ h => h); (case y78 => (refine Or.inl ⟨by kernel_rfl, ?_⟩; intro wq hSq; have hf0 := cell_new hSq x0; have hf1 := cell_new hSq x1; have hf2 := cell_new hSq d3; have hf3 := cell_new hSq y0; have hf4 := cell_new hSq y1; clear hSq; go_simp; (try with_reducible rfl))); simp only [Act.put, List.setIfInBounds_toArray, List.set_cons_zero, List.set_cons_succ]
                          refine tkQ (i := 6) (oi := ?o79) (v := ?v79) ?h79 ?q79 ?y79 hS ?_; (case h79 => (simp only [gqA, gqB, gqC]; rfl)); (case q79 => exact fun _ _ _ h => h); (case y79 => (refine Or.inl ⟨by kernel_rfl, ?_⟩; intro wq hSq; clear hSq; go_simp; (try with_reducible rfl))); simp only [Act.put, List.setIfInBounds_toArray, List.set_cons_zero, List.set_cons_succ]
                          refine tkQ (i := 7) (oi := ?o80) (v := ?v80) ?h80 ?q80 ?y80 hS ?_; (case h80 => (simp only [gqA, gqB, gqC]; rfl)); (case q80 => exact fun _ _ _ h => h); (case y80 => (refine Or.inl ⟨by kernel_rfl, ?_⟩; intro wq hSq; have hf0 := cell_new hSq x0; have hf1 := cell_new hSq x1; have hf2 := cell_new hSq d3; have hf3 := cell_new hSq y0; have hf4 := cell_new hSq y1; clear hSq; go_simp; (try with_reducible rfl))); simp only [Act.put, List.setIfInBounds_toArray, List.set_cons_zero, List.set_cons_succ]
                          refine tkQ (i := 8) (oi := ?o81) (v := ?v81) ?h81 ?q81 ?y81 hS ?_; (case h81 => (simp only [gqA, gqB, gqC]; rfl)); (case q81 => exact fun _ _ _ h => h); (case y81 => (refine Or.inl ⟨by kernel_rfl, ?_⟩; intro wq hSq; clear hSq; go_simp; (try with_reducible rfl))); simp only [Act.put, List.setIfInBounds_toArray, List.set_cons_zero, List.set_cons_succ]
                          refine tkQ (i := 9) (oi := ?o82) (v := ?v82) ?h82 ?q82 ?y82 hS ?_; (case h82 => (simp only [gqA, gqB, gqC]; rfl)); (case q82 => exact fun _ _ _ h => h); (case y82 => (refine Or.inl ⟨by kernel_rfl, ?_⟩; intro wq hSq; clear hSq; go_simp; (try with_reducible rfl))); simp only [Act.put, List.setIfInBounds_toArray, List.set_cons_zero, List.set_cons_succ]
                          refine tkQ (i := 10) (oi := ?o83) (v := ?v83) ?h83 ?q83 ?y83 hS ?_; (case h83 => (simp only [gqA, gqB, gqC]; rfl)); (case q83 => exact fun _ _ _ h => h); (case y83 => (refine Or.inl ⟨by kernel_rfl, ?_⟩; intro wq hSq; clear hSq; go_simp; (try with_reducible rfl))); simp only [Act.put, List.setIfInBounds_toArray, List.set_cons_zero, List.set_cons_succ]
                          refine tkQ (i := 11) (oi := ?o84) (v := ?v84) ?h84 ?q84 ?y84 hS ?_; (case h84 => (simp only [gqA, gqB, gqC]; rfl)); (case q84 => exact fun _ _ _ h => h); (case y84 => (refine Or.inl ⟨by kernel_rfl, ?_⟩; intro wq hSq; have hf0 := cell_new hSq x0; have hf1 := cell_new hSq x1; have hf2 := cell_new hSq d3; have hf3 := cell_new hSq y0; have hf4 := cell_new hSq y1; clear hSq; go_simp; (try with_reducible rfl))); simp only [Act.put, List.setIfInBounds_toArray, List.set_cons_zero, List.set_cons_succ]
                          refine tkQ (i := 12) (oi := ?o85) (v := ?v85) ?h85 ?q85 ?y85 hS ?_; (case h85 => (simp only [gqA, gqB, gqC]; rfl)); (case q85 => exact fun _ _ _ h => h); (case y85 => (refine Or.inl ⟨by kernel_rfl, ?_⟩; intro wq hSq; clear hSq; go_simp; (try with_reducible rfl))); simp only [Act.put, List.setIfInBounds_toArray, List.set_cons_zero, List.set_cons_succ]
                          refine tkQ (i := 13) (oi := ?o86) (v := ?v86) ?h86 ?q86 ?y86 hS ?_; (case h86 => (simp only [gqA, gqB, gqC]; rfl)); (case q86 => exact fun _ _ _ h => h); (case y86 => (refine Or.inl ⟨by kernel_rfl, ?_⟩; intro wq hSq; clear hSq; go_simp; (try with_reducible rfl))); simp only [Act.put, List.setIfInBounds_toArray, List.set_cons_zero, List.set_cons_succ]
                          refine tkQ (i := 14) (oi := ?o87) (v := ?v87) ?h87 ?q87 ?y87 hS ?_; (case h87 => (simp only [gqA, gqB, gqC]; rfl)); (case q87 => exact fun _ _ _ h => h); (case y87 => (refine Or.inl ⟨by kernel_rfl, ?_⟩; intro wq hSq; clear hSq; go_simp; (try with_reducible rfl))); simp only [Act.put, List.setIfInBounds_toArray, List.set_cons_zero, List.set_cons_succ]
                          refine tkQ (i := 15) (oi := ?o88) (v := ?v88) ?h88 ?q88 ?y88 hS ?_; (case h88 => (simp only [gqA, gqB, gqC]; rfl)); (case q88 => exact fun _ _ _ h => h); (case y88 => (refine Or.inl ⟨by kernel_rfl, ?_⟩; intro wq hSq; have hf0 := cell_new hSq x0; have hf1 := cell_new hSq x1; have hf2 := cell_new hSq d3; have hf3 := cell_new hSq y0; have hf4 := cell_new hSq y1; clear hSq; go_simp; (try with_reducible rfl))); simp only [Act.put, List.setIfInBounds_toArray, List.set_cons_zero, List.set_cons_succ]
                          refine tkQ (i := 16) (oi := ?o89) (v := ?v89) ?h89 ?q89 ?y89 hS ?_; (case h89 => (simp only [gqA, gqB, gqC]; rfl)); (case q89 => exact fun _ _ _ h => h); (case y89 => (refine Or.inl ⟨by kernel_rfl, ?_⟩; intro wq hSq; clear hSq; go_simp; (try with_reducible rfl))); simp only [Act.put, List.setIfInBounds_toArray, List.set_cons_zero, List.set_cons_succ]
                          refine tkQ (i := 17) (oi := ?o90) (v := ?v90) ?h90 ?q90 ?y90 hS ?_; (case h90 => (simp only [gqA, gqB, gqC]; rfl)); (case q90 => exact fun _ _ _ h => h); (case y90 => (refine Or.inl ⟨by kernel_rfl, ?_⟩; intro wq hSq; have hf0 := cell_new hSq x0; have hf1 := cell_new hSq x1; have hf2 := cell_new hSq d3; have hf3 := cell_new hSq y0; have hf4 := cell_new hSq y1; clear hSq; go_simp; (try with_reducible rfl))); simp only [Act.put, List.setIfInBounds_toArray, List.set_cons_zero, List.set_cons_succ]
                          refine tkQ (i := 18) (oi := ?o91) (v := ?v91) ?h91 ?q91 ?y91 hS ?_; (case h91 => (simp only [gqA, gqB, gqC]; rfl)); (case q91 => exact fun _ _ _ h => h); (case y91 => (refine Or.inl ⟨by kernel_rfl, ?_⟩; intro wq hSq; clear hSq; go_simp; (try with_reducible rfl))); simp only [Act.put, List.setIfInBounds_toArray, List.set_cons_zero, List.set_cons_succ]
                          refine tkQ (i := 19) (oi := ?o92) (v := ?v92) ?h92 ?q92 ?y92 hS ?_; (case h92 => (simp only [gqA, gqB, gqC]; rfl)); (case q92 => exact fun _ _ _ h => h); (case y92 => (refine Or.inl ⟨by kernel_rfl, ?_⟩; intro wq hSq; clear hSq; go_simp; (try with_reducible rfl))); simp only [Act.put, List.setIfInBounds_toArray, List.set_cons_zero, List.set_cons_succ]
                          refine wpAnyH_done (by kernel_rfl) ?_ _
                          go_wp2
                          go_roundw
                          case rel => exact ⟨j + 1, by go_num, by omega, hnj.trans (New.refl _).drew, Lib.hid (fun q hq => by
                            rcases HTK.out q hq with h | rfl
                            · exact HNO.out q h
                            · exact fun x => HNE.out x.2)⟩
                          case measure => simp [intOf]; omega
                      · have c1' : (yo.toList == po.toList) = false := by rw [HE1.out, decide_eq_false h1]
                        have HNE := Lib.hid h1
                        clear h1
                        go_wp2_with (fail)
                        refine wp_region_held_drew (S := (New _)) (by kernel_rfl) ((New.refl _).drew) (fun hS => ?_)
                        refine tkQ (i := 0) (oi := ?o21) (v := ?v21) ?h21 ?q21 ?y21 hS ?_; (case h21 => (simp only [gqA, gqB, gqC]; rfl)); (case q21 => exact fun _ _ _ h => h); (case y21 => (refine Or.inl ⟨by kernel_rfl, ?_⟩; intro wq hSq; clear hSq; go_simp; (try with_reducible rfl))); simp only [Act.put, List.setIfInBounds_toArray, List.set_cons_zero, List.set_cons_succ]
                        refine tkQ (i := 1) (oi := ?o22) (v := ?v22) ?h22 ?q22 ?y22 hS ?_; (case h22 => (simp only [gqA, gqB, gqC]; rfl)); (case q22 => exact fun _ _ _ h => h); (case y22 => (refine Or.inl ⟨by kernel_rfl, ?_⟩; intro wq hSq; have hf0 := cell_new hSq x0; have hf1 := cell_new hSq x1; have hf2 := cell_new hSq d3; have hf3 := cell_new hSq y0; have hf4 := cell_new hSq y1; clear hSq; go_simp; (try with_reducible rfl))); simp only [Act.put, List.setIfInBounds_toArray, List.set_cons_zero, List.set_cons_succ]
                        refine tkQ (i := 2) (oi := ?o23) (v := ?v23) ?h23 ?q23 ?y23 hS ?_; (case h23 => (simp only [gqA, gqB, gqC]; rfl)); (case q23 => exact fun _ _ _ h => h); (case y23 => (refine Or.inl ⟨by kernel_rfl, ?_⟩; intro wq hSq; clear hSq; go_simp; (try with_reducible rfl))); simp only [Act.put, List.setIfInBounds_toArray, List.set_cons_zero, List.set_cons_succ]
                        refine tkQ (i := 3) (oi := ?o24) (v := ?v24) ?h24 ?q24 ?y24 hS ?_; (case h24 => (simp only [gqA, gqB, gqC]; rfl)); (case q24 => exact fun _ _ _ h => h); (case y24 => (refine Or.inl ⟨by kernel_rfl, ?_⟩; intro wq hSq; clear hSq; go_simp; (try with_reducible rfl))); simp only [Act.put, List.setIfInBounds_toArray, List.set_cons_zero, List.set_cons_succ]
                        refine tkQ (i := 4) (oi := ?o25) (v := ?v25) ?h25 ?q25 ?y25 hS ?_; (case h25 => (simp only [gqA, gqB, gqC]; rfl)); (case q25 => exact fun _ _ _ h => h); (case y25 => (refine Or.inl ⟨by kernel_rfl, ?_⟩; intro wq hSq; clear hSq; go_simp; (try with_reducible rfl))); simp only [Act.put, List.setIfInBounds_toArray, List.set_cons_zero, List.set_cons_succ]
                        refine tkQ (i := 5) (oi := ?o26) (v := ?v26) ?h26 ?q26 ?y26 hS ?_; (case h26 => (simp only [gqA, gqB, gqC]; rfl)); (case q26 => exact fun _ _ _ h => h); (case y26 => (refine Or.inl ⟨by kernel_rfl, ?_⟩; intro wq hSq; have hf0 := cell_new hSq x0; have hf1 := cell_new hSq x1; have hf2 := cell_new hSq d3; have hf3 := cell_new hSq y0; have hf4 := cell_new hSq y1; clear hSq; go_simp; (try with_reducible rfl))); simp only [Act.put, List.setIfInBounds_toArray, List.set_cons_zero, List.set_cons_succ]
                        refine tkQ (i := 6) (oi := ?o27) (v := ?v27) ?h27 ?q27 ?y27 hS ?_; (case h27 => (simp only [gqA, gqB, gqC]; rfl)); (case q27 => exact fun _ _ _ h => h); (case y27 => (refine Or.inl ⟨by kernel_rfl, ?_⟩; intro wq hSq; clear hSq; go_simp; (try with_reducible rfl))); simp only [Act.put, List.setIfInBounds_toArray, List.set_cons_zero, List.set_cons_succ]
                        refine tkQ (i := 7) (oi := ?o28) (v := ?v28) ?h28 ?q28 ?y28 hS ?_; (case h28 => (simp only [gqA, gqB, gqC]; rfl)); (case q28 => exact fun _ _ _ h => h); (case y28 => (refine Or.inl ⟨by kernel_rfl, ?_⟩; intro wq hSq; have hf0 := cell_new hSq x0; have hf1 := cell_new hSq x1; have hf2 := cell_new hSq d3; have hf3 := cell_new hSq y0; have hf4 := cell_new hSq y1; clear hSq; go_simp; (try with_reducible rfl))); simp only [Act.put, List.setIfInBounds_toArray, List.set_cons_zero, List.set_cons_succ]
                        refine tkQ (i := 8) (oi := ?o29) (v := ?v29) ?h29 ?q29 ?y29 hS ?_; (case h29 => (simp only [gqA, gqB, gqC]; rfl)); (case q29 => exact fun _ _ _ h => h); (case y29 => (refine Or.inl ⟨by kernel_rfl, ?_⟩; intro wq hSq; clear hSq; go_simp; (try with_reducible rfl))); simp only [Act.put, List.setIfInBounds_toArray, List.set_cons_zero, List.set_cons_succ]
                        refine tkQ (i := 9) (oi := ?o30) (v := ?v30) ?h30 ?q30 ?y30 hS ?_; (case h30 => (simp only [gqA, gqB, gqC]; rfl)); (case q30 => exact fun _ _ _ h => h); (case y30 => (refine Or.inl ⟨by kernel_rfl, ?_⟩; intro wq hSq; clear hSq; go_simp; (try with_reducible rfl))); simp only [Act.put, List.setIfInBounds_toArray, List.set_cons_zero, List.set_cons_succ]
                        refine tkQ (i := 10) (oi := ?o31) (v := undef) ?h31 ?q31 ?y31 hS ?_; (case h31 => (simp only [gqA, gqB, gqC]; rfl)); (case q31 => exact fun _ _ _ h => h); (case y31 => (exact Or.inr ⟨by kernel_rfl, rfl⟩)); simp only [Act.put, List.setIfInBounds_toArray, List.set_cons_zero, List.set_cons_succ]
                        refine tkQ (i := 11) (oi := ?o32) (v := undef) ?h32 ?q32 ?y32 hS ?_; (case h32 => (simp only [gqA, gqB, gqC]; rfl)); (case q32 => exact fun _ _ _ h => h); (case y32 => (exact Or.inr ⟨by kernel_rfl, rfl⟩)); simp only [Act.put, List.setIfInBounds_toArray, List.set_cons_zero, List.set_cons_succ]
                        refine tkQ (i := 12) (oi := ?o33) (v := undef) ?h33 ?q33 ?y33 hS ?_; (case h33 => (simp only [gqA, gqB, gqC]; rfl)); (case q33 => exact fun _ _ _ h => h); (case y33 => (exact Or.inr ⟨by kernel_rfl, rfl⟩)); simp only [Act.put, List.setIfInBounds_toArray, List.set_cons_zero, List.set_cons_succ]
                        refine tkQ (i := 13) (oi := ?o34) (v := undef) ?h34 ?q34 ?y34 hS ?_; (case h34 => (simp only [gqA, gqB, gqC]; rfl)); (case q34 => exact fun _ _ _ h => h); (case y34 => (exact Or.inr ⟨by kernel_rfl, rfl⟩)); simp only [Act.put, List.setIfInBounds_toArray, List.set_cons_zero, List.set_cons_succ]
                        refine tkQ (i := 14) (oi := ?o35) (v := undef) ?h35 ?q35 ?y35 hS ?_; (case h35 => (simp only [gqA, gqB, gqC]; rfl)); (case q35 => exact fun _ _ _ h => h); (case y35 => (exact Or.inr ⟨by kernel_rfl, rfl⟩)); simp only [Act.put, List.setIfInBounds_toArray, List.set_cons_zero, List.set_cons_succ]
                        refine tkQ (i := 15) (oi := ?o36) (v := undef) ?h36 ?q36 ?y36 hS ?_; (case h36 => (simp only [gqA, gqB, gqC]; rfl)); (case q36 => exact fun _ _ _ h => h); (case y36 => (exact Or.inr ⟨by kernel_rfl, rfl⟩)); simp only [Act.put, List.setIfInBounds_toArray, List.set_cons_zero, List.set_cons_succ]
                        refine tkQ (i := 16) (oi := ?o37) (v := undef) ?h37 ?q37 ?y37 hS ?_; (case h37 => (simp only [gqA, gqB, gqC]; rfl)); (case q37 => exact fun _ _ _ h => h); (case y37 => (exact Or.inr ⟨by kernel_rfl, rfl⟩)); simp only [Act.put, List.setIfInBounds_toArray, List.set_cons_zero, List.set_cons_succ]
                        refine tkQ (i := 17) (oi := ?o38) (v := undef) ?h38 ?q38 ?y38 hS ?_; (case h38 => (simp only [gqA, gqB, gqC]; rfl)); (case q38 => exact fun _ _ _ h => h); (case y38 => (exact Or.inr ⟨by kernel_rfl, rfl⟩)); simp only [Act.put, List.setIfInBounds_toArray, List.set_cons_zero, List.set_cons_succ]
                        refine tkQ (i := 18) (oi := ?o39) (v := undef) ?h39 ?q39 ?y39 hS ?_; (case h39 => (simp only [gqA, gqB, gqC]; rfl)); (case q39 => exact fun _ _ _ h => h); (case y39 => (exact Or.inr ⟨by kernel_rfl, rfl⟩)); simp only [Act.put, List.setIfInBounds_toArray, List.set_cons_zero, List.set_cons_succ]
                        refine tkQ (i := 19) (oi := ?o40) (v := ?v40) ?h40 ?q40 ?y40 hS ?_; (case h40 => (simp only [gqA, gqB, gqC]; rfl)); (case q40 => exact fun _ _ _ h => h); (case y40 => (refine Or.inl ⟨by kernel_rfl, ?_⟩; intro wq hSq; clear hSq; go_simp; (try with_reducible rfl))); simp only [Act.put, List.setIfInBounds_toArray, List.set_cons_zero, List.set_cons_succ]
                        refine wpAnyH_done (by kernel_rfl) ?_ _
                        go_wp2
                        go_roundw
                        case rel => exact ⟨j + 1, by go_num, by omega, hnj.trans (New.refl _).drew, Lib.hid (fun q hq => by
                          rcases HTK.out q hq with h | rfl
                          · exact HNO.out q h
                          · exact fun x => HNE.out x.1)⟩
                        case measure => simp [intOf]; omega
                    · obtain rfl : i = j := by omega
                      have HS0 : Hid (seenB (seenT places i) po ps = false) := Lib.hid (by
                        rw [Bool.eq_false_iff]
                        intro q
                        obtain ⟨y, h1, h2⟩ := HSQ.out.1 q
                        exact HNO.out y h1 h2)
                      by_cases hpa : pa = (u4 : Int)
                      · subst hpa
                        have w3 : IntKind.i64.wrap ((u4 : Int) + pz) = (u4 : Int) + pz := IntWalk.i64_in _ (by omega)
                        have e5 : ((u4 : Int) == (u4 : Int)) = true := beq_self_eq_true _
                        have e5' : ((u4 : Int) != (u4 : Int)) = false := by rw [bne, e5]; rfl
                        rw [decide_eq_true rfl, Bool.true_and] at HPO2
                        by_cases hsm : (u4 : Int) + pz ≤ (image.size : Int)
                        · have t5 : decide ((image.size : Int) < (u4 : Int) + pz) = false := decide_eq_false (by omega)
                          rw [decide_eq_true hsm, Bool.true_and] at HPO2
                          have HZ9 := Lib.hid (zero_iff (s := image) (a := e) (b := u4) (by omega))
                          go_wp2_with (fail)
                          refine wp_region_held_drew (S := (New _)) (by kernel_rfl) ((New.refl _).drew) (fun hS => ?_)
                          refine tkQ (i := 0) (oi := ?o41) (v := ?v41) ?h41 ?q41 ?y41 hS ?_; (case h41 => (simp only [gqA, gqB, gqC]; rfl)); (case q41 => exact fun _ _ _ h => h); (case y41 => (refine Or.inl ⟨by kernel_rfl, ?_⟩; intro wq hSq; clear hSq; go_simp; (try with_reducible rfl))); simp only [Act.put, List.setIfInBounds_toArray, List.set_cons_zero, List.set_cons_succ]
                          refine tkQ (i := 1) (oi := ?o42) (v := ?v42) ?h42 ?q42 ?y42 hS ?_; (case h42 => (simp only [gqA, gqB, gqC]; rfl)); (case q42 => exact fun _ _ _ h => h); (case y42 => (refine Or.inl ⟨by kernel_rfl, ?_⟩; intro wq hSq; have hf0 := cell_new hSq x3; have hf1 := cell_new hSq x4; have hf2 := cell_new hSq d2; clear hSq; go_simp; (try with_reducible rfl))); simp only [Act.put, List.setIfInBounds_toArray, List.set_cons_zero, List.set_cons_succ]
                          refine tkQ (i := 2) (oi := ?o43) (v := ?v43) ?h43 ?q43 ?y43 hS ?_; (case h43 => (simp only [gqA, gqB, gqC]; rfl)); (case q43 => exact fun _ _ _ h => h); (case y43 => (refine Or.inl ⟨by kernel_rfl, ?_⟩; intro wq hSq; clear hSq; go_simp; (try with_reducible rfl))); simp only [Act.put, List.setIfInBounds_toArray, List.set_cons_zero, List.set_cons_succ]
                          refine wpAnyH_ready (rs := [3]) (by kernel_rfl) (by simp) ?_
                          refine AllReadyH.cons (o := ?oi44) ?hi44 (fun K hK => ?_) AllReadyH.nil
                          case hi44 => (simp only [gqA, gqB, gqC]; rfl)
                          go_simp
                          refine (HUP.out _).mono ?_
                          rintro e w5 ⟨rfl, rfl⟩
                          refine hK.out _ _ (hS.trans (New.refl _)) (fun hS => ?_)
                          clear hK K
                          refine tkQ (i := 4) (oi := ?o45) (v := ?v45) ?h45 ?q45 ?y45 hS ?_; (case h45 => (simp only [gqA, gqB, gqC]; rfl)); (case q45 => exact fun _ _ _ h => h); (case y45 => (refine Or.inl ⟨by kernel_rfl, ?_⟩; intro wq hSq; clear hSq; go_simp; (try with_reducible rfl))); simp only [Act.put, List.setIfInBounds_toArray, List.set_cons_zero, List.set_cons_succ]
                          refine tkQ (i := 5) (oi := ?o46) (v := ?v46) ?h46 ?q46 ?y46 hS ?_; (case h46 => (simp only [gqA, gqB, gqC]; rfl)); (case q46 => exact fun _ _ _ h => h); (case y46 => (refine Or.inl ⟨by kernel_rfl, ?_⟩; intro wq hSq; clear hSq; go_simp; (try with_reducible rfl))); simp only [Act.put, List.setIfInBounds_toArray, List.set_cons_zero, List.set_cons_succ]
                          refine tkQ (i := 6) (oi := ?o47) (v := ?v47) ?h47 ?q47 ?y47 hS ?_; (case h47 => (simp only [gqA, gqB, gqC]; rfl)); (case q47 => exact fun _ _ _ h => h); (case y47 => (refine Or.inl ⟨by kernel_rfl, ?_⟩; intro wq hSq; clear hSq; go_simp; (try with_reducible rfl))); simp only [Act.put, List.setIfInBounds_toArray, List.set_cons_zero, List.set_cons_succ]
                          refine tkQ (i := 7) (oi := ?o48) (v := ?v48) ?h48 ?q48 ?y48 hS ?_; (case h48 => (simp only [gqA, gqB, gqC]; rfl)); (case q48 => exact fun _ _ _ h => h); (case y48 => (refine Or.inl ⟨by kernel_rfl, ?_⟩; intro wq hSq; have hf0 := cell_new hSq x3; have hf1 := cell_new hSq x4; have hf2 := cell_new hSq d2; clear hSq; go_simp; (try with_reducible rfl))); simp only [Act.put, List.setIfInBounds_toArray, List.set_cons_zero, List.set_cons_succ]
                          refine tkQ (i := 8) (oi := ?o49) (v := ?v49) ?h49 ?q49 ?y49 hS ?_; (case h49 => (simp only [gqA, gqB, gqC]; rfl)); (case q49 => exact fun _ _ _ h => h); (case y49 => (refine Or.inl ⟨by kernel_rfl, ?_⟩; intro wq hSq; clear hSq; go_simp; (try with_reducible rfl))); simp only [Act.put, List.setIfInBounds_toArray, List.set_cons_zero, List.set_cons_succ]
                          refine tkQ (i := 9) (oi := ?o50) (v := ?v50) ?h50 ?q50 ?y50 hS ?_; (case h50 => (simp only [gqA, gqB, gqC]; rfl)); (case q50 => exact fun _ _ _ h => h); (case y50 => (refine Or.inl ⟨by kernel_rfl, ?_⟩; intro wq hSq; have hf0 := cell_new hSq x3; have hf1 := cell_new hSq x4; have hf2 := cell_new hSq d2; clear hSq; go_simp; (try with_reducible rfl))); simp only [Act.put, List.setIfInBounds_toArray, List.set_cons_zero, List.set_cons_succ]
                          refine tkQ (i := 10) (oi := ?o51) (v := ?v51) ?h51 ?q51 ?y51 hS ?_; (case h51 => (simp only [gqA, gqB, gqC]; rfl)); (case q51 => exact fun _ _ _ h => h); (case y51 => (refine Or.inl ⟨by kernel_rfl, ?_⟩; intro wq hSq; clear hSq; go_simp; (try with_reducible rfl))); simp only [Act.put, List.setIfInBounds_toArray, List.set_cons_zero, List.set_cons_succ]
                          refine tkQ (i := 11) (oi := ?o52) (v := ?v52) ?h52 ?q52 ?y52 hS ?_; (case h52 => (simp only [gqA, gqB, gqC]; rfl)); (case q52 => exact fun _ _ _ h => h); (case y52 => (refine Or.inl ⟨by kernel_rfl, ?_⟩; intro wq hSq; clear hSq; go_simp; (try with_reducible rfl))); simp only [Act.put, List.setIfInBounds_toArray, List.set_cons_zero, List.set_cons_succ]
                          refine tkQ (i := 12) (oi := ?o53) (v := ?v53) ?h53 ?q53 ?y53 hS ?_; (case h53 => (simp only [gqA, gqB, gqC]; rfl)); (case q53 => exact fun _ _ _ h => h); (case y53 => (refine Or.inl ⟨by kernel_rfl, ?_⟩; intro wq hSq; have hf0 := cell_new hSq x3; have hf1 := cell_new hSq x4; have hf2 := cell_new hSq d2; clear hSq; go_simp; (try with_reducible rfl))); simp only [Act.put, List.setIfInBounds_toArray, List.set_cons_zero, List.set_cons_succ]
                          refine tkQ (i := 13) (oi := ?o54) (v := ?v54) ?h54 ?q54 ?y54 hS ?_; (case h54 => (simp only [gqA, gqB, gqC]; rfl)); (case q54 => exact fun _ _ _ h => h); (case y54 => (refine Or.inl ⟨by kernel_rfl, ?_⟩; intro wq hSq; clear hSq; go_simp; (try with_reducible rfl))); simp only [Act.put, List.setIfInBounds_toArray, List.set_cons_zero, List.set_cons_succ]
                          refine tkQ (i := 14) (oi := ?o55) (v := ?v55) ?h55 ?q55 ?y55 hS ?_; (case h55 => (simp only [gqA, gqB, gqC]; rfl)); (case q55 => exact fun _ _ _ h => h); (case y55 => (refine Or.inl ⟨by kernel_rfl, ?_⟩; intro wq hSq; clear hSq; go_simp; (try with_reducible rfl))); simp only [Act.put, List.setIfInBounds_toArray, List.set_cons_zero, List.set_cons_succ]
                          refine tkQ (i := 15) (oi := ?o56) (v := ?v56) ?h56 ?q56 ?y56 hS ?_; (case h56 => (simp only [gqA, gqB, gqC]; rfl)); (case q56 => exact fun _ _ _ h => h); (case y56 => (refine Or.inl ⟨by kernel_rfl, ?_⟩; intro wq hSq; clear hSq; go_simp; (try with_reducible rfl))); simp only [Act.put, List.setIfInBounds_toArray, List.set_cons_zero, List.set_cons_succ]
                          refine wpAnyH_done (by kernel_rfl) ?_ _
                          have nU : New w2 wj.drew := hnj.trans (New.refl _).drew
                          go_wp2
                          go_loopw [7] (fun v7 wr => ∃ k : Nat, v7 = .int .i64 k ∧ e ≤ k ∧ k ≤ u4 ∧ New w2 wr ∧ Hid (∀ j (hj : j < image.size), e ≤ j → j < k → image[j] = 0)) (fun v7 _ => u4 - (intOf v7).toNat)
                          case atStart => exact ⟨e, rfl, by omega, by omega, nU, Lib.hid (fun j hj h1 h2 => absurd h1 (by omega))⟩
                          case round =>
                            clear x0 x1 x3 x4 d3 d2 hnj nU
                            obtain ⟨k, rfl, hke, hku, hnk, HZR⟩ := hrel
                            have x3 := (BP2.new hnk).cell' 3 _ rfl
                            have x4 := (BP2.new hnk).cell' 4 _ rfl
                            have d2 := (BB2.new hnk).cell' 2 _ rfl
                            by_cases hlt3 : k < u4
                            · have hks : k < image.size := by omega
                              have k0 : (0 : Int) ≤ (k : Int) := by omega
                              have k1 : (k : Int) < (image.size : Int) := by omega
                              by_cases hc : (image[k].toNat : Int) = 0
                              · have e6 : ((image[k].toNat : Int) == 0) = true := beq_iff_eq.2 hc
                                have e6' : ((image[k].toNat : Int) != 0) = false := by rw [bne, e6]; rfl
                                have HC0 : Hid (image[k] = 0) := Lib.hid (UInt8.toNat_inj.1 (by have : (0 : UInt8).toNat = 0 := rfl; omega))
                                clear hc
                                go_wp2
                                go_roundw
                                case rel => exact ⟨k + 1, by go_num, by omega, by omega, hnk, Lib.hid (fun j hj h1 h2 => by
                                  by_cases h : j = k
                                  · subst h; exact HC0.out
                                  · exact HZR.out j hj h1 (by omega))⟩
                                case measure => simp [intOf]; omega
                              · have e6 : ((image[k].toNat : Int) == 0) = false := beq_eq_false_iff_ne.2 hc
                                have e6' : ((image[k].toNat : Int) != 0) = true := by rw [bne, e6]; rfl
                                have hRf := HBad.out (by
                                  rw [HPO2.out, Bool.eq_false_iff]
                                  intro q
                                  have := HZ9.out.1 q k hks (by omega) hlt3
                                  rw [this] at hc
                                  exact hc rfl)
                                subst hRf
                                clear hc
                                go_wp2
                                go_ret
                                exact ⟨rfl, nB.trans hnk⟩
                            · obtain rfl : k = u4 := by omega
                              have HF := Lib.hid (HG2.out HS0.out (by rw [HPO2.out]; exact HZ9.out.2 HZR.out))
                              obtain ⟨zn, rfl⟩ : ∃ zn : Nat, pz = (zn : Int) := ⟨pz.toNat, by omega⟩
                              go_wp2
                              go_roundw
                              case rel => exact ⟨i + 1, k + zn, by go_num, by go_num, by omega, by omega, nB.trans hnk, BB2.new hnk, Lib.hid (by rw [HSN.out, HF.out, Int.toNat_natCast])⟩
                              case measure => simp [intOf]; omega
                        · have t5 : decide ((image.size : Int) < (u4 : Int) + pz) = true := decide_eq_true (by omega)
                          have hRf := HBad.out (by rw [HPO2.out, decide_eq_false hsm]; rfl)
                          subst hRf
                          go_wp2_with (fail)
                          refine wp_region_held_drew (S := (New _)) (by kernel_rfl) ((New.refl _).drew) (fun hS => ?_)
                          refine tkQ (i := 0) (oi := ?o93) (v := ?v93) ?h93 ?q93 ?y93 hS ?_; (case h93 => (simp only [gqA, gqB, gqC]; rfl)); (case q93 => exact fun _ _ _ h => h); (case y93 => (refine Or.inl ⟨by kernel_rfl, ?_⟩; intro wq hSq; clear hSq; go_simp; (try with_reducible rfl))); simp only [Act.put, List.setIfInBounds_toArray, List.set_cons_zero, List.set_cons_succ]
                          refine tkQ (i := 1) (oi := ?o94) (v := ?v94) ?h94 ?q94 ?y94 hS ?_; (case h94 => (simp only [gqA, gqB, gqC]; rfl)); (case q94 => exact fun _ _ _ h => h); (case y94 => (refine Or.inl ⟨by kernel_rfl, ?_⟩; intro wq hSq; have hf0 := cell_new hSq x3; have hf1 := cell_new hSq x4; have hf2 := cell_new hSq d2; clear hSq; go_simp; (try with_reducible rfl))); simp only [Act.put, List.setIfInBounds_toArray, List.set_cons_zero, List.set_cons_succ]
                          refine tkQ (i := 2) (oi := ?o95) (v := ?v95) ?h95 ?q95 ?y95 hS ?_; (case h95 => (simp only [gqA, gqB, gqC]; rfl)); (case q95 => exact fun _ _ _ h => h); (case y95 => (refine Or.inl ⟨by kernel_rfl, ?_⟩; intro wq hSq; clear hSq; go_simp; (try with_reducible rfl))); simp only [Act.put, List.setIfInBounds_toArray, List.set_cons_zero, List.set_cons_succ]
                          refine wpAnyH_ready (rs := [3]) (by kernel_rfl) (by simp) ?_
                          refine AllReadyH.cons (o := ?oi96) ?hi96 (fun K hK => ?_) AllReadyH.nil
                          case hi96 => (simp only [gqA, gqB, gqC]; rfl)
                          go_simp
                          refine (HUP.out _).mono ?_
                          rintro e w5 ⟨rfl, rfl⟩
                          refine hK.out _ _ (hS.trans (New.refl _)) (fun hS => ?_)
                          clear hK K
                          refine tkQ (i := 4) (oi := ?o97) (v := ?v97) ?h97 ?q97 ?y97 hS ?_; (case h97 => (simp only [gqA, gqB, gqC]; rfl)); (case q97 => exact fun _ _ _ h => h); (case y97 => (refine Or.inl ⟨by kernel_rfl, ?_⟩; intro wq hSq; clear hSq; go_simp; (try with_reducible rfl))); simp only [Act.put, List.setIfInBounds_toArray, List.set_cons_zero, List.set_cons_succ]
                          refine tkQ (i := 5) (oi := ?o98) (v := ?v98) ?h98 ?q98 ?y98 hS ?_; (case h98 => (simp only [gqA, gqB, gqC]; rfl)); (case q98 => exact fun _ _ _ h => h); (case y98 => (refine Or.inl ⟨by kernel_rfl, ?_⟩; intro wq hSq; clear hSq; go_simp; (try with_reducible rfl))); simp only [Act.put, List.setIfInBounds_toArray, List.set_cons_zero, List.set_cons_succ]
                          refine tkQ (i := 6) (oi := ?o99) (v := ?v99) ?h99 ?q99 ?y99 hS ?_; (case h99 => (simp only [gqA, gqB, gqC]; rfl)); (case q99 => exact fun _ _ _ h => h); (case y99 => (refine Or.inl ⟨by kernel_rfl, ?_⟩; intro wq hSq; clear hSq; go_simp; (try with_reducible rfl))); simp only [Act.put, List.setIfInBounds_toArray, List.set_cons_zero, List.set_cons_succ]
                          refine tkQ (i := 7) (oi := ?o100) (v := ?v100) ?h100 ?q100 ?y100 hS ?_; (case h100 => (simp only [gqA, gqB, gqC]; rfl)); (case q100 => exact fun _ _ _ h => h); (case y100 => (refine Or.inl ⟨by kernel_rfl, ?_⟩; intro wq hSq; have hf0 := cell_new hSq x3; have hf1 := cell_new hSq x4; have hf2 := cell_new hSq d2; clear hSq; go_simp; (try with_reducible rfl))); simp only [Act.put, List.setIfInBounds_toArray, List.set_cons_zero, List.set_cons_succ]
                          refine tkQ (i := 8) (oi := ?o101) (v := ?v101) ?h101 ?q101 ?y101 hS ?_; (case h101 => (simp only [gqA, gqB, gqC]; rfl)); (case q101 => exact fun _ _ _ h => h); (case y101 => (refine Or.inl ⟨by kernel_rfl, ?_⟩; intro wq hSq; clear hSq; go_simp; (try with_reducible rfl))); simp only [Act.put, List.setIfInBounds_toArray, List.set_cons_zero, List.set_cons_succ]
                          refine tkQ (i := 9) (oi := ?o102) (v := ?v102) ?h102 ?q102 ?y102 hS ?_; (case h102 => (simp only [gqA, gqB, gqC]; rfl)); (case q102 => exact fun _ _ _ h => h); (case y102 => (refine Or.inl ⟨by kernel_rfl, ?_⟩; intro wq hSq; have hf0 := cell_new hSq x3; have hf1 := cell_new hSq x4; have hf2 := cell_new hSq d2; clear hSq; go_simp; (try with_reducible rfl))); simp only [Act.put, List.setIfInBounds_toArray, List.set_cons_zero, List.set_cons_succ]
                          refine tkQ (i := 10) (oi := ?o103) (v := ?v103) ?h103 ?q103 ?y103 hS ?_; (case h103 => (simp only [gqA, gqB, gqC]; rfl)); (case q103 => exact fun _ _ _ h => h); (case y103 => (refine Or.inl ⟨by kernel_rfl, ?_⟩; intro wq hSq; clear hSq; go_simp; (try with_reducible rfl))); simp only [Act.put, List.setIfInBounds_toArray, List.set_cons_zero, List.set_cons_succ]
                          refine tkQ (i := 11) (oi := ?o104) (v := ?v104) ?h104 ?q104 ?y104 hS ?_; (case h104 => (simp only [gqA, gqB, gqC]; rfl)); (case q104 => exact fun _ _ _ h => h); (case y104 => (refine Or.inl ⟨by kernel_rfl, ?_⟩; intro wq hSq; clear hSq; go_simp; (try with_reducible rfl))); simp only [Act.put, List.setIfInBounds_toArray, List.set_cons_zero, List.set_cons_succ]
                          refine tkQ (i := 12) (oi := ?o105) (v := ?v105) ?h105 ?q105 ?y105 hS ?_; (case h105 => (simp only [gqA, gqB, gqC]; rfl)); (case q105 => exact fun _ _ _ h => h); (case y105 => (refine Or.inl ⟨by kernel_rfl, ?_⟩; intro wq hSq; have hf0 := cell_new hSq x3; have hf1 := cell_new hSq x4; have hf2 := cell_new hSq d2; clear hSq; go_simp; (try with_reducible rfl))); simp only [Act.put, List.setIfInBounds_toArray, List.set_cons_zero, List.set_cons_succ]
                          refine tkQ (i := 13) (oi := ?o106) (v := ?v106) ?h106 ?q106 ?y106 hS ?_; (case h106 => (simp only [gqA, gqB, gqC]; rfl)); (case q106 => exact fun _ _ _ h => h); (case y106 => (refine Or.inl ⟨by kernel_rfl, ?_⟩; intro wq hSq; clear hSq; go_simp; (try with_reducible rfl))); simp only [Act.put, List.setIfInBounds_toArray, List.set_cons_zero, List.set_cons_succ]
                          refine tkQ (i := 14) (oi := ?o107) (v := ?v107) ?h107 ?q107 ?y107 hS ?_; (case h107 => (simp only [gqA, gqB, gqC]; rfl)); (case q107 => exact fun _ _ _ h => h); (case y107 => (refine Or.inl ⟨by kernel_rfl, ?_⟩; intro wq hSq; clear hSq; go_simp; (try with_reducible rfl))); simp only [Act.put, List.setIfInBounds_toArray, List.set_cons_zero, List.set_cons_succ]
                          refine tkQ (i := 15) (oi := ?o108) (v := ?v108) ?h108 ?q108 ?y108 hS ?_; (case h108 => (simp only [gqA, gqB, gqC]; rfl)); (case q108 => exact fun _ _ _ h => h); (case y108 => (refine Or.inl ⟨by kernel_rfl, ?_⟩; intro wq hSq; clear hSq; go_simp; (try with_reducible rfl))); simp only [Act.put, List.setIfInBounds_toArray, List.set_cons_zero, List.set_cons_succ]
                          refine wpAnyH_done (by kernel_rfl) ?_ _
                          go_wp2
                          go_ret
                          exact ⟨rfl, nB.trans (hnj.trans (New.refl _).drew)⟩
                      · have e5 : (pa == (u4 : Int)) = false := beq_eq_false_iff_ne.2 hpa
                        have e5' : (pa != (u4 : Int)) = true := by rw [bne, e5]; rfl
                        have hRf := HBad.out (by rw [HPO2.out, decide_eq_false hpa]; rfl)
                        subst hRf
                        clear hpa
                        go_wp2_with (fail)
                        refine wp_region_held_drew (S := (New _)) (by kernel_rfl) ((New.refl _).drew) (fun hS => ?_)
                        refine tkQ (i := 0) (oi := ?o57) (v := ?v57) ?h57 ?q57 ?y57 hS ?_; (case h57 => (simp only [gqA, gqB, gqC]; rfl)); (case q57 => exact fun _ _ _ h => h); (case y57 => (refine Or.inl ⟨by kernel_rfl, ?_⟩; intro wq hSq; clear hSq; go_simp; (try with_reducible rfl))); simp only [Act.put, List.setIfInBounds_toArray, List.set_cons_zero, List.set_cons_succ]
                        refine tkQ (i := 1) (oi := ?o58) (v := ?v58) ?h58 ?q58 ?y58 hS ?_; (case h58 => (simp only [gqA, gqB, gqC]; rfl)); (case q58 => exact fun _ _ _ h => h); (case y58 => (refine Or.inl ⟨by kernel_rfl, ?_⟩; intro wq hSq; have hf0 := cell_new hSq x3; have hf1 := cell_new hSq x4; have hf2 := cell_new hSq d2; clear hSq; go_simp; (try with_reducible rfl))); simp only [Act.put, List.setIfInBounds_toArray, List.set_cons_zero, List.set_cons_succ]
                        refine tkQ (i := 2) (oi := ?o59) (v := ?v59) ?h59 ?q59 ?y59 hS ?_; (case h59 => (simp only [gqA, gqB, gqC]; rfl)); (case q59 => exact fun _ _ _ h => h); (case y59 => (refine Or.inl ⟨by kernel_rfl, ?_⟩; intro wq hSq; clear hSq; go_simp; (try with_reducible rfl))); simp only [Act.put, List.setIfInBounds_toArray, List.set_cons_zero, List.set_cons_succ]
                        refine wpAnyH_ready (rs := [3]) (by kernel_rfl) (by simp) ?_
                        refine AllReadyH.cons (o := ?oi60) ?hi60 (fun K hK => ?_) AllReadyH.nil
                        case hi60 => (simp only [gqA, gqB, gqC]; rfl)
                        go_simp
                        refine (HUP.out _).mono ?_
                        rintro e w5 ⟨rfl, rfl⟩
                        refine hK.out _ _ (hS.trans (New.refl _)) (fun hS => ?_)
                        clear hK K
                        refine tkQ (i := 4) (oi := ?o61) (v := ?v61) ?h61 ?q61 ?y61 hS ?_; (case h61 => (simp only [gqA, gqB, gqC]; rfl)); (case q61 => exact fun _ _ _ h => h); (case y61 => (refine Or.inl ⟨by kernel_rfl, ?_⟩; intro wq hSq; clear hSq; go_simp; (try with_reducible rfl))); simp only [Act.put, List.setIfInBounds_toArray, List.set_cons_zero, List.set_cons_succ]
                        refine tkQ (i := 5) (oi := ?o62) (v := ?v62) ?h62 ?q62 ?y62 hS ?_; (case h62 => (simp only [gqA, gqB, gqC]; rfl)); (case q62 => exact fun _ _ _ h => h); (case y62 => (refine Or.inl ⟨by kernel_rfl, ?_⟩; intro wq hSq; clear hSq; go_simp; (try with_reducible rfl))); simp only [Act.put, List.setIfInBounds_toArray, List.set_cons_zero, List.set_cons_succ]
                        refine tkQ (i := 6) (oi := ?o63) (v := undef) ?h63 ?q63 ?y63 hS ?_; (case h63 => (simp only [gqA, gqB, gqC]; rfl)); (case q63 => exact fun _ _ _ h => h); (case y63 => (exact Or.inr ⟨by kernel_rfl, rfl⟩)); simp only [Act.put, List.setIfInBounds_toArray, List.set_cons_zero, List.set_cons_succ]
                        refine tkQ (i := 7) (oi := ?o64) (v := undef) ?h64 ?q64 ?y64 hS ?_; (case h64 => (simp only [gqA, gqB, gqC]; rfl)); (case q64 => exact fun _ _ _ h => h); (case y64 => (exact Or.inr ⟨by kernel_rfl, rfl⟩)); simp only [Act.put, List.setIfInBounds_toArray, List.set_cons_zero, List.set_cons_succ]
                        refine tkQ (i := 8) (oi := ?o65) (v := undef) ?h65 ?q65 ?y65 hS ?_; (case h65 => (simp only [gqA, gqB, gqC]; rfl)); (case q65 => exact fun _ _ _ h => h); (case y65 => (exact Or.inr ⟨by kernel_rfl, rfl⟩)); simp only [Act.put, List.setIfInBounds_toArray, List.set_cons_zero, List.set_cons_succ]
                        refine tkQ (i := 9) (oi := ?o66) (v := undef) ?h66 ?q66 ?y66 hS ?_; (case h66 => (simp only [gqA, gqB, gqC]; rfl)); (case q66 => exact fun _ _ _ h => h); (case y66 => (exact Or.inr ⟨by kernel_rfl, rfl⟩)); simp only [Act.put, List.setIfInBounds_toArray, List.set_cons_zero, List.set_cons_succ]
                        refine tkQ (i := 10) (oi := ?o67) (v := undef) ?h67 ?q67 ?y67 hS ?_; (case h67 => (simp only [gqA, gqB, gqC]; rfl)); (case q67 => exact fun _ _ _ h => h); (case y67 => (exact Or.inr ⟨by kernel_rfl, rfl⟩)); simp only [Act.put, List.setIfInBounds_toArray, List.set_cons_zero, List.set_cons_succ]
                        refine tkQ (i := 11) (oi := ?o68) (v := undef) ?h68 ?q68 ?y68 hS ?_; (case h68 => (simp only [gqA, gqB, gqC]; rfl)); (case q68 => exact fun _ _ _ h => h); (case y68 => (exact Or.inr ⟨by kernel_rfl, rfl⟩)); simp only [Act.put, List.setIfInBounds_toArray, List.set_cons_zero, List.set_cons_succ]
                        refine tkQ (i := 12) (oi := ?o69) (v := undef) ?h69 ?q69 ?y69 hS ?_; (case h69 => (simp only [gqA, gqB, gqC]; rfl)); (case q69 => exact fun _ _ _ h => h); (case y69 => (exact Or.inr ⟨by kernel_rfl, rfl⟩)); simp only [Act.put, List.setIfInBounds_toArray, List.set_cons_zero, List.set_cons_succ]
                        refine tkQ (i := 13) (oi := ?o70) (v := undef) ?h70 ?q70 ?y70 hS ?_; (case h70 => (simp only [gqA, gqB, gqC]; rfl)); (case q70 => exact fun _ _ _ h => h); (case y70 => (exact Or.inr ⟨by kernel_rfl, rfl⟩)); simp only [Act.put, List.setIfInBounds_toArray, List.set_cons_zero, List.set_cons_succ]
                        refine tkQ (i := 14) (oi := ?o71) (v := undef) ?h71 ?q71 ?y71 hS ?_; (case h71 => (simp only [gqA, gqB, gqC]; rfl)); (case q71 => exact fun _ _ _ h => h); (case y71 => (exact Or.inr ⟨by kernel_rfl, rfl⟩)); simp only [Act.put, List.setIfInBounds_toArray, List.set_cons_zero, List.set_cons_succ]
                        refine tkQ (i := 15) (oi := ?o72) (v := ?v72) ?h72 ?q72 ?y72 hS ?_; (case h72 => (simp only [gqA, gqB, gqC]; rfl)); (case q72 => exact fun _ _ _ h => h); (case y72 => (refine Or.inl ⟨by kernel_rfl, ?_⟩; intro wq hSq; clear hSq; go_simp; (try with_reducible rfl))); simp only [Act.put, List.setIfInBounds_toArray, List.set_cons_zero, List.set_cons_succ]
                        refine wpAnyH_done (by kernel_rfl) ?_ _
                        go_wp2
                        go_ret
                        exact ⟨rfl, nB.trans (hnj.trans (New.refl _).drew)⟩
                · have s3 : pz < 2 := by omega
                  have hk : kindOK ⟨po, ps, 1, pa, pz⟩ = false := by rw [HKO.out]; simp; omega
                  have hRf := HBad.out (by rw [HPO.out, hk]; rfl)
                  subst hRf
                  clear hk
                  go_wp2_with (first | (go_at_call 34; (with_reducible refine (HA2.out _).mono ?_); rintro e w2 ⟨rfl, n2⟩; have f2 := (BP.new (n1.trans n2)).cell' 2 _ rfl; have f4 := (BP.new (n1.trans n2)).cell' 4 _ rfl) | (go_at_call 102; (with_reducible refine (HA1.out _).mono ?_); rintro e w1 ⟨rfl, n1⟩; have f1 := (BP.new n1).cell' 1 _ rfl))
                  go_ret
                  exact ⟨rfl, ((hnr.trans nA).trans n1).trans n2⟩
              · have e1 : (pk == 1) = false := beq_eq_false_iff_ne.2 k1
                have e1' : (pk != 1) = true := by rw [bne, e1]; rfl
                by_cases k2 : pk = 2
                · subst k2
                  by_cases k3 : pz % 4 = 0
                  · have hk : kindOK ⟨po, ps, 2, pa, pz⟩ = true := by rw [HKO.out]; simp [k3, z0]
                    rw [hk, Bool.true_and] at HPO
                    have HPO2 := Lib.hid HPO.out
                    have e3 : (pz % 4 == 0) = true := beq_iff_eq.2 k3
                    have e3' : (pz % 4 != 0) = false := by rw [bne, e3]; rfl
                    clear HPO HKO hk k3
                    go_wp2_with (first | (go_at_call 34; (with_reducible refine (HA2.out _).mono ?_); rintro e w2 ⟨rfl, n2⟩; have f2 := (BP.new (n1.trans n2)).cell' 2 _ rfl; have f4 := (BP.new (n1.trans n2)).cell' 4 _ rfl) | (go_at_call 102; (with_reducible refine (HA1.out _).mono ?_); rintro e w1 ⟨rfl, n1⟩; have f1 := (BP.new n1).cell' 1 _ rfl))
                    have nB := ((hnr.trans nA).trans n1).trans n2
                    have BP2 := BP.new (n1.trans n2)
                    have BB2 := BB.new (n1.trans n2)
                    clear nA BP BB HA1 HA2
                    go_loopw [6] (fun v6 wr => ∃ j : Nat, v6 = .int .i64 j ∧ j ≤ i ∧ New w2 wr ∧ Hid (∀ q ∈ places.take j, ¬ (q.obj = po ∧ q.sym = ps))) (fun v6 _ => i - (intOf v6).toNat)
                    case atStart => exact ⟨0, rfl, by omega, New.refl _, Lib.hid (by simp)⟩
                    case round =>
                      obtain ⟨j, rfl, hj9, hnj, HNO⟩ := hrel
                      obtain ⟨wj, rfl⟩ : ∃ wj : World, wj = wr := ⟨_, rfl⟩
                      have x0 := (BP2.new hnj).cell' 0 _ rfl
                      have x1 := (BP2.new hnj).cell' 1 _ rfl
                      have x3 := (BP2.new hnj).cell' 3 _ rfl
                      have x4 := (BP2.new hnj).cell' 4 _ rfl
                      have d3 := (BB2.new hnj).cell' 3 _ rfl
                      have d2 := (BB2.new hnj).cell' 2 _ rfl
                      by_cases hlt2 : j < i
                      · obtain ⟨bk', o', hA, _, y, hy, hcy⟩ := rd_row (f := plC) (k := 5) (fun _ => rfl) HN.out (HR.out.below (nB.trans hnj)) (show j < n by omega)
                        injection hA with hA
                        injection hA with hA1 hA2
                        subst hA1 hA2
                        have HTK : Hid (∀ q ∈ places.take (j + 1), q ∈ places.take j ∨ q = y) := Lib.hid (fun q hq => by
                          obtain ⟨hi, he⟩ := List.getElem?_eq_some_iff.1 hy
                          rw [List.take_succ_eq_append_getElem hi, List.mem_append, he] at hq
                          simpa using hq)
                        have HYM : Hid (y ∈ places.take i) := Lib.hid (by
                          obtain ⟨hi, he⟩ := List.getElem?_eq_some_iff.1 hy
                          rw [List.mem_take_iff_getElem]; exact ⟨j, by omega, he⟩)
                        obtain ⟨yo, ys, yk, ya, yz⟩ := y
                        have y0 := hcy 0 (.string yo) (by omega) rfl
                        have y1 := hcy 1 (.string ys) (by omega) rfl
                        simp only [Nat.add_zero] at y0
                        rw [← Nat.add_assoc] at y1
                        have j0 : (0 : Int) ≤ (j : Int) := by omega
                        have j1 : (j : Int) < (n : Int) := by omega
                        have HE1 := Lib.hid (str_eq yo po)
                        have HE2 := Lib.hid (str_eq ys ps)
                        clear hcy hy
                        by_cases h1 : yo = po
                        · have c1' : (yo.toList == po.toList) = true := by rw [HE1.out, decide_eq_true h1]
                          by_cases h2 : ys = ps
                          · have c2' : (ys.toList == ps.toList) = true := by rw [HE2.out, decide_eq_true h2]
                            have hRf := HBad2.out (HSQ.out.2 ⟨_, HYM.out, h1, h2⟩)
                            subst hRf
                            clear h1 h2
                            go_wp2_with (fail)
                            refine wp_region_held_drew (S := (New _)) (by kernel_rfl) ((New.refl _).drew) (fun hS => ?_)
                            refine tkQ (i := 0) (oi := ?o109) (v := ?v109) ?h109 ?q109 ?y109 hS ?_; (case h109 => (simp only [gqA, gqB, gqC]; rfl)); (case q109 => exact fun _ _ _ h => h); (case y109 => (refine Or.inl ⟨by kernel_rfl, ?_⟩; intro wq hSq; clear hSq; go_simp; (try with_reducible rfl))); simp only [Act.put, List.setIfInBounds_toArray, List.set_cons_zero, List.set_cons_succ]
                            refine tkQ (i := 1) (oi := ?o110) (v := ?v110) ?h110 ?q110 ?y110 hS ?_; (case h110 => (simp only [gqA, gqB, gqC]; rfl)); (case q110 => exact fun _ _ _ h => h); (case y110 => (refine Or.inl ⟨by kernel_rfl, ?_⟩; intro wq hSq; have hf0 := cell_new hSq x0; have hf1 := cell_new hSq x1; have hf2 := cell_new hSq d3; have hf3 := cell_new hSq y0; have hf4 := cell_new hSq y1; clear hSq; go_simp; (try with_reducible rfl))); simp only [Act.put, List.setIfInBounds_toArray, List.set_cons_zero, List.set_cons_succ]
                            refine tkQ (i := 2) (oi := ?o111) (v := ?v111) ?h111 ?q111 ?y111 hS ?_; (case h111 => (simp only [gqA, gqB, gqC]; rfl)); (case q111 => exact fun _ _ _ h => h); (case y111 => (refine Or.inl ⟨by kernel_rfl, ?_⟩; intro wq hSq; clear hSq; go_simp; (try with_reducible rfl))); simp only [Act.put, List.setIfInBounds_toArray, List.set_cons_zero, List.set_cons_succ]
                            refine tkQ (i := 3) (oi := ?o112) (v := ?v112) ?h112 ?q112 ?y112 hS ?_; (case h112 => (simp only [gqA, gqB, gqC]; rfl)); (case q112 => exact fun _ _ _ h => h); (case y112 => (refine Or.inl ⟨by kernel_rfl, ?_⟩; intro wq hSq; clear hSq; go_simp; (try with_reducible rfl))); simp only [Act.put, List.setIfInBounds_toArray, List.set_cons_zero, List.set_cons_succ]
                            refine tkQ (i := 4) (oi := ?o113) (v := ?v113) ?h113 ?q113 ?y113 hS ?_; (case h113 => (simp only [gqA, gqB, gqC]; rfl)); (case q113 => exact fun _ _ _ h => h); (case y113 => (refine Or.inl ⟨by kernel_rfl, ?_⟩; intro wq hSq; clear hSq; go_simp; (try with_reducible rfl))); simp only [Act.put, List.setIfInBounds_toArray, List.set_cons_zero, List.set_cons_succ]
                            refine tkQ (i := 5) (oi := ?o114) (v := ?v114) ?h114 ?q114 ?y114 hS ?_; (case h114 => (simp only [gqA, gqB, gqC]; rfl)); (case q114 => exact fun _ _ _ h => h); (case y114 => (refine Or.inl ⟨by kernel_rfl, ?_⟩; intro wq hSq; have hf0 := cell_new hSq x0; have hf1 := cell_new hSq x1; have hf2 := cell_new hSq d3; have hf3 := cell_new hSq y0; have hf4 := cell_new hSq y1; clear hSq; go_simp; (try with_reducible rfl))); simp only [Act.put, List.setIfInBounds_toArray, List.set_cons_zero, List.set_cons_succ]
                            refine tkQ (i := 6) (oi := ?o115) (v := ?v115) ?h115 ?q115 ?y115 hS ?_; (case h115 => (simp only [gqA, gqB, gqC]; rfl)); (case q115 => exact fun _ _ _ h => h); (case y115 => (refine Or.inl ⟨by kernel_rfl, ?_⟩; intro wq hSq; clear hSq; go_simp; (try with_reducible rfl))); simp only [Act.put, List.setIfInBounds_toArray, List.set_cons_zero, List.set_cons_succ]
                            refine tkQ (i := 7) (oi := ?o116) (v := ?v116) ?h116 ?q116 ?y116 hS ?_; (case h116 => (simp only [gqA, gqB, gqC]; rfl)); (case q116 => exact fun _ _ _ h => h); (case y116 => (refine Or.inl ⟨by kernel_rfl, ?_⟩; intro wq hSq; have hf0 := cell_new hSq x0; have hf1 := cell_new hSq x1; have hf2 := cell_new hSq d3; have hf3 := cell_new hSq y0; have hf4 := cell_new hSq y1; clear hSq; go_simp; (try with_reducible rfl))); simp only [Act.put, List.setIfInBounds_toArray, List.set_cons_zero, List.set_cons_succ]
                            refine tkQ (i := 8) (oi := ?o117) (v := ?v117) ?h117 ?q117 ?y117 hS ?_; (case h117 => (simp only [gqA, gqB, gqC]; rfl)); (case q117 => exact fun _ _ _ h => h); (case y117 => (refine Or.inl ⟨by kernel_rfl, ?_⟩; intro wq hSq; clear hSq; go_simp; (try with_reducible rfl))); simp only [Act.put, List.setIfInBounds_toArray, List.set_cons_zero, List.set_cons_succ]
                            refine tkQ (i := 9) (oi := ?o118) (v := ?v118) ?h118 ?q118 ?y118 hS ?_; (case h118 => (simp only [gqA, gqB, gqC]; rfl)); (case q118 => exact fun _ _ _ h => h); (case y118 => (refine Or.inl ⟨by kernel_rfl, ?_⟩; intro wq hSq; clear hSq; go_simp; (try with_reducible rfl))); simp only [Act.put, List.setIfInBounds_toArray, List.set_cons_zero, List.set_cons_succ]
                            refine tkQ (i := 10) (oi := ?o119) (v := ?v119) ?h119 ?q119 ?y119 hS ?_; (case h119 => (simp only [gqA, gqB, gqC]; rfl)); (case q119 => exact fun _ _ _ h => h); (case y119 => (refine Or.inl ⟨by kernel_rfl, ?_⟩; intro wq hSq; clear hSq; go_simp; (try with_reducible rfl))); simp only [Act.put, List.setIfInBounds_toArray, List.set_cons_zero, List.set_cons_succ]
                            refine tkQ (i := 11) (oi := ?o120) (v := ?v120) ?h120 ?q120 ?y120 hS ?_; (case h120 => (simp only [gqA, gqB, gqC]; rfl)); (case q120 => exact fun _ _ _ h => h); (case y120 => (refine Or.inl ⟨by kernel_rfl, ?_⟩; intro wq hSq; have hf0 := cell_new hSq x0; have hf1 := cell_new hSq x1; have hf2 := cell_new hSq d3; have hf3 := cell_new hSq y0; have hf4 := cell_new hSq y1; clear hSq; go_simp; (try with_reducible rfl))); simp only [Act.put, List.setIfInBounds_toArray, List.set_cons_zero, List.set_cons_succ]
                            refine tkQ (i := 12) (oi := ?o121) (v := ?v121) ?h121 ?q121 ?y121 hS ?_; (case h121 => (simp only [gqA, gqB, gqC]; rfl)); (case q121 => exact fun _ _ _ h => h); (case y121 => (refine Or.inl ⟨by kernel_rfl, ?_⟩; intro wq hSq; clear hSq; go_simp; (try with_reducible rfl))); simp only [Act.put, List.setIfInBounds_toArray, List.set_cons_zero, List.set_cons_succ]
                            refine tkQ (i := 13) (oi := ?o122) (v := ?v122) ?h122 ?q122 ?y122 hS ?_; (case h122 => (simp only [gqA, gqB, gqC]; rfl)); (case q122 => exact fun _ _ _ h => h); (case y122 => (refine Or.inl ⟨by kernel_rfl, ?_⟩; intro wq hSq; clear hSq; go_simp; (try with_reducible rfl))); simp only [Act.put, List.setIfInBounds_toArray, List.set_cons_zero, List.set_cons_succ]
                            refine tkQ (i := 14) (oi := ?o123) (v := ?v123) ?h123 ?q123 ?y123 hS ?_; (case h123 => (simp only [gqA, gqB, gqC]; rfl)); (case q123 => exact fun _ _ _ h => h); (case y123 => (refine Or.inl ⟨by kernel_rfl, ?_⟩; intro wq hSq; clear hSq; go_simp; (try with_reducible rfl))); simp only [Act.put, List.setIfInBounds_toArray, List.set_cons_zero, List.set_cons_succ]
                            refine tkQ (i := 15) (oi := ?o124) (v := ?v124) ?h124 ?q124 ?y124 hS ?_; (case h124 => (simp only [gqA, gqB, gqC]; rfl)); (case q124 => exact fun _ _ _ h => h); (case y124 => (refine Or.inl ⟨by kernel_rfl, ?_⟩; intro wq hSq; have hf0 := cell_new hSq x0; have hf1 := cell_new hSq x1; have hf2 := cell_new hSq d3; have hf3 := cell_new hSq y0; have hf4 := cell_new hSq y1; clear hSq; go_simp; (try with_reducible rfl))); simp only [Act.put, List.setIfInBounds_toArray, List.set_cons_zero, List.set_cons_succ]
                            refine tkQ (i := 16) (oi := ?o125) (v := ?v125) ?h125 ?q125 ?y125 hS ?_; (case h125 => (simp only [gqA, gqB, gqC]; rfl)); (case q125 => exact fun _ _ _ h => h); (case y125 => (refine Or.inl ⟨by kernel_rfl, ?_⟩; intro wq hSq; clear hSq; go_simp; (try with_reducible rfl))); simp only [Act.put, List.setIfInBounds_toArray, List.set_cons_zero, List.set_cons_succ]
                            refine tkQ (i := 17) (oi := ?o126) (v := ?v126) ?h126 ?q126 ?y126 hS ?_; (case h126 => (simp only [gqA, gqB, gqC]; rfl)); (case q126 => exact fun _ _ _ h => h); (case y126 => (refine Or.inl ⟨by kernel_rfl, ?_⟩; intro wq hSq; have hf0 := cell_new hSq x0; have hf1 := cell_new hSq x1; have hf2 := cell_new hSq d3; have hf3 := cell_new hSq y0; have hf4 := cell_new hSq y1; clear hSq; go_simp; (try with_reducible rfl))); simp only [Act.put, List.setIfInBounds_toArray, List.set_cons_zero, List.set_cons_succ]
                            refine tkQ (i := 18) (oi := ?o127) (v := ?v127) ?h127 ?q127 ?y127 hS ?_; (case h127 => (simp only [gqA, gqB, gqC]; rfl)); (case q127 => exact fun _ _ _ h => h); (case y127 => (refine Or.inl ⟨by kernel_rfl, ?_⟩; intro wq hSq; clear hSq; go_simp; (try with_reducible rfl))); simp only [Act.put, List.setIfInBounds_toArray, List.set_cons_zero, List.set_cons_succ]
                            refine tkQ (i := 19) (oi := ?o128) (v := ?v128) ?h128 ?q128 ?y128 hS ?_; (case h128 => (simp only [gqA, gqB, gqC]; rfl)); (case q128 => exact fun _ _ _ h => h); (case y128 => (refine Or.inl ⟨by kernel_rfl, ?_⟩; intro wq hSq; clear hSq; go_simp; (try with_reducible rfl))); simp only [Act.put, List.setIfInBounds_toArray, List.set_cons_zero, List.set_cons_succ]
                            refine wpAnyH_done (by kernel_rfl) ?_ _
                            go_wp2
                            go_ret
                            exact ⟨rfl, nB.trans (hnj.trans (New.refl _).drew)⟩
                          · have c2' : (ys.toList == ps.toList) = false := by rw [HE2.out, decide_eq_false h2]
                            have HNE := Lib.hid h2
                            clear h1 h2
                            go_wp2_with (fail)
                            refine wp_region_held_drew (S := (New _)) (by kernel_rfl) ((New.refl _).drew) (fun hS => ?_)
                            refine tkQ (i := 0) (oi := ?o181) (v := ?v181) ?h181 ?q181 ?y181 hS ?_; (case h181 => (simp only [gqA, gqB, gqC]; rfl)); (case q181 => exact fun _ _ _ h => h); (case y181 => (refine Or.inl ⟨by kernel_rfl, ?_⟩; intro wq hSq; clear hSq; go_simp; (try with_reducible rfl))); simp only [Act.put, List.setIfInBounds_toArray, List.set_cons_zero, List.set_cons_succ]
                            refine tkQ (i := 1) (oi := ?o182) (v := ?v182) ?h182 ?q182 ?y182 hS ?_; (case h182 => (simp only [gqA, gqB, gqC]; rfl)); (case q182 => exact fun _ _ _ h => h); (case y182 => (refine Or.inl ⟨by kernel_rfl, ?_⟩; intro wq hSq; have hf0 := cell_new hSq x0; have hf1 := cell_new hSq x1; have hf2 := cell_new hSq d3; have hf3 := cell_new hSq y0; have hf4 := cell_new hSq y1; clear hSq; go_simp; (try with_reducible rfl))); simp only [Act.put, List.setIfInBounds_toArray, List.set_cons_zero, List.set_cons_succ]
                            refine tkQ (i := 2) (oi := ?o183) (v := ?v183) ?h183 ?q183 ?y183 hS ?_; (case h183 => (simp only [gqA, gqB, gqC]; rfl)); (case q183 => exact fun _ _ _ h => h); (case y183 => (refine Or.inl ⟨by kernel_rfl, ?_⟩; intro wq hSq; clear hSq; go_simp; (try with_reducible rfl))); simp only [Act.put, List.setIfInBounds_toArray, List.set_cons_zero, List.set_cons_succ]
                            refine tkQ (i := 3) (oi := ?o184) (v := ?v184) ?h184 ?q184 ?y184 hS ?_; (case h184 => (simp only [gqA, gqB, gqC]; rfl)); (case q184 => exact fun _ _ _ h => h); (case y184 => (refine Or.inl ⟨by kernel_rfl, ?_⟩; intro wq hSq; clear hSq; go_simp; (try with_reducible rfl))); simp only [Act.put, List.setIfInBounds_toArray, List.set_cons_zero, List.set_cons_succ]
                            refine tkQ (i := 4) (oi := ?o185) (v := ?v185) ?h185 ?q185 ?y185 hS ?_; (case h185 => (simp only [gqA, gqB, gqC]; rfl)); (case q185 => exact fun _ _ _ h => h); (case y185 => (refine Or.inl ⟨by kernel_rfl, ?_⟩; intro wq hSq; clear hSq; go_simp; (try with_reducible rfl))); simp only [Act.put, List.setIfInBounds_toArray, List.set_cons_zero, List.set_cons_succ]
                            refine tkQ (i := 5) (oi := ?o186) (v := ?v186) ?h186 ?q186 ?y186 hS ?_; (case h186 => (simp only [gqA, gqB, gqC]; rfl)); (case q186 => exact fun _ _ _ h => h); (case y186 => (refine Or.inl ⟨by kernel_rfl, ?_⟩; intro wq hSq; have hf0 := cell_new hSq x0; have hf1 := cell_new hSq x1; have hf2 := cell_new hSq d3; have hf3 := cell_new hSq y0; have hf4 := cell_new hSq y1; clear hSq; go_simp; (try with_reducible rfl))); simp only [Act.put, List.setIfInBounds_toArray, List.set_cons_zero, List.set_cons_succ]
                            refine tkQ (i := 6) (oi := ?o187) (v := ?v187) ?h187 ?q187 ?y187 hS ?_; (case h187 => (simp only [gqA, gqB, gqC]; rfl)); (case q187 => exact fun _ _ _ h => h); (case y187 => (refine Or.inl ⟨by kernel_rfl, ?_⟩; intro wq hSq; clear hSq; go_simp; (try with_reducible rfl))); simp only [Act.put, List.setIfInBounds_toArray, List.set_cons_zero, List.set_cons_succ]
                            refine tkQ (i := 7) (oi := ?o188) (v := ?v188) ?h188 ?q188 ?y188 hS ?_; (case h188 => (simp only [gqA, gqB, gqC]; rfl)); (case q188 => exact fun _ _ _ h => h); (case y188 => (refine Or.inl ⟨by kernel_rfl, ?_⟩; intro wq hSq; have hf0 := cell_new hSq x0; have hf1 := cell_new hSq x1; have hf2 := cell_new hSq d3; have hf3 := cell_new hSq y0; have hf4 := cell_new hSq y1; clear hSq; go_simp; (try with_reducible rfl))); simp only [Act.put, List.setIfInBounds_toArray, List.set_cons_zero, List.set_cons_succ]
                            refine tkQ (i := 8) (oi := ?o189) (v := ?v189) ?h189 ?q189 ?y189 hS ?_; (case h189 => (simp only [gqA, gqB, gqC]; rfl)); (case q189 => exact fun _ _ _ h => h); (case y189 => (refine Or.inl ⟨by kernel_rfl, ?_⟩; intro wq hSq; clear hSq; go_simp; (try with_reducible rfl))); simp only [Act.put, List.setIfInBounds_toArray, List.set_cons_zero, List.set_cons_succ]
                            refine tkQ (i := 9) (oi := ?o190) (v := ?v190) ?h190 ?q190 ?y190 hS ?_; (case h190 => (simp only [gqA, gqB, gqC]; rfl)); (case q190 => exact fun _ _ _ h => h); (case y190 => (refine Or.inl ⟨by kernel_rfl, ?_⟩; intro wq hSq; clear hSq; go_simp; (try with_reducible rfl))); simp only [Act.put, List.setIfInBounds_toArray, List.set_cons_zero, List.set_cons_succ]
                            refine tkQ (i := 10) (oi := ?o191) (v := ?v191) ?h191 ?q191 ?y191 hS ?_; (case h191 => (simp only [gqA, gqB, gqC]; rfl)); (case q191 => exact fun _ _ _ h => h); (case y191 => (refine Or.inl ⟨by kernel_rfl, ?_⟩; intro wq hSq; clear hSq; go_simp; (try with_reducible rfl))); simp only [Act.put, List.setIfInBounds_toArray, List.set_cons_zero, List.set_cons_succ]
                            refine tkQ (i := 11) (oi := ?o192) (v := ?v192) ?h192 ?q192 ?y192 hS ?_; (case h192 => (simp only [gqA, gqB, gqC]; rfl)); (case q192 => exact fun _ _ _ h => h); (case y192 => (refine Or.inl ⟨by kernel_rfl, ?_⟩; intro wq hSq; have hf0 := cell_new hSq x0; have hf1 := cell_new hSq x1; have hf2 := cell_new hSq d3; have hf3 := cell_new hSq y0; have hf4 := cell_new hSq y1; clear hSq; go_simp; (try with_reducible rfl))); simp only [Act.put, List.setIfInBounds_toArray, List.set_cons_zero, List.set_cons_succ]
                            refine tkQ (i := 12) (oi := ?o193) (v := ?v193) ?h193 ?q193 ?y193 hS ?_; (case h193 => (simp only [gqA, gqB, gqC]; rfl)); (case q193 => exact fun _ _ _ h => h); (case y193 => (refine Or.inl ⟨by kernel_rfl, ?_⟩; intro wq hSq; clear hSq; go_simp; (try with_reducible rfl))); simp only [Act.put, List.setIfInBounds_toArray, List.set_cons_zero, List.set_cons_succ]
                            refine tkQ (i := 13) (oi := ?o194) (v := ?v194) ?h194 ?q194 ?y194 hS ?_; (case h194 => (simp only [gqA, gqB, gqC]; rfl)); (case q194 => exact fun _ _ _ h => h); (case y194 => (refine Or.inl ⟨by kernel_rfl, ?_⟩; intro wq hSq; clear hSq; go_simp; (try with_reducible rfl))); simp only [Act.put, List.setIfInBounds_toArray, List.set_cons_zero, List.set_cons_succ]
                            refine tkQ (i := 14) (oi := ?o195) (v := ?v195) ?h195 ?q195 ?y195 hS ?_; (case h195 => (simp only [gqA, gqB, gqC]; rfl)); (case q195 => exact fun _ _ _ h => h); (case y195 => (refine Or.inl ⟨by kernel_rfl, ?_⟩; intro wq hSq; clear hSq; go_simp; (try with_reducible rfl))); simp only [Act.put, List.setIfInBounds_toArray, List.set_cons_zero, List.set_cons_succ]
                            refine tkQ (i := 15) (oi := ?o196) (v := ?v196) ?h196 ?q196 ?y196 hS ?_; (case h196 => (simp only [gqA, gqB, gqC]; rfl)); (case q196 => exact fun _ _ _ h => h); (case y196 => (refine Or.inl ⟨by kernel_rfl, ?_⟩; intro wq hSq; have hf0 := cell_new hSq x0; have hf1 := cell_new hSq x1; have hf2 := cell_new hSq d3; have hf3 := cell_new hSq y0; have hf4 := cell_new hSq y1; clear hSq; go_simp; (try with_reducible rfl))); simp only [Act.put, List.setIfInBounds_toArray, List.set_cons_zero, List.set_cons_succ]
                            refine tkQ (i := 16) (oi := ?o197) (v := ?v197) ?h197 ?q197 ?y197 hS ?_; (case h197 => (simp only [gqA, gqB, gqC]; rfl)); (case q197 => exact fun _ _ _ h => h); (case y197 => (refine Or.inl ⟨by kernel_rfl, ?_⟩; intro wq hSq; clear hSq; go_simp; (try with_reducible rfl))); simp only [Act.put, List.setIfInBounds_toArray, List.set_cons_zero, List.set_cons_succ]
                            refine tkQ (i := 17) (oi := ?o198) (v := ?v198) ?h198 ?q198 ?y198 hS ?_; (case h198 => (simp only [gqA, gqB, gqC]; rfl)); (case q198 => exact fun _ _ _ h => h); (case y198 => (refine Or.inl ⟨by kernel_rfl, ?_⟩; intro wq hSq; have hf0 := cell_new hSq x0; have hf1 := cell_new hSq x1; have hf2 := cell_new hSq d3; have hf3 := cell_new hSq y0; have hf4 := cell_new hSq y1; clear hSq; go_simp; (try with_reducible rfl))); simp only [Act.put, List.setIfInBounds_toArray, List.set_cons_zero, List.set_cons_succ]
                            refine tkQ (i := 18) (oi := ?o199) (v := ?v199) ?h199 ?q199 ?y199 hS ?_; (case h199 => (simp only [gqA, gqB, gqC]; rfl)); (case q199 => exact fun _ _ _ h => h); (case y199 => (refine Or.inl ⟨by kernel_rfl, ?_⟩; intro wq hSq; clear hSq; go_simp; (try with_reducible rfl))); simp only [Act.put, List.setIfInBounds_toArray, List.set_cons_zero, List.set_cons_succ]
                            refine tkQ (i := 19) (oi := ?o200) (v := ?v200) ?h200 ?q200 ?y200 hS ?_; (case h200 => (simp only [gqA, gqB, gqC]; rfl)); (case q200 => exact fun _ _ _ h => h); (case y200 => (refine Or.inl ⟨by kernel_rfl, ?_⟩; intro wq hSq; clear hSq; go_simp; (try with_reducible rfl))); simp only [Act.put, List.setIfInBounds_toArray, List.set_cons_zero, List.set_cons_succ]
                            refine wpAnyH_done (by kernel_rfl) ?_ _
                            go_wp2
                            go_roundw
                            case rel => exact ⟨j + 1, by go_num, by omega, hnj.trans (New.refl _).drew, Lib.hid (fun q hq => by
                              rcases HTK.out q hq with h | rfl
                              · exact HNO.out q h
                              · exact fun x => HNE.out x.2)⟩
                            case measure => simp [intOf]; omega
                        · have c1' : (yo.toList == po.toList) = false := by rw [HE1.out, decide_eq_false h1]
                          have HNE := Lib.hid h1
                          clear h1
                          go_wp2_with (fail)
                          refine wp_region_held_drew (S := (New _)) (by kernel_rfl) ((New.refl _).drew) (fun hS => ?_)
                          refine tkQ (i := 0) (oi := ?o129) (v := ?v129) ?h129 ?q129 ?y129 hS ?_; (case h129 => (simp only [gqA, gqB, gqC]; rfl)); (case q129 => exact fun _ _ _ h => h); (case y129 => (refine Or.inl ⟨by kernel_rfl, ?_⟩; intro wq hSq; clear hSq; go_simp; (try with_reducible rfl))); simp only [Act.put, List.setIfInBounds_toArray, List.set_cons_zero, List.set_cons_succ]
                          refine tkQ (i := 1) (oi := ?o130) (v := ?v130) ?h130 ?q130 ?y130 hS ?_; (case h130 => (simp only [gqA, gqB, gqC]; rfl)); (case q130 => exact fun _ _ _ h => h); (case y130 => (refine Or.inl ⟨by kernel_rfl, ?_⟩; intro wq hSq; have hf0 := cell_new hSq x0; have hf1 := cell_new hSq x1; have hf2 := cell_new hSq d3; have hf3 := cell_new hSq y0; have hf4 := cell_new hSq y1; clear hSq; go_simp; (try with_reducible rfl))); simp only [Act.put, List.setIfInBounds_toArray, List.set_cons_zero, List.set_cons_succ]
                          refine tkQ (i := 2) (oi := ?o131) (v := ?v131) ?h131 ?q131 ?y131 hS ?_; (case h131 => (simp only [gqA, gqB, gqC]; rfl)); (case q131 => exact fun _ _ _ h => h); (case y131 => (refine Or.inl ⟨by kernel_rfl, ?_⟩; intro wq hSq; clear hSq; go_simp; (try with_reducible rfl))); simp only [Act.put, List.setIfInBounds_toArray, List.set_cons_zero, List.set_cons_succ]
                          refine tkQ (i := 3) (oi := ?o132) (v := ?v132) ?h132 ?q132 ?y132 hS ?_; (case h132 => (simp only [gqA, gqB, gqC]; rfl)); (case q132 => exact fun _ _ _ h => h); (case y132 => (refine Or.inl ⟨by kernel_rfl, ?_⟩; intro wq hSq; clear hSq; go_simp; (try with_reducible rfl))); simp only [Act.put, List.setIfInBounds_toArray, List.set_cons_zero, List.set_cons_succ]
                          refine tkQ (i := 4) (oi := ?o133) (v := ?v133) ?h133 ?q133 ?y133 hS ?_; (case h133 => (simp only [gqA, gqB, gqC]; rfl)); (case q133 => exact fun _ _ _ h => h); (case y133 => (refine Or.inl ⟨by kernel_rfl, ?_⟩; intro wq hSq; clear hSq; go_simp; (try with_reducible rfl))); simp only [Act.put, List.setIfInBounds_toArray, List.set_cons_zero, List.set_cons_succ]
                          refine tkQ (i := 5) (oi := ?o134) (v := ?v134) ?h134 ?q134 ?y134 hS ?_; (case h134 => (simp only [gqA, gqB, gqC]; rfl)); (case q134 => exact fun _ _ _ h => h); (case y134 => (refine Or.inl ⟨by kernel_rfl, ?_⟩; intro wq hSq; have hf0 := cell_new hSq x0; have hf1 := cell_new hSq x1; have hf2 := cell_new hSq d3; have hf3 := cell_new hSq y0; have hf4 := cell_new hSq y1; clear hSq; go_simp; (try with_reducible rfl))); simp only [Act.put, List.setIfInBounds_toArray, List.set_cons_zero, List.set_cons_succ]
                          refine tkQ (i := 6) (oi := ?o135) (v := ?v135) ?h135 ?q135 ?y135 hS ?_; (case h135 => (simp only [gqA, gqB, gqC]; rfl)); (case q135 => exact fun _ _ _ h => h); (case y135 => (refine Or.inl ⟨by kernel_rfl, ?_⟩; intro wq hSq; clear hSq; go_simp; (try with_reducible rfl))); simp only [Act.put, List.setIfInBounds_toArray, List.set_cons_zero, List.set_cons_succ]
                          refine tkQ (i := 7) (oi := ?o136) (v := ?v136) ?h136 ?q136 ?y136 hS ?_; (case h136 => (simp only [gqA, gqB, gqC]; rfl)); (case q136 => exact fun _ _ _ h => h); (case y136 => (refine Or.inl ⟨by kernel_rfl, ?_⟩; intro wq hSq; have hf0 := cell_new hSq x0; have hf1 := cell_new hSq x1; have hf2 := cell_new hSq d3; have hf3 := cell_new hSq y0; have hf4 := cell_new hSq y1; clear hSq; go_simp; (try with_reducible rfl))); simp only [Act.put, List.setIfInBounds_toArray, List.set_cons_zero, List.set_cons_succ]
                          refine tkQ (i := 8) (oi := ?o137) (v := ?v137) ?h137 ?q137 ?y137 hS ?_; (case h137 => (simp only [gqA, gqB, gqC]; rfl)); (case q137 => exact fun _ _ _ h => h); (case y137 => (refine Or.inl ⟨by kernel_rfl, ?_⟩; intro wq hSq; clear hSq; go_simp; (try with_reducible rfl))); simp only [Act.put, List.setIfInBounds_toArray, List.set_cons_zero, List.set_cons_succ]
                          refine tkQ (i := 9) (oi := ?o138) (v := ?v138) ?h138 ?q138 ?y138 hS ?_; (case h138 => (simp only [gqA, gqB, gqC]; rfl)); (case q138 => exact fun _ _ _ h => h); (case y138 => (refine Or.inl ⟨by kernel_rfl, ?_⟩; intro wq hSq; clear hSq; go_simp; (try with_reducible rfl))); simp only [Act.put, List.setIfInBounds_toArray, List.set_cons_zero, List.set_cons_succ]
                          refine tkQ (i := 10) (oi := ?o139) (v := undef) ?h139 ?q139 ?y139 hS ?_; (case h139 => (simp only [gqA, gqB, gqC]; rfl)); (case q139 => exact fun _ _ _ h => h); (case y139 => (exact Or.inr ⟨by kernel_rfl, rfl⟩)); simp only [Act.put, List.setIfInBounds_toArray, List.set_cons_zero, List.set_cons_succ]
                          refine tkQ (i := 11) (oi := ?o140) (v := undef) ?h140 ?q140 ?y140 hS ?_; (case h140 => (simp only [gqA, gqB, gqC]; rfl)); (case q140 => exact fun _ _ _ h => h); (case y140 => (exact Or.inr ⟨by kernel_rfl, rfl⟩)); simp only [Act.put, List.setIfInBounds_toArray, List.set_cons_zero, List.set_cons_succ]
                          refine tkQ (i := 12) (oi := ?o141) (v := undef) ?h141 ?q141 ?y141 hS ?_; (case h141 => (simp only [gqA, gqB, gqC]; rfl)); (case q141 => exact fun _ _ _ h => h); (case y141 => (exact Or.inr ⟨by kernel_rfl, rfl⟩)); simp only [Act.put, List.setIfInBounds_toArray, List.set_cons_zero, List.set_cons_succ]
                          refine tkQ (i := 13) (oi := ?o142) (v := undef) ?h142 ?q142 ?y142 hS ?_; (case h142 => (simp only [gqA, gqB, gqC]; rfl)); (case q142 => exact fun _ _ _ h => h); (case y142 => (exact Or.inr ⟨by kernel_rfl, rfl⟩)); simp only [Act.put, List.setIfInBounds_toArray, List.set_cons_zero, List.set_cons_succ]
                          refine tkQ (i := 14) (oi := ?o143) (v := undef) ?h143 ?q143 ?y143 hS ?_; (case h143 => (simp only [gqA, gqB, gqC]; rfl)); (case q143 => exact fun _ _ _ h => h); (case y143 => (exact Or.inr ⟨by kernel_rfl, rfl⟩)); simp only [Act.put, List.setIfInBounds_toArray, List.set_cons_zero, List.set_cons_succ]
                          refine tkQ (i := 15) (oi := ?o144) (v := undef) ?h144 ?q144 ?y144 hS ?_; (case h144 => (simp only [gqA, gqB, gqC]; rfl)); (case q144 => exact fun _ _ _ h => h); (case y144 => (exact Or.inr ⟨by kernel_rfl, rfl⟩)); simp only [Act.put, List.setIfInBounds_toArray, List.set_cons_zero, List.set_cons_succ]
                          refine tkQ (i := 16) (oi := ?o145) (v := undef) ?h145 ?q145 ?y145 hS ?_; (case h145 => (simp only [gqA, gqB, gqC]; rfl)); (case q145 => exact fun _ _ _ h => h); (case y145 => (exact Or.inr ⟨by kernel_rfl, rfl⟩)); simp only [Act.put, List.setIfInBounds_toArray, List.set_cons_zero, List.set_cons_succ]
                          refine tkQ (i := 17) (oi := ?o146) (v := undef) ?h146 ?q146 ?y146 hS ?_; (case h146 => (simp only [gqA, gqB, gqC]; rfl)); (case q146 => exact fun _ _ _ h => h); (case y146 => (exact Or.inr ⟨by kernel_rfl, rfl⟩)); simp only [Act.put, List.setIfInBounds_toArray, List.set_cons_zero, List.set_cons_succ]
                          refine tkQ (i := 18) (oi := ?o147) (v := undef) ?h147 ?q147 ?y147 hS ?_; (case h147 => (simp only [gqA, gqB, gqC]; rfl)); (case q147 => exact fun _ _ _ h => h); (case y147 => (exact Or.inr ⟨by kernel_rfl, rfl⟩)); simp only [Act.put, List.setIfInBounds_toArray, List.set_cons_zero, List.set_cons_succ]
                          refine tkQ (i := 19) (oi := ?o148) (v := ?v148) ?h148 ?q148 ?y148 hS ?_; (case h148 => (simp only [gqA, gqB, gqC]; rfl)); (case q148 => exact fun _ _ _ h => h); (case y148 => (refine Or.inl ⟨by kernel_rfl, ?_⟩; intro wq hSq; clear hSq; go_simp; (try with_reducible rfl))); simp only [Act.put, List.setIfInBounds_toArray, List.set_cons_zero, List.set_cons_succ]
                          refine wpAnyH_done (by kernel_rfl) ?_ _
                          go_wp2
                          go_roundw
                          case rel => exact ⟨j + 1, by go_num, by omega, hnj.trans (New.refl _).drew, Lib.hid (fun q hq => by
                            rcases HTK.out q hq with h | rfl
                            · exact HNO.out q h
                            · exact fun x => HNE.out x.1)⟩
                          case measure => simp [intOf]; omega
                      · obtain rfl : i = j := by omega
                        have HS0 : Hid (seenB (seenT places i) po ps = false) := Lib.hid (by
                          rw [Bool.eq_false_iff]
                          intro q
                          obtain ⟨y, h1, h2⟩ := HSQ.out.1 q
                          exact HNO.out y h1 h2)
                        by_cases hpa : pa = (u4 : Int)
                        · subst hpa
                          have w3 : IntKind.i64.wrap ((u4 : Int) + pz) = (u4 : Int) + pz := IntWalk.i64_in _ (by omega)
                          have e5 : ((u4 : Int) == (u4 : Int)) = true := beq_self_eq_true _
                          have e5' : ((u4 : Int) != (u4 : Int)) = false := by rw [bne, e5]; rfl
                          rw [decide_eq_true rfl, Bool.true_and] at HPO2
                          by_cases hsm : (u4 : Int) + pz ≤ (image.size : Int)
                          · have t5 : decide ((image.size : Int) < (u4 : Int) + pz) = false := decide_eq_false (by omega)
                            rw [decide_eq_true hsm, Bool.true_and] at HPO2
                            have HZ9 := Lib.hid (zero_iff (s := image) (a := e) (b := u4) (by omega))
                            go_wp2_with (fail)
                            refine wp_region_held_drew (S := (New _)) (by kernel_rfl) ((New.refl _).drew) (fun hS => ?_)
                            refine tkQ (i := 0) (oi := ?o149) (v := ?v149) ?h149 ?q149 ?y149 hS ?_; (case h149 => (simp only [gqA, gqB, gqC]; rfl)); (case q149 => exact fun _ _ _ h => h); (case y149 => (refine Or.inl ⟨by kernel_rfl, ?_⟩; intro wq hSq; clear hSq; go_simp; (try with_reducible rfl))); simp only [Act.put, List.setIfInBounds_toArray, List.set_cons_zero, List.set_cons_succ]
                            refine tkQ (i := 1) (oi := ?o150) (v := ?v150) ?h150 ?q150 ?y150 hS ?_; (case h150 => (simp only [gqA, gqB, gqC]; rfl)); (case q150 => exact fun _ _ _ h => h); (case y150 => (refine Or.inl ⟨by kernel_rfl, ?_⟩; intro wq hSq; have hf0 := cell_new hSq x3; have hf1 := cell_new hSq x4; have hf2 := cell_new hSq d2; clear hSq; go_simp; (try with_reducible rfl))); simp only [Act.put, List.setIfInBounds_toArray, List.set_cons_zero, List.set_cons_succ]
                            refine tkQ (i := 2) (oi := ?o151) (v := ?v151) ?h151 ?q151 ?y151 hS ?_; (case h151 => (simp only [gqA, gqB, gqC]; rfl)); (case q151 => exact fun _ _ _ h => h); (case y151 => (refine Or.inl ⟨by kernel_rfl, ?_⟩; intro wq hSq; clear hSq; go_simp; (try with_reducible rfl))); simp only [Act.put, List.setIfInBounds_toArray, List.set_cons_zero, List.set_cons_succ]
                            refine wpAnyH_ready (rs := [3]) (by kernel_rfl) (by simp) ?_
                            refine AllReadyH.cons (o := ?oi152) ?hi152 (fun K hK => ?_) AllReadyH.nil
                            case hi152 => (simp only [gqA, gqB, gqC]; rfl)
                            go_simp
                            refine (HUP.out _).mono ?_
                            rintro e w5 ⟨rfl, rfl⟩
                            refine hK.out _ _ (hS.trans (New.refl _)) (fun hS => ?_)
                            clear hK K
                            refine tkQ (i := 4) (oi := ?o153) (v := ?v153) ?h153 ?q153 ?y153 hS ?_; (case h153 => (simp only [gqA, gqB, gqC]; rfl)); (case q153 => exact fun _ _ _ h => h); (case y153 => (refine Or.inl ⟨by kernel_rfl, ?_⟩; intro wq hSq; clear hSq; go_simp; (try with_reducible rfl))); simp only [Act.put, List.setIfInBounds_toArray, List.set_cons_zero, List.set_cons_succ]
                            refine tkQ (i := 5) (oi := ?o154) (v := ?v154) ?h154 ?q154 ?y154 hS ?_; (case h154 => (simp only [gqA, gqB, gqC]; rfl)); (case q154 => exact fun _ _ _ h => h); (case y154 => (refine Or.inl ⟨by kernel_rfl, ?_⟩; intro wq hSq; clear hSq; go_simp; (try with_reducible rfl))); simp only [Act.put, List.setIfInBounds_toArray, List.set_cons_zero, List.set_cons_succ]
                            refine tkQ (i := 6) (oi := ?o155) (v := ?v155) ?h155 ?q155 ?y155 hS ?_; (case h155 => (simp only [gqA, gqB, gqC]; rfl)); (case q155 => exact fun _ _ _ h => h); (case y155 => (refine Or.inl ⟨by kernel_rfl, ?_⟩; intro wq hSq; clear hSq; go_simp; (try with_reducible rfl))); simp only [Act.put, List.setIfInBounds_toArray, List.set_cons_zero, List.set_cons_succ]
                            refine tkQ (i := 7) (oi := ?o156) (v := ?v156) ?h156 ?q156 ?y156 hS ?_; (case h156 => (simp only [gqA, gqB, gqC]; rfl)); (case q156 => exact fun _ _ _ h => h); (case y156 => (refine Or.inl ⟨by kernel_rfl, ?_⟩; intro wq hSq; have hf0 := cell_new hSq x3; have hf1 := cell_new hSq x4; have hf2 := cell_new hSq d2; clear hSq; go_simp; (try with_reducible rfl))); simp only [Act.put, List.setIfInBounds_toArray, List.set_cons_zero, List.set_cons_succ]
                            refine tkQ (i := 8) (oi := ?o157) (v := ?v157) ?h157 ?q157 ?y157 hS ?_; (case h157 => (simp only [gqA, gqB, gqC]; rfl)); (case q157 => exact fun _ _ _ h => h); (case y157 => (refine Or.inl ⟨by kernel_rfl, ?_⟩; intro wq hSq; clear hSq; go_simp; (try with_reducible rfl))); simp only [Act.put, List.setIfInBounds_toArray, List.set_cons_zero, List.set_cons_succ]
                            refine tkQ (i := 9) (oi := ?o158) (v := ?v158) ?h158 ?q158 ?y158 hS ?_; (case h158 => (simp only [gqA, gqB, gqC]; rfl)); (case q158 => exact fun _ _ _ h => h); (case y158 => (refine Or.inl ⟨by kernel_rfl, ?_⟩; intro wq hSq; have hf0 := cell_new hSq x3; have hf1 := cell_new hSq x4; have hf2 := cell_new hSq d2; clear hSq; go_simp; (try with_reducible rfl))); simp only [Act.put, List.setIfInBounds_toArray, List.set_cons_zero, List.set_cons_succ]
                            refine tkQ (i := 10) (oi := ?o159) (v := ?v159) ?h159 ?q159 ?y159 hS ?_; (case h159 => (simp only [gqA, gqB, gqC]; rfl)); (case q159 => exact fun _ _ _ h => h); (case y159 => (refine Or.inl ⟨by kernel_rfl, ?_⟩; intro wq hSq; clear hSq; go_simp; (try with_reducible rfl))); simp only [Act.put, List.setIfInBounds_toArray, List.set_cons_zero, List.set_cons_succ]
                            refine tkQ (i := 11) (oi := ?o160) (v := ?v160) ?h160 ?q160 ?y160 hS ?_; (case h160 => (simp only [gqA, gqB, gqC]; rfl)); (case q160 => exact fun _ _ _ h => h); (case y160 => (refine Or.inl ⟨by kernel_rfl, ?_⟩; intro wq hSq; clear hSq; go_simp; (try with_reducible rfl))); simp only [Act.put, List.setIfInBounds_toArray, List.set_cons_zero, List.set_cons_succ]
                            refine tkQ (i := 12) (oi := ?o161) (v := ?v161) ?h161 ?q161 ?y161 hS ?_; (case h161 => (simp only [gqA, gqB, gqC]; rfl)); (case q161 => exact fun _ _ _ h => h); (case y161 => (refine Or.inl ⟨by kernel_rfl, ?_⟩; intro wq hSq; have hf0 := cell_new hSq x3; have hf1 := cell_new hSq x4; have hf2 := cell_new hSq d2; clear hSq; go_simp; (try with_reducible rfl))); simp only [Act.put, List.setIfInBounds_toArray, List.set_cons_zero, List.set_cons_succ]
                            refine tkQ (i := 13) (oi := ?o162) (v := ?v162) ?h162 ?q162 ?y162 hS ?_; (case h162 => (simp only [gqA, gqB, gqC]; rfl)); (case q162 => exact fun _ _ _ h => h); (case y162 => (refine Or.inl ⟨by kernel_rfl, ?_⟩; intro wq hSq; clear hSq; go_simp; (try with_reducible rfl))); simp only [Act.put, List.setIfInBounds_toArray, List.set_cons_zero, List.set_cons_succ]
                            refine tkQ (i := 14) (oi := ?o163) (v := ?v163) ?h163 ?q163 ?y163 hS ?_; (case h163 => (simp only [gqA, gqB, gqC]; rfl)); (case q163 => exact fun _ _ _ h => h); (case y163 => (refine Or.inl ⟨by kernel_rfl, ?_⟩; intro wq hSq; clear hSq; go_simp; (try with_reducible rfl))); simp only [Act.put, List.setIfInBounds_toArray, List.set_cons_zero, List.set_cons_succ]
                            refine tkQ (i := 15) (oi := ?o164) (v := ?v164) ?h164 ?q164 ?y164 hS ?_; (case h164 => (simp only [gqA, gqB, gqC]; rfl)); (case q164 => exact fun _ _ _ h => h); (case y164 => (refine Or.inl ⟨by kernel_rfl, ?_⟩; intro wq hSq; clear hSq; go_simp; (try with_reducible rfl))); simp only [Act.put, List.setIfInBounds_toArray, List.set_cons_zero, List.set_cons_succ]
                            refine wpAnyH_done (by kernel_rfl) ?_ _
                            have nU : New w2 wj.drew := hnj.trans (New.refl _).drew
                            go_wp2
                            go_loopw [7] (fun v7 wr => ∃ k : Nat, v7 = .int .i64 k ∧ e ≤ k ∧ k ≤ u4 ∧ New w2 wr ∧ Hid (∀ j (hj : j < image.size), e ≤ j → j < k → image[j] = 0)) (fun v7 _ => u4 - (intOf v7).toNat)
                            case atStart => exact ⟨e, rfl, by omega, by omega, nU, Lib.hid (fun j hj h1 h2 => absurd h1 (by omega))⟩
                            case round =>
                              clear x0 x1 x3 x4 d3 d2 hnj nU
                              obtain ⟨k, rfl, hke, hku, hnk, HZR⟩ := hrel
                              have x3 := (BP2.new hnk).cell' 3 _ rfl
                              have x4 := (BP2.new hnk).cell' 4 _ rfl
                              have d2 := (BB2.new hnk).cell' 2 _ rfl
                              by_cases hlt3 : k < u4
                              · have hks : k < image.size := by omega
                                have k0 : (0 : Int) ≤ (k : Int) := by omega
                                have k1 : (k : Int) < (image.size : Int) := by omega
                                by_cases hc : (image[k].toNat : Int) = 0
                                · have e6 : ((image[k].toNat : Int) == 0) = true := beq_iff_eq.2 hc
                                  have e6' : ((image[k].toNat : Int) != 0) = false := by rw [bne, e6]; rfl
                                  have HC0 : Hid (image[k] = 0) := Lib.hid (UInt8.toNat_inj.1 (by have : (0 : UInt8).toNat = 0 := rfl; omega))
                                  clear hc
                                  go_wp2
                                  go_roundw
                                  case rel => exact ⟨k + 1, by go_num, by omega, by omega, hnk, Lib.hid (fun j hj h1 h2 => by
                                    by_cases h : j = k
                                    · subst h; exact HC0.out
                                    · exact HZR.out j hj h1 (by omega))⟩
                                  case measure => simp [intOf]; omega
                                · have e6 : ((image[k].toNat : Int) == 0) = false := beq_eq_false_iff_ne.2 hc
                                  have e6' : ((image[k].toNat : Int) != 0) = true := by rw [bne, e6]; rfl
                                  have hRf := HBad.out (by
                                    rw [HPO2.out, Bool.eq_false_iff]
                                    intro q
                                    have := HZ9.out.1 q k hks (by omega) hlt3
                                    rw [this] at hc
                                    exact hc rfl)
                                  subst hRf
                                  clear hc
                                  go_wp2
                                  go_ret
                                  exact ⟨rfl, nB.trans hnk⟩
                              · obtain rfl : k = u4 := by omega
                                have HF := Lib.hid (HG2.out HS0.out (by rw [HPO2.out]; exact HZ9.out.2 HZR.out))
                                obtain ⟨zn, rfl⟩ : ∃ zn : Nat, pz = (zn : Int) := ⟨pz.toNat, by omega⟩
                                go_wp2
                                go_roundw
                                case rel => exact ⟨i + 1, k + zn, by go_num, by go_num, by omega, by omega, nB.trans hnk, BB2.new hnk, Lib.hid (by rw [HSN.out, HF.out, Int.toNat_natCast])⟩
                                case measure => simp [intOf]; omega
                          · have t5 : decide ((image.size : Int) < (u4 : Int) + pz) = true := decide_eq_true (by omega)
                            have hRf := HBad.out (by rw [HPO2.out, decide_eq_false hsm]; rfl)
                            subst hRf
                            go_wp2_with (fail)
                            refine wp_region_held_drew (S := (New _)) (by kernel_rfl) ((New.refl _).drew) (fun hS => ?_)
                            refine tkQ (i := 0) (oi := ?o201) (v := ?v201) ?h201 ?q201 ?y201 hS ?_; (case h201 => (simp only [gqA, gqB, gqC]; rfl)); (case q201 => exact fun _ _ _ h => h); (case y201 => (refine Or.inl ⟨by kernel_rfl, ?_⟩; intro wq hSq; clear hSq; go_simp; (try with_reducible rfl))); simp only [Act.put, List.setIfInBounds_toArray, List.set_cons_zero, List.set_cons_succ]
                            refine tkQ (i := 1) (oi := ?o202) (v := ?v202) ?h202 ?q202 ?y202 hS ?_; (case h202 => (simp only [gqA, gqB, gqC]; rfl)); (case q202 => exact fun _ _ _ h => h); (case y202 => (refine Or.inl ⟨by kernel_rfl, ?_⟩; intro wq hSq; have hf0 := cell_new hSq x3; have hf1 := cell_new hSq x4; have hf2 := cell_new hSq d2; clear hSq; go_simp; (try with_reducible rfl))); simp only [Act.put, List.setIfInBounds_toArray, List.set_cons_zero, List.set_cons_succ]
                            refine tkQ (i := 2) (oi := ?o203) (v := ?v203) ?h203 ?q203 ?y203 hS ?_; (case h203 => (simp only [gqA, gqB, gqC]; rfl)); (case q203 => exact fun _ _ _ h => h); (case y203 => (refine Or.inl ⟨by kernel_rfl, ?_⟩; intro wq hSq; clear hSq; go_simp; (try with_reducible rfl))); simp only [Act.put, List.setIfInBounds_toArray, List.set_cons_zero, List.set_cons_succ]
                            refine wpAnyH_ready (rs := [3]) (by kernel_rfl) (by simp) ?_
                            refine AllReadyH.cons (o := ?oi204) ?hi204 (fun K hK => ?_) AllReadyH.nil
                            case hi204 => (simp only [gqA, gqB, gqC]; rfl)
                            go_simp
                            refine (HUP.out _).mono ?_
                            rintro e w5 ⟨rfl, rfl⟩
                            refine hK.out _ _ (hS.trans (New.refl _)) (fun hS => ?_)
                            clear hK K
                            refine tkQ (i := 4) (oi := ?o205) (v := ?v205) ?h205 ?q205 ?y205 hS ?_; (case h205 => (simp only [gqA, gqB, gqC]; rfl)); (case q205 => exact fun _ _ _ h => h); (case y205 => (refine Or.inl ⟨by kernel_rfl, ?_⟩; intro wq hSq; clear hSq; go_simp; (try with_reducible rfl))); simp only [Act.put, List.setIfInBounds_toArray, List.set_cons_zero, List.set_cons_succ]
                            refine tkQ (i := 5) (oi := ?o206) (v := ?v206) ?h206 ?q206 ?y206 hS ?_; (case h206 => (simp only [gqA, gqB, gqC]; rfl)); (case q206 => exact fun _ _ _ h => h); (case y206 => (refine Or.inl ⟨by kernel_rfl, ?_⟩; intro wq hSq; clear hSq; go_simp; (try with_reducible rfl))); simp only [Act.put, List.setIfInBounds_toArray, List.set_cons_zero, List.set_cons_succ]
                            refine tkQ (i := 6) (oi := ?o207) (v := ?v207) ?h207 ?q207 ?y207 hS ?_; (case h207 => (simp only [gqA, gqB, gqC]; rfl)); (case q207 => exact fun _ _ _ h => h); (case y207 => (refine Or.inl ⟨by kernel_rfl, ?_⟩; intro wq hSq; clear hSq; go_simp; (try with_reducible rfl))); simp only [Act.put, List.setIfInBounds_toArray, List.set_cons_zero, List.set_cons_succ]
                            refine tkQ (i := 7) (oi := ?o208) (v := ?v208) ?h208 ?q208 ?y208 hS ?_; (case h208 => (simp only [gqA, gqB, gqC]; rfl)); (case q208 => exact fun _ _ _ h => h); (case y208 => (refine Or.inl ⟨by kernel_rfl, ?_⟩; intro wq hSq; have hf0 := cell_new hSq x3; have hf1 := cell_new hSq x4; have hf2 := cell_new hSq d2; clear hSq; go_simp; (try with_reducible rfl))); simp only [Act.put, List.setIfInBounds_toArray, List.set_cons_zero, List.set_cons_succ]
                            refine tkQ (i := 8) (oi := ?o209) (v := ?v209) ?h209 ?q209 ?y209 hS ?_; (case h209 => (simp only [gqA, gqB, gqC]; rfl)); (case q209 => exact fun _ _ _ h => h); (case y209 => (refine Or.inl ⟨by kernel_rfl, ?_⟩; intro wq hSq; clear hSq; go_simp; (try with_reducible rfl))); simp only [Act.put, List.setIfInBounds_toArray, List.set_cons_zero, List.set_cons_succ]
                            refine tkQ (i := 9) (oi := ?o210) (v := ?v210) ?h210 ?q210 ?y210 hS ?_; (case h210 => (simp only [gqA, gqB, gqC]; rfl)); (case q210 => exact fun _ _ _ h => h); (case y210 => (refine Or.inl ⟨by kernel_rfl, ?_⟩; intro wq hSq; have hf0 := cell_new hSq x3; have hf1 := cell_new hSq x4; have hf2 := cell_new hSq d2; clear hSq; go_simp; (try with_reducible rfl))); simp only [Act.put, List.setIfInBounds_toArray, List.set_cons_zero, List.set_cons_succ]
                            refine tkQ (i := 10) (oi := ?o211) (v := ?v211) ?h211 ?q211 ?y211 hS ?_; (case h211 => (simp only [gqA, gqB, gqC]; rfl)); (case q211 => exact fun _ _ _ h => h); (case y211 => (refine Or.inl ⟨by kernel_rfl, ?_⟩; intro wq hSq; clear hSq; go_simp; (try with_reducible rfl))); simp only [Act.put, List.setIfInBounds_toArray, List.set_cons_zero, List.set_cons_succ]
                            refine tkQ (i := 11) (oi := ?o212) (v := ?v212) ?h212 ?q212 ?y212 hS ?_; (case h212 => (simp only [gqA, gqB, gqC]; rfl)); (case q212 => exact fun _ _ _ h => h); (case y212 => (refine Or.inl ⟨by kernel_rfl, ?_⟩; intro wq hSq; clear hSq; go_simp; (try with_reducible rfl))); simp only [Act.put, List.setIfInBounds_toArray, List.set_cons_zero, List.set_cons_succ]
                            refine tkQ (i := 12) (oi := ?o213) (v := ?v213) ?h213 ?q213 ?y213 hS ?_; (case h213 => (simp only [gqA, gqB, gqC]; rfl)); (case q213 => exact fun _ _ _ h => h); (case y213 => (refine Or.inl ⟨by kernel_rfl, ?_⟩; intro wq hSq; have hf0 := cell_new hSq x3; have hf1 := cell_new hSq x4; have hf2 := cell_new hSq d2; clear hSq; go_simp; (try with_reducible rfl))); simp only [Act.put, List.setIfInBounds_toArray, List.set_cons_zero, List.set_cons_succ]
                            refine tkQ (i := 13) (oi := ?o214) (v := ?v214) ?h214 ?q214 ?y214 hS ?_; (case h214 => (simp only [gqA, gqB, gqC]; rfl)); (case q214 => exact fun _ _ _ h => h); (case y214 => (refine Or.inl ⟨by kernel_rfl, ?_⟩; intro wq hSq; clear hSq; go_simp; (try with_reducible rfl))); simp only [Act.put, List.setIfInBounds_toArray, List.set_cons_zero, List.set_cons_succ]
                            refine tkQ (i := 14) (oi := ?o215) (v := ?v215) ?h215 ?q215 ?y215 hS ?_; (case h215 => (simp only [gqA, gqB, gqC]; rfl)); (case q215 => exact fun _ _ _ h => h); (case y215 => (refine Or.inl ⟨by kernel_rfl, ?_⟩; intro wq hSq; clear hSq; go_simp; (try with_reducible rfl))); simp only [Act.put, List.setIfInBounds_toArray, List.set_cons_zero, List.set_cons_succ]
                            refine tkQ (i := 15) (oi := ?o216) (v := ?v216) ?h216 ?q216 ?y216 hS ?_; (case h216 => (simp only [gqA, gqB, gqC]; rfl)); (case q216 => exact fun _ _ _ h => h); (case y216 => (refine Or.inl ⟨by kernel_rfl, ?_⟩; intro wq hSq; clear hSq; go_simp; (try with_reducible rfl))); simp only [Act.put, List.setIfInBounds_toArray, List.set_cons_zero, List.set_cons_succ]
                            refine wpAnyH_done (by kernel_rfl) ?_ _
                            go_wp2
                            go_ret
                            exact ⟨rfl, nB.trans (hnj.trans (New.refl _).drew)⟩
                        · have e5 : (pa == (u4 : Int)) = false := beq_eq_false_iff_ne.2 hpa
                          have e5' : (pa != (u4 : Int)) = true := by rw [bne, e5]; rfl
                          have hRf := HBad.out (by rw [HPO2.out, decide_eq_false hpa]; rfl)
                          subst hRf
                          clear hpa
                          go_wp2_with (fail)
                          refine wp_region_held_drew (S := (New _)) (by kernel_rfl) ((New.refl _).drew) (fun hS => ?_)
                          refine tkQ (i := 0) (oi := ?o165) (v := ?v165) ?h165 ?q165 ?y165 hS ?_; (case h165 => (simp only [gqA, gqB, gqC]; rfl)); (case q165 => exact fun _ _ _ h => h); (case y165 => (refine Or.inl ⟨by kernel_rfl, ?_⟩; intro wq hSq; clear hSq; go_simp; (try with_reducible rfl))); simp only [Act.put, List.setIfInBounds_toArray, List.set_cons_zero, List.set_cons_succ]
                          refine tkQ (i := 1) (oi := ?o166) (v := ?v166) ?h166 ?q166 ?y166 hS ?_; (case h166 => (simp only [gqA, gqB, gqC]; rfl)); (case q166 => exact fun _ _ _ h => h); (case y166 => (refine Or.inl ⟨by kernel_rfl, ?_⟩; intro wq hSq; have hf0 := cell_new hSq x3; have hf1 := cell_new hSq x4; have hf2 := cell_new hSq d2; clear hSq; go_simp; (try with_reducible rfl))); simp only [Act.put, List.setIfInBounds_toArray, List.set_cons_zero, List.set_cons_succ]
                          refine tkQ (i := 2) (oi := ?o167) (v := ?v167) ?h167 ?q167 ?y167 hS ?_; (case h167 => (simp only [gqA, gqB, gqC]; rfl)); (case q167 => exact fun _ _ _ h => h); (case y167 => (refine Or.inl ⟨by kernel_rfl, ?_⟩; intro wq hSq; clear hSq; go_simp; (try with_reducible rfl))); simp only [Act.put, List.setIfInBounds_toArray, List.set_cons_zero, List.set_cons_succ]
                          refine wpAnyH_ready (rs := [3]) (by kernel_rfl) (by simp) ?_
                          refine AllReadyH.cons (o := ?oi168) ?hi168 (fun K hK => ?_) AllReadyH.nil
                          case hi168 => (simp only [gqA, gqB, gqC]; rfl)
                          go_simp
                          refine (HUP.out _).mono ?_
                          rintro e w5 ⟨rfl, rfl⟩
                          refine hK.out _ _ (hS.trans (New.refl _)) (fun hS => ?_)
                          clear hK K
                          refine tkQ (i := 4) (oi := ?o169) (v := ?v169) ?h169 ?q169 ?y169 hS ?_; (case h169 => (simp only [gqA, gqB, gqC]; rfl)); (case q169 => exact fun _ _ _ h => h); (case y169 => (refine Or.inl ⟨by kernel_rfl, ?_⟩; intro wq hSq; clear hSq; go_simp; (try with_reducible rfl))); simp only [Act.put, List.setIfInBounds_toArray, List.set_cons_zero, List.set_cons_succ]
                          refine tkQ (i := 5) (oi := ?o170) (v := ?v170) ?h170 ?q170 ?y170 hS ?_; (case h170 => (simp only [gqA, gqB, gqC]; rfl)); (case q170 => exact fun _ _ _ h => h); (case y170 => (refine Or.inl ⟨by kernel_rfl, ?_⟩; intro wq hSq; clear hSq; go_simp; (try with_reducible rfl))); simp only [Act.put, List.setIfInBounds_toArray, List.set_cons_zero, List.set_cons_succ]
                          refine tkQ (i := 6) (oi := ?o171) (v := undef) ?h171 ?q171 ?y171 hS ?_; (case h171 => (simp only [gqA, gqB, gqC]; rfl)); (case q171 => exact fun _ _ _ h => h); (case y171 => (exact Or.inr ⟨by kernel_rfl, rfl⟩)); simp only [Act.put, List.setIfInBounds_toArray, List.set_cons_zero, List.set_cons_succ]
                          refine tkQ (i := 7) (oi := ?o172) (v := undef) ?h172 ?q172 ?y172 hS ?_; (case h172 => (simp only [gqA, gqB, gqC]; rfl)); (case q172 => exact fun _ _ _ h => h); (case y172 => (exact Or.inr ⟨by kernel_rfl, rfl⟩)); simp only [Act.put, List.setIfInBounds_toArray, List.set_cons_zero, List.set_cons_succ]
                          refine tkQ (i := 8) (oi := ?o173) (v := undef) ?h173 ?q173 ?y173 hS ?_; (case h173 => (simp only [gqA, gqB, gqC]; rfl)); (case q173 => exact fun _ _ _ h => h); (case y173 => (exact Or.inr ⟨by kernel_rfl, rfl⟩)); simp only [Act.put, List.setIfInBounds_toArray, List.set_cons_zero, List.set_cons_succ]
                          refine tkQ (i := 9) (oi := ?o174) (v := undef) ?h174 ?q174 ?y174 hS ?_; (case h174 => (simp only [gqA, gqB, gqC]; rfl)); (case q174 => exact fun _ _ _ h => h); (case y174 => (exact Or.inr ⟨by kernel_rfl, rfl⟩)); simp only [Act.put, List.setIfInBounds_toArray, List.set_cons_zero, List.set_cons_succ]
                          refine tkQ (i := 10) (oi := ?o175) (v := undef) ?h175 ?q175 ?y175 hS ?_; (case h175 => (simp only [gqA, gqB, gqC]; rfl)); (case q175 => exact fun _ _ _ h => h); (case y175 => (exact Or.inr ⟨by kernel_rfl, rfl⟩)); simp only [Act.put, List.setIfInBounds_toArray, List.set_cons_zero, List.set_cons_succ]
                          refine tkQ (i := 11) (oi := ?o176) (v := undef) ?h176 ?q176 ?y176 hS ?_; (case h176 => (simp only [gqA, gqB, gqC]; rfl)); (case q176 => exact fun _ _ _ h => h); (case y176 => (exact Or.inr ⟨by kernel_rfl, rfl⟩)); simp only [Act.put, List.setIfInBounds_toArray, List.set_cons_zero, List.set_cons_succ]
                          refine tkQ (i := 12) (oi := ?o177) (v := undef) ?h177 ?q177 ?y177 hS ?_; (case h177 => (simp only [gqA, gqB, gqC]; rfl)); (case q177 => exact fun _ _ _ h => h); (case y177 => (exact Or.inr ⟨by kernel_rfl, rfl⟩)); simp only [Act.put, List.setIfInBounds_toArray, List.set_cons_zero, List.set_cons_succ]
                          refine tkQ (i := 13) (oi := ?o178) (v := undef) ?h178 ?q178 ?y178 hS ?_; (case h178 => (simp only [gqA, gqB, gqC]; rfl)); (case q178 => exact fun _ _ _ h => h); (case y178 => (exact Or.inr ⟨by kernel_rfl, rfl⟩)); simp only [Act.put, List.setIfInBounds_toArray, List.set_cons_zero, List.set_cons_succ]
                          refine tkQ (i := 14) (oi := ?o179) (v := undef) ?h179 ?q179 ?y179 hS ?_; (case h179 => (simp only [gqA, gqB, gqC]; rfl)); (case q179 => exact fun _ _ _ h => h); (case y179 => (exact Or.inr ⟨by kernel_rfl, rfl⟩)); simp only [Act.put, List.setIfInBounds_toArray, List.set_cons_zero, List.set_cons_succ]
                          refine tkQ (i := 15) (oi := ?o180) (v := ?v180) ?h180 ?q180 ?y180 hS ?_; (case h180 => (simp only [gqA, gqB, gqC]; rfl)); (case q180 => exact fun _ _ _ h => h); (case y180 => (refine Or.inl ⟨by kernel_rfl, ?_⟩; intro wq hSq; clear hSq; go_simp; (try with_reducible rfl))); simp only [Act.put, List.setIfInBounds_toArray, List.set_cons_zero, List.set_cons_succ]
                          refine wpAnyH_done (by kernel_rfl) ?_ _
                          go_wp2
                          go_ret
                          exact ⟨rfl, nB.trans (hnj.trans (New.refl _).drew)⟩
                  · have hk : kindOK ⟨po, ps, 2, pa, pz⟩ = false := by rw [HKO.out]; simp; omega
                    have hRf := HBad.out (by rw [HPO.out, hk]; rfl)
                    have e3 : (pz % 4 == 0) = false := beq_eq_false_iff_ne.2 k3
                    have e3' : (pz % 4 != 0) = true := by rw [bne, e3]; rfl
                    subst hRf
                    clear hk
                    go_wp2_with (first | (go_at_call 34; (with_reducible refine (HA2.out _).mono ?_); rintro e w2 ⟨rfl, n2⟩; have f2 := (BP.new (n1.trans n2)).cell' 2 _ rfl; have f4 := (BP.new (n1.trans n2)).cell' 4 _ rfl) | (go_at_call 102; (with_reducible refine (HA1.out _).mono ?_); rintro e w1 ⟨rfl, n1⟩; have f1 := (BP.new n1).cell' 1 _ rfl))
                    go_ret
                    exact ⟨rfl, ((hnr.trans nA).trans n1).trans n2⟩
                · have e2 : (pk == 2) = false := beq_eq_false_iff_ne.2 k2
                  have e2' : (pk != 2) = true := by rw [bne, e2]; rfl
                  have hk : kindOK ⟨po, ps, pk, pa, pz⟩ = false := by rw [HKO.out, e1, e2]; rfl
                  have hRf := HBad.out (by rw [HPO.out, hk]; rfl)
                  subst hRf
                  clear hk
                  go_wp2_with (first | (go_at_call 34; (with_reducible refine (HA2.out _).mono ?_); rintro e w2 ⟨rfl, n2⟩; have f2 := (BP.new (n1.trans n2)).cell' 2 _ rfl; have f4 := (BP.new (n1.trans n2)).cell' 4 _ rfl) | (go_at_call 102; (with_reducible refine (HA1.out _).mono ?_); rintro e w1 ⟨rfl, n1⟩; have f1 := (BP.new n1).cell' 1 _ rfl))
                  go_ret
                  exact ⟨rfl, ((hnr.trans nA).trans n1).trans n2⟩
            · have hRf := HBad.out (by
                rw [HPO.out, HKO.out, Bool.eq_false_iff]
                intro q
                simp only [Bool.and_eq_true, Bool.or_eq_true, decide_eq_true_eq] at q
                have q1 := q.1.1.1.1
                have q2 := q.1.1.1.2
                rcases q1 with ⟨_, q1⟩ | ⟨⟨_, q1⟩, _⟩ <;> omega)
              subst hRf
              by_cases s1 : pz < 0
              · go_wp2_with (first | (go_at_call 34; (with_reducible refine (HA2.out _).mono ?_); rintro e w2 ⟨rfl, n2⟩; have f2 := (BP.new (n1.trans n2)).cell' 2 _ rfl; have f4 := (BP.new (n1.trans n2)).cell' 4 _ rfl) | (go_at_call 102; (with_reducible refine (HA1.out _).mono ?_); rintro e w1 ⟨rfl, n1⟩; have f1 := (BP.new n1).cell' 1 _ rfl))
                go_ret
                exact ⟨rfl, ((hnr.trans nA).trans n1).trans n2⟩
              · have s2 : (8192 : Int) < pz := by omega
                go_wp2_with (first | (go_at_call 34; (with_reducible refine (HA2.out _).mono ?_); rintro e w2 ⟨rfl, n2⟩; have f2 := (BP.new (n1.trans n2)).cell' 2 _ rfl; have f4 := (BP.new (n1.trans n2)).cell' 4 _ rfl) | (go_at_call 102; (with_reducible refine (HA1.out _).mono ?_); rintro e w1 ⟨rfl, n1⟩; have f1 := (BP.new n1).cell' 1 _ rfl))
                go_ret
                exact ⟨rfl, ((hnr.trans nA).trans n1).trans n2⟩
      · obtain rfl : n = i := by omega
        have hgo := HGo.out
        rw [List.drop_of_length_le (by rw [HN.out]; exact Nat.le_refl _), placedGo] at hgo
        have b2' := BR.cell' 2 _ rfl
        by_cases he : e = image.size
        · have hRt : R = true := by rw [← HRR.out, ← hgo, he]; simp
          subst hRt
          clear hgo
          have e9 : ((e : Int) == (image.size : Int)) = true := by rw [he]; simp
          go_wp2
          go_ret
          exact ⟨rfl, hnr⟩
        · have hRf : R = false := by
            rw [← HRR.out, ← hgo]
            exact decide_eq_false (fun q => he (Option.some.inj q))
          subst hRf
          clear hgo
          have e9 : ((e : Int) == (image.size : Int)) = false := by rw [beq_eq_false_iff_ne]; omega
          go_wp2
          go_ret
          exact ⟨rfl, hnr⟩
  · have hRf : (decide (1 ≤ n) && decide (n ≤ 128) && decide (image.size ≤ 65536) && decide (placedGo image places 0 [] = some image.size)) = false := by
      have : (decide (1 ≤ n) && decide (n ≤ 128) && decide (image.size ≤ 65536)) = false := by
        rw [Bool.eq_false_iff]
        simp only [ne_eq, Bool.and_eq_true, decide_eq_true_eq]
        omega
      rw [this, Bool.false_and]
    rw [hRf]
    clear hRf
    by_cases t1 : (n : Int) < 1
    · go_enter Tryz.func50, Tryz.ntmps50
      go_wp2
      go_ret
      exact ⟨rfl, hn1⟩
    · by_cases t2 : (128 : Int) < (n : Int)
      · go_enter Tryz.func50, Tryz.ntmps50
        go_wp2
        go_ret
        exact ⟨rfl, hn1⟩
      · have t3 : (65536 : Int) < (image.size : Int) := by omega
        go_enter Tryz.func50, Tryz.ntmps50
        go_wp2
        go_ret
        exact ⟨rfl, hn1⟩
end Go.Proofs.YtnknmpcgbfmfjaaGreatDoor

