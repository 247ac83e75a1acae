/- The law BinaryEncodes: it answers true. Conditions: none but the world's. (Printed by mk-x4.py.) -/
import Derived.Test.YtnknmpcgbfmfjaaGreatDoorGBase
import Derived.Test.YtnknmpcgbfmfjaaGreatDoorGW
import Derived.Test.YtnknmpcgbfmfjaaGreatDoorGLaw2
import Derived.Test.YtnknmpcgbfmfjaaGreatDoorGV4
import Derived.Deep.RegionHeld3

namespace Go.Proofs.YtnknmpcgbfmfjaaGreatDoor
open Go Go.RowKit Go.Joins
set_option linter.unusedSimpArgs false
set_option linter.unusedVariables false

set_option maxRecDepth 100000 in
set_option maxHeartbeats 8000000 in
theorem law_encodes (b : Bn) (h : BH) (w : World) (hr : BRd w b h) (hl : LensB b) (hw : W64B b) (hE : Env w) :
    Calls Tryz.prog 3 #[.agg (bcells b h)] w fun e w' => e = .returned (.bool true) ∧ New w w' := by
  have HF := Lib.hid (fun W (hn : New w W) => few_any b h W (hr.new hn) hl)
  have HC1 := Lib.hid (fun (hs : FewS b) W (hn : New w W) => encode_any b h W (hr.new hn) (hs.szb hw) (hs.szx hw) (hE.new hn))
  have HC2 := Lib.hid (fun (hs : FewS b) W (hn : New w W) => rencode_any b h W (hr.new hn) (hs.szb hw) (hs.szx hw))
  have HC3 := Lib.hid (fun (hs : FewS b) W (hn : New w W) => check_any b h W (hr.new hn) (hs.szb hw) (hE.new hn))
  have HC4 := Lib.hid (fun (hs : FewS b) W (hn : New w W) => rcheck_any b h W (hr.new hn) (hs.szb hw))
  have HE := Lib.hid hE
  have HFS := Lib.hid (rfl : b = b)
  have HR : Hid (∀ W e W', FewR b W e W' → (∃ v, e = .returned (.bool v) ∧ (v = true → FewS b)) ∧ New W W') := Lib.hid (fun W e W' q => q)
  obtain ⟨px, hpx⟩ : ∃ x, encV b = x := ⟨_, rfl⟩
  obtain ⟨cx, hcx⟩ : ∃ x, chkE b = x := ⟨_, rfl⟩
  obtain ⟨FS, hFS⟩ : ∃ x, FewS b = x := ⟨_, rfl⟩
  have HF2 := Lib.hid (fun W (hn : New w W) => (HF.out W hn).mono (fun e W' q => HR.out W e W' q))
  rw [hFS] at HF2 HC1 HC2 HC3 HC4
  rw [hpx] at HC1 HC2
  rw [hcx] at HC3 HC4
  clear hpx hcx
  obtain ⟨ps, pe⟩ := px
  simp only at HC1 HC2
  generalize S ps = sx at *
  have B0 := Blk.made w 28 (bcells b h)
  have n0 : New w (w.alloc (.cells (bcells b h) 28)) := (New.refl w).alloc _
  clear HF HR HFS hFS hr hl hw hE
  obtain ⟨kind, entry, image, places, fix, imps, exps, notes⟩ := b
  obtain ⟨a1, c1, a2, c2, a3, c3, a4, c4, a5, c5⟩ := h
  simp only [bcells] at *
  obtain ⟨n1, hn1⟩ : ∃ n, places.length = n := ⟨_, rfl⟩
  obtain ⟨n2, hn2⟩ : ∃ n, fix.length = n := ⟨_, rfl⟩
  obtain ⟨n3, hn3⟩ : ∃ n, imps.length = n := ⟨_, rfl⟩
  obtain ⟨n4, hn4⟩ : ∃ n, exps.length = n := ⟨_, rfl⟩
  obtain ⟨n5, hn5⟩ : ∃ n, notes.length = n := ⟨_, rfl⟩
  simp only [hn1, hn2, hn3, hn4, hn5] at *
  clear hn1 hn2 hn3 hn4 hn5
  go_enter Tryz.func3, Tryz.ntmps3
  go_wp2_with (fail)
  with_reducible refine (awake_any _ (HE.out.new n0)).mono ?_
  rintro e w1 ⟨rfl, m1⟩
  have n1' := n0.trans m1
  have B1 := B0.new m1
  have x0 := B1.cell' 0 _ rfl
  have x1 := B1.cell' 1 _ rfl
  have x2 := B1.cell' 2 _ rfl
  have x3 := B1.cell' 3 _ rfl
  have x4 := B1.cell' 4 _ rfl
  have x5 := B1.cell' 5 _ rfl
  have x6 := B1.cell' 6 _ rfl
  have x7 := B1.cell' 7 _ rfl
  go_wp2_with (fail)
  with_reducible refine (HF2.out _ n1').mono ?_
  rintro e w2 ⟨⟨v, rfl, hv⟩, m2⟩
  have n2' := n1'.trans m2
  have B2 := B1.new m2
  cases v
  · go_wp2
    go_ret
    exact ⟨rfl, n2'⟩
  have HS := Lib.hid (hv rfl)
  clear x0 x1 x2 x3 x4 x5 x6 x7
  clear hv
  have x0 := B2.cell' 0 _ rfl
  have x1 := B2.cell' 1 _ rfl
  have x2 := B2.cell' 2 _ rfl
  have x3 := B2.cell' 3 _ rfl
  have x4 := B2.cell' 4 _ rfl
  have x5 := B2.cell' 5 _ rfl
  have x6 := B2.cell' 6 _ rfl
  have x7 := B2.cell' 7 _ rfl
  go_wp2_with (fail)
  with_reducible refine (HC1.out HS.out _ n2').mono ?_
  rintro e w3 ⟨rfl, m3⟩
  have n3' := n2'.trans m3
  have B3 := B2.new m3
  clear x0 x1 x2 x3 x4 x5 x6 x7
  have x0 := B3.cell' 0 _ rfl
  have x1 := B3.cell' 1 _ rfl
  have x2 := B3.cell' 2 _ rfl
  have x3 := B3.cell' 3 _ rfl
  have x4 := B3.cell' 4 _ rfl
  have x5 := B3.cell' 5 _ rfl
  have x6 := B3.cell' 6 _ rfl
  have x7 := B3.cell' 7 _ rfl
  go_wp2_with (fail)
  with_reducible refine (HC2.out HS.out _ n3').mono ?_
  rintro e w4 ⟨rfl, m4⟩
  have n4' := n3'.trans m4
  have B4 := B3.new m4
  clear x0 x1 x2 x3 x4 x5 x6 x7
  have x0 := B4.cell' 0 _ rfl
  have x1 := B4.cell' 1 _ rfl
  have x2 := B4.cell' 2 _ rfl
  have x3 := B4.cell' 3 _ rfl
  have x4 := B4.cell' 4 _ rfl
  have x5 := B4.cell' 5 _ rfl
  have x6 := B4.cell' 6 _ rfl
  have x7 := B4.cell' 7 _ rfl
  go_wp2_with (fail)
  refine wp_region_held_drew (S := (New _)) (by kernel_rfl) ((New.refl _).drew) (fun hS => ?_)
  refine tkQ (i := 0) (oi := ?o1) (v := ?v1) ?h1 ?q1 ?y1 hS ?_; (case h1 => (simp only [gqA, gqB, gqC]; rfl)); (case q1 => exact fun _ _ _ h => h); (case y1 => (refine Or.inl ⟨by kernel_rfl, ?_⟩; intro wq hSq; clear hSq; go_simp; (try with_reducible rfl))); simp only [Act.put, List.setIfInBounds_toArray, List.set_cons_zero, List.set_cons_succ]
  refine tkQ (i := 1) (oi := ?o2) (v := ?v2) ?h2 ?q2 ?y2 hS ?_; (case h2 => (simp only [gqA, gqB, gqC]; rfl)); (case q2 => exact fun _ _ _ h => h); (case y2 => (refine Or.inl ⟨by kernel_rfl, ?_⟩; intro wq hSq; clear hSq; go_simp; (try with_reducible rfl))); simp only [Act.put, List.setIfInBounds_toArray, List.set_cons_zero, List.set_cons_succ]
  refine tkQ (i := 2) (oi := ?o3) (v := ?v3) ?h3 ?q3 ?y3 hS ?_; (case h3 => (simp only [gqA, gqB, gqC]; rfl)); (case q3 => exact fun _ _ _ h => h); (case y3 => (refine Or.inl ⟨by kernel_rfl, ?_⟩; intro wq hSq; clear hSq; go_simp; (try with_reducible rfl))); simp only [Act.put, List.setIfInBounds_toArray, List.set_cons_zero, List.set_cons_succ]
  refine tkQ (i := 3) (oi := ?o4) (v := ?v4) ?h4 ?q4 ?y4 hS ?_; (case h4 => (simp only [gqA, gqB, gqC]; rfl)); (case q4 => exact fun _ _ _ h => h); (case y4 => (refine Or.inl ⟨by kernel_rfl, ?_⟩; intro wq hSq; clear hSq; go_simp; (try with_reducible rfl))); simp only [Act.put, List.setIfInBounds_toArray, List.set_cons_zero, List.set_cons_succ]
  refine tkQ (i := 4) (oi := ?o5) (v := ?v5) ?h5 ?q5 ?y5 hS ?_; (case h5 => (simp only [gqA, gqB, gqC]; rfl)); (case q5 => exact fun _ _ _ h => h); (case y5 => (refine Or.inl ⟨by kernel_rfl, ?_⟩; intro wq hSq; clear hSq; go_simp; (try with_reducible rfl))); simp only [Act.put, List.setIfInBounds_toArray, List.set_cons_zero, List.set_cons_succ]
  refine tkQ (i := 5) (oi := ?o6) (v := ?v6) ?h6 ?q6 ?y6 hS ?_; (case h6 => (simp only [gqA, gqB, gqC]; rfl)); (case q6 => exact fun _ _ _ h => h); (case y6 => (refine Or.inl ⟨by kernel_rfl, ?_⟩; intro wq hSq; clear hSq; go_simp; (try with_reducible rfl))); simp only [Act.put, List.setIfInBounds_toArray, List.set_cons_zero, List.set_cons_succ]
  refine tkQ (i := 6) (oi := ?o7) (v := ?v7) ?h7 ?q7 ?y7 hS ?_; (case h7 => (simp only [gqA, gqB, gqC]; rfl)); (case q7 => exact fun _ _ _ h => h); (case y7 => (refine Or.inl ⟨by kernel_rfl, ?_⟩; intro wq hSq; clear hSq; go_simp; (try with_reducible rfl))); simp only [Act.put, List.setIfInBounds_toArray, List.set_cons_zero, List.set_cons_succ]
  refine tkQ (i := 7) (oi := ?o8) (v := ?v8) ?h8 ?q8 ?y8 hS ?_; (case h8 => (simp only [gqA, gqB, gqC]; rfl)); (case q8 => exact fun _ _ _ h => h); (case y8 => (refine Or.inl ⟨by kernel_rfl, ?_⟩; intro wq hSq; clear hSq; go_simp; (try with_reducible rfl))); simp only [Act.put, List.setIfInBounds_toArray, List.set_cons_zero, List.set_cons_succ]
  refine tkQ (i := 8) (oi := ?o9) (v := ?v9) ?h9 ?q9 ?y9 hS ?_; (case h9 => (simp only [gqA, gqB, gqC]; rfl)); (case q9 => exact fun _ _ _ h => h); (case y9 => (refine Or.inl ⟨by kernel_rfl, ?_⟩; intro wq hSq; clear hSq; go_simp; (try with_reducible rfl))); simp only [Act.put, List.setIfInBounds_toArray, List.set_cons_zero, List.set_cons_succ]
  refine tkQ (i := 9) (oi := ?o10) (v := ?v10) ?h10 ?q10 ?y10 hS ?_; (case h10 => (simp only [gqA, gqB, gqC]; rfl)); (case q10 => exact fun _ _ _ h => h); (case y10 => (refine Or.inl ⟨by kernel_rfl, ?_⟩; intro wq hSq; have hf0 := cell_new hSq x0; have hf1 := cell_new hSq x1; have hf2 := cell_new hSq x2; have hf3 := cell_new hSq x3; have hf4 := cell_new hSq x4; have hf5 := cell_new hSq x5; have hf6 := cell_new hSq x6; have hf7 := cell_new hSq x7; clear hSq; go_simp; (try with_reducible rfl))); simp only [Act.put, List.setIfInBounds_toArray, List.set_cons_zero, List.set_cons_succ]
  refine tkQ (i := 11) (oi := ?o11) (v := ?v11) ?h11 ?q11 ?y11 hS ?_; (case h11 => (simp only [gqA, gqB, gqC]; rfl)); (case q11 => exact fun _ _ _ h => h); (case y11 => (refine Or.inl ⟨by kernel_rfl, ?_⟩; intro wq hSq; have hf0 := cell_new hSq x0; have hf1 := cell_new hSq x1; have hf2 := cell_new hSq x2; have hf3 := cell_new hSq x3; have hf4 := cell_new hSq x4; have hf5 := cell_new hSq x5; have hf6 := cell_new hSq x6; have hf7 := cell_new hSq x7; clear hSq; go_simp; (try with_reducible rfl))); simp only [Act.put, List.setIfInBounds_toArray, List.set_cons_zero, List.set_cons_succ]
  refine wpAnyH_ready (rs := [10]) (by kernel_rfl) (by simp) ?_
  refine AllReadyH.cons (o := ?oi12) ?hi12 (fun K hK => ?_) AllReadyH.nil
  case hi12 => (simp only [gqA, gqB, gqC]; rfl)
  go_simp
  with_reducible refine (HC3.out HS.out _ (n4'.trans hS)).mono ?_
  rintro e w5 ⟨rfl, k5⟩
  refine hK.out _ _ (hS.trans k5) (fun hS => ?_)
  clear hK K
  refine wpAnyH_ready (rs := [12]) (by kernel_rfl) (by simp) ?_
  refine AllReadyH.cons (o := ?oi13) ?hi13 (fun K hK => ?_) AllReadyH.nil
  case hi13 => (simp only [gqA, gqB, gqC]; rfl)
  go_simp
  with_reducible refine (HC4.out HS.out _ (n4'.trans hS)).mono ?_
  rintro e w6 ⟨rfl, k6⟩
  refine hK.out _ _ (hS.trans k6) (fun hS => ?_)
  clear hK K
  refine tkQ (i := 13) (oi := ?o14) (v := ?v14) ?h14 ?q14 ?y14 hS ?_; (case h14 => (simp only [gqA, gqB, gqC]; rfl)); (case q14 => exact fun _ _ _ h => h); (case y14 => (refine Or.inl ⟨by kernel_rfl, ?_⟩; intro wq hSq; clear hSq; go_simp; (try with_reducible rfl))); simp only [Act.put, List.setIfInBounds_toArray, List.set_cons_zero, List.set_cons_succ]
  refine tkQ (i := 14) (oi := ?o15) (v := ?v15) ?h15 ?q15 ?y15 hS ?_; (case h15 => (simp only [gqA, gqB, gqC]; rfl)); (case q15 => exact fun _ _ _ h => h); (case y15 => (refine Or.inl ⟨by kernel_rfl, ?_⟩; intro wq hSq; clear hSq; go_simp; (try with_reducible rfl))); simp only [Act.put, List.setIfInBounds_toArray, List.set_cons_zero, List.set_cons_succ]
  refine tkQ (i := 15) (oi := ?o16) (v := ?v16) ?h16 ?q16 ?y16 hS ?_; (case h16 => (simp only [gqA, gqB, gqC]; rfl)); (case q16 => exact fun _ _ _ h => h); (case y16 => (refine Or.inl ⟨by kernel_rfl, ?_⟩; intro wq hSq; clear hSq; go_simp; (try with_reducible rfl))); simp only [Act.put, List.setIfInBounds_toArray, List.set_cons_zero, List.set_cons_succ]
  refine wpAnyH_done (by kernel_rfl) ?_ _
  go_wp2
  go_ret
  exact ⟨rfl, n4'.trans hS⟩
end Go.Proofs.YtnknmpcgbfmfjaaGreatDoor

