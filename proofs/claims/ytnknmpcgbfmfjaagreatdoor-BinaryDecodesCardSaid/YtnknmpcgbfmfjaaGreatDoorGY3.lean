/- The closures of binary.Decode and its lists. Conditions: sizes. (Printed by mk-y3.py.) binary.many at the five lists of a binary. Conditions: sizes. (Printed by mk-y4.py.) -/
import Derived.Test.YtnknmpcgbfmfjaaGreatDoorGBase
import Derived.Test.YtnknmpcgbfmfjaaGreatDoorGY1
import Derived.Test.YtnknmpcgbfmfjaaGreatDoorGK3
import Derived.Deep.RegionHeld3

namespace Go.Proofs.YtnknmpcgbfmfjaaGreatDoor
open Go Go.RowKit Go.Joins
set_option linter.unusedSimpArgs false
set_option linter.unusedVariables false

theorem num_sz {hi : Nat} {s : RS} (h : RSz s) : RSz (numS hi s).2 := by
  cases s with
  | none => exact trivial
  | some l =>
    rw [numS]
    cases hr : rdNum hi l with
    | none => exact trivial
    | some p =>
      obtain ⟨n, r⟩ := p
      have hl : l.length ≤ 1000000 := h
      have := (rdNum_some hr).1
      show r.length ≤ 1000000
      rw [this, List.length_append] at hl
      omega
theorem txt_sz {most : Nat} {s : RS} (h : RSz s) : RSz (txtS most s).2 := by
  cases s with
  | none => exact trivial
  | some l =>
    rw [txtS]
    cases hr : rdTxt most l with
    | none => exact trivial
    | some p =>
      obtain ⟨n, r⟩ := p
      have hl : l.length ≤ 1000000 := h
      have := (rdTxt_some hr).1
      show r.length ≤ 1000000
      rw [this, List.length_append] at hl
      omega
structure DW (w : World) (g gr gn gt : Nat) : Prop where
  r : Blk w gr 105 #[.pointer (some ⟨g, 0, none⟩)]
  n : Blk w gn 98 #[.func (.func 55) #[] #[.pointer (some ⟨gr, 0, none⟩)]]
  t : Blk w gt 99 #[.func (.func 57) #[] #[.pointer (some ⟨gr, 0, none⟩)]]
  hr : gr ≠ g
  hn : gn ≠ g
  ht : gt ≠ g
theorem DW.grown {w w' : World} {g gr gn gt : Nat} (h : DW w g gr gn gt) {row : Option Nat} (hg : w.grownBy w' row) (h1 : some gr ≠ row) (h2 : some gn ≠ row) (h3 : some gt ≠ row) : DW w' g gr gn gt :=
  ⟨h.r.grown hg h1, h.n.grown hg h2, h.t.grown hg h3, h.hr, h.hn, h.ht⟩
theorem DW.go {w w' : World} {g gr gn gt : Nat} (h : DW w g gr gn gt) (hg : w.grownBy w' (some g)) : DW w' g gr gn gt :=
  h.grown hg (fun e => h.hr (Option.some.inj e)) (fun e => h.hn (Option.some.inj e)) (fun e => h.ht (Option.some.inj e))
theorem DW.new {w w' : World} {g gr gn gt : Nat} (h : DW w g gr gn gt) (hg : New w w') : DW w' g gr gn gt :=
  ⟨h.r.new hg, h.n.new hg, h.t.new hg, h.hr, h.hn, h.ht⟩
theorem DW.drew {w : World} {g gr gn gt : Nat} (h : DW w g gr gn gt) : DW w.drew g gr gn gt := ⟨h.r.drew, h.n.drew, h.t.drew, h.hr, h.hn, h.ht⟩
theorem RdrP.drew {w : World} {g : Nat} {s : RS} (h : RdrP w g s) : RdrP w.drew g s := by
  cases s with
  | some l => exact h
  | none => exact h
theorem grown_drew {w w' : World} {row : Option Nat} (h : w.grownBy w' row) : w.grownBy w'.drew row := ⟨h.os, h.tape, h.output, h.size, h.block⟩
abbrev FN (gr : Nat) : Array Value := #[.func (.func 55) #[] #[.pointer (some ⟨gr, 0, none⟩)]]
abbrev FT (gr : Nat) : Array Value := #[.func (.func 57) #[] #[.pointer (some ⟨gr, 0, none⟩)]]
set_option maxHeartbeats 1000000 in
theorem cnum_any (g gr : Nat) (s : RS) (w : World) (hc : Blk w gr 105 #[.pointer (some ⟨g, 0, none⟩)]) (h : RdrP w g s) (hz : RSz s) :
    Calls Tryz.prog 55 #[.pointer (some ⟨gr, 0, none⟩)] w fun e w' => e = .returned (.int .i64 ((numS 65536 s).1 : Nat)) ∧ RdrP w' g (numS 65536 s).2 ∧ w.grownBy w' (some g) := by
  have c0 := hc.cell' 0 _ rfl
  have HN := Lib.hid (show Calls Tryz.prog 56 #[.pointer (some ⟨g, 0, none⟩), .int .i64 0, .int .i64 65536] w _ from num_any g 65536 s w h hz (by decide))
  clear h hz hc
  go_enter Tryz.func55, Tryz.ntmps55
  go_wp2_with (go_at_call 56; (with_reducible refine HN.out.mono ?_); rintro e w1 ⟨rfl, k1, k2⟩)
  go_ret
  exact ⟨rfl, k1, k2⟩
set_option maxHeartbeats 1000000 in
theorem ctxt_any (g gr : Nat) (s : RS) (w : World) (hc : Blk w gr 105 #[.pointer (some ⟨g, 0, none⟩)]) (h : RdrP w g s) (hz : RSz s) :
    Calls Tryz.prog 57 #[.pointer (some ⟨gr, 0, none⟩)] w fun e w' => e = .returned (.string (txtS 65536 s).1) ∧ RdrP w' g (txtS 65536 s).2 ∧ w.grownBy w' (some g) := by
  have c0 := hc.cell' 0 _ rfl
  have HN := Lib.hid (show Calls Tryz.prog 58 #[.pointer (some ⟨g, 0, none⟩), .int .i64 65536] w _ from txt_any g 65536 s w h hz (by decide))
  clear h hz hc
  go_enter Tryz.func57, Tryz.ntmps57
  go_wp2_with (go_at_call 58; (with_reducible refine HN.out.mono ?_); rintro e w1 ⟨rfl, k1, k2⟩)
  go_ret
  exact ⟨rfl, k1, k2⟩
theorem grown_set_new {w W : World} {g : Nat} {row : Option Nat} (h : w.grownBy W row) (hg : w.heap.size ≤ g) (i : Nat) (v : Value) : w.grownBy (W.setCell ⟨g, i, none⟩ v) row :=
  ⟨h.os, h.tape, h.output, by simpa [World.setCell] using h.size, fun k hk hne => (Below.heap_setCell W ⟨g, i, none⟩ v k (fun e => by subst e; omega)).trans (h.block k hk hne)⟩
theorem RdrP.set {w : World} {g b : Nat} {s : RS} (h : RdrP w g s) (hb : g ≠ b) (i : Nat) (v : Value) : RdrP (w.setCell ⟨b, i, none⟩ v) g s := by
  cases s with
  | some l => exact Blk.far h hb v
  | none => obtain ⟨x, hx, hB⟩ := h; exact ⟨x, hx, hB.far hb v⟩
set_option maxRecDepth 100000 in
set_option maxHeartbeats 4000000 in
theorem cpl_any (g gr gn gt : Nat) (s : RS) (w : World) (hd : DW w g gr gn gt) (h : RdrP w g s) (hz : RSz s) :
    Calls Tryz.prog 60 #[.pointer (some ⟨gt, 0, none⟩), .pointer (some ⟨gn, 0, none⟩)] w fun e w' => e = .returned (.agg #[.string (txtS 65536 s).1, .string (txtS 65536 (txtS 65536 s).2).1, .int .i64 ((numS 65536 (txtS 65536 (txtS 65536 s).2).2).1 : Nat), .int .i64 ((numS 65536 (numS 65536 (txtS 65536 (txtS 65536 s).2).2).2).1 : Nat), .int .i64 ((numS 65536 (numS 65536 (numS 65536 (txtS 65536 (txtS 65536 s).2).2).2).2).1 : Nat)]) ∧ RdrP w' g (plS 65536 s).2 ∧ w.grownBy w' (some g) := by
  show Calls Tryz.prog 60 #[.pointer (some ⟨gt, 0, none⟩), .pointer (some ⟨gn, 0, none⟩)] w fun e w' => e = .returned (.agg #[.string (txtS 65536 s).1, .string (txtS 65536 (txtS 65536 s).2).1, .int .i64 ((numS 65536 (txtS 65536 (txtS 65536 s).2).2).1 : Nat), .int .i64 ((numS 65536 (numS 65536 (txtS 65536 (txtS 65536 s).2).2).2).1 : Nat), .int .i64 ((numS 65536 (numS 65536 (numS 65536 (txtS 65536 (txtS 65536 s).2).2).2).2).1 : Nat)]) ∧ RdrP w' g (numS 65536 (numS 65536 (numS 65536 (txtS 65536 (txtS 65536 s).2).2).2).2).2 ∧ w.grownBy w' (some g)
  have BX0 := Blk.made w 60 #[.string ⟨#[]⟩, .string ⟨#[]⟩, .int .i64 0, .int .i64 0, .int .i64 0]
  have hg0 := World.grownBy_alloc w (.cells #[.string ⟨#[]⟩, .string ⟨#[]⟩, .int .i64 0, .int .i64 0, .int .i64 0] 60) (some g)
  have D0 := hd.go hg0
  have r0 : RdrP (w.alloc (.cells #[.string ⟨#[]⟩, .string ⟨#[]⟩, .int .i64 0, .int .i64 0, .int .i64 0] 60)) g s := h.new ((New.refl w).alloc _)
  have hgw := h.lt
  have hne : some w.heap.size ≠ some g := fun e => by have := Option.some.inj e; omega
  have hgn : g ≠ w.heap.size := by omega
  have htl := hd.t.lt
  have hnl := hd.n.lt
  have htn : gt ≠ w.heap.size := by omega
  have hnn : gn ≠ w.heap.size := by omega
  have z0 := hz
  have z1 := txt_sz (most := 65536) z0
  have z2 := txt_sz (most := 65536) z1
  have z3 := num_sz (hi := 65536) z2
  have z4 := num_sz (hi := 65536) z3
  have z5 := num_sz (hi := 65536) z4
  clear hd h hz
  have HC0 := Lib.hid (fun W (d : DW W g gr gn gt) (r : RdrP W g s) => ctxt_any g gr s W d.r r z0)
  have HC1 := Lib.hid (fun W (d : DW W g gr gn gt) (r : RdrP W g (txtS 65536 s).2) => ctxt_any g gr (txtS 65536 s).2 W d.r r z1)
  have HC2 := Lib.hid (fun W (d : DW W g gr gn gt) (r : RdrP W g (txtS 65536 (txtS 65536 s).2).2) => cnum_any g gr (txtS 65536 (txtS 65536 s).2).2 W d.r r z2)
  have HC3 := Lib.hid (fun W (d : DW W g gr gn gt) (r : RdrP W g (numS 65536 (txtS 65536 (txtS 65536 s).2).2).2) => cnum_any g gr (numS 65536 (txtS 65536 (txtS 65536 s).2).2).2 W d.r r z3)
  have HC4 := Lib.hid (fun W (d : DW W g gr gn gt) (r : RdrP W g (numS 65536 (numS 65536 (txtS 65536 (txtS 65536 s).2).2).2).2) => cnum_any g gr (numS 65536 (numS 65536 (txtS 65536 (txtS 65536 s).2).2).2).2 W d.r r z4)
  clear z0 z1 z2 z3 z4 z5
  obtain ⟨⟨v0, s1⟩, hv0⟩ : ∃ x, txtS 65536 s = x := ⟨_, rfl⟩
  simp only [hv0] at *
  clear hv0
  obtain ⟨⟨v1, s2⟩, hv1⟩ : ∃ x, txtS 65536 s1 = x := ⟨_, rfl⟩
  simp only [hv1] at *
  clear hv1
  obtain ⟨⟨v2, s3⟩, hv2⟩ : ∃ x, numS 65536 s2 = x := ⟨_, rfl⟩
  simp only [hv2] at *
  clear hv2
  obtain ⟨⟨v3, s4⟩, hv3⟩ : ∃ x, numS 65536 s3 = x := ⟨_, rfl⟩
  simp only [hv3] at *
  clear hv3
  obtain ⟨⟨v4, s5⟩, hv4⟩ : ∃ x, numS 65536 s4 = x := ⟨_, rfl⟩
  simp only [hv4] at *
  clear hv4
  have t0 := D0.t.cell' 0 _ rfl
  have n0 := D0.n.cell' 0 _ rfl
  go_enter Tryz.func60, Tryz.ntmps60
  go_wp2_with (fail)
  refine wp_region_held_drew (S := (fun W => Blk W gn 98 (FN gr) ∧ Blk W gt 99 (FT gr))) (by kernel_rfl) (⟨D0.n.drew, D0.t.drew⟩) (fun hS => ?_)
  refine tkQ (i := 0) (oi := ?o1) (v := ?v1) ?h1 ?q1 ?y1 hS ?_; (case h1 => (simp only [gqA, gqB, gqC]; rfl)); (case q1 => exact fun _ _ _ h => h); (case y1 => (refine Or.inl ⟨by kernel_rfl, ?_⟩; intro wq hSq; have hf0 := hSq.1.cell' 0 _ rfl; have hf1 := hSq.2.cell' 0 _ rfl; clear hSq; go_simp; (try with_reducible rfl))); simp only [Act.put, List.setIfInBounds_toArray, List.set_cons_zero, List.set_cons_succ]
  refine tkQ (i := 2) (oi := ?o2) (v := ?v2) ?h2 ?q2 ?y2 hS ?_; (case h2 => (simp only [gqA, gqB, gqC]; rfl)); (case q2 => exact fun _ _ _ h => h); (case y2 => (refine Or.inl ⟨by kernel_rfl, ?_⟩; intro wq hSq; have hf0 := hSq.1.cell' 0 _ rfl; have hf1 := hSq.2.cell' 0 _ rfl; clear hSq; go_simp; (try with_reducible rfl))); simp only [Act.put, List.setIfInBounds_toArray, List.set_cons_zero, List.set_cons_succ]
  refine tkQ (i := 4) (oi := ?o3) (v := ?v3) ?h3 ?q3 ?y3 hS ?_; (case h3 => (simp only [gqA, gqB, gqC]; rfl)); (case q3 => exact fun _ _ _ h => h); (case y3 => (refine Or.inl ⟨by kernel_rfl, ?_⟩; intro wq hSq; have hf0 := hSq.1.cell' 0 _ rfl; have hf1 := hSq.2.cell' 0 _ rfl; clear hSq; go_simp; (try with_reducible rfl))); simp only [Act.put, List.setIfInBounds_toArray, List.set_cons_zero, List.set_cons_succ]
  refine tkQ (i := 6) (oi := ?o4) (v := ?v4) ?h4 ?q4 ?y4 hS ?_; (case h4 => (simp only [gqA, gqB, gqC]; rfl)); (case q4 => exact fun _ _ _ h => h); (case y4 => (refine Or.inl ⟨by kernel_rfl, ?_⟩; intro wq hSq; have hf0 := hSq.1.cell' 0 _ rfl; have hf1 := hSq.2.cell' 0 _ rfl; clear hSq; go_simp; (try with_reducible rfl))); simp only [Act.put, List.setIfInBounds_toArray, List.set_cons_zero, List.set_cons_succ]
  refine tkQ (i := 8) (oi := ?o5) (v := ?v5) ?h5 ?q5 ?y5 hS ?_; (case h5 => (simp only [gqA, gqB, gqC]; rfl)); (case q5 => exact fun _ _ _ h => h); (case y5 => (refine Or.inl ⟨by kernel_rfl, ?_⟩; intro wq hSq; have hf0 := hSq.1.cell' 0 _ rfl; have hf1 := hSq.2.cell' 0 _ rfl; clear hSq; go_simp; (try with_reducible rfl))); simp only [Act.put, List.setIfInBounds_toArray, List.set_cons_zero, List.set_cons_succ]
  refine wpAnyH_ready (rs := [1]) (by kernel_rfl) (by simp) ?_
  refine AllReadyH.cons (o := ?oi6) ?hi6 (fun K hK => ?_) AllReadyH.nil
  case hi6 => (simp only [gqA, gqB, gqC]; rfl)
  go_simp
  with_reducible refine (HC0.out _ D0.drew r0.drew).mono ?_
  rintro e w1 ⟨rfl, r1, k1⟩
  have D1 := D0.drew.go k1
  have BX1 := BX0.drew.grown k1 hne
  have hg1 := (grown_drew hg0).trans k1
  refine hK.out _ _ (⟨D1.n, D1.t⟩) (fun hS => ?_)
  clear hK K
  refine wpAnyH_ready (rs := [3]) (by kernel_rfl) (by simp) ?_
  refine AllReadyH.cons (o := ?oi7) ?hi7 (fun K hK => ?_) AllReadyH.nil
  case hi7 => (simp only [gqA, gqB, gqC]; rfl)
  go_simp
  with_reducible refine (HC1.out _ D1 r1).mono ?_
  rintro e w2 ⟨rfl, r2, k2⟩
  have D2 := D1.go k2
  have BX2 := BX1.grown k2 hne
  have hg2 := hg1.trans k2
  refine hK.out _ _ (⟨D2.n, D2.t⟩) (fun hS => ?_)
  clear hK K
  refine wpAnyH_ready (rs := [5]) (by kernel_rfl) (by simp) ?_
  refine AllReadyH.cons (o := ?oi8) ?hi8 (fun K hK => ?_) AllReadyH.nil
  case hi8 => (simp only [gqA, gqB, gqC]; rfl)
  go_simp
  with_reducible refine (HC2.out _ D2 r2).mono ?_
  rintro e w3 ⟨rfl, r3, k3⟩
  have D3 := D2.go k3
  have BX3 := BX2.grown k3 hne
  have hg3 := hg2.trans k3
  refine hK.out _ _ (⟨D3.n, D3.t⟩) (fun hS => ?_)
  clear hK K
  refine wpAnyH_ready (rs := [7]) (by kernel_rfl) (by simp) ?_
  refine AllReadyH.cons (o := ?oi9) ?hi9 (fun K hK => ?_) AllReadyH.nil
  case hi9 => (simp only [gqA, gqB, gqC]; rfl)
  go_simp
  with_reducible refine (HC3.out _ D3 r3).mono ?_
  rintro e w4 ⟨rfl, r4, k4⟩
  have D4 := D3.go k4
  have BX4 := BX3.grown k4 hne
  have hg4 := hg3.trans k4
  refine hK.out _ _ (⟨D4.n, D4.t⟩) (fun hS => ?_)
  clear hK K
  refine wpAnyH_ready (rs := [9]) (by kernel_rfl) (by simp) ?_
  refine AllReadyH.cons (o := ?oi10) ?hi10 (fun K hK => ?_) AllReadyH.nil
  case hi10 => (simp only [gqA, gqB, gqC]; rfl)
  go_simp
  with_reducible refine (HC4.out _ D4 r4).mono ?_
  rintro e w5 ⟨rfl, r5, k5⟩
  have D5 := D4.go k5
  have BX5 := BX4.grown k5 hne
  have hg5 := hg4.trans k5
  refine hK.out _ _ (⟨D5.n, D5.t⟩) (fun hS => ?_)
  clear hK K
  refine tkQ (i := 10) (oi := ?o11) (v := ?v11) ?h11 ?q11 ?y11 hS ?_; (case h11 => (simp only [gqA, gqB, gqC]; rfl)); (case q11 => exact fun _ _ _ h => h); (case y11 => (refine Or.inl ⟨by kernel_rfl, ?_⟩; intro wq hSq; clear hSq; go_simp; (try with_reducible rfl))); simp only [Act.put, List.setIfInBounds_toArray, List.set_cons_zero, List.set_cons_succ]
  have PB0 := BX5
  have p0 := PB0.cell' 0 _ rfl
  have f0 := PB0.free 0
  have PB1 := PB0.put 0 (.string v0)
  have p1 := PB1.cell' 1 _ rfl
  have f1 := PB1.free 1
  have PB2 := PB1.put 1 (.string v1)
  have p2 := PB2.cell' 2 _ rfl
  have f2 := PB2.free 2
  have PB3 := PB2.put 2 (.int .i64 (v2 : Nat))
  have p3 := PB3.cell' 3 _ rfl
  have f3 := PB3.free 3
  have PB4 := PB3.put 3 (.int .i64 (v3 : Nat))
  have p4 := PB4.cell' 4 _ rfl
  have f4 := PB4.free 4
  have PB5 := PB4.put 4 (.int .i64 (v4 : Nat))
  have e0 := PB5.cell' 0 _ rfl
  have e1 := PB5.cell' 1 _ rfl
  have e2 := PB5.cell' 2 _ rfl
  have e3 := PB5.cell' 3 _ rfl
  have e4 := PB5.cell' 4 _ rfl
  have HG := Lib.hid (grown_set_new (grown_set_new (grown_set_new (grown_set_new (grown_set_new hg5 (Nat.le_refl _) 0 (.string v0)) (Nat.le_refl _) 1 (.string v1)) (Nat.le_refl _) 2 (.int .i64 (v2 : Nat))) (Nat.le_refl _) 3 (.int .i64 (v3 : Nat))) (Nat.le_refl _) 4 (.int .i64 (v4 : Nat)))
  have HR := Lib.hid (((((r5.set hgn 0 (.string v0)).set hgn 1 (.string v1)).set hgn 2 (.int .i64 (v2 : Nat))).set hgn 3 (.int .i64 (v3 : Nat))).set hgn 4 (.int .i64 (v4 : Nat)))
  refine wpAnyH_ready (rs := [11]) (by kernel_rfl) (by simp) ?_
  refine AllReadyH.cons (o := ?oi12) ?hi12 (fun K hK => ?_) AllReadyH.nil
  case hi12 => (simp only [gqA, gqB, gqC]; rfl)
  go_simp
  refine hK.out _ _ ⟨(Blk.far (Blk.far (Blk.far (Blk.far (Blk.far D5.n (p := ⟨w.heap.size, 0, none⟩) hnn (.string v0)) (p := ⟨w.heap.size, 1, none⟩) hnn (.string v1)) (p := ⟨w.heap.size, 2, none⟩) hnn (.int .i64 (v2 : Nat))) (p := ⟨w.heap.size, 3, none⟩) hnn (.int .i64 (v3 : Nat))) (p := ⟨w.heap.size, 4, none⟩) hnn (.int .i64 (v4 : Nat))), (Blk.far (Blk.far (Blk.far (Blk.far (Blk.far D5.t (p := ⟨w.heap.size, 0, none⟩) htn (.string v0)) (p := ⟨w.heap.size, 1, none⟩) htn (.string v1)) (p := ⟨w.heap.size, 2, none⟩) htn (.int .i64 (v2 : Nat))) (p := ⟨w.heap.size, 3, none⟩) htn (.int .i64 (v3 : Nat))) (p := ⟨w.heap.size, 4, none⟩) htn (.int .i64 (v4 : Nat)))⟩ (fun hS => ?_)
  clear hK K
  refine wpAnyH_done (by kernel_rfl) ?_ _
  go_wp2
  exact bodyPost_ret (v := .agg #[.string v0, .string v1, .int .i64 (v2 : Nat), .int .i64 (v3 : Nat), .int .i64 (v4 : Nat)]) (by simp [results, Tryz.results60, go_sem, e0, e1, e2, e3, e4]) rfl ⟨rfl, HR.out, HG.out⟩
set_option maxRecDepth 100000 in
set_option maxHeartbeats 4000000 in
theorem cim_any (g gr gn gt : Nat) (s : RS) (w : World) (hd : DW w g gr gn gt) (h : RdrP w g s) (hz : RSz s) :
    Calls Tryz.prog 63 #[.pointer (some ⟨gt, 0, none⟩), .pointer (some ⟨gn, 0, none⟩)] w fun e w' => e = .returned (.agg #[.string (txtS 65536 s).1, .string (txtS 65536 (txtS 65536 s).2).1, .int .i64 ((numS 65536 (txtS 65536 (txtS 65536 s).2).2).1 : Nat)]) ∧ RdrP w' g (imS s).2 ∧ w.grownBy w' (some g) := by
  show Calls Tryz.prog 63 #[.pointer (some ⟨gt, 0, none⟩), .pointer (some ⟨gn, 0, none⟩)] w fun e w' => e = .returned (.agg #[.string (txtS 65536 s).1, .string (txtS 65536 (txtS 65536 s).2).1, .int .i64 ((numS 65536 (txtS 65536 (txtS 65536 s).2).2).1 : Nat)]) ∧ RdrP w' g (numS 65536 (txtS 65536 (txtS 65536 s).2).2).2 ∧ w.grownBy w' (some g)
  have BX0 := Blk.made w 81 #[.string ⟨#[]⟩, .string ⟨#[]⟩, .int .i64 0]
  have hg0 := World.grownBy_alloc w (.cells #[.string ⟨#[]⟩, .string ⟨#[]⟩, .int .i64 0] 81) (some g)
  have D0 := hd.go hg0
  have r0 : RdrP (w.alloc (.cells #[.string ⟨#[]⟩, .string ⟨#[]⟩, .int .i64 0] 81)) g s := h.new ((New.refl w).alloc _)
  have hgw := h.lt
  have hne : some w.heap.size ≠ some g := fun e => by have := Option.some.inj e; omega
  have hgn : g ≠ w.heap.size := by omega
  have htl := hd.t.lt
  have hnl := hd.n.lt
  have htn : gt ≠ w.heap.size := by omega
  have hnn : gn ≠ w.heap.size := by omega
  have z0 := hz
  have z1 := txt_sz (most := 65536) z0
  have z2 := txt_sz (most := 65536) z1
  have z3 := num_sz (hi := 65536) z2
  clear hd h hz
  have HC0 := Lib.hid (fun W (d : DW W g gr gn gt) (r : RdrP W g s) => ctxt_any g gr s W d.r r z0)
  have HC1 := Lib.hid (fun W (d : DW W g gr gn gt) (r : RdrP W g (txtS 65536 s).2) => ctxt_any g gr (txtS 65536 s).2 W d.r r z1)
  have HC2 := Lib.hid (fun W (d : DW W g gr gn gt) (r : RdrP W g (txtS 65536 (txtS 65536 s).2).2) => cnum_any g gr (txtS 65536 (txtS 65536 s).2).2 W d.r r z2)
  clear z0 z1 z2 z3
  obtain ⟨⟨v0, s1⟩, hv0⟩ : ∃ x, txtS 65536 s = x := ⟨_, rfl⟩
  simp only [hv0] at *
  clear hv0
  obtain ⟨⟨v1, s2⟩, hv1⟩ : ∃ x, txtS 65536 s1 = x := ⟨_, rfl⟩
  simp only [hv1] at *
  clear hv1
  obtain ⟨⟨v2, s3⟩, hv2⟩ : ∃ x, numS 65536 s2 = x := ⟨_, rfl⟩
  simp only [hv2] at *
  clear hv2
  have t0 := D0.t.cell' 0 _ rfl
  have n0 := D0.n.cell' 0 _ rfl
  go_enter Tryz.func63, Tryz.ntmps63
  go_wp2_with (fail)
  refine wp_region_held_drew (S := (fun W => Blk W gn 98 (FN gr) ∧ Blk W gt 99 (FT gr))) (by kernel_rfl) (⟨D0.n.drew, D0.t.drew⟩) (fun hS => ?_)
  refine tkQ (i := 0) (oi := ?o13) (v := ?v13) ?h13 ?q13 ?y13 hS ?_; (case h13 => (simp only [gqA, gqB, gqC]; rfl)); (case q13 => exact fun _ _ _ h => h); (case y13 => (refine Or.inl ⟨by kernel_rfl, ?_⟩; intro wq hSq; have hf0 := hSq.1.cell' 0 _ rfl; have hf1 := hSq.2.cell' 0 _ rfl; clear hSq; go_simp; (try with_reducible rfl))); simp only [Act.put, List.setIfInBounds_toArray, List.set_cons_zero, List.set_cons_succ]
  refine tkQ (i := 2) (oi := ?o14) (v := ?v14) ?h14 ?q14 ?y14 hS ?_; (case h14 => (simp only [gqA, gqB, gqC]; rfl)); (case q14 => exact fun _ _ _ h => h); (case y14 => (refine Or.inl ⟨by kernel_rfl, ?_⟩; intro wq hSq; have hf0 := hSq.1.cell' 0 _ rfl; have hf1 := hSq.2.cell' 0 _ rfl; clear hSq; go_simp; (try with_reducible rfl))); simp only [Act.put, List.setIfInBounds_toArray, List.set_cons_zero, List.set_cons_succ]
  refine tkQ (i := 4) (oi := ?o15) (v := ?v15) ?h15 ?q15 ?y15 hS ?_; (case h15 => (simp only [gqA, gqB, gqC]; rfl)); (case q15 => exact fun _ _ _ h => h); (case y15 => (refine Or.inl ⟨by kernel_rfl, ?_⟩; intro wq hSq; have hf0 := hSq.1.cell' 0 _ rfl; have hf1 := hSq.2.cell' 0 _ rfl; clear hSq; go_simp; (try with_reducible rfl))); simp only [Act.put, List.setIfInBounds_toArray, List.set_cons_zero, List.set_cons_succ]
  refine wpAnyH_ready (rs := [1]) (by kernel_rfl) (by simp) ?_
  refine AllReadyH.cons (o := ?oi16) ?hi16 (fun K hK => ?_) AllReadyH.nil
  case hi16 => (simp only [gqA, gqB, gqC]; rfl)
  go_simp
  with_reducible refine (HC0.out _ D0.drew r0.drew).mono ?_
  rintro e w1 ⟨rfl, r1, k1⟩
  have D1 := D0.drew.go k1
  have BX1 := BX0.drew.grown k1 hne
  have hg1 := (grown_drew hg0).trans k1
  refine hK.out _ _ (⟨D1.n, D1.t⟩) (fun hS => ?_)
  clear hK K
  refine wpAnyH_ready (rs := [3]) (by kernel_rfl) (by simp) ?_
  refine AllReadyH.cons (o := ?oi17) ?hi17 (fun K hK => ?_) AllReadyH.nil
  case hi17 => (simp only [gqA, gqB, gqC]; rfl)
  go_simp
  with_reducible refine (HC1.out _ D1 r1).mono ?_
  rintro e w2 ⟨rfl, r2, k2⟩
  have D2 := D1.go k2
  have BX2 := BX1.grown k2 hne
  have hg2 := hg1.trans k2
  refine hK.out _ _ (⟨D2.n, D2.t⟩) (fun hS => ?_)
  clear hK K
  refine wpAnyH_ready (rs := [5]) (by kernel_rfl) (by simp) ?_
  refine AllReadyH.cons (o := ?oi18) ?hi18 (fun K hK => ?_) AllReadyH.nil
  case hi18 => (simp only [gqA, gqB, gqC]; rfl)
  go_simp
  with_reducible refine (HC2.out _ D2 r2).mono ?_
  rintro e w3 ⟨rfl, r3, k3⟩
  have D3 := D2.go k3
  have BX3 := BX2.grown k3 hne
  have hg3 := hg2.trans k3
  refine hK.out _ _ (⟨D3.n, D3.t⟩) (fun hS => ?_)
  clear hK K
  refine tkQ (i := 6) (oi := ?o19) (v := ?v19) ?h19 ?q19 ?y19 hS ?_; (case h19 => (simp only [gqA, gqB, gqC]; rfl)); (case q19 => exact fun _ _ _ h => h); (case y19 => (refine Or.inl ⟨by kernel_rfl, ?_⟩; intro wq hSq; clear hSq; go_simp; (try with_reducible rfl))); simp only [Act.put, List.setIfInBounds_toArray, List.set_cons_zero, List.set_cons_succ]
  have PB0 := BX3
  have p0 := PB0.cell' 0 _ rfl
  have f0 := PB0.free 0
  have PB1 := PB0.put 0 (.string v0)
  have p1 := PB1.cell' 1 _ rfl
  have f1 := PB1.free 1
  have PB2 := PB1.put 1 (.string v1)
  have p2 := PB2.cell' 2 _ rfl
  have f2 := PB2.free 2
  have PB3 := PB2.put 2 (.int .i64 (v2 : Nat))
  have e0 := PB3.cell' 0 _ rfl
  have e1 := PB3.cell' 1 _ rfl
  have e2 := PB3.cell' 2 _ rfl
  have HG := Lib.hid (grown_set_new (grown_set_new (grown_set_new hg3 (Nat.le_refl _) 0 (.string v0)) (Nat.le_refl _) 1 (.string v1)) (Nat.le_refl _) 2 (.int .i64 (v2 : Nat)))
  have HR := Lib.hid (((r3.set hgn 0 (.string v0)).set hgn 1 (.string v1)).set hgn 2 (.int .i64 (v2 : Nat)))
  refine wpAnyH_ready (rs := [7]) (by kernel_rfl) (by simp) ?_
  refine AllReadyH.cons (o := ?oi20) ?hi20 (fun K hK => ?_) AllReadyH.nil
  case hi20 => (simp only [gqA, gqB, gqC]; rfl)
  go_simp
  refine hK.out _ _ ⟨(Blk.far (Blk.far (Blk.far D3.n (p := ⟨w.heap.size, 0, none⟩) hnn (.string v0)) (p := ⟨w.heap.size, 1, none⟩) hnn (.string v1)) (p := ⟨w.heap.size, 2, none⟩) hnn (.int .i64 (v2 : Nat))), (Blk.far (Blk.far (Blk.far D3.t (p := ⟨w.heap.size, 0, none⟩) htn (.string v0)) (p := ⟨w.heap.size, 1, none⟩) htn (.string v1)) (p := ⟨w.heap.size, 2, none⟩) htn (.int .i64 (v2 : Nat)))⟩ (fun hS => ?_)
  clear hK K
  refine wpAnyH_done (by kernel_rfl) ?_ _
  go_wp2
  exact bodyPost_ret (v := .agg #[.string v0, .string v1, .int .i64 (v2 : Nat)]) (by simp [results, Tryz.results63, go_sem, e0, e1, e2]) rfl ⟨rfl, HR.out, HG.out⟩
set_option maxRecDepth 100000 in
set_option maxHeartbeats 4000000 in
theorem cex_any (g gr gn gt : Nat) (s : RS) (w : World) (hd : DW w g gr gn gt) (h : RdrP w g s) (hz : RSz s) :
    Calls Tryz.prog 65 #[.pointer (some ⟨gt, 0, none⟩), .pointer (some ⟨gn, 0, none⟩)] w fun e w' => e = .returned (.agg #[.string (txtS 65536 s).1, .int .i64 ((numS 65536 (txtS 65536 s).2).1 : Nat)]) ∧ RdrP w' g (exS s).2 ∧ w.grownBy w' (some g) := by
  show Calls Tryz.prog 65 #[.pointer (some ⟨gt, 0, none⟩), .pointer (some ⟨gn, 0, none⟩)] w fun e w' => e = .returned (.agg #[.string (txtS 65536 s).1, .int .i64 ((numS 65536 (txtS 65536 s).2).1 : Nat)]) ∧ RdrP w' g (numS 65536 (txtS 65536 s).2).2 ∧ w.grownBy w' (some g)
  have BX0 := Blk.made w 83 #[.string ⟨#[]⟩, .int .i64 0]
  have hg0 := World.grownBy_alloc w (.cells #[.string ⟨#[]⟩, .int .i64 0] 83) (some g)
  have D0 := hd.go hg0
  have r0 : RdrP (w.alloc (.cells #[.string ⟨#[]⟩, .int .i64 0] 83)) g s := h.new ((New.refl w).alloc _)
  have hgw := h.lt
  have hne : some w.heap.size ≠ some g := fun e => by have := Option.some.inj e; omega
  have hgn : g ≠ w.heap.size := by omega
  have htl := hd.t.lt
  have hnl := hd.n.lt
  have htn : gt ≠ w.heap.size := by omega
  have hnn : gn ≠ w.heap.size := by omega
  have z0 := hz
  have z1 := txt_sz (most := 65536) z0
  have z2 := num_sz (hi := 65536) z1
  clear hd h hz
  have HC0 := Lib.hid (fun W (d : DW W g gr gn gt) (r : RdrP W g s) => ctxt_any g gr s W d.r r z0)
  have HC1 := Lib.hid (fun W (d : DW W g gr gn gt) (r : RdrP W g (txtS 65536 s).2) => cnum_any g gr (txtS 65536 s).2 W d.r r z1)
  clear z0 z1 z2
  obtain ⟨⟨v0, s1⟩, hv0⟩ : ∃ x, txtS 65536 s = x := ⟨_, rfl⟩
  simp only [hv0] at *
  clear hv0
  obtain ⟨⟨v1, s2⟩, hv1⟩ : ∃ x, numS 65536 s1 = x := ⟨_, rfl⟩
  simp only [hv1] at *
  clear hv1
  have t0 := D0.t.cell' 0 _ rfl
  have n0 := D0.n.cell' 0 _ rfl
  go_enter Tryz.func65, Tryz.ntmps65
  go_wp2_with (fail)
  refine wp_region_held_drew (S := (fun W => Blk W gn 98 (FN gr) ∧ Blk W gt 99 (FT gr))) (by kernel_rfl) (⟨D0.n.drew, D0.t.drew⟩) (fun hS => ?_)
  refine tkQ (i := 0) (oi := ?o21) (v := ?v21) ?h21 ?q21 ?y21 hS ?_; (case h21 => (simp only [gqA, gqB, gqC]; rfl)); (case q21 => exact fun _ _ _ h => h); (case y21 => (refine Or.inl ⟨by kernel_rfl, ?_⟩; intro wq hSq; have hf0 := hSq.1.cell' 0 _ rfl; have hf1 := hSq.2.cell' 0 _ rfl; clear hSq; go_simp; (try with_reducible rfl))); simp only [Act.put, List.setIfInBounds_toArray, List.set_cons_zero, List.set_cons_succ]
  refine tkQ (i := 2) (oi := ?o22) (v := ?v22) ?h22 ?q22 ?y22 hS ?_; (case h22 => (simp only [gqA, gqB, gqC]; rfl)); (case q22 => exact fun _ _ _ h => h); (case y22 => (refine Or.inl ⟨by kernel_rfl, ?_⟩; intro wq hSq; have hf0 := hSq.1.cell' 0 _ rfl; have hf1 := hSq.2.cell' 0 _ rfl; clear hSq; go_simp; (try with_reducible rfl))); simp only [Act.put, List.setIfInBounds_toArray, List.set_cons_zero, List.set_cons_succ]
  refine wpAnyH_ready (rs := [1]) (by kernel_rfl) (by simp) ?_
  refine AllReadyH.cons (o := ?oi23) ?hi23 (fun K hK => ?_) AllReadyH.nil
  case hi23 => (simp only [gqA, gqB, gqC]; rfl)
  go_simp
  with_reducible refine (HC0.out _ D0.drew r0.drew).mono ?_
  rintro e w1 ⟨rfl, r1, k1⟩
  have D1 := D0.drew.go k1
  have BX1 := BX0.drew.grown k1 hne
  have hg1 := (grown_drew hg0).trans k1
  refine hK.out _ _ (⟨D1.n, D1.t⟩) (fun hS => ?_)
  clear hK K
  refine wpAnyH_ready (rs := [3]) (by kernel_rfl) (by simp) ?_
  refine AllReadyH.cons (o := ?oi24) ?hi24 (fun K hK => ?_) AllReadyH.nil
  case hi24 => (simp only [gqA, gqB, gqC]; rfl)
  go_simp
  with_reducible refine (HC1.out _ D1 r1).mono ?_
  rintro e w2 ⟨rfl, r2, k2⟩
  have D2 := D1.go k2
  have BX2 := BX1.grown k2 hne
  have hg2 := hg1.trans k2
  refine hK.out _ _ (⟨D2.n, D2.t⟩) (fun hS => ?_)
  clear hK K
  refine tkQ (i := 4) (oi := ?o25) (v := ?v25) ?h25 ?q25 ?y25 hS ?_; (case h25 => (simp only [gqA, gqB, gqC]; rfl)); (case q25 => exact fun _ _ _ h => h); (case y25 => (refine Or.inl ⟨by kernel_rfl, ?_⟩; intro wq hSq; clear hSq; go_simp; (try with_reducible rfl))); simp only [Act.put, List.setIfInBounds_toArray, List.set_cons_zero, List.set_cons_succ]
  have PB0 := BX2
  have p0 := PB0.cell' 0 _ rfl
  have f0 := PB0.free 0
  have PB1 := PB0.put 0 (.string v0)
  have p1 := PB1.cell' 1 _ rfl
  have f1 := PB1.free 1
  have PB2 := PB1.put 1 (.int .i64 (v1 : Nat))
  have e0 := PB2.cell' 0 _ rfl
  have e1 := PB2.cell' 1 _ rfl
  have HG := Lib.hid (grown_set_new (grown_set_new hg2 (Nat.le_refl _) 0 (.string v0)) (Nat.le_refl _) 1 (.int .i64 (v1 : Nat)))
  have HR := Lib.hid ((r2.set hgn 0 (.string v0)).set hgn 1 (.int .i64 (v1 : Nat)))
  refine wpAnyH_ready (rs := [5]) (by kernel_rfl) (by simp) ?_
  refine AllReadyH.cons (o := ?oi26) ?hi26 (fun K hK => ?_) AllReadyH.nil
  case hi26 => (simp only [gqA, gqB, gqC]; rfl)
  go_simp
  refine hK.out _ _ ⟨(Blk.far (Blk.far D2.n (p := ⟨w.heap.size, 0, none⟩) hnn (.string v0)) (p := ⟨w.heap.size, 1, none⟩) hnn (.int .i64 (v1 : Nat))), (Blk.far (Blk.far D2.t (p := ⟨w.heap.size, 0, none⟩) htn (.string v0)) (p := ⟨w.heap.size, 1, none⟩) htn (.int .i64 (v1 : Nat)))⟩ (fun hS => ?_)
  clear hK K
  refine wpAnyH_done (by kernel_rfl) ?_ _
  go_wp2
  exact bodyPost_ret (v := .agg #[.string v0, .int .i64 (v1 : Nat)]) (by simp [results, Tryz.results65, go_sem, e0, e1]) rfl ⟨rfl, HR.out, HG.out⟩
set_option maxRecDepth 100000 in
set_option maxHeartbeats 4000000 in
theorem cnt_any (g gr gn gt : Nat) (s : RS) (w : World) (hd : DW w g gr gn gt) (h : RdrP w g s) (hz : RSz s) :
    Calls Tryz.prog 67 #[.pointer (some ⟨gt, 0, none⟩)] w fun e w' => e = .returned (.agg #[.string (txtS 65536 s).1, .string (txtS 65536 (txtS 65536 s).2).1]) ∧ RdrP w' g (ntS s).2 ∧ w.grownBy w' (some g) := by
  show Calls Tryz.prog 67 #[.pointer (some ⟨gt, 0, none⟩)] w fun e w' => e = .returned (.agg #[.string (txtS 65536 s).1, .string (txtS 65536 (txtS 65536 s).2).1]) ∧ RdrP w' g (txtS 65536 (txtS 65536 s).2).2 ∧ w.grownBy w' (some g)
  have BX0 := Blk.made w 40 #[.string ⟨#[]⟩, .string ⟨#[]⟩]
  have hg0 := World.grownBy_alloc w (.cells #[.string ⟨#[]⟩, .string ⟨#[]⟩] 40) (some g)
  have D0 := hd.go hg0
  have r0 : RdrP (w.alloc (.cells #[.string ⟨#[]⟩, .string ⟨#[]⟩] 40)) g s := h.new ((New.refl w).alloc _)
  have hgw := h.lt
  have hne : some w.heap.size ≠ some g := fun e => by have := Option.some.inj e; omega
  have hgn : g ≠ w.heap.size := by omega
  have htl := hd.t.lt
  have hnl := hd.n.lt
  have htn : gt ≠ w.heap.size := by omega
  have hnn : gn ≠ w.heap.size := by omega
  have z0 := hz
  have z1 := txt_sz (most := 65536) z0
  have z2 := txt_sz (most := 65536) z1
  clear hd h hz
  have HC0 := Lib.hid (fun W (d : DW W g gr gn gt) (r : RdrP W g s) => ctxt_any g gr s W d.r r z0)
  have HC1 := Lib.hid (fun W (d : DW W g gr gn gt) (r : RdrP W g (txtS 65536 s).2) => ctxt_any g gr (txtS 65536 s).2 W d.r r z1)
  clear z0 z1 z2
  obtain ⟨⟨v0, s1⟩, hv0⟩ : ∃ x, txtS 65536 s = x := ⟨_, rfl⟩
  simp only [hv0] at *
  clear hv0
  obtain ⟨⟨v1, s2⟩, hv1⟩ : ∃ x, txtS 65536 s1 = x := ⟨_, rfl⟩
  simp only [hv1] at *
  clear hv1
  have t0 := D0.t.cell' 0 _ rfl
  have n0 := D0.n.cell' 0 _ rfl
  go_enter Tryz.func67, Tryz.ntmps67
  go_wp2_with (fail)
  refine wp_region_held_drew (S := (fun W => Blk W gn 98 (FN gr) ∧ Blk W gt 99 (FT gr))) (by kernel_rfl) (⟨D0.n.drew, D0.t.drew⟩) (fun hS => ?_)
  refine tkQ (i := 0) (oi := ?o27) (v := ?v27) ?h27 ?q27 ?y27 hS ?_; (case h27 => (simp only [gqA, gqB, gqC]; rfl)); (case q27 => exact fun _ _ _ h => h); (case y27 => (refine Or.inl ⟨by kernel_rfl, ?_⟩; intro wq hSq; have hf0 := hSq.1.cell' 0 _ rfl; have hf1 := hSq.2.cell' 0 _ rfl; clear hSq; go_simp; (try with_reducible rfl))); simp only [Act.put, List.setIfInBounds_toArray, List.set_cons_zero, List.set_cons_succ]
  refine tkQ (i := 2) (oi := ?o28) (v := ?v28) ?h28 ?q28 ?y28 hS ?_; (case h28 => (simp only [gqA, gqB, gqC]; rfl)); (case q28 => exact fun _ _ _ h => h); (case y28 => (refine Or.inl ⟨by kernel_rfl, ?_⟩; intro wq hSq; have hf0 := hSq.1.cell' 0 _ rfl; have hf1 := hSq.2.cell' 0 _ rfl; clear hSq; go_simp; (try with_reducible rfl))); simp only [Act.put, List.setIfInBounds_toArray, List.set_cons_zero, List.set_cons_succ]
  refine wpAnyH_ready (rs := [1]) (by kernel_rfl) (by simp) ?_
  refine AllReadyH.cons (o := ?oi29) ?hi29 (fun K hK => ?_) AllReadyH.nil
  case hi29 => (simp only [gqA, gqB, gqC]; rfl)
  go_simp
  with_reducible refine (HC0.out _ D0.drew r0.drew).mono ?_
  rintro e w1 ⟨rfl, r1, k1⟩
  have D1 := D0.drew.go k1
  have BX1 := BX0.drew.grown k1 hne
  have hg1 := (grown_drew hg0).trans k1
  refine hK.out _ _ (⟨D1.n, D1.t⟩) (fun hS => ?_)
  clear hK K
  refine wpAnyH_ready (rs := [3]) (by kernel_rfl) (by simp) ?_
  refine AllReadyH.cons (o := ?oi30) ?hi30 (fun K hK => ?_) AllReadyH.nil
  case hi30 => (simp only [gqA, gqB, gqC]; rfl)
  go_simp
  with_reducible refine (HC1.out _ D1 r1).mono ?_
  rintro e w2 ⟨rfl, r2, k2⟩
  have D2 := D1.go k2
  have BX2 := BX1.grown k2 hne
  have hg2 := hg1.trans k2
  refine hK.out _ _ (⟨D2.n, D2.t⟩) (fun hS => ?_)
  clear hK K
  refine tkQ (i := 4) (oi := ?o31) (v := ?v31) ?h31 ?q31 ?y31 hS ?_; (case h31 => (simp only [gqA, gqB, gqC]; rfl)); (case q31 => exact fun _ _ _ h => h); (case y31 => (refine Or.inl ⟨by kernel_rfl, ?_⟩; intro wq hSq; clear hSq; go_simp; (try with_reducible rfl))); simp only [Act.put, List.setIfInBounds_toArray, List.set_cons_zero, List.set_cons_succ]
  have PB0 := BX2
  have p0 := PB0.cell' 0 _ rfl
  have f0 := PB0.free 0
  have PB1 := PB0.put 0 (.string v0)
  have p1 := PB1.cell' 1 _ rfl
  have f1 := PB1.free 1
  have PB2 := PB1.put 1 (.string v1)
  have e0 := PB2.cell' 0 _ rfl
  have e1 := PB2.cell' 1 _ rfl
  have HG := Lib.hid (grown_set_new (grown_set_new hg2 (Nat.le_refl _) 0 (.string v0)) (Nat.le_refl _) 1 (.string v1))
  have HR := Lib.hid ((r2.set hgn 0 (.string v0)).set hgn 1 (.string v1))
  refine wpAnyH_ready (rs := [5]) (by kernel_rfl) (by simp) ?_
  refine AllReadyH.cons (o := ?oi32) ?hi32 (fun K hK => ?_) AllReadyH.nil
  case hi32 => (simp only [gqA, gqB, gqC]; rfl)
  go_simp
  refine hK.out _ _ ⟨(Blk.far (Blk.far D2.n (p := ⟨w.heap.size, 0, none⟩) hnn (.string v0)) (p := ⟨w.heap.size, 1, none⟩) hnn (.string v1)), (Blk.far (Blk.far D2.t (p := ⟨w.heap.size, 0, none⟩) htn (.string v0)) (p := ⟨w.heap.size, 1, none⟩) htn (.string v1))⟩ (fun hS => ?_)
  clear hK K
  refine wpAnyH_done (by kernel_rfl) ?_ _
  go_wp2
  exact bodyPost_ret (v := .agg #[.string v0, .string v1]) (by simp [results, Tryz.results67, go_sem, e0, e1]) rfl ⟨rfl, HR.out, HG.out⟩
end Go.Proofs.YtnknmpcgbfmfjaaGreatDoor

namespace Go.Proofs.YtnknmpcgbfmfjaaGreatDoor
open Go Go.RowKit Go.Joins
set_option linter.unusedSimpArgs false
set_option linter.unusedVariables false

theorem many_none {α : Type} (one : RS → α × RS) (k : Nat) : manyS one k none = ([], none) := by cases k <;> rfl
theorem many_more {α : Type} {one : RS → α × RS} {k : Nat} {l : List UInt8} {xs : List α} {Z : List α × RS} (h : (xs ++ (manyS one (k + 1) (some l)).1, (manyS one (k + 1) (some l)).2) = Z) : ((xs ++ [(one (some l)).1]) ++ (manyS one k (one (some l)).2).1, (manyS one k (one (some l)).2).2) = Z := by
  rw [← h, manyS]
  simp
theorem blk_rd {w : World} {g k : Nat} {t : TypeId} {cs : Array Value} {xs : List Value} (h : Blk w g t cs) (hx : cs.toList = xs) (hk : xs.length = k) : Rd w k (some ⟨g, 0, none⟩) 1 xs := by
  refine ⟨by rw [hk, Nat.one_mul], fun _ => ⟨g, 0, rfl, h.lt, fun j u hu => ?_⟩⟩
  rw [h.cell (0 + j), Nat.zero_add, ← hu, ← hx, Array.getElem?_toList]
def ListP (sz : Nat) (w : World) (g n : Nat) (xs : List Value) (s : RS) (e : Ending) (w' : World) : Prop := (∃ A c, e = .returned (.slice A n c) ∧ Rd w' sz A n xs ∧ ∀ a, A = some a → w.heap.size ≤ a.block) ∧ RdrP w' g s ∧ w.grownBy w' (some g)
theorem listP_of {sz g n c : Nat} {w w' : World} {A : Option Addr} {xs : List Value} {s : RS} {e : Ending} (he : e = .returned (.slice A n c)) (hr : Rd w' sz A n xs) (hb : ∀ a, A = some a → w.heap.size ≤ a.block) (h2 : RdrP w' g s) (h3 : w.grownBy w' (some g)) : ListP sz w g n xs s e w' := ⟨⟨A, c, he, hr, hb⟩, h2, h3⟩
theorem own_no {w : World} {base : Nat} {e : TypeId} {k n g : Nat} {v : Value} {xs : List Value} (h : w.ownsRow base e k v n xs) (hg : g < base) : some g ≠ v.ownBlock := fun he => by
  have := (h.lt g he.symm).1
  omega
theorem own_go {w w' : World} {base g : Nat} {e : TypeId} {k n : Nat} {v : Value} {xs : List Value} (h : w.ownsRow base e k v n xs) (hg : w.grownBy w' (some g)) (hb : g < base) : w'.ownsRow base e k v n xs :=
  h.kept hg (Or.inr (fun he => own_no h hb he.symm))
set_option maxRecDepth 100000 in
set_option maxHeartbeats 8000000 in
theorem manypl_any (g gr gn gt : Nat) (s : RS) (w : World) (hd : DW w g gr gn gt) (h : RdrP w g s) (hz : RSz s) :
    Calls Tryz.prog 59 #[.pointer (some ⟨g, 0, none⟩), .func (.func 60) #[] #[.pointer (some ⟨gt, 0, none⟩), .pointer (some ⟨gn, 0, none⟩)]] w (ListP 5 w g (manyS (plS 65536) (numS 65536 s).1 (numS 65536 s).2).1.length ((manyS (plS 65536) (numS 65536 s).1 (numS 65536 s).2).1.flatMap plC) (manyS (plS 65536) (numS 65536 s).1 (numS 65536 s).2).2) := by
  have HN := Lib.hid (show Calls Tryz.prog 56 #[.pointer (some ⟨g, 0, none⟩), .int .i64 0, .int .i64 65536] w _ from num_any g 65536 s w h hz (by decide))
  have hz1 := num_sz (hi := 65536) hz
  have hle := (numS_le (hi := 65536) s).1
  have hgl := h.lt
  obtain ⟨⟨n0, s1⟩, hn0⟩ : ∃ x, numS 65536 s = x := ⟨_, rfl⟩
  rw [hn0] at HN hz1 hle ⊢
  simp only at HN hz1 hle ⊢
  have HOne := Lib.hid (fun (l : List UInt8) W (d : DW W g gr gn gt) (r : RdrP W g (some l)) (z : RSz (some l)) => cpl_any g gr gn gt (some l) W d r z)
  obtain ⟨Z, hZ⟩ : ∃ Z, manyS (plS 65536) n0 s1 = Z := ⟨_, rfl⟩
  rw [hZ]
  obtain ⟨ZL, Z2⟩ := Z
  have HZ : Hid (([] ++ (manyS (plS 65536) n0 s1).1, (manyS (plS 65536) n0 s1).2) = (ZL, Z2)) := Lib.hid (by rw [List.nil_append]; exact hZ)
  have HEND : Hid (∀ (k : Nat) (s' : RS) (xs : List PlD), (k = 0 ∨ s' = none) → (xs ++ (manyS (plS 65536) k s').1, (manyS (plS 65536) k s').2) = (ZL, Z2) → xs = ZL ∧ s' = Z2) := Lib.hid (fun k s' xs hc e => by
    rcases hc with rfl | rfl
    · rw [manyS, List.append_nil] at e; exact ⟨(Prod.mk.inj e).1, (Prod.mk.inj e).2⟩
    · rw [many_none, List.append_nil] at e; exact ⟨(Prod.mk.inj e).1, (Prod.mk.inj e).2⟩)
  have HD := Lib.hid hd
  have D0 : Hid (w.grownBy w (some g)) := Lib.hid (World.grownBy.refl _ _)
  clear hZ hn0 h hz hd
  go_enter Tryz.func59, Tryz.ntmps59
  go_wp2_with (go_at_call 56; (with_reducible refine HN.out.mono ?_); rintro e w1 ⟨rfl, r1, g1⟩)
  have HD1 := Lib.hid (HD.out.go g1)
  have HR1 := Lib.hid r1
  have HG1 := Lib.hid g1
  have HZ1 := Lib.hid hz1
  have hs1 := g1.size
  clear r1 g1 hz1 HN
  go_loopw [5, 6] (fun v5 v6 wr => ∃ (k j : Nat) (xs : List PlD) (s' : RS), v6 = .int .i64 k ∧ j + k = n0 ∧ xs.length = j ∧ wr.ownsRow w.heap.size 60 5 v5 j (xs.flatMap plC) ∧ Hid (RdrP wr g s') ∧ Hid (RSz s') ∧ Hid (DW wr g gr gn gt) ∧ Hid (w.grownBy wr (some g)) ∧ Hid ((xs ++ (manyS (plS 65536) k s').1, (manyS (plS 65536) k s').2) = (ZL, Z2))) (fun _ v6 _ => (intOf v6).toNat)
  case atStart => exact ⟨n0, 0, [], s1, rfl, by omega, rfl, World.ownsRow_nil .., HR1, HZ1, HD1, HG1, HZ⟩
  case round =>
    clear HZ HR1 HZ1 HD1 HG1 hs1
    obtain ⟨k, j, xs, s', rfl, hjk, hxl, hown, HR, HS, HDr, HG, H⟩ := hrel
    have HER := Lib.hid (rerr_any g s' wr HR.out)
    have HXL := Lib.hid hxl
    by_cases hk : k = 0
    · subst hk
      obtain ⟨e1, e2⟩ := HEND.out 0 s' xs (Or.inl rfl) H.out
      subst e1 e2
      obtain ⟨A', c', rfl, hrd, hbs⟩ := rd_own hown
      have HRD := Lib.hid hrd
      have HBS := Lib.hid hbs
      subst hxl
      clear hrd hbs hown HEND
      go_wp2
      exact bodyPost_ret (v := .slice A' xs.length c') (by simp [results, Tryz.results59, go_sem]) rfl (listP_of rfl HRD.out HBS.out HR.out HG.out)
    · obtain ⟨k', rfl⟩ : ∃ k', k = k' + 1 := ⟨k - 1, by omega⟩
      have hk0 : (0 : Int) < ((k' + 1 : Nat) : Int) := by omega
      cases s' with
      | none =>
        obtain ⟨e1, e2⟩ := HEND.out (k' + 1) none xs (Or.inr rfl) H.out
        subst e1 e2
        obtain ⟨A', c', rfl, hrd, hbs⟩ := rd_own hown
        have HRD := Lib.hid hrd
        have HBS := Lib.hid hbs
        subst hxl
        clear hrd hbs hown HEND
        go_wp2_with (go_at_call 110; (with_reducible refine HER.out.mono ?_); rintro e w2 ⟨⟨x, rfl, hx⟩, rfl⟩; have hx' : (x == 0) = false := hx; clear hx)
        exact bodyPost_ret (v := .slice A' xs.length c') (by simp [results, Tryz.results59, go_sem]) rfl (listP_of rfl HRD.out HBS.out HR.out HG.out)
      | some l =>
        have HO := Lib.hid (HOne.out l wr HDr.out HR.out HS.out)
        have HM := Lib.hid (many_more (one := (plS 65536)) H.out)
        have HSN : Hid (RSz ((plS 65536) (some l)).2) := Lib.hid (by unfold plS; simp only; exact num_sz (num_sz (num_sz (txt_sz (txt_sz HS.out)))))
        have hgr := HG.out.size

        obtain ⟨⟨v0, t0⟩, hv0⟩ : ∃ x, txtS 65536 (some l) = x := ⟨_, rfl⟩
        obtain ⟨⟨v1, t1⟩, hv1⟩ : ∃ x, txtS 65536 t0 = x := ⟨_, rfl⟩
        obtain ⟨⟨v2, t2⟩, hv2⟩ : ∃ x, numS 65536 t1 = x := ⟨_, rfl⟩
        obtain ⟨⟨v3, t3⟩, hv3⟩ : ∃ x, numS 65536 t2 = x := ⟨_, rfl⟩
        obtain ⟨⟨v4, t4⟩, hv4⟩ : ∃ x, numS 65536 t3 = x := ⟨_, rfl⟩
        have hps : plS 65536 (some l) = (⟨v0, v1, (v2 : Nat), (v3 : Nat), (v4 : Nat)⟩, t4) := by unfold plS; simp only [hv0, hv1, hv2, hv3, hv4]
        rw [hps] at HM HSN
        have HO2 : Hid (Calls Tryz.prog 60 #[.pointer (some ⟨gt, 0, none⟩), .pointer (some ⟨gn, 0, none⟩)] wr fun e w' => e = .returned (.agg #[.string v0, .string v1, .int .i64 (v2 : Nat), .int .i64 (v3 : Nat), .int .i64 (v4 : Nat)]) ∧ RdrP w' g t4 ∧ wr.grownBy w' (some g)) := by
          simp only [hps, hv0, hv1, hv2, hv3, hv4] at HO
          exact HO
        clear HO hps hv0 hv1 hv2 hv3 hv4
        have HOWN := Lib.hid hown
        clear hown
        go_wp2_with (first | (at_builtin; refine wpList_app_pl rfl (.tmp 18) (.tmp 21) rfl w.heap.size _ j _ rfl ((own_go HOWN.out HG3.out hgl).alloc _) (some ⟨w3.heap.size, 0, none⟩) 1 1 [⟨v0, v1, (v2 : Nat), (v3 : Nat), (v4 : Nat)⟩] rfl (blk_rd (Blk.made w3 60 #[.string v0, .string v1, .int .i64 (v2 : Nat), .int .i64 (v3 : Nat), .int .i64 (v4 : Nat)]) rfl rfl) (by omega) (by simp only [World.size_alloc]; omega) ?_; intro v' w4 hown4 hg4; have HW4 := Lib.hid hown4; have HG4 := Lib.hid hg4; clear hown4 hg4) | (go_at_call 60; (with_reducible refine HO2.out.mono ?_); rintro e w3 ⟨rfl, r3, g3⟩; have HR3 := Lib.hid r3; have HG3 := Lib.hid g3; have hs3 := g3.size; clear r3 g3) | (go_at_call 110; (with_reducible refine HER.out.mono ?_); rintro e w2 ⟨⟨x, rfl, hx⟩, rfl⟩; have hx' : (x == 0) = true := hx; have hx0 : x = 0 := beq_iff_eq.1 hx'; subst hx0; clear hx hx'))
        go_roundw
        case rel =>
          have q1 := own_no HOWN.out hgl
          have q2 := own_no HOWN.out HD.out.r.lt
          have q3 := own_no HOWN.out HD.out.n.lt
          have q4 := own_no HOWN.out HD.out.t.lt
          have hgn := World.grownBy_alloc w3 (.cells #[.string v0, .string v1, .int .i64 (v2 : Nat), .int .i64 (v3 : Nat), .int .i64 (v4 : Nat)] 60) (some g)
          have hrow : ∀ r, Value.ownBlock _ = some r → w.heap.size ≤ r ∨ some g = some r := fun r hr => Or.inl (HOWN.out.lt r hr).1
          refine ⟨k', j + 1, xs ++ [⟨v0, v1, (v2 : Nat), (v3 : Nat), (v4 : Nat)⟩], t4, by go_num, by omega, by simp [HXL.out], ?_, Lib.hid ((HR3.out.new ((New.refl w3).alloc _)).far HG4.out q1), HSN, Lib.hid ((((HDr.out.go HG3.out).new ((New.refl w3).alloc _))).grown HG4.out q2 q3 q4), Lib.hid (((HG.out.trans HG3.out).trans hgn).andThen HG4.out hrow), HM⟩
          have := HW4.out
          rw [List.flatMap_append]
          exact this
        case measure => simp [intOf]
set_option maxRecDepth 100000 in
set_option maxHeartbeats 8000000 in
theorem manyfx_any (g gr gn gt : Nat) (s : RS) (w : World) (hd : DW w g gr gn gt) (h : RdrP w g s) (hz : RSz s) :
    Calls Tryz.prog 61 #[.pointer (some ⟨g, 0, none⟩), .func (.func 55) #[] #[.pointer (some ⟨gr, 0, none⟩)]] w (ListP 1 w g (manyS (fxS) (numS 65536 s).1 (numS 65536 s).2).1.length ((manyS (fxS) (numS 65536 s).1 (numS 65536 s).2).1.flatMap fxC) (manyS (fxS) (numS 65536 s).1 (numS 65536 s).2).2) := by
  have HN := Lib.hid (show Calls Tryz.prog 56 #[.pointer (some ⟨g, 0, none⟩), .int .i64 0, .int .i64 65536] w _ from num_any g 65536 s w h hz (by decide))
  have hz1 := num_sz (hi := 65536) hz
  have hle := (numS_le (hi := 65536) s).1
  have hgl := h.lt
  obtain ⟨⟨n0, s1⟩, hn0⟩ : ∃ x, numS 65536 s = x := ⟨_, rfl⟩
  rw [hn0] at HN hz1 hle ⊢
  simp only at HN hz1 hle ⊢
  have HOne := Lib.hid (fun (l : List UInt8) W (d : DW W g gr gn gt) (r : RdrP W g (some l)) (z : RSz (some l)) => cnum_any g gr (some l) W d.r r z)
  obtain ⟨Z, hZ⟩ : ∃ Z, manyS (fxS) n0 s1 = Z := ⟨_, rfl⟩
  rw [hZ]
  obtain ⟨ZL, Z2⟩ := Z
  have HZ : Hid (([] ++ (manyS (fxS) n0 s1).1, (manyS (fxS) n0 s1).2) = (ZL, Z2)) := Lib.hid (by rw [List.nil_append]; exact hZ)
  have HEND : Hid (∀ (k : Nat) (s' : RS) (xs : List Int), (k = 0 ∨ s' = none) → (xs ++ (manyS (fxS) k s').1, (manyS (fxS) k s').2) = (ZL, Z2) → xs = ZL ∧ s' = Z2) := Lib.hid (fun k s' xs hc e => by
    rcases hc with rfl | rfl
    · rw [manyS, List.append_nil] at e; exact ⟨(Prod.mk.inj e).1, (Prod.mk.inj e).2⟩
    · rw [many_none, List.append_nil] at e; exact ⟨(Prod.mk.inj e).1, (Prod.mk.inj e).2⟩)
  have HD := Lib.hid hd
  have D0 : Hid (w.grownBy w (some g)) := Lib.hid (World.grownBy.refl _ _)
  clear hZ hn0 h hz hd
  go_enter Tryz.func61, Tryz.ntmps61
  go_wp2_with (go_at_call 56; (with_reducible refine HN.out.mono ?_); rintro e w1 ⟨rfl, r1, g1⟩)
  have HD1 := Lib.hid (HD.out.go g1)
  have HR1 := Lib.hid r1
  have HG1 := Lib.hid g1
  have HZ1 := Lib.hid hz1
  have hs1 := g1.size
  clear r1 g1 hz1 HN
  go_loopw [5, 6] (fun v5 v6 wr => ∃ (k j : Nat) (xs : List Int) (s' : RS), v6 = .int .i64 k ∧ j + k = n0 ∧ xs.length = j ∧ wr.ownsRow w.heap.size 3 1 v5 j (xs.flatMap fxC) ∧ Hid (RdrP wr g s') ∧ Hid (RSz s') ∧ Hid (DW wr g gr gn gt) ∧ Hid (w.grownBy wr (some g)) ∧ Hid ((xs ++ (manyS (fxS) k s').1, (manyS (fxS) k s').2) = (ZL, Z2))) (fun _ v6 _ => (intOf v6).toNat)
  case atStart => exact ⟨n0, 0, [], s1, rfl, by omega, rfl, World.ownsRow_nil .., HR1, HZ1, HD1, HG1, HZ⟩
  case round =>
    clear HZ HR1 HZ1 HD1 HG1 hs1
    obtain ⟨k, j, xs, s', rfl, hjk, hxl, hown, HR, HS, HDr, HG, H⟩ := hrel
    have HER := Lib.hid (rerr_any g s' wr HR.out)
    have HXL := Lib.hid hxl
    by_cases hk : k = 0
    · subst hk
      obtain ⟨e1, e2⟩ := HEND.out 0 s' xs (Or.inl rfl) H.out
      subst e1 e2
      obtain ⟨A', c', rfl, hrd, hbs⟩ := rd_own hown
      have HRD := Lib.hid hrd
      have HBS := Lib.hid hbs
      subst hxl
      clear hrd hbs hown HEND
      go_wp2
      exact bodyPost_ret (v := .slice A' xs.length c') (by simp [results, Tryz.results61, go_sem]) rfl (listP_of rfl HRD.out HBS.out HR.out HG.out)
    · obtain ⟨k', rfl⟩ : ∃ k', k = k' + 1 := ⟨k - 1, by omega⟩
      have hk0 : (0 : Int) < ((k' + 1 : Nat) : Int) := by omega
      cases s' with
      | none =>
        obtain ⟨e1, e2⟩ := HEND.out (k' + 1) none xs (Or.inr rfl) H.out
        subst e1 e2
        obtain ⟨A', c', rfl, hrd, hbs⟩ := rd_own hown
        have HRD := Lib.hid hrd
        have HBS := Lib.hid hbs
        subst hxl
        clear hrd hbs hown HEND
        go_wp2_with (go_at_call 110; (with_reducible refine HER.out.mono ?_); rintro e w2 ⟨⟨x, rfl, hx⟩, rfl⟩; have hx' : (x == 0) = false := hx; clear hx)
        exact bodyPost_ret (v := .slice A' xs.length c') (by simp [results, Tryz.results61, go_sem]) rfl (listP_of rfl HRD.out HBS.out HR.out HG.out)
      | some l =>
        have HO := Lib.hid (HOne.out l wr HDr.out HR.out HS.out)
        have HM := Lib.hid (many_more (one := (fxS)) H.out)
        have HSN : Hid (RSz ((fxS) (some l)).2) := Lib.hid (by unfold fxS; simp only; exact num_sz HS.out)
        have hgr := HG.out.size

        obtain ⟨⟨v0, t0⟩, hv0⟩ : ∃ x, numS 65536 (some l) = x := ⟨_, rfl⟩
        have hps : fxS (some l) = (((v0 : Nat) : Int), t0) := by unfold fxS; simp only [hv0]
        rw [hps] at HM HSN
        have HO2 : Hid (Calls Tryz.prog 55 #[.pointer (some ⟨gr, 0, none⟩)] wr fun e w' => e = .returned (.int .i64 (v0 : Nat)) ∧ RdrP w' g t0 ∧ wr.grownBy w' (some g)) := by
          simp only [hv0] at HO
          exact HO
        clear HO hps hv0
        have HOWN := Lib.hid hown
        clear hown
        go_wp2_with (first | (at_builtin; refine wpList_app_fx rfl (.tmp 18) (.tmp 21) rfl w.heap.size _ j _ rfl ((own_go HOWN.out HG3.out hgl).alloc _) (some ⟨w3.heap.size, 0, none⟩) 1 1 [((v0 : Nat) : Int)] rfl (blk_rd (Blk.made w3 3 #[.int .i64 (v0 : Nat)]) rfl rfl) (by omega) (by simp only [World.size_alloc]; omega) ?_; intro v' w4 hown4 hg4; have HW4 := Lib.hid hown4; have HG4 := Lib.hid hg4; clear hown4 hg4) | (go_at_call 55; (with_reducible refine HO2.out.mono ?_); rintro e w3 ⟨rfl, r3, g3⟩; have HR3 := Lib.hid r3; have HG3 := Lib.hid g3; have hs3 := g3.size; clear r3 g3) | (go_at_call 110; (with_reducible refine HER.out.mono ?_); rintro e w2 ⟨⟨x, rfl, hx⟩, rfl⟩; have hx' : (x == 0) = true := hx; have hx0 : x = 0 := beq_iff_eq.1 hx'; subst hx0; clear hx hx'))
        go_roundw
        case rel =>
          have q1 := own_no HOWN.out hgl
          have q2 := own_no HOWN.out HD.out.r.lt
          have q3 := own_no HOWN.out HD.out.n.lt
          have q4 := own_no HOWN.out HD.out.t.lt
          have hgn := World.grownBy_alloc w3 (.cells #[.int .i64 (v0 : Nat)] 3) (some g)
          have hrow : ∀ r, Value.ownBlock _ = some r → w.heap.size ≤ r ∨ some g = some r := fun r hr => Or.inl (HOWN.out.lt r hr).1
          refine ⟨k', j + 1, xs ++ [((v0 : Nat) : Int)], t0, by go_num, by omega, by simp [HXL.out], ?_, Lib.hid ((HR3.out.new ((New.refl w3).alloc _)).far HG4.out q1), HSN, Lib.hid ((((HDr.out.go HG3.out).new ((New.refl w3).alloc _))).grown HG4.out q2 q3 q4), Lib.hid (((HG.out.trans HG3.out).trans hgn).andThen HG4.out hrow), HM⟩
          have := HW4.out
          rw [List.flatMap_append]
          exact this
        case measure => simp [intOf]
set_option maxRecDepth 100000 in
set_option maxHeartbeats 8000000 in
theorem manyim_any (g gr gn gt : Nat) (s : RS) (w : World) (hd : DW w g gr gn gt) (h : RdrP w g s) (hz : RSz s) :
    Calls Tryz.prog 62 #[.pointer (some ⟨g, 0, none⟩), .func (.func 63) #[] #[.pointer (some ⟨gt, 0, none⟩), .pointer (some ⟨gn, 0, none⟩)]] w (ListP 3 w g (manyS (imS) (numS 65536 s).1 (numS 65536 s).2).1.length ((manyS (imS) (numS 65536 s).1 (numS 65536 s).2).1.flatMap imC) (manyS (imS) (numS 65536 s).1 (numS 65536 s).2).2) := by
  have HN := Lib.hid (show Calls Tryz.prog 56 #[.pointer (some ⟨g, 0, none⟩), .int .i64 0, .int .i64 65536] w _ from num_any g 65536 s w h hz (by decide))
  have hz1 := num_sz (hi := 65536) hz
  have hle := (numS_le (hi := 65536) s).1
  have hgl := h.lt
  obtain ⟨⟨n0, s1⟩, hn0⟩ : ∃ x, numS 65536 s = x := ⟨_, rfl⟩
  rw [hn0] at HN hz1 hle ⊢
  simp only at HN hz1 hle ⊢
  have HOne := Lib.hid (fun (l : List UInt8) W (d : DW W g gr gn gt) (r : RdrP W g (some l)) (z : RSz (some l)) => cim_any g gr gn gt (some l) W d r z)
  obtain ⟨Z, hZ⟩ : ∃ Z, manyS (imS) n0 s1 = Z := ⟨_, rfl⟩
  rw [hZ]
  obtain ⟨ZL, Z2⟩ := Z
  have HZ : Hid (([] ++ (manyS (imS) n0 s1).1, (manyS (imS) n0 s1).2) = (ZL, Z2)) := Lib.hid (by rw [List.nil_append]; exact hZ)
  have HEND : Hid (∀ (k : Nat) (s' : RS) (xs : List ImD), (k = 0 ∨ s' = none) → (xs ++ (manyS (imS) k s').1, (manyS (imS) k s').2) = (ZL, Z2) → xs = ZL ∧ s' = Z2) := Lib.hid (fun k s' xs hc e => by
    rcases hc with rfl | rfl
    · rw [manyS, List.append_nil] at e; exact ⟨(Prod.mk.inj e).1, (Prod.mk.inj e).2⟩
    · rw [many_none, List.append_nil] at e; exact ⟨(Prod.mk.inj e).1, (Prod.mk.inj e).2⟩)
  have HD := Lib.hid hd
  have D0 : Hid (w.grownBy w (some g)) := Lib.hid (World.grownBy.refl _ _)
  clear hZ hn0 h hz hd
  go_enter Tryz.func62, Tryz.ntmps62
  go_wp2_with (go_at_call 56; (with_reducible refine HN.out.mono ?_); rintro e w1 ⟨rfl, r1, g1⟩)
  have HD1 := Lib.hid (HD.out.go g1)
  have HR1 := Lib.hid r1
  have HG1 := Lib.hid g1
  have HZ1 := Lib.hid hz1
  have hs1 := g1.size
  clear r1 g1 hz1 HN
  go_loopw [5, 6] (fun v5 v6 wr => ∃ (k j : Nat) (xs : List ImD) (s' : RS), v6 = .int .i64 k ∧ j + k = n0 ∧ xs.length = j ∧ wr.ownsRow w.heap.size 81 3 v5 j (xs.flatMap imC) ∧ Hid (RdrP wr g s') ∧ Hid (RSz s') ∧ Hid (DW wr g gr gn gt) ∧ Hid (w.grownBy wr (some g)) ∧ Hid ((xs ++ (manyS (imS) k s').1, (manyS (imS) k s').2) = (ZL, Z2))) (fun _ v6 _ => (intOf v6).toNat)
  case atStart => exact ⟨n0, 0, [], s1, rfl, by omega, rfl, World.ownsRow_nil .., HR1, HZ1, HD1, HG1, HZ⟩
  case round =>
    clear HZ HR1 HZ1 HD1 HG1 hs1
    obtain ⟨k, j, xs, s', rfl, hjk, hxl, hown, HR, HS, HDr, HG, H⟩ := hrel
    have HER := Lib.hid (rerr_any g s' wr HR.out)
    have HXL := Lib.hid hxl
    by_cases hk : k = 0
    · subst hk
      obtain ⟨e1, e2⟩ := HEND.out 0 s' xs (Or.inl rfl) H.out
      subst e1 e2
      obtain ⟨A', c', rfl, hrd, hbs⟩ := rd_own hown
      have HRD := Lib.hid hrd
      have HBS := Lib.hid hbs
      subst hxl
      clear hrd hbs hown HEND
      go_wp2
      exact bodyPost_ret (v := .slice A' xs.length c') (by simp [results, Tryz.results62, go_sem]) rfl (listP_of rfl HRD.out HBS.out HR.out HG.out)
    · obtain ⟨k', rfl⟩ : ∃ k', k = k' + 1 := ⟨k - 1, by omega⟩
      have hk0 : (0 : Int) < ((k' + 1 : Nat) : Int) := by omega
      cases s' with
      | none =>
        obtain ⟨e1, e2⟩ := HEND.out (k' + 1) none xs (Or.inr rfl) H.out
        subst e1 e2
        obtain ⟨A', c', rfl, hrd, hbs⟩ := rd_own hown
        have HRD := Lib.hid hrd
        have HBS := Lib.hid hbs
        subst hxl
        clear hrd hbs hown HEND
        go_wp2_with (go_at_call 110; (with_reducible refine HER.out.mono ?_); rintro e w2 ⟨⟨x, rfl, hx⟩, rfl⟩; have hx' : (x == 0) = false := hx; clear hx)
        exact bodyPost_ret (v := .slice A' xs.length c') (by simp [results, Tryz.results62, go_sem]) rfl (listP_of rfl HRD.out HBS.out HR.out HG.out)
      | some l =>
        have HO := Lib.hid (HOne.out l wr HDr.out HR.out HS.out)
        have HM := Lib.hid (many_more (one := (imS)) H.out)
        have HSN : Hid (RSz ((imS) (some l)).2) := Lib.hid (by unfold imS; simp only; exact num_sz (txt_sz (txt_sz HS.out)))
        have hgr := HG.out.size

        obtain ⟨⟨v0, t0⟩, hv0⟩ : ∃ x, txtS 65536 (some l) = x := ⟨_, rfl⟩
        obtain ⟨⟨v1, t1⟩, hv1⟩ : ∃ x, txtS 65536 t0 = x := ⟨_, rfl⟩
        obtain ⟨⟨v2, t2⟩, hv2⟩ : ∃ x, numS 65536 t1 = x := ⟨_, rfl⟩
        have hps : imS (some l) = (⟨v0, v1, (v2 : Nat)⟩, t2) := by unfold imS; simp only [hv0, hv1, hv2]
        rw [hps] at HM HSN
        have HO2 : Hid (Calls Tryz.prog 63 #[.pointer (some ⟨gt, 0, none⟩), .pointer (some ⟨gn, 0, none⟩)] wr fun e w' => e = .returned (.agg #[.string v0, .string v1, .int .i64 (v2 : Nat)]) ∧ RdrP w' g t2 ∧ wr.grownBy w' (some g)) := by
          simp only [hps, hv0, hv1, hv2] at HO
          exact HO
        clear HO hps hv0 hv1 hv2
        have HOWN := Lib.hid hown
        clear hown
        go_wp2_with (first | (at_builtin; refine wpList_app_im rfl (.tmp 18) (.tmp 21) rfl w.heap.size _ j _ rfl ((own_go HOWN.out HG3.out hgl).alloc _) (some ⟨w3.heap.size, 0, none⟩) 1 1 [⟨v0, v1, (v2 : Nat)⟩] rfl (blk_rd (Blk.made w3 81 #[.string v0, .string v1, .int .i64 (v2 : Nat)]) rfl rfl) (by omega) (by simp only [World.size_alloc]; omega) ?_; intro v' w4 hown4 hg4; have HW4 := Lib.hid hown4; have HG4 := Lib.hid hg4; clear hown4 hg4) | (go_at_call 63; (with_reducible refine HO2.out.mono ?_); rintro e w3 ⟨rfl, r3, g3⟩; have HR3 := Lib.hid r3; have HG3 := Lib.hid g3; have hs3 := g3.size; clear r3 g3) | (go_at_call 110; (with_reducible refine HER.out.mono ?_); rintro e w2 ⟨⟨x, rfl, hx⟩, rfl⟩; have hx' : (x == 0) = true := hx; have hx0 : x = 0 := beq_iff_eq.1 hx'; subst hx0; clear hx hx'))
        go_roundw
        case rel =>
          have q1 := own_no HOWN.out hgl
          have q2 := own_no HOWN.out HD.out.r.lt
          have q3 := own_no HOWN.out HD.out.n.lt
          have q4 := own_no HOWN.out HD.out.t.lt
          have hgn := World.grownBy_alloc w3 (.cells #[.string v0, .string v1, .int .i64 (v2 : Nat)] 81) (some g)
          have hrow : ∀ r, Value.ownBlock _ = some r → w.heap.size ≤ r ∨ some g = some r := fun r hr => Or.inl (HOWN.out.lt r hr).1
          refine ⟨k', j + 1, xs ++ [⟨v0, v1, (v2 : Nat)⟩], t2, by go_num, by omega, by simp [HXL.out], ?_, Lib.hid ((HR3.out.new ((New.refl w3).alloc _)).far HG4.out q1), HSN, Lib.hid ((((HDr.out.go HG3.out).new ((New.refl w3).alloc _))).grown HG4.out q2 q3 q4), Lib.hid (((HG.out.trans HG3.out).trans hgn).andThen HG4.out hrow), HM⟩
          have := HW4.out
          rw [List.flatMap_append]
          exact this
        case measure => simp [intOf]
set_option maxRecDepth 100000 in
set_option maxHeartbeats 8000000 in
theorem manyex_any (g gr gn gt : Nat) (s : RS) (w : World) (hd : DW w g gr gn gt) (h : RdrP w g s) (hz : RSz s) :
    Calls Tryz.prog 64 #[.pointer (some ⟨g, 0, none⟩), .func (.func 65) #[] #[.pointer (some ⟨gt, 0, none⟩), .pointer (some ⟨gn, 0, none⟩)]] w (ListP 2 w g (manyS (exS) (numS 65536 s).1 (numS 65536 s).2).1.length ((manyS (exS) (numS 65536 s).1 (numS 65536 s).2).1.flatMap exC) (manyS (exS) (numS 65536 s).1 (numS 65536 s).2).2) := by
  have HN := Lib.hid (show Calls Tryz.prog 56 #[.pointer (some ⟨g, 0, none⟩), .int .i64 0, .int .i64 65536] w _ from num_any g 65536 s w h hz (by decide))
  have hz1 := num_sz (hi := 65536) hz
  have hle := (numS_le (hi := 65536) s).1
  have hgl := h.lt
  obtain ⟨⟨n0, s1⟩, hn0⟩ : ∃ x, numS 65536 s = x := ⟨_, rfl⟩
  rw [hn0] at HN hz1 hle ⊢
  simp only at HN hz1 hle ⊢
  have HOne := Lib.hid (fun (l : List UInt8) W (d : DW W g gr gn gt) (r : RdrP W g (some l)) (z : RSz (some l)) => cex_any g gr gn gt (some l) W d r z)
  obtain ⟨Z, hZ⟩ : ∃ Z, manyS (exS) n0 s1 = Z := ⟨_, rfl⟩
  rw [hZ]
  obtain ⟨ZL, Z2⟩ := Z
  have HZ : Hid (([] ++ (manyS (exS) n0 s1).1, (manyS (exS) n0 s1).2) = (ZL, Z2)) := Lib.hid (by rw [List.nil_append]; exact hZ)
  have HEND : Hid (∀ (k : Nat) (s' : RS) (xs : List ExD), (k = 0 ∨ s' = none) → (xs ++ (manyS (exS) k s').1, (manyS (exS) k s').2) = (ZL, Z2) → xs = ZL ∧ s' = Z2) := Lib.hid (fun k s' xs hc e => by
    rcases hc with rfl | rfl
    · rw [manyS, List.append_nil] at e; exact ⟨(Prod.mk.inj e).1, (Prod.mk.inj e).2⟩
    · rw [many_none, List.append_nil] at e; exact ⟨(Prod.mk.inj e).1, (Prod.mk.inj e).2⟩)
  have HD := Lib.hid hd
  have D0 : Hid (w.grownBy w (some g)) := Lib.hid (World.grownBy.refl _ _)
  clear hZ hn0 h hz hd
  go_enter Tryz.func64, Tryz.ntmps64
  go_wp2_with (go_at_call 56; (with_reducible refine HN.out.mono ?_); rintro e w1 ⟨rfl, r1, g1⟩)
  have HD1 := Lib.hid (HD.out.go g1)
  have HR1 := Lib.hid r1
  have HG1 := Lib.hid g1
  have HZ1 := Lib.hid hz1
  have hs1 := g1.size
  clear r1 g1 hz1 HN
  go_loopw [5, 6] (fun v5 v6 wr => ∃ (k j : Nat) (xs : List ExD) (s' : RS), v6 = .int .i64 k ∧ j + k = n0 ∧ xs.length = j ∧ wr.ownsRow w.heap.size 83 2 v5 j (xs.flatMap exC) ∧ Hid (RdrP wr g s') ∧ Hid (RSz s') ∧ Hid (DW wr g gr gn gt) ∧ Hid (w.grownBy wr (some g)) ∧ Hid ((xs ++ (manyS (exS) k s').1, (manyS (exS) k s').2) = (ZL, Z2))) (fun _ v6 _ => (intOf v6).toNat)
  case atStart => exact ⟨n0, 0, [], s1, rfl, by omega, rfl, World.ownsRow_nil .., HR1, HZ1, HD1, HG1, HZ⟩
  case round =>
    clear HZ HR1 HZ1 HD1 HG1 hs1
    obtain ⟨k, j, xs, s', rfl, hjk, hxl, hown, HR, HS, HDr, HG, H⟩ := hrel
    have HER := Lib.hid (rerr_any g s' wr HR.out)
    have HXL := Lib.hid hxl
    by_cases hk : k = 0
    · subst hk
      obtain ⟨e1, e2⟩ := HEND.out 0 s' xs (Or.inl rfl) H.out
      subst e1 e2
      obtain ⟨A', c', rfl, hrd, hbs⟩ := rd_own hown
      have HRD := Lib.hid hrd
      have HBS := Lib.hid hbs
      subst hxl
      clear hrd hbs hown HEND
      go_wp2
      exact bodyPost_ret (v := .slice A' xs.length c') (by simp [results, Tryz.results64, go_sem]) rfl (listP_of rfl HRD.out HBS.out HR.out HG.out)
    · obtain ⟨k', rfl⟩ : ∃ k', k = k' + 1 := ⟨k - 1, by omega⟩
      have hk0 : (0 : Int) < ((k' + 1 : Nat) : Int) := by omega
      cases s' with
      | none =>
        obtain ⟨e1, e2⟩ := HEND.out (k' + 1) none xs (Or.inr rfl) H.out
        subst e1 e2
        obtain ⟨A', c', rfl, hrd, hbs⟩ := rd_own hown
        have HRD := Lib.hid hrd
        have HBS := Lib.hid hbs
        subst hxl
        clear hrd hbs hown HEND
        go_wp2_with (go_at_call 110; (with_reducible refine HER.out.mono ?_); rintro e w2 ⟨⟨x, rfl, hx⟩, rfl⟩; have hx' : (x == 0) = false := hx; clear hx)
        exact bodyPost_ret (v := .slice A' xs.length c') (by simp [results, Tryz.results64, go_sem]) rfl (listP_of rfl HRD.out HBS.out HR.out HG.out)
      | some l =>
        have HO := Lib.hid (HOne.out l wr HDr.out HR.out HS.out)
        have HM := Lib.hid (many_more (one := (exS)) H.out)
        have HSN : Hid (RSz ((exS) (some l)).2) := Lib.hid (by unfold exS; simp only; exact num_sz (txt_sz HS.out))
        have hgr := HG.out.size

        obtain ⟨⟨v0, t0⟩, hv0⟩ : ∃ x, txtS 65536 (some l) = x := ⟨_, rfl⟩
        obtain ⟨⟨v1, t1⟩, hv1⟩ : ∃ x, numS 65536 t0 = x := ⟨_, rfl⟩
        have hps : exS (some l) = (⟨v0, (v1 : Nat)⟩, t1) := by unfold exS; simp only [hv0, hv1]
        rw [hps] at HM HSN
        have HO2 : Hid (Calls Tryz.prog 65 #[.pointer (some ⟨gt, 0, none⟩), .pointer (some ⟨gn, 0, none⟩)] wr fun e w' => e = .returned (.agg #[.string v0, .int .i64 (v1 : Nat)]) ∧ RdrP w' g t1 ∧ wr.grownBy w' (some g)) := by
          simp only [hps, hv0, hv1] at HO
          exact HO
        clear HO hps hv0 hv1
        have HOWN := Lib.hid hown
        clear hown
        go_wp2_with (first | (at_builtin; refine wpList_app_ex rfl (.tmp 18) (.tmp 21) rfl w.heap.size _ j _ rfl ((own_go HOWN.out HG3.out hgl).alloc _) (some ⟨w3.heap.size, 0, none⟩) 1 1 [⟨v0, (v1 : Nat)⟩] rfl (blk_rd (Blk.made w3 83 #[.string v0, .int .i64 (v1 : Nat)]) rfl rfl) (by omega) (by simp only [World.size_alloc]; omega) ?_; intro v' w4 hown4 hg4; have HW4 := Lib.hid hown4; have HG4 := Lib.hid hg4; clear hown4 hg4) | (go_at_call 65; (with_reducible refine HO2.out.mono ?_); rintro e w3 ⟨rfl, r3, g3⟩; have HR3 := Lib.hid r3; have HG3 := Lib.hid g3; have hs3 := g3.size; clear r3 g3) | (go_at_call 110; (with_reducible refine HER.out.mono ?_); rintro e w2 ⟨⟨x, rfl, hx⟩, rfl⟩; have hx' : (x == 0) = true := hx; have hx0 : x = 0 := beq_iff_eq.1 hx'; subst hx0; clear hx hx'))
        go_roundw
        case rel =>
          have q1 := own_no HOWN.out hgl
          have q2 := own_no HOWN.out HD.out.r.lt
          have q3 := own_no HOWN.out HD.out.n.lt
          have q4 := own_no HOWN.out HD.out.t.lt
          have hgn := World.grownBy_alloc w3 (.cells #[.string v0, .int .i64 (v1 : Nat)] 83) (some g)
          have hrow : ∀ r, Value.ownBlock _ = some r → w.heap.size ≤ r ∨ some g = some r := fun r hr => Or.inl (HOWN.out.lt r hr).1
          refine ⟨k', j + 1, xs ++ [⟨v0, (v1 : Nat)⟩], t1, by go_num, by omega, by simp [HXL.out], ?_, Lib.hid ((HR3.out.new ((New.refl w3).alloc _)).far HG4.out q1), HSN, Lib.hid ((((HDr.out.go HG3.out).new ((New.refl w3).alloc _))).grown HG4.out q2 q3 q4), Lib.hid (((HG.out.trans HG3.out).trans hgn).andThen HG4.out hrow), HM⟩
          have := HW4.out
          rw [List.flatMap_append]
          exact this
        case measure => simp [intOf]
set_option maxRecDepth 100000 in
set_option maxHeartbeats 8000000 in
theorem manynt_any (g gr gn gt : Nat) (s : RS) (w : World) (hd : DW w g gr gn gt) (h : RdrP w g s) (hz : RSz s) :
    Calls Tryz.prog 66 #[.pointer (some ⟨g, 0, none⟩), .func (.func 67) #[] #[.pointer (some ⟨gt, 0, none⟩)]] w (ListP 2 w g (manyS (ntS) (numS 65536 s).1 (numS 65536 s).2).1.length ((manyS (ntS) (numS 65536 s).1 (numS 65536 s).2).1.flatMap ntC) (manyS (ntS) (numS 65536 s).1 (numS 65536 s).2).2) := by
  have HN := Lib.hid (show Calls Tryz.prog 56 #[.pointer (some ⟨g, 0, none⟩), .int .i64 0, .int .i64 65536] w _ from num_any g 65536 s w h hz (by decide))
  have hz1 := num_sz (hi := 65536) hz
  have hle := (numS_le (hi := 65536) s).1
  have hgl := h.lt
  obtain ⟨⟨n0, s1⟩, hn0⟩ : ∃ x, numS 65536 s = x := ⟨_, rfl⟩
  rw [hn0] at HN hz1 hle ⊢
  simp only at HN hz1 hle ⊢
  have HOne := Lib.hid (fun (l : List UInt8) W (d : DW W g gr gn gt) (r : RdrP W g (some l)) (z : RSz (some l)) => cnt_any g gr gn gt (some l) W d r z)
  obtain ⟨Z, hZ⟩ : ∃ Z, manyS (ntS) n0 s1 = Z := ⟨_, rfl⟩
  rw [hZ]
  obtain ⟨ZL, Z2⟩ := Z
  have HZ : Hid (([] ++ (manyS (ntS) n0 s1).1, (manyS (ntS) n0 s1).2) = (ZL, Z2)) := Lib.hid (by rw [List.nil_append]; exact hZ)
  have HEND : Hid (∀ (k : Nat) (s' : RS) (xs : List NtD), (k = 0 ∨ s' = none) → (xs ++ (manyS (ntS) k s').1, (manyS (ntS) k s').2) = (ZL, Z2) → xs = ZL ∧ s' = Z2) := Lib.hid (fun k s' xs hc e => by
    rcases hc with rfl | rfl
    · rw [manyS, List.append_nil] at e; exact ⟨(Prod.mk.inj e).1, (Prod.mk.inj e).2⟩
    · rw [many_none, List.append_nil] at e; exact ⟨(Prod.mk.inj e).1, (Prod.mk.inj e).2⟩)
  have HD := Lib.hid hd
  have D0 : Hid (w.grownBy w (some g)) := Lib.hid (World.grownBy.refl _ _)
  clear hZ hn0 h hz hd
  go_enter Tryz.func66, Tryz.ntmps66
  go_wp2_with (go_at_call 56; (with_reducible refine HN.out.mono ?_); rintro e w1 ⟨rfl, r1, g1⟩)
  have HD1 := Lib.hid (HD.out.go g1)
  have HR1 := Lib.hid r1
  have HG1 := Lib.hid g1
  have HZ1 := Lib.hid hz1
  have hs1 := g1.size
  clear r1 g1 hz1 HN
  go_loopw [5, 6] (fun v5 v6 wr => ∃ (k j : Nat) (xs : List NtD) (s' : RS), v6 = .int .i64 k ∧ j + k = n0 ∧ xs.length = j ∧ wr.ownsRow w.heap.size 40 2 v5 j (xs.flatMap ntC) ∧ Hid (RdrP wr g s') ∧ Hid (RSz s') ∧ Hid (DW wr g gr gn gt) ∧ Hid (w.grownBy wr (some g)) ∧ Hid ((xs ++ (manyS (ntS) k s').1, (manyS (ntS) k s').2) = (ZL, Z2))) (fun _ v6 _ => (intOf v6).toNat)
  case atStart => exact ⟨n0, 0, [], s1, rfl, by omega, rfl, World.ownsRow_nil .., HR1, HZ1, HD1, HG1, HZ⟩
  case round =>
    clear HZ HR1 HZ1 HD1 HG1 hs1
    obtain ⟨k, j, xs, s', rfl, hjk, hxl, hown, HR, HS, HDr, HG, H⟩ := hrel
    have HER := Lib.hid (rerr_any g s' wr HR.out)
    have HXL := Lib.hid hxl
    by_cases hk : k = 0
    · subst hk
      obtain ⟨e1, e2⟩ := HEND.out 0 s' xs (Or.inl rfl) H.out
      subst e1 e2
      obtain ⟨A', c', rfl, hrd, hbs⟩ := rd_own hown
      have HRD := Lib.hid hrd
      have HBS := Lib.hid hbs
      subst hxl
      clear hrd hbs hown HEND
      go_wp2
      exact bodyPost_ret (v := .slice A' xs.length c') (by simp [results, Tryz.results66, go_sem]) rfl (listP_of rfl HRD.out HBS.out HR.out HG.out)
    · obtain ⟨k', rfl⟩ : ∃ k', k = k' + 1 := ⟨k - 1, by omega⟩
      have hk0 : (0 : Int) < ((k' + 1 : Nat) : Int) := by omega
      cases s' with
      | none =>
        obtain ⟨e1, e2⟩ := HEND.out (k' + 1) none xs (Or.inr rfl) H.out
        subst e1 e2
        obtain ⟨A', c', rfl, hrd, hbs⟩ := rd_own hown
        have HRD := Lib.hid hrd
        have HBS := Lib.hid hbs
        subst hxl
        clear hrd hbs hown HEND
        go_wp2_with (go_at_call 110; (with_reducible refine HER.out.mono ?_); rintro e w2 ⟨⟨x, rfl, hx⟩, rfl⟩; have hx' : (x == 0) = false := hx; clear hx)
        exact bodyPost_ret (v := .slice A' xs.length c') (by simp [results, Tryz.results66, go_sem]) rfl (listP_of rfl HRD.out HBS.out HR.out HG.out)
      | some l =>
        have HO := Lib.hid (HOne.out l wr HDr.out HR.out HS.out)
        have HM := Lib.hid (many_more (one := (ntS)) H.out)
        have HSN : Hid (RSz ((ntS) (some l)).2) := Lib.hid (by unfold ntS; simp only; exact txt_sz (txt_sz HS.out))
        have hgr := HG.out.size

        obtain ⟨⟨v0, t0⟩, hv0⟩ : ∃ x, txtS 65536 (some l) = x := ⟨_, rfl⟩
        obtain ⟨⟨v1, t1⟩, hv1⟩ : ∃ x, txtS 65536 t0 = x := ⟨_, rfl⟩
        have hps : ntS (some l) = (⟨v0, v1⟩, t1) := by unfold ntS; simp only [hv0, hv1]
        rw [hps] at HM HSN
        have HO2 : Hid (Calls Tryz.prog 67 #[.pointer (some ⟨gt, 0, none⟩)] wr fun e w' => e = .returned (.agg #[.string v0, .string v1]) ∧ RdrP w' g t1 ∧ wr.grownBy w' (some g)) := by
          simp only [hps, hv0, hv1] at HO
          exact HO
        clear HO hps hv0 hv1
        have HOWN := Lib.hid hown
        clear hown
        go_wp2_with (first | (at_builtin; refine wpList_app_nt rfl (.tmp 18) (.tmp 21) rfl w.heap.size _ j _ rfl ((own_go HOWN.out HG3.out hgl).alloc _) (some ⟨w3.heap.size, 0, none⟩) 1 1 [⟨v0, v1⟩] rfl (blk_rd (Blk.made w3 40 #[.string v0, .string v1]) rfl rfl) (by omega) (by simp only [World.size_alloc]; omega) ?_; intro v' w4 hown4 hg4; have HW4 := Lib.hid hown4; have HG4 := Lib.hid hg4; clear hown4 hg4) | (go_at_call 67; (with_reducible refine HO2.out.mono ?_); rintro e w3 ⟨rfl, r3, g3⟩; have HR3 := Lib.hid r3; have HG3 := Lib.hid g3; have hs3 := g3.size; clear r3 g3) | (go_at_call 110; (with_reducible refine HER.out.mono ?_); rintro e w2 ⟨⟨x, rfl, hx⟩, rfl⟩; have hx' : (x == 0) = true := hx; have hx0 : x = 0 := beq_iff_eq.1 hx'; subst hx0; clear hx hx'))
        go_roundw
        case rel =>
          have q1 := own_no HOWN.out hgl
          have q2 := own_no HOWN.out HD.out.r.lt
          have q3 := own_no HOWN.out HD.out.n.lt
          have q4 := own_no HOWN.out HD.out.t.lt
          have hgn := World.grownBy_alloc w3 (.cells #[.string v0, .string v1] 40) (some g)
          have hrow : ∀ r, Value.ownBlock _ = some r → w.heap.size ≤ r ∨ some g = some r := fun r hr => Or.inl (HOWN.out.lt r hr).1
          refine ⟨k', j + 1, xs ++ [⟨v0, v1⟩], t1, by go_num, by omega, by simp [HXL.out], ?_, Lib.hid ((HR3.out.new ((New.refl w3).alloc _)).far HG4.out q1), HSN, Lib.hid ((((HDr.out.go HG3.out).new ((New.refl w3).alloc _))).grown HG4.out q2 q3 q4), Lib.hid (((HG.out.trans HG3.out).trans hgn).andThen HG4.out hrow), HM⟩
          have := HW4.out
          rw [List.flatMap_append]
          exact this
        case measure => simp [intOf]
end Go.Proofs.YtnknmpcgbfmfjaaGreatDoor

