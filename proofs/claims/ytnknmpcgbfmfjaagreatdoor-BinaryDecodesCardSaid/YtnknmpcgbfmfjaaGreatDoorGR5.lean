/- The reference's words: which fixups and imports are right. Conditions: the places are right; sizes. (Printed by mk-r5.py.) -/
import Derived.Test.YtnknmpcgbfmfjaaGreatDoorGBase
import Derived.Test.YtnknmpcgbfmfjaaGreatDoorGR1
import Derived.Test.YtnknmpcgbfmfjaaGreatDoorGN2
import Derived.Deep.RegionHeld3

namespace Go.Proofs.YtnknmpcgbfmfjaaGreatDoor
open Go Go.RowKit Go.Joins
set_option linter.unusedSimpArgs false
set_option linter.unusedVariables false

def LastOK (T : List Int) (last : Int) : Prop := (T = [] ∧ last = -4) ∨ ((∃ r, T = last :: r) ∧ (∀ f ∈ T, f ≤ last) ∧ 0 ≤ last ∧ last ≤ 65536)
theorem LastOK.bd {T : List Int} {last : Int} (h : LastOK T last) : -4 ≤ last ∧ last ≤ 65536 := by
  rcases h with ⟨_, h⟩ | ⟨_, _, h1, h2⟩ <;> omega
theorem last_take {b : Bn} (hP : PlOK b) {T : List Int} {last a : Int} (h : LastOK T last) :
    (ltHead T a && takeV b.places T a) = (decide (last + 4 ≤ a) && withinV b.places a) := by
  unfold takeV
  cases hw : withinV b.places a
  · simp
  · obtain ⟨b1, b2⟩ := within_bd hP hw
    rw [Bool.true_and, Bool.and_true]
    rcases h with ⟨rfl, rfl⟩ | ⟨⟨r, rfl⟩, h1, h2, h3⟩
    · rw [decide_eq_true (by omega : (-4 : Int) + 4 ≤ a)]; rfl
    · show (decide (last < a) && !clash (last :: r) a) = _
      by_cases hc : last + 4 ≤ a
      · have : clash (last :: r) a = false := by
          unfold clash
          rw [List.any_eq_false]
          intro f hf
          have := h1 f hf
          rw [decide_eq_false (by omega : ¬ a < f + 4), Bool.and_false]
          decide
        rw [this, decide_eq_true hc, decide_eq_true (by omega : last < a)]; rfl
      · rw [decide_eq_false hc]
        by_cases hl : last < a
        · have : clash (last :: r) a = true := by
            unfold clash
            rw [List.any_eq_true]
            exact ⟨last, List.mem_cons_self, by rw [decide_eq_true (by omega : last < a + 4), decide_eq_true (by omega : a < last + 4)]; rfl⟩
          rw [this]; simp
        · rw [decide_eq_false hl]; rfl
theorem last_next {b : Bn} (hP : PlOK b) {T : List Int} {last a : Int} (h : LastOK T last) (h1 : last + 4 ≤ a) (hw : withinV b.places a = true) : LastOK (a :: T) a := by
  obtain ⟨b1, b2⟩ := within_bd hP hw
  have := hP.le
  refine Or.inr ⟨⟨T, rfl⟩, fun f hf => ?_, b1, by omega⟩
  rcases List.mem_cons.1 hf with rfl | hf
  · omega
  · rcases h with ⟨rfl, _⟩ | ⟨_, h2, _⟩
    · cases hf
    · have := h2 f hf; omega
theorem clash_app (P F : List Int) (a : Int) : clash (P ++ F) a = (clash P a || clash F a) := by unfold clash; rw [List.any_append]
theorem clash_rev (F : List Int) (a : Int) : clash F.reverse a = clash F a := by unfold clash; rw [List.any_reverse]
theorem imp_ref {b : Bn} (hP : PlOK b) {P F : List Int} {last : Int} {x : ImD} (h : LastOK P last) :
    impOK b.places b.image P F.reverse x = (decide (last + 4 ≤ x.pos) && withinV b.places x.pos && decide (wordV b.image x.pos.toNat = 0) && pathOK x.lib && nameV x.sym && !clash F x.pos) := by
  have ht := last_take hP (a := x.pos) h
  unfold impOK
  unfold takeV at ht ⊢
  rw [clash_app, clash_rev]
  rw [← Bool.and_assoc] at ht
  rw [← ht]
  cases ltHead P x.pos <;> cases withinV b.places x.pos <;> cases clash P x.pos <;> cases clash F x.pos <;> cases decide (wordV b.image x.pos.toNat = 0) <;> cases pathOK x.lib <;> cases nameV x.sym <;> rfl
theorem begP_starts (ps : List PlD) (a : Int) : ps.any (begP a ⟨#[]⟩) = startsV ps a := by
  unfold startsV
  congr 1
  funext p
  unfold begP posV
  rw [decide_eq_true (by rfl : (⟨#[]⟩ : ByteArray).size = 0), Bool.true_or, Bool.and_true]
set_option maxRecDepth 100000 in
set_option maxHeartbeats 8000000 in
theorem rwords_any (b : Bn) (h : BH) (w : World) (hP : PlOK b) (hr : BRd w b h) (hl1 : b.fix.length ≤ 1000000) (hl2 : b.imps.length ≤ 1000000) (hz1 : ∀ a ∈ b.fix, W64 a) (hz2 : SzI b.imps) :
    Calls Tryz.prog 51 #[.agg (bcells b h)] w fun e w' => e = .returned (.bool (wordsV b)) ∧ New w w' := by
  have HWI := Lib.hid (fun a W (hn : New w W) => rwithin_any b h a W hP (hr.new hn))
  have HBG := Lib.hid (fun a W (hn : New w W) => rbegins_any b h a ⟨#[]⟩ W (by have := hP.len; omega) (hr.new hn))
  have HBd := Lib.hid (fun a (hw : withinV b.places a = true) => within_bd hP hw)
  have HLT := Lib.hid (fun T last a (hh : LastOK T last) => last_take hP (a := a) hh)
  have HLN := Lib.hid (fun T last a (hh : LastOK T last) (h1 : last + 4 ≤ a) (hw : withinV b.places a = true) => last_next hP hh h1 hw)
  have HIR := Lib.hid (fun P F last x (hh : LastOK P last) => imp_ref hP (F := F) (x := x) hh)
  have hle := hP.le
  have hR2 := hr.r2
  have hR3 := hr.r3
  obtain ⟨kind, entry, image, places, fix, imps, exps, notes⟩ := b
  obtain ⟨a1, c1, a2, c2, a3, c3, a4, c4, a5, c5⟩ := h
  simp only [bcells] at HWI HBG HBd HLT HLN HIR hle hl1 hl2 hz1 hz2 hR2 hR3 ⊢
  have HZ1 := Lib.hid hz1
  have HZ2 := Lib.hid hz2
  have HST := Lib.hid (begP_starts places)
  obtain ⟨n1, hn1⟩ : ∃ n, places.length = n := ⟨_, rfl⟩
  obtain ⟨n, hn⟩ : ∃ n, fix.length = n := ⟨_, rfl⟩
  obtain ⟨n3, hn3⟩ : ∃ n, imps.length = n := ⟨_, rfl⟩
  rw [hn] at hR2 hl1
  rw [hn3] at hR3 hl2
  have HN := Lib.hid hn
  have HN3 := Lib.hid hn3
  have HR2 := Lib.hid hR2
  have HR3 := Lib.hid hR3
  rw [hn1, hn, hn3] at HWI HBG ⊢
  generalize exps.length = n4 at *
  generalize notes.length = n5 at *
  have hv : wordsV ⟨kind, entry, image, places, fix, imps, exps, notes⟩ = (fixGo places image fix [] && impGo places image fix.reverse imps []) := rfl
  rw [hv]
  obtain ⟨R, hR9⟩ : ∃ R, (fixGo places image fix [] && impGo places image fix.reverse imps []) = R := ⟨_, rfl⟩
  rw [hR9]
  have HRR := Lib.hid hR9
  have B1 := Blk.made w 28 #[.int .i64 kind, .int .i64 entry, .string image, .slice a1 n1 c1, .slice a2 n c2, .slice a3 n3 c3, .slice a4 n4 c4, .slice a5 n5 c5]
  have hw1 := (New.refl w).alloc (.cells #[.int .i64 kind, .int .i64 entry, .string image, .slice a1 n1 c1, .slice a2 n c2, .slice a3 n3 c3, .slice a4 n4 c4, .slice a5 n5 c5] 28)
  clear hv hr hz1 hz2 hR2 hR3 hn1 hn hn3 hP hR9
  go_enter Tryz.func51, Tryz.ntmps51
  go_wp2
  go_loopw [3, 13] (fun v3 v13 wr => ∃ (i : Nat) (last : Int), v13 = .int .i64 i ∧ v3 = .int .i64 last ∧ i ≤ n ∧ New w wr ∧ Blk wr w.heap.size 28 #[.int .i64 kind, .int .i64 entry, .string image, .slice a1 n1 c1, .slice a2 n c2, .slice a3 n3 c3, .slice a4 n4 c4, .slice a5 n5 c5] ∧ Hid (LastOK (fix.take i).reverse last) ∧ Hid (fixGo places image fix [] = fixGo places image (fix.drop i) (fix.take i).reverse)) (fun _ v13 _ => n - (intOf v13).toNat)
  case atStart => exact ⟨0, -4, rfl, rfl, by omega, hw1, B1, Lib.hid (Or.inl ⟨rfl, rfl⟩), Lib.hid rfl⟩
  case round =>
    clear B1 hw1
    obtain ⟨i, last, rfl, rfl, hi9, hnr, BR, HLO, HGo⟩ := hrel
    obtain ⟨b1, b2⟩ := HLO.out.bd
    by_cases hlt : i < n
    · have hil : i < fix.length := by rw [HN.out]; exact hlt
      obtain ⟨bk, o, rfl, hbk, hcell⟩ := (HR2.out.below hnr).2 (by omega)
      obtain ⟨a, hx⟩ : ∃ x, fix[i]? = some x := ⟨_, List.getElem?_eq_getElem hil⟩
      have q0 := hcell i (.int .i64 a) (by rw [flat_one, hx]; rfl)
      have HG2 := Lib.hid (fixGo_at (ps := places) (img := image) (T := (fix.take i).reverse) hx)
      have HRV := Lib.hid (rev_take hx)
      have ha := HZ1.out a (List.mem_of_getElem? hx)
      have HFX : Hid (fixOK places image (fix.take i).reverse a = (decide (last + 4 ≤ a) && withinV places a && startsV places (wordV image a.toNat))) := Lib.hid (by
        have := HLT.out _ last a HLO.out
        unfold fixOK
        rw [this])
      have HBad : Hid (fixOK places image (fix.take i).reverse a = false → R = false) := Lib.hid (fun q => by rw [← HRR.out, HGo.out, HG2.out, q]; rfl)
      have HI := Lib.hid (HWI.out a)
      have d0 := BR.cell' 0 _ rfl
      have d1 := BR.cell' 1 _ rfl
      have d2 := BR.cell' 2 _ rfl
      have d3 := BR.cell' 3 _ rfl
      have d4 := BR.cell' 4 _ rfl
      have d5 := BR.cell' 5 _ rfl
      have d6 := BR.cell' 6 _ rfl
      have d7 := BR.cell' 7 _ rfl
      have i0 : (0 : Int) ≤ (i : Int) := by omega
      have i1 : (i : Int) < (n : Int) := by omega
      have wl : IntKind.i64.wrap (last + 4) = last + 4 := IntWalk.i64_in _ (by omega)
      clear hcell hx hil
      by_cases hla : last + 4 ≤ a
      · have t1 : decide (a < last + 4) = false := decide_eq_false (by omega)
        rw [decide_eq_true hla, Bool.true_and] at HFX
        obtain ⟨wi, hwi⟩ : ∃ x, withinV places a = x := ⟨_, rfl⟩
        rw [hwi] at HI HFX
        cases wi
        · have hRf := HBad.out (by rw [HFX.out]; rfl)
          subst hRf
          clear hwi
          go_wp2_with (fail)
          refine wp_region_held_drew (S := (New _)) (by kernel_rfl) ((New.refl _).drew) (fun hS => ?_)
          refine tkQ (i := 0) (oi := ?o21) (v := ?v21) ?h21 ?q21 ?y21 hS ?_; (case h21 => (simp only [gqA, gqB, gqC]; rfl)); (case q21 => exact fun _ _ _ h => h); (case y21 => (refine Or.inl ⟨by kernel_rfl, ?_⟩; intro wq hSq; clear hSq; go_simp; (try with_reducible rfl))); simp only [Act.put, List.setIfInBounds_toArray, List.set_cons_zero, List.set_cons_succ]
          refine tkQ (i := 1) (oi := ?o22) (v := ?v22) ?h22 ?q22 ?y22 hS ?_; (case h22 => (simp only [gqA, gqB, gqC]; rfl)); (case q22 => exact fun _ _ _ h => h); (case y22 => (refine Or.inl ⟨by kernel_rfl, ?_⟩; intro wq hSq; clear hSq; go_simp; (try with_reducible rfl))); simp only [Act.put, List.setIfInBounds_toArray, List.set_cons_zero, List.set_cons_succ]
          refine tkQ (i := 2) (oi := ?o23) (v := ?v23) ?h23 ?q23 ?y23 hS ?_; (case h23 => (simp only [gqA, gqB, gqC]; rfl)); (case q23 => exact fun _ _ _ h => h); (case y23 => (refine Or.inl ⟨by kernel_rfl, ?_⟩; intro wq hSq; clear hSq; go_simp; (try with_reducible rfl))); simp only [Act.put, List.setIfInBounds_toArray, List.set_cons_zero, List.set_cons_succ]
          refine tkQ (i := 3) (oi := ?o24) (v := ?v24) ?h24 ?q24 ?y24 hS ?_; (case h24 => (simp only [gqA, gqB, gqC]; rfl)); (case q24 => exact fun _ _ _ h => h); (case y24 => (refine Or.inl ⟨by kernel_rfl, ?_⟩; intro wq hSq; clear hSq; go_simp; (try with_reducible rfl))); simp only [Act.put, List.setIfInBounds_toArray, List.set_cons_zero, List.set_cons_succ]
          refine tkQ (i := 4) (oi := ?o25) (v := ?v25) ?h25 ?q25 ?y25 hS ?_; (case h25 => (simp only [gqA, gqB, gqC]; rfl)); (case q25 => exact fun _ _ _ h => h); (case y25 => (refine Or.inl ⟨by kernel_rfl, ?_⟩; intro wq hSq; clear hSq; go_simp; (try with_reducible rfl))); simp only [Act.put, List.setIfInBounds_toArray, List.set_cons_zero, List.set_cons_succ]
          refine tkQ (i := 5) (oi := ?o26) (v := ?v26) ?h26 ?q26 ?y26 hS ?_; (case h26 => (simp only [gqA, gqB, gqC]; rfl)); (case q26 => exact fun _ _ _ h => h); (case y26 => (refine Or.inl ⟨by kernel_rfl, ?_⟩; intro wq hSq; have hf0 := cell_new hSq d0; have hf1 := cell_new hSq d1; have hf2 := cell_new hSq d2; have hf3 := cell_new hSq d3; have hf4 := cell_new hSq d4; have hf5 := cell_new hSq d5; have hf6 := cell_new hSq d6; have hf7 := cell_new hSq d7; clear hSq; go_simp; (try with_reducible rfl))); simp only [Act.put, List.setIfInBounds_toArray, List.set_cons_zero, List.set_cons_succ]
          refine tkQ (i := 6) (oi := ?o27) (v := ?v27) ?h27 ?q27 ?y27 hS ?_; (case h27 => (simp only [gqA, gqB, gqC]; rfl)); (case q27 => exact fun _ _ _ h => h); (case y27 => (refine Or.inl ⟨by kernel_rfl, ?_⟩; intro wq hSq; clear hSq; go_simp; (try with_reducible rfl))); simp only [Act.put, List.setIfInBounds_toArray, List.set_cons_zero, List.set_cons_succ]
          refine wpAnyH_ready (rs := [7]) (by kernel_rfl) (by simp) ?_
          refine AllReadyH.cons (o := ?oi28) ?hi28 (fun K hK => ?_) AllReadyH.nil
          case hi28 => (simp only [gqA, gqB, gqC]; rfl)
          go_simp
          with_reducible refine (HI.out _ ((New.trans hnr (New.refl _).drew))).mono ?_
          rintro e w2 ⟨rfl, hn2⟩
          refine hK.out _ _ (hS.trans hn2) (fun hS => ?_)
          clear hK K
          refine tkQ (i := 8) (oi := ?o29) (v := ?v29) ?h29 ?q29 ?y29 hS ?_; (case h29 => (simp only [gqA, gqB, gqC]; rfl)); (case q29 => exact fun _ _ _ h => h); (case y29 => (refine Or.inl ⟨by kernel_rfl, ?_⟩; intro wq hSq; clear hSq; go_simp; (try with_reducible rfl))); simp only [Act.put, List.setIfInBounds_toArray, List.set_cons_zero, List.set_cons_succ]
          refine tkQ (i := 9) (oi := ?o30) (v := ?v30) ?h30 ?q30 ?y30 hS ?_; (case h30 => (simp only [gqA, gqB, gqC]; rfl)); (case q30 => exact fun _ _ _ h => h); (case y30 => (refine Or.inl ⟨by kernel_rfl, ?_⟩; intro wq hSq; clear hSq; go_simp; (try with_reducible rfl))); simp only [Act.put, List.setIfInBounds_toArray, List.set_cons_zero, List.set_cons_succ]
          refine tkQ (i := 10) (oi := ?o31) (v := ?v31) ?h31 ?q31 ?y31 hS ?_; (case h31 => (simp only [gqA, gqB, gqC]; rfl)); (case q31 => exact fun _ _ _ h => h); (case y31 => (refine Or.inl ⟨by kernel_rfl, ?_⟩; intro wq hSq; clear hSq; go_simp; (try with_reducible rfl))); simp only [Act.put, List.setIfInBounds_toArray, List.set_cons_zero, List.set_cons_succ]
          refine tkQ (i := 11) (oi := ?o32) (v := undef) ?h32 ?q32 ?y32 hS ?_; (case h32 => (simp only [gqA, gqB, gqC]; rfl)); (case q32 => exact fun _ _ _ h => h); (case y32 => (exact Or.inr ⟨by kernel_rfl, rfl⟩)); simp only [Act.put, List.setIfInBounds_toArray, List.set_cons_zero, List.set_cons_succ]
          refine tkQ (i := 12) (oi := ?o33) (v := undef) ?h33 ?q33 ?y33 hS ?_; (case h33 => (simp only [gqA, gqB, gqC]; rfl)); (case q33 => exact fun _ _ _ h => h); (case y33 => (exact Or.inr ⟨by kernel_rfl, rfl⟩)); simp only [Act.put, List.setIfInBounds_toArray, List.set_cons_zero, List.set_cons_succ]
          refine tkQ (i := 13) (oi := ?o34) (v := undef) ?h34 ?q34 ?y34 hS ?_; (case h34 => (simp only [gqA, gqB, gqC]; rfl)); (case q34 => exact fun _ _ _ h => h); (case y34 => (exact Or.inr ⟨by kernel_rfl, rfl⟩)); simp only [Act.put, List.setIfInBounds_toArray, List.set_cons_zero, List.set_cons_succ]
          refine tkQ (i := 14) (oi := ?o35) (v := undef) ?h35 ?q35 ?y35 hS ?_; (case h35 => (simp only [gqA, gqB, gqC]; rfl)); (case q35 => exact fun _ _ _ h => h); (case y35 => (exact Or.inr ⟨by kernel_rfl, rfl⟩)); simp only [Act.put, List.setIfInBounds_toArray, List.set_cons_zero, List.set_cons_succ]
          refine tkQ (i := 15) (oi := ?o36) (v := undef) ?h36 ?q36 ?y36 hS ?_; (case h36 => (simp only [gqA, gqB, gqC]; rfl)); (case q36 => exact fun _ _ _ h => h); (case y36 => (exact Or.inr ⟨by kernel_rfl, rfl⟩)); simp only [Act.put, List.setIfInBounds_toArray, List.set_cons_zero, List.set_cons_succ]
          refine tkQ (i := 16) (oi := ?o37) (v := undef) ?h37 ?q37 ?y37 hS ?_; (case h37 => (simp only [gqA, gqB, gqC]; rfl)); (case q37 => exact fun _ _ _ h => h); (case y37 => (exact Or.inr ⟨by kernel_rfl, rfl⟩)); simp only [Act.put, List.setIfInBounds_toArray, List.set_cons_zero, List.set_cons_succ]
          refine tkQ (i := 17) (oi := ?o38) (v := undef) ?h38 ?q38 ?y38 hS ?_; (case h38 => (simp only [gqA, gqB, gqC]; rfl)); (case q38 => exact fun _ _ _ h => h); (case y38 => (exact Or.inr ⟨by kernel_rfl, rfl⟩)); simp only [Act.put, List.setIfInBounds_toArray, List.set_cons_zero, List.set_cons_succ]
          refine tkQ (i := 18) (oi := ?o39) (v := undef) ?h39 ?q39 ?y39 hS ?_; (case h39 => (simp only [gqA, gqB, gqC]; rfl)); (case q39 => exact fun _ _ _ h => h); (case y39 => (exact Or.inr ⟨by kernel_rfl, rfl⟩)); simp only [Act.put, List.setIfInBounds_toArray, List.set_cons_zero, List.set_cons_succ]
          refine tkQ (i := 19) (oi := ?o40) (v := ?v40) ?h40 ?q40 ?y40 hS ?_; (case h40 => (simp only [gqA, gqB, gqC]; rfl)); (case q40 => exact fun _ _ _ h => h); (case y40 => (refine Or.inl ⟨by kernel_rfl, ?_⟩; intro wq hSq; clear hSq; go_simp; (try with_reducible rfl))); simp only [Act.put, List.setIfInBounds_toArray, List.set_cons_zero, List.set_cons_succ]
          refine wpAnyH_done (by kernel_rfl) ?_ _
          go_wp2
          go_ret
          exact ⟨rfl, New.trans (New.trans hnr (New.refl _).drew) hn2⟩
        · have HWT := Lib.hid hwi
          obtain ⟨b3, b4⟩ := HBd.out a hwi
          obtain ⟨an, rfl⟩ : ∃ an : Nat, a = (an : Int) := ⟨a.toNat, by omega⟩
          rw [Int.toNat_natCast, Bool.true_and] at HFX
          have HW := Lib.hid (fun W => rword_any image an W (by omega) (by omega))
          have HB0 := Lib.hid (HBG.out (wordV image an))
          have hwr : 0 ≤ wordV image an ∧ wordV image an < 4294967296 := by
            unfold wordV
            have h0 := byN_lt image an
            have h1 := byN_lt image (an + 1)
            have h2 := byN_lt image (an + 2)
            have h3 := byN_lt image (an + 3)
            omega
          have HS9 := Lib.hid (HST.out (wordV image an))
          rw [← HS9.out] at HFX
          clear hwi HS9
          generalize wordV image an = wv at *
          obtain ⟨hwr1, hwr2⟩ := hwr
          have wwv : IntKind.i64.wrap wv = wv := IntWalk.i64_in _ (by omega)
          have HB := Lib.hid HB0.out
          clear HB0
          obtain ⟨st, hst⟩ : ∃ st, places.any (begP wv ⟨#[]⟩) = st := ⟨_, rfl⟩
          rw [hst] at HB HFX
          clear hst
          cases st
          · have hRf := HBad.out HFX.out
            subst hRf
            go_wp2_with (fail)
            refine wp_region_held_drew (S := (New _)) (by kernel_rfl) ((New.refl _).drew) (fun hS => ?_)
            refine tkQ (i := 0) (oi := ?o41) (v := ?v41) ?h41 ?q41 ?y41 hS ?_; (case h41 => (simp only [gqA, gqB, gqC]; rfl)); (case q41 => exact fun _ _ _ h => h); (case y41 => (refine Or.inl ⟨by kernel_rfl, ?_⟩; intro wq hSq; clear hSq; go_simp; (try with_reducible rfl))); simp only [Act.put, List.setIfInBounds_toArray, List.set_cons_zero, List.set_cons_succ]
            refine tkQ (i := 1) (oi := ?o42) (v := ?v42) ?h42 ?q42 ?y42 hS ?_; (case h42 => (simp only [gqA, gqB, gqC]; rfl)); (case q42 => exact fun _ _ _ h => h); (case y42 => (refine Or.inl ⟨by kernel_rfl, ?_⟩; intro wq hSq; clear hSq; go_simp; (try with_reducible rfl))); simp only [Act.put, List.setIfInBounds_toArray, List.set_cons_zero, List.set_cons_succ]
            refine tkQ (i := 2) (oi := ?o43) (v := ?v43) ?h43 ?q43 ?y43 hS ?_; (case h43 => (simp only [gqA, gqB, gqC]; rfl)); (case q43 => exact fun _ _ _ h => h); (case y43 => (refine Or.inl ⟨by kernel_rfl, ?_⟩; intro wq hSq; clear hSq; go_simp; (try with_reducible rfl))); simp only [Act.put, List.setIfInBounds_toArray, List.set_cons_zero, List.set_cons_succ]
            refine tkQ (i := 3) (oi := ?o44) (v := ?v44) ?h44 ?q44 ?y44 hS ?_; (case h44 => (simp only [gqA, gqB, gqC]; rfl)); (case q44 => exact fun _ _ _ h => h); (case y44 => (refine Or.inl ⟨by kernel_rfl, ?_⟩; intro wq hSq; clear hSq; go_simp; (try with_reducible rfl))); simp only [Act.put, List.setIfInBounds_toArray, List.set_cons_zero, List.set_cons_succ]
            refine tkQ (i := 4) (oi := ?o45) (v := ?v45) ?h45 ?q45 ?y45 hS ?_; (case h45 => (simp only [gqA, gqB, gqC]; rfl)); (case q45 => exact fun _ _ _ h => h); (case y45 => (refine Or.inl ⟨by kernel_rfl, ?_⟩; intro wq hSq; clear hSq; go_simp; (try with_reducible rfl))); simp only [Act.put, List.setIfInBounds_toArray, List.set_cons_zero, List.set_cons_succ]
            refine tkQ (i := 5) (oi := ?o46) (v := ?v46) ?h46 ?q46 ?y46 hS ?_; (case h46 => (simp only [gqA, gqB, gqC]; rfl)); (case q46 => exact fun _ _ _ h => h); (case y46 => (refine Or.inl ⟨by kernel_rfl, ?_⟩; intro wq hSq; have hf0 := cell_new hSq d0; have hf1 := cell_new hSq d1; have hf2 := cell_new hSq d2; have hf3 := cell_new hSq d3; have hf4 := cell_new hSq d4; have hf5 := cell_new hSq d5; have hf6 := cell_new hSq d6; have hf7 := cell_new hSq d7; clear hSq; go_simp; (try with_reducible rfl))); simp only [Act.put, List.setIfInBounds_toArray, List.set_cons_zero, List.set_cons_succ]
            refine tkQ (i := 6) (oi := ?o47) (v := ?v47) ?h47 ?q47 ?y47 hS ?_; (case h47 => (simp only [gqA, gqB, gqC]; rfl)); (case q47 => exact fun _ _ _ h => h); (case y47 => (refine Or.inl ⟨by kernel_rfl, ?_⟩; intro wq hSq; clear hSq; go_simp; (try with_reducible rfl))); simp only [Act.put, List.setIfInBounds_toArray, List.set_cons_zero, List.set_cons_succ]
            refine wpAnyH_ready (rs := [7]) (by kernel_rfl) (by simp) ?_
            refine AllReadyH.cons (o := ?oi48) ?hi48 (fun K hK => ?_) AllReadyH.nil
            case hi48 => (simp only [gqA, gqB, gqC]; rfl)
            go_simp
            with_reducible refine (HI.out _ ((New.trans hnr (New.refl _).drew))).mono ?_
            rintro e w2 ⟨rfl, hn2⟩
            refine hK.out _ _ (hS.trans hn2) (fun hS => ?_)
            clear hK K
            refine tkQ (i := 8) (oi := ?o49) (v := ?v49) ?h49 ?q49 ?y49 hS ?_; (case h49 => (simp only [gqA, gqB, gqC]; rfl)); (case q49 => exact fun _ _ _ h => h); (case y49 => (refine Or.inl ⟨by kernel_rfl, ?_⟩; intro wq hSq; clear hSq; go_simp; (try with_reducible rfl))); simp only [Act.put, List.setIfInBounds_toArray, List.set_cons_zero, List.set_cons_succ]
            refine tkQ (i := 9) (oi := ?o50) (v := ?v50) ?h50 ?q50 ?y50 hS ?_; (case h50 => (simp only [gqA, gqB, gqC]; rfl)); (case q50 => exact fun _ _ _ h => h); (case y50 => (refine Or.inl ⟨by kernel_rfl, ?_⟩; intro wq hSq; clear hSq; go_simp; (try with_reducible rfl))); simp only [Act.put, List.setIfInBounds_toArray, List.set_cons_zero, List.set_cons_succ]
            refine tkQ (i := 10) (oi := ?o51) (v := ?v51) ?h51 ?q51 ?y51 hS ?_; (case h51 => (simp only [gqA, gqB, gqC]; rfl)); (case q51 => exact fun _ _ _ h => h); (case y51 => (refine Or.inl ⟨by kernel_rfl, ?_⟩; intro wq hSq; clear hSq; go_simp; (try with_reducible rfl))); simp only [Act.put, List.setIfInBounds_toArray, List.set_cons_zero, List.set_cons_succ]
            refine tkQ (i := 11) (oi := ?o52) (v := ?v52) ?h52 ?q52 ?y52 hS ?_; (case h52 => (simp only [gqA, gqB, gqC]; rfl)); (case q52 => exact fun _ _ _ h => h); (case y52 => (refine Or.inl ⟨by kernel_rfl, ?_⟩; intro wq hSq; have hf0 := cell_new hSq d0; have hf1 := cell_new hSq d1; have hf2 := cell_new hSq d2; have hf3 := cell_new hSq d3; have hf4 := cell_new hSq d4; have hf5 := cell_new hSq d5; have hf6 := cell_new hSq d6; have hf7 := cell_new hSq d7; clear hSq; go_simp; (try with_reducible rfl))); simp only [Act.put, List.setIfInBounds_toArray, List.set_cons_zero, List.set_cons_succ]
            refine tkQ (i := 12) (oi := ?o53) (v := ?v53) ?h53 ?q53 ?y53 hS ?_; (case h53 => (simp only [gqA, gqB, gqC]; rfl)); (case q53 => exact fun _ _ _ h => h); (case y53 => (refine Or.inl ⟨by kernel_rfl, ?_⟩; intro wq hSq; clear hSq; go_simp; (try with_reducible rfl))); simp only [Act.put, List.setIfInBounds_toArray, List.set_cons_zero, List.set_cons_succ]
            refine tkQ (i := 13) (oi := ?o54) (v := ?v54) ?h54 ?q54 ?y54 hS ?_; (case h54 => (simp only [gqA, gqB, gqC]; rfl)); (case q54 => exact fun _ _ _ h => h); (case y54 => (refine Or.inl ⟨by kernel_rfl, ?_⟩; intro wq hSq; have hf0 := cell_new hSq d0; have hf1 := cell_new hSq d1; have hf2 := cell_new hSq d2; have hf3 := cell_new hSq d3; have hf4 := cell_new hSq d4; have hf5 := cell_new hSq d5; have hf6 := cell_new hSq d6; have hf7 := cell_new hSq d7; clear hSq; go_simp; (try with_reducible rfl))); simp only [Act.put, List.setIfInBounds_toArray, List.set_cons_zero, List.set_cons_succ]
            refine tkQ (i := 14) (oi := ?o55) (v := ?v55) ?h55 ?q55 ?y55 hS ?_; (case h55 => (simp only [gqA, gqB, gqC]; rfl)); (case q55 => exact fun _ _ _ h => h); (case y55 => (refine Or.inl ⟨by kernel_rfl, ?_⟩; intro wq hSq; clear hSq; go_simp; (try with_reducible rfl))); simp only [Act.put, List.setIfInBounds_toArray, List.set_cons_zero, List.set_cons_succ]
            refine wpAnyH_ready (rs := [15]) (by kernel_rfl) (by simp) ?_
            refine AllReadyH.cons (o := ?oi56) ?hi56 (fun K hK => ?_) AllReadyH.nil
            case hi56 => (simp only [gqA, gqB, gqC]; rfl)
            go_simp
            with_reducible refine (HW.out _).mono ?_
            rintro e w3 ⟨rfl, hn3⟩
            refine hK.out _ _ (hS.trans hn3) (fun hS => ?_)
            clear hK K
            refine tkQ (i := 16) (oi := ?o57) (v := ?v57) ?h57 ?q57 ?y57 hS ?_; (case h57 => (simp only [gqA, gqB, gqC]; rfl)); (case q57 => exact fun _ _ _ h => h); (case y57 => (refine Or.inl ⟨by kernel_rfl, ?_⟩; intro wq hSq; clear hSq; go_simp; (try with_reducible rfl))); simp only [Act.put, List.setIfInBounds_toArray, List.set_cons_zero, List.set_cons_succ]
            refine wpAnyH_ready (rs := [17]) (by kernel_rfl) (by simp) ?_
            refine AllReadyH.cons (o := ?oi58) ?hi58 (fun K hK => ?_) AllReadyH.nil
            case hi58 => (simp only [gqA, gqB, gqC]; rfl)
            go_simp
            with_reducible refine (HB.out _ (New.trans (New.trans (New.trans hnr (New.refl _).drew) hn2) hn3)).mono ?_
            rintro e w4 ⟨rfl, hn4⟩
            refine hK.out _ _ (hS.trans hn4) (fun hS => ?_)
            clear hK K
            refine tkQ (i := 18) (oi := ?o59) (v := ?v59) ?h59 ?q59 ?y59 hS ?_; (case h59 => (simp only [gqA, gqB, gqC]; rfl)); (case q59 => exact fun _ _ _ h => h); (case y59 => (refine Or.inl ⟨by kernel_rfl, ?_⟩; intro wq hSq; clear hSq; go_simp; (try with_reducible rfl))); simp only [Act.put, List.setIfInBounds_toArray, List.set_cons_zero, List.set_cons_succ]
            refine tkQ (i := 19) (oi := ?o60) (v := ?v60) ?h60 ?q60 ?y60 hS ?_; (case h60 => (simp only [gqA, gqB, gqC]; rfl)); (case q60 => exact fun _ _ _ h => h); (case y60 => (refine Or.inl ⟨by kernel_rfl, ?_⟩; intro wq hSq; clear hSq; go_simp; (try with_reducible rfl))); simp only [Act.put, List.setIfInBounds_toArray, List.set_cons_zero, List.set_cons_succ]
            refine wpAnyH_done (by kernel_rfl) ?_ _
            go_wp2
            go_ret
            exact ⟨rfl, New.trans (New.trans (New.trans (New.trans hnr (New.refl _).drew) hn2) hn3) hn4⟩
          · have HLN2 := Lib.hid (HLN.out _ last (an : Int) HLO.out hla HWT.out)
            go_wp2_with (fail)
            refine wp_region_held_drew (S := (New _)) (by kernel_rfl) ((New.refl _).drew) (fun hS => ?_)
            refine tkQ (i := 0) (oi := ?o61) (v := ?v61) ?h61 ?q61 ?y61 hS ?_; (case h61 => (simp only [gqA, gqB, gqC]; rfl)); (case q61 => exact fun _ _ _ h => h); (case y61 => (refine Or.inl ⟨by kernel_rfl, ?_⟩; intro wq hSq; clear hSq; go_simp; (try with_reducible rfl))); simp only [Act.put, List.setIfInBounds_toArray, List.set_cons_zero, List.set_cons_succ]
            refine tkQ (i := 1) (oi := ?o62) (v := ?v62) ?h62 ?q62 ?y62 hS ?_; (case h62 => (simp only [gqA, gqB, gqC]; rfl)); (case q62 => exact fun _ _ _ h => h); (case y62 => (refine Or.inl ⟨by kernel_rfl, ?_⟩; intro wq hSq; clear hSq; go_simp; (try with_reducible rfl))); simp only [Act.put, List.setIfInBounds_toArray, List.set_cons_zero, List.set_cons_succ]
            refine tkQ (i := 2) (oi := ?o63) (v := ?v63) ?h63 ?q63 ?y63 hS ?_; (case h63 => (simp only [gqA, gqB, gqC]; rfl)); (case q63 => exact fun _ _ _ h => h); (case y63 => (refine Or.inl ⟨by kernel_rfl, ?_⟩; intro wq hSq; clear hSq; go_simp; (try with_reducible rfl))); simp only [Act.put, List.setIfInBounds_toArray, List.set_cons_zero, List.set_cons_succ]
            refine tkQ (i := 3) (oi := ?o64) (v := ?v64) ?h64 ?q64 ?y64 hS ?_; (case h64 => (simp only [gqA, gqB, gqC]; rfl)); (case q64 => exact fun _ _ _ h => h); (case y64 => (refine Or.inl ⟨by kernel_rfl, ?_⟩; intro wq hSq; clear hSq; go_simp; (try with_reducible rfl))); simp only [Act.put, List.setIfInBounds_toArray, List.set_cons_zero, List.set_cons_succ]
            refine tkQ (i := 4) (oi := ?o65) (v := ?v65) ?h65 ?q65 ?y65 hS ?_; (case h65 => (simp only [gqA, gqB, gqC]; rfl)); (case q65 => exact fun _ _ _ h => h); (case y65 => (refine Or.inl ⟨by kernel_rfl, ?_⟩; intro wq hSq; clear hSq; go_simp; (try with_reducible rfl))); simp only [Act.put, List.setIfInBounds_toArray, List.set_cons_zero, List.set_cons_succ]
            refine tkQ (i := 5) (oi := ?o66) (v := ?v66) ?h66 ?q66 ?y66 hS ?_; (case h66 => (simp only [gqA, gqB, gqC]; rfl)); (case q66 => exact fun _ _ _ h => h); (case y66 => (refine Or.inl ⟨by kernel_rfl, ?_⟩; intro wq hSq; have hf0 := cell_new hSq d0; have hf1 := cell_new hSq d1; have hf2 := cell_new hSq d2; have hf3 := cell_new hSq d3; have hf4 := cell_new hSq d4; have hf5 := cell_new hSq d5; have hf6 := cell_new hSq d6; have hf7 := cell_new hSq d7; clear hSq; go_simp; (try with_reducible rfl))); simp only [Act.put, List.setIfInBounds_toArray, List.set_cons_zero, List.set_cons_succ]
            refine tkQ (i := 6) (oi := ?o67) (v := ?v67) ?h67 ?q67 ?y67 hS ?_; (case h67 => (simp only [gqA, gqB, gqC]; rfl)); (case q67 => exact fun _ _ _ h => h); (case y67 => (refine Or.inl ⟨by kernel_rfl, ?_⟩; intro wq hSq; clear hSq; go_simp; (try with_reducible rfl))); simp only [Act.put, List.setIfInBounds_toArray, List.set_cons_zero, List.set_cons_succ]
            refine wpAnyH_ready (rs := [7]) (by kernel_rfl) (by simp) ?_
            refine AllReadyH.cons (o := ?oi68) ?hi68 (fun K hK => ?_) AllReadyH.nil
            case hi68 => (simp only [gqA, gqB, gqC]; rfl)
            go_simp
            with_reducible refine (HI.out _ ((New.trans hnr (New.refl _).drew))).mono ?_
            rintro e w2 ⟨rfl, hn2⟩
            refine hK.out _ _ (hS.trans hn2) (fun hS => ?_)
            clear hK K
            refine tkQ (i := 8) (oi := ?o69) (v := ?v69) ?h69 ?q69 ?y69 hS ?_; (case h69 => (simp only [gqA, gqB, gqC]; rfl)); (case q69 => exact fun _ _ _ h => h); (case y69 => (refine Or.inl ⟨by kernel_rfl, ?_⟩; intro wq hSq; clear hSq; go_simp; (try with_reducible rfl))); simp only [Act.put, List.setIfInBounds_toArray, List.set_cons_zero, List.set_cons_succ]
            refine tkQ (i := 9) (oi := ?o70) (v := ?v70) ?h70 ?q70 ?y70 hS ?_; (case h70 => (simp only [gqA, gqB, gqC]; rfl)); (case q70 => exact fun _ _ _ h => h); (case y70 => (refine Or.inl ⟨by kernel_rfl, ?_⟩; intro wq hSq; clear hSq; go_simp; (try with_reducible rfl))); simp only [Act.put, List.setIfInBounds_toArray, List.set_cons_zero, List.set_cons_succ]
            refine tkQ (i := 10) (oi := ?o71) (v := ?v71) ?h71 ?q71 ?y71 hS ?_; (case h71 => (simp only [gqA, gqB, gqC]; rfl)); (case q71 => exact fun _ _ _ h => h); (case y71 => (refine Or.inl ⟨by kernel_rfl, ?_⟩; intro wq hSq; clear hSq; go_simp; (try with_reducible rfl))); simp only [Act.put, List.setIfInBounds_toArray, List.set_cons_zero, List.set_cons_succ]
            refine tkQ (i := 11) (oi := ?o72) (v := ?v72) ?h72 ?q72 ?y72 hS ?_; (case h72 => (simp only [gqA, gqB, gqC]; rfl)); (case q72 => exact fun _ _ _ h => h); (case y72 => (refine Or.inl ⟨by kernel_rfl, ?_⟩; intro wq hSq; have hf0 := cell_new hSq d0; have hf1 := cell_new hSq d1; have hf2 := cell_new hSq d2; have hf3 := cell_new hSq d3; have hf4 := cell_new hSq d4; have hf5 := cell_new hSq d5; have hf6 := cell_new hSq d6; have hf7 := cell_new hSq d7; clear hSq; go_simp; (try with_reducible rfl))); simp only [Act.put, List.setIfInBounds_toArray, List.set_cons_zero, List.set_cons_succ]
            refine tkQ (i := 12) (oi := ?o73) (v := ?v73) ?h73 ?q73 ?y73 hS ?_; (case h73 => (simp only [gqA, gqB, gqC]; rfl)); (case q73 => exact fun _ _ _ h => h); (case y73 => (refine Or.inl ⟨by kernel_rfl, ?_⟩; intro wq hSq; clear hSq; go_simp; (try with_reducible rfl))); simp only [Act.put, List.setIfInBounds_toArray, List.set_cons_zero, List.set_cons_succ]
            refine tkQ (i := 13) (oi := ?o74) (v := ?v74) ?h74 ?q74 ?y74 hS ?_; (case h74 => (simp only [gqA, gqB, gqC]; rfl)); (case q74 => exact fun _ _ _ h => h); (case y74 => (refine Or.inl ⟨by kernel_rfl, ?_⟩; intro wq hSq; have hf0 := cell_new hSq d0; have hf1 := cell_new hSq d1; have hf2 := cell_new hSq d2; have hf3 := cell_new hSq d3; have hf4 := cell_new hSq d4; have hf5 := cell_new hSq d5; have hf6 := cell_new hSq d6; have hf7 := cell_new hSq d7; clear hSq; go_simp; (try with_reducible rfl))); simp only [Act.put, List.setIfInBounds_toArray, List.set_cons_zero, List.set_cons_succ]
            refine tkQ (i := 14) (oi := ?o75) (v := ?v75) ?h75 ?q75 ?y75 hS ?_; (case h75 => (simp only [gqA, gqB, gqC]; rfl)); (case q75 => exact fun _ _ _ h => h); (case y75 => (refine Or.inl ⟨by kernel_rfl, ?_⟩; intro wq hSq; clear hSq; go_simp; (try with_reducible rfl))); simp only [Act.put, List.setIfInBounds_toArray, List.set_cons_zero, List.set_cons_succ]
            refine wpAnyH_ready (rs := [15]) (by kernel_rfl) (by simp) ?_
            refine AllReadyH.cons (o := ?oi76) ?hi76 (fun K hK => ?_) AllReadyH.nil
            case hi76 => (simp only [gqA, gqB, gqC]; rfl)
            go_simp
            with_reducible refine (HW.out _).mono ?_
            rintro e w3 ⟨rfl, hn3⟩
            refine hK.out _ _ (hS.trans hn3) (fun hS => ?_)
            clear hK K
            refine tkQ (i := 16) (oi := ?o77) (v := ?v77) ?h77 ?q77 ?y77 hS ?_; (case h77 => (simp only [gqA, gqB, gqC]; rfl)); (case q77 => exact fun _ _ _ h => h); (case y77 => (refine Or.inl ⟨by kernel_rfl, ?_⟩; intro wq hSq; clear hSq; go_simp; (try with_reducible rfl))); simp only [Act.put, List.setIfInBounds_toArray, List.set_cons_zero, List.set_cons_succ]
            refine wpAnyH_ready (rs := [17]) (by kernel_rfl) (by simp) ?_
            refine AllReadyH.cons (o := ?oi78) ?hi78 (fun K hK => ?_) AllReadyH.nil
            case hi78 => (simp only [gqA, gqB, gqC]; rfl)
            go_simp
            with_reducible refine (HB.out _ (New.trans (New.trans (New.trans hnr (New.refl _).drew) hn2) hn3)).mono ?_
            rintro e w4 ⟨rfl, hn4⟩
            refine hK.out _ _ (hS.trans hn4) (fun hS => ?_)
            clear hK K
            refine tkQ (i := 18) (oi := ?o79) (v := ?v79) ?h79 ?q79 ?y79 hS ?_; (case h79 => (simp only [gqA, gqB, gqC]; rfl)); (case q79 => exact fun _ _ _ h => h); (case y79 => (refine Or.inl ⟨by kernel_rfl, ?_⟩; intro wq hSq; clear hSq; go_simp; (try with_reducible rfl))); simp only [Act.put, List.setIfInBounds_toArray, List.set_cons_zero, List.set_cons_succ]
            refine tkQ (i := 19) (oi := ?o80) (v := ?v80) ?h80 ?q80 ?y80 hS ?_; (case h80 => (simp only [gqA, gqB, gqC]; rfl)); (case q80 => exact fun _ _ _ h => h); (case y80 => (refine Or.inl ⟨by kernel_rfl, ?_⟩; intro wq hSq; clear hSq; go_simp; (try with_reducible rfl))); simp only [Act.put, List.setIfInBounds_toArray, List.set_cons_zero, List.set_cons_succ]
            refine wpAnyH_done (by kernel_rfl) ?_ _
            have hN : New wr w4 := New.trans (New.trans (New.refl _).drew hn2) (New.trans hn3 hn4)
            go_wp2
            go_roundw
            case rel => exact ⟨i + 1, (an : Int), by go_num, rfl, by omega, New.trans hnr hN, BR.new hN, Lib.hid (by rw [HRV.out]; exact HLN2.out), Lib.hid (by rw [HRV.out, HGo.out, HG2.out, HFX.out, Bool.true_and])⟩
            case measure => simp [intOf]; omega
      · have t1 : decide (a < last + 4) = true := decide_eq_true (by omega)
        have hRf := HBad.out (by rw [HFX.out, decide_eq_false hla]; rfl)
        subst hRf
        go_wp2_with (fail)
        refine wp_region_held_drew (S := (New _)) (by kernel_rfl) ((New.refl _).drew) (fun hS => ?_)
        refine tkQ (i := 0) (oi := ?o1) (v := ?v1) ?h1 ?q1 ?y1 hS ?_; (case h1 => (simp only [gqA, gqB, gqC]; rfl)); (case q1 => exact fun _ _ _ h => h); (case y1 => (refine Or.inl ⟨by kernel_rfl, ?_⟩; intro wq hSq; clear hSq; go_simp; (try with_reducible rfl))); simp only [Act.put, List.setIfInBounds_toArray, List.set_cons_zero, List.set_cons_succ]
        refine tkQ (i := 1) (oi := ?o2) (v := ?v2) ?h2 ?q2 ?y2 hS ?_; (case h2 => (simp only [gqA, gqB, gqC]; rfl)); (case q2 => exact fun _ _ _ h => h); (case y2 => (refine Or.inl ⟨by kernel_rfl, ?_⟩; intro wq hSq; clear hSq; go_simp; (try with_reducible rfl))); simp only [Act.put, List.setIfInBounds_toArray, List.set_cons_zero, List.set_cons_succ]
        refine tkQ (i := 2) (oi := ?o3) (v := ?v3) ?h3 ?q3 ?y3 hS ?_; (case h3 => (simp only [gqA, gqB, gqC]; rfl)); (case q3 => exact fun _ _ _ h => h); (case y3 => (refine Or.inl ⟨by kernel_rfl, ?_⟩; intro wq hSq; clear hSq; go_simp; (try with_reducible rfl))); simp only [Act.put, List.setIfInBounds_toArray, List.set_cons_zero, List.set_cons_succ]
        refine tkQ (i := 3) (oi := ?o4) (v := ?v4) ?h4 ?q4 ?y4 hS ?_; (case h4 => (simp only [gqA, gqB, gqC]; rfl)); (case q4 => exact fun _ _ _ h => h); (case y4 => (refine Or.inl ⟨by kernel_rfl, ?_⟩; intro wq hSq; clear hSq; go_simp; (try with_reducible rfl))); simp only [Act.put, List.setIfInBounds_toArray, List.set_cons_zero, List.set_cons_succ]
        refine tkQ (i := 4) (oi := ?o5) (v := ?v5) ?h5 ?q5 ?y5 hS ?_; (case h5 => (simp only [gqA, gqB, gqC]; rfl)); (case q5 => exact fun _ _ _ h => h); (case y5 => (refine Or.inl ⟨by kernel_rfl, ?_⟩; intro wq hSq; clear hSq; go_simp; (try with_reducible rfl))); simp only [Act.put, List.setIfInBounds_toArray, List.set_cons_zero, List.set_cons_succ]
        refine tkQ (i := 5) (oi := ?o6) (v := undef) ?h6 ?q6 ?y6 hS ?_; (case h6 => (simp only [gqA, gqB, gqC]; rfl)); (case q6 => exact fun _ _ _ h => h); (case y6 => (exact Or.inr ⟨by kernel_rfl, rfl⟩)); simp only [Act.put, List.setIfInBounds_toArray, List.set_cons_zero, List.set_cons_succ]
        refine tkQ (i := 6) (oi := ?o7) (v := undef) ?h7 ?q7 ?y7 hS ?_; (case h7 => (simp only [gqA, gqB, gqC]; rfl)); (case q7 => exact fun _ _ _ h => h); (case y7 => (exact Or.inr ⟨by kernel_rfl, rfl⟩)); simp only [Act.put, List.setIfInBounds_toArray, List.set_cons_zero, List.set_cons_succ]
        refine tkQ (i := 7) (oi := ?o8) (v := undef) ?h8 ?q8 ?y8 hS ?_; (case h8 => (simp only [gqA, gqB, gqC]; rfl)); (case q8 => exact fun _ _ _ h => h); (case y8 => (exact Or.inr ⟨by kernel_rfl, rfl⟩)); simp only [Act.put, List.setIfInBounds_toArray, List.set_cons_zero, List.set_cons_succ]
        refine tkQ (i := 8) (oi := ?o9) (v := undef) ?h9 ?q9 ?y9 hS ?_; (case h9 => (simp only [gqA, gqB, gqC]; rfl)); (case q9 => exact fun _ _ _ h => h); (case y9 => (exact Or.inr ⟨by kernel_rfl, rfl⟩)); simp only [Act.put, List.setIfInBounds_toArray, List.set_cons_zero, List.set_cons_succ]
        refine tkQ (i := 9) (oi := ?o10) (v := ?v10) ?h10 ?q10 ?y10 hS ?_; (case h10 => (simp only [gqA, gqB, gqC]; rfl)); (case q10 => exact fun _ _ _ h => h); (case y10 => (refine Or.inl ⟨by kernel_rfl, ?_⟩; intro wq hSq; clear hSq; go_simp; (try with_reducible rfl))); simp only [Act.put, List.setIfInBounds_toArray, List.set_cons_zero, List.set_cons_succ]
        refine tkQ (i := 10) (oi := ?o11) (v := ?v11) ?h11 ?q11 ?y11 hS ?_; (case h11 => (simp only [gqA, gqB, gqC]; rfl)); (case q11 => exact fun _ _ _ h => h); (case y11 => (refine Or.inl ⟨by kernel_rfl, ?_⟩; intro wq hSq; clear hSq; go_simp; (try with_reducible rfl))); simp only [Act.put, List.setIfInBounds_toArray, List.set_cons_zero, List.set_cons_succ]
        refine tkQ (i := 11) (oi := ?o12) (v := undef) ?h12 ?q12 ?y12 hS ?_; (case h12 => (simp only [gqA, gqB, gqC]; rfl)); (case q12 => exact fun _ _ _ h => h); (case y12 => (exact Or.inr ⟨by kernel_rfl, rfl⟩)); simp only [Act.put, List.setIfInBounds_toArray, List.set_cons_zero, List.set_cons_succ]
        refine tkQ (i := 12) (oi := ?o13) (v := undef) ?h13 ?q13 ?y13 hS ?_; (case h13 => (simp only [gqA, gqB, gqC]; rfl)); (case q13 => exact fun _ _ _ h => h); (case y13 => (exact Or.inr ⟨by kernel_rfl, rfl⟩)); simp only [Act.put, List.setIfInBounds_toArray, List.set_cons_zero, List.set_cons_succ]
        refine tkQ (i := 13) (oi := ?o14) (v := undef) ?h14 ?q14 ?y14 hS ?_; (case h14 => (simp only [gqA, gqB, gqC]; rfl)); (case q14 => exact fun _ _ _ h => h); (case y14 => (exact Or.inr ⟨by kernel_rfl, rfl⟩)); simp only [Act.put, List.setIfInBounds_toArray, List.set_cons_zero, List.set_cons_succ]
        refine tkQ (i := 14) (oi := ?o15) (v := undef) ?h15 ?q15 ?y15 hS ?_; (case h15 => (simp only [gqA, gqB, gqC]; rfl)); (case q15 => exact fun _ _ _ h => h); (case y15 => (exact Or.inr ⟨by kernel_rfl, rfl⟩)); simp only [Act.put, List.setIfInBounds_toArray, List.set_cons_zero, List.set_cons_succ]
        refine tkQ (i := 15) (oi := ?o16) (v := undef) ?h16 ?q16 ?y16 hS ?_; (case h16 => (simp only [gqA, gqB, gqC]; rfl)); (case q16 => exact fun _ _ _ h => h); (case y16 => (exact Or.inr ⟨by kernel_rfl, rfl⟩)); simp only [Act.put, List.setIfInBounds_toArray, List.set_cons_zero, List.set_cons_succ]
        refine tkQ (i := 16) (oi := ?o17) (v := undef) ?h17 ?q17 ?y17 hS ?_; (case h17 => (simp only [gqA, gqB, gqC]; rfl)); (case q17 => exact fun _ _ _ h => h); (case y17 => (exact Or.inr ⟨by kernel_rfl, rfl⟩)); simp only [Act.put, List.setIfInBounds_toArray, List.set_cons_zero, List.set_cons_succ]
        refine tkQ (i := 17) (oi := ?o18) (v := undef) ?h18 ?q18 ?y18 hS ?_; (case h18 => (simp only [gqA, gqB, gqC]; rfl)); (case q18 => exact fun _ _ _ h => h); (case y18 => (exact Or.inr ⟨by kernel_rfl, rfl⟩)); simp only [Act.put, List.setIfInBounds_toArray, List.set_cons_zero, List.set_cons_succ]
        refine tkQ (i := 18) (oi := ?o19) (v := undef) ?h19 ?q19 ?y19 hS ?_; (case h19 => (simp only [gqA, gqB, gqC]; rfl)); (case q19 => exact fun _ _ _ h => h); (case y19 => (exact Or.inr ⟨by kernel_rfl, rfl⟩)); simp only [Act.put, List.setIfInBounds_toArray, List.set_cons_zero, List.set_cons_succ]
        refine tkQ (i := 19) (oi := ?o20) (v := ?v20) ?h20 ?q20 ?y20 hS ?_; (case h20 => (simp only [gqA, gqB, gqC]; rfl)); (case q20 => exact fun _ _ _ h => h); (case y20 => (refine Or.inl ⟨by kernel_rfl, ?_⟩; intro wq hSq; clear hSq; go_simp; (try with_reducible rfl))); simp only [Act.put, List.setIfInBounds_toArray, List.set_cons_zero, List.set_cons_succ]
        refine wpAnyH_done (by kernel_rfl) ?_ _
        go_wp2
        go_ret
        exact ⟨rfl, New.trans hnr (New.refl _).drew⟩
    · obtain rfl : n = i := by omega
      have HG3 : Hid (fixGo places image fix [] = true) := Lib.hid (by rw [HGo.out, List.drop_of_length_le (by rw [HN.out]; exact Nat.le_refl _), fixGo])
      have HRR2 : Hid (impGo places image fix.reverse imps [] = R) := Lib.hid (by have := HRR.out; rwa [HG3.out, Bool.true_and] at this)
      obtain ⟨wo, rfl⟩ : ∃ wo : World, wo = wr := ⟨_, rfl⟩
      have g5 := BR.cell' 5 _ rfl
      clear HRR HG3 hi9 hlt HGo HLO b1 b2
      go_wp2
      go_loopw [3, 42] (fun v3 v42 wr => ∃ (i : Nat) (last : Int), v42 = .int .i64 i ∧ v3 = .int .i64 last ∧ i ≤ n3 ∧ New w wr ∧ Blk wr w.heap.size 28 #[.int .i64 kind, .int .i64 entry, .string image, .slice a1 n1 c1, .slice a2 n c2, .slice a3 n3 c3, .slice a4 n4 c4, .slice a5 n5 c5] ∧ Hid (LastOK (posR imps i) last) ∧ Hid (impGo places image fix.reverse imps [] = impGo places image fix.reverse (imps.drop i) (posR imps i))) (fun _ v42 _ => n3 - (intOf v42).toNat)
      case atStart => exact ⟨0, -4, rfl, rfl, by omega, hnr, BR, Lib.hid (Or.inl ⟨rfl, rfl⟩), Lib.hid rfl⟩
      case round =>
        clear g5 BR hnr
        obtain ⟨i, last, rfl, rfl, hi9, hnr, BR, HLO, HGo⟩ := hrel
        obtain ⟨b1, b2⟩ := HLO.out.bd
        obtain ⟨wp, rfl⟩ : ∃ wp : World, wp = wr := ⟨_, rfl⟩
        by_cases hlt : i < n3
        · obtain ⟨bk, o, rfl, hbk, x, hx, hcell⟩ := rd_row (f := imC) (k := 3) (fun _ => rfl) HN3.out (HR3.out.below hnr) hlt
          obtain ⟨z1, z2, z3⟩ := HZ2.out x (List.mem_of_getElem? hx)
          have HG2 := Lib.hid (impGo_at (ps := places) (img := image) (F := fix.reverse) (P := posR imps i) hx)
          have HRV := Lib.hid (posR_succ hx)
          have HIX := Lib.hid (HIR.out (posR imps i) fix last x HLO.out)
          obtain ⟨xl, xs, xp⟩ := x
          simp only at z1 z2 z3 HRV HIX
          have q0 := hcell 0 (.string xl) (by omega) rfl
          have q1 := hcell 1 (.string xs) (by omega) rfl
          have q2 := hcell 2 (.int .i64 xp) (by omega) rfl
          simp only [Nat.add_zero] at q0
          rw [← Nat.add_assoc] at q1 q2
          have BX := Blk.made wp 81 #[.string xl, .string xs, .int .i64 xp]
          have hnX := New.alloc hnr (.cells #[.string xl, .string xs, .int .i64 xp] 81)
          have BB := BR.alloc (.cells #[.string xl, .string xs, .int .i64 xp] 81)
          have HBad : Hid (impOK places image (posR imps i) fix.reverse ⟨xl, xs, xp⟩ = false → R = false) := Lib.hid (fun q => by rw [← HRR2.out, HGo.out, HG2.out, q]; rfl)
          have HI := Lib.hid (HWI.out xp)
          have HPa := Lib.hid (fun w => rpath_any xl w)
          have HNa := Lib.hid (fun w => rname_any xs w)
          have hpe : pathE xl = (if pathOK xl = true then 0 else 2) := rfl
          rw [hpe] at HPa
          have d0 := BB.cell' 0 _ rfl
          have d1 := BB.cell' 1 _ rfl
          have d2 := BB.cell' 2 _ rfl
          have d3 := BB.cell' 3 _ rfl
          have d4 := BB.cell' 4 _ rfl
          have d5 := BB.cell' 5 _ rfl
          have d6 := BB.cell' 6 _ rfl
          have d7 := BB.cell' 7 _ rfl
          have i0 : (0 : Int) ≤ (i : Int) := by omega
          have i1 : (i : Int) < (n3 : Int) := by omega
          have wl : IntKind.i64.wrap (last + 4) = last + 4 := IntWalk.i64_in _ (by omega)
          clear hcell hx hpe
          by_cases hla : last + 4 ≤ xp
          · have t1 : ¬ xp < last + 4 := by omega
            rw [decide_eq_true hla, Bool.true_and] at HIX
            obtain ⟨wi, hwi⟩ : ∃ x, withinV places xp = x := ⟨_, rfl⟩
            rw [hwi] at HI HIX
            cases wi
            · have hRf := HBad.out (by rw [HIX.out]; rfl)
              subst hRf
              clear hwi
              go_wp2_with (first | (go_at_call 34; (with_reducible refine (HNa.out _).mono ?_); rintro e w5 ⟨rfl, hn5⟩; have hg4 := (BB.new (New.trans (New.trans hn2 hn3) (New.trans hn4 hn5))).cell' 4 _ rfl) | (go_at_call 106; (with_reducible refine (HPa.out _).mono ?_); rintro e w4 ⟨rfl, hn4⟩; have k0c := (BX.new (New.trans (New.trans hn2 hn3) hn4)).cell' 0 _ rfl; have k1c := (BX.new (New.trans (New.trans hn2 hn3) hn4)).cell' 1 _ rfl; have k2c := (BX.new (New.trans (New.trans hn2 hn3) hn4)).cell' 2 _ rfl; have h2c := (BB.new (New.trans (New.trans hn2 hn3) hn4)).cell' 2 _ rfl) | (go_at_call 105; (with_reducible refine (HW.out _).mono ?_); rintro e w3 ⟨rfl, hn3⟩; have k0b := (BX.new (New.trans hn2 hn3)).cell' 0 _ rfl; have k1b := (BX.new (New.trans hn2 hn3)).cell' 1 _ rfl; have k2b := (BX.new (New.trans hn2 hn3)).cell' 2 _ rfl; have h2b := (BB.new (New.trans hn2 hn3)).cell' 2 _ rfl) | (go_at_call 104; (with_reducible refine (HI.out _ hnX).mono ?_); rintro e w2 ⟨rfl, hn2⟩; have k0a := (BX.new hn2).cell' 0 _ rfl; have k1a := (BX.new hn2).cell' 1 _ rfl; have k2a := (BX.new hn2).cell' 2 _ rfl; have h2a := (BB.new hn2).cell' 2 _ rfl))
              go_ret
              exact ⟨rfl, New.trans hnX hn2⟩
            · have HWT := Lib.hid hwi
              obtain ⟨b3, b4⟩ := HBd.out xp hwi
              obtain ⟨xn, rfl⟩ : ∃ xn : Nat, xp = (xn : Int) := ⟨xp.toNat, by omega⟩
              rw [Int.toNat_natCast, Bool.true_and] at HIX
              have HW := Lib.hid (fun W => rword_any image xn W (by omega) (by omega))
              clear hwi
              generalize wordV image xn = wv at *
              by_cases hw0 : wv = 0
              · subst hw0
                rw [decide_eq_true rfl, Bool.true_and] at HIX
                generalize pathOK xl = pk at *
                cases pk
                · have hRf := HBad.out (by rw [HIX.out]; rfl)
                  subst hRf
                  simp only [Bool.false_eq_true, if_false] at HPa
                  go_wp2_with (first | (go_at_call 34; (with_reducible refine (HNa.out _).mono ?_); rintro e w5 ⟨rfl, hn5⟩; have hg4 := (BB.new (New.trans (New.trans hn2 hn3) (New.trans hn4 hn5))).cell' 4 _ rfl) | (go_at_call 106; (with_reducible refine (HPa.out _).mono ?_); rintro e w4 ⟨rfl, hn4⟩; have k0c := (BX.new (New.trans (New.trans hn2 hn3) hn4)).cell' 0 _ rfl; have k1c := (BX.new (New.trans (New.trans hn2 hn3) hn4)).cell' 1 _ rfl; have k2c := (BX.new (New.trans (New.trans hn2 hn3) hn4)).cell' 2 _ rfl; have h2c := (BB.new (New.trans (New.trans hn2 hn3) hn4)).cell' 2 _ rfl) | (go_at_call 105; (with_reducible refine (HW.out _).mono ?_); rintro e w3 ⟨rfl, hn3⟩; have k0b := (BX.new (New.trans hn2 hn3)).cell' 0 _ rfl; have k1b := (BX.new (New.trans hn2 hn3)).cell' 1 _ rfl; have k2b := (BX.new (New.trans hn2 hn3)).cell' 2 _ rfl; have h2b := (BB.new (New.trans hn2 hn3)).cell' 2 _ rfl) | (go_at_call 104; (with_reducible refine (HI.out _ hnX).mono ?_); rintro e w2 ⟨rfl, hn2⟩; have k0a := (BX.new hn2).cell' 0 _ rfl; have k1a := (BX.new hn2).cell' 1 _ rfl; have k2a := (BX.new hn2).cell' 2 _ rfl; have h2a := (BB.new hn2).cell' 2 _ rfl))
                  go_ret
                  exact ⟨rfl, New.trans (New.trans (New.trans hnX hn2) hn3) hn4⟩
                · rw [Bool.true_and] at HIX
                  simp only [if_true] at HPa
                  generalize nameV xs = nk at *
                  cases nk
                  · have hRf := HBad.out (by rw [HIX.out]; rfl)
                    subst hRf
                    go_wp2_with (first | (go_at_call 34; (with_reducible refine (HNa.out _).mono ?_); rintro e w5 ⟨rfl, hn5⟩; have hg4 := (BB.new (New.trans (New.trans hn2 hn3) (New.trans hn4 hn5))).cell' 4 _ rfl) | (go_at_call 106; (with_reducible refine (HPa.out _).mono ?_); rintro e w4 ⟨rfl, hn4⟩; have k0c := (BX.new (New.trans (New.trans hn2 hn3) hn4)).cell' 0 _ rfl; have k1c := (BX.new (New.trans (New.trans hn2 hn3) hn4)).cell' 1 _ rfl; have k2c := (BX.new (New.trans (New.trans hn2 hn3) hn4)).cell' 2 _ rfl; have h2c := (BB.new (New.trans (New.trans hn2 hn3) hn4)).cell' 2 _ rfl) | (go_at_call 105; (with_reducible refine (HW.out _).mono ?_); rintro e w3 ⟨rfl, hn3⟩; have k0b := (BX.new (New.trans hn2 hn3)).cell' 0 _ rfl; have k1b := (BX.new (New.trans hn2 hn3)).cell' 1 _ rfl; have k2b := (BX.new (New.trans hn2 hn3)).cell' 2 _ rfl; have h2b := (BB.new (New.trans hn2 hn3)).cell' 2 _ rfl) | (go_at_call 104; (with_reducible refine (HI.out _ hnX).mono ?_); rintro e w2 ⟨rfl, hn2⟩; have k0a := (BX.new hn2).cell' 0 _ rfl; have k1a := (BX.new hn2).cell' 1 _ rfl; have k2a := (BX.new hn2).cell' 2 _ rfl; have h2a := (BB.new hn2).cell' 2 _ rfl))
                    go_ret
                    exact ⟨rfl, New.trans (New.trans (New.trans (New.trans hnX hn2) hn3) hn4) hn5⟩
                  · rw [Bool.true_and] at HIX
                    have HLN2 := Lib.hid (HLN.out _ last (xn : Int) HLO.out hla HWT.out)
                    go_wp2_with (first | (go_at_call 34; (with_reducible refine (HNa.out _).mono ?_); rintro e w5 ⟨rfl, hn5⟩; have hg4 := (BB.new (New.trans (New.trans hn2 hn3) (New.trans hn4 hn5))).cell' 4 _ rfl) | (go_at_call 106; (with_reducible refine (HPa.out _).mono ?_); rintro e w4 ⟨rfl, hn4⟩; have k0c := (BX.new (New.trans (New.trans hn2 hn3) hn4)).cell' 0 _ rfl; have k1c := (BX.new (New.trans (New.trans hn2 hn3) hn4)).cell' 1 _ rfl; have k2c := (BX.new (New.trans (New.trans hn2 hn3) hn4)).cell' 2 _ rfl; have h2c := (BB.new (New.trans (New.trans hn2 hn3) hn4)).cell' 2 _ rfl) | (go_at_call 105; (with_reducible refine (HW.out _).mono ?_); rintro e w3 ⟨rfl, hn3⟩; have k0b := (BX.new (New.trans hn2 hn3)).cell' 0 _ rfl; have k1b := (BX.new (New.trans hn2 hn3)).cell' 1 _ rfl; have k2b := (BX.new (New.trans hn2 hn3)).cell' 2 _ rfl; have h2b := (BB.new (New.trans hn2 hn3)).cell' 2 _ rfl) | (go_at_call 104; (with_reducible refine (HI.out _ hnX).mono ?_); rintro e w2 ⟨rfl, hn2⟩; have k0a := (BX.new hn2).cell' 0 _ rfl; have k1a := (BX.new hn2).cell' 1 _ rfl; have k2a := (BX.new hn2).cell' 2 _ rfl; have h2a := (BB.new hn2).cell' 2 _ rfl))
                    have hN5 : New wp w5 := New.trans (New.trans (New.alloc (New.refl wp) _) hn2) (New.trans (New.trans hn3 hn4) hn5)
                    have BB5 := BR.new hN5
                    have BX5 := BX.new (New.trans (New.trans hn2 hn3) (New.trans hn4 hn5))
                    have g4 := BB5.cell' 4 _ rfl
                    have x2 := BX5.cell' 2 _ rfl
                    clear BX BB HW HI HPa HNa
                    go_loop [81] (fun v81 => ∃ j : Nat, v81 = .int .i64 j ∧ j ≤ n ∧ Hid (∀ f ∈ fix.take j, ¬ (f < (xn : Int) + 4 ∧ (xn : Int) < f + 4))) (fun v81 => n - (intOf v81).toNat)
                    case atStart => exact ⟨0, rfl, by omega, Lib.hid (by simp)⟩
                    case round =>
                      obtain ⟨j, rfl, hj9, HNO⟩ := hrel
                      by_cases hlj : j < n
                      · have hil : j < fix.length := by rw [HN.out]; exact hlj
                        obtain ⟨bf, fo, rfl, hbf, hcf⟩ := (HR2.out.below (New.trans hnr hN5)).2 (by omega)
                        obtain ⟨f, hf⟩ : ∃ x, fix[j]? = some x := ⟨_, List.getElem?_eq_getElem hil⟩
                        have f0 := hcf j (.int .i64 f) (by rw [flat_one, hf]; rfl)
                        have hwf := HZ1.out f (List.mem_of_getElem? hf)
                        have HFM := Lib.hid (List.mem_of_getElem? hf)
                        have HTK : Hid (∀ q ∈ fix.take (j + 1), q ∈ fix.take j ∨ q = f) := Lib.hid (fun q hq => by
                          obtain ⟨hi, he⟩ := List.getElem?_eq_some_iff.1 hf
                          rw [List.take_succ_eq_append_getElem hi, List.mem_append, he] at hq
                          simpa using hq)
                        have j0 : (0 : Int) ≤ (j : Int) := by omega
                        have j1 : (j : Int) < (n : Int) := by omega
                        clear hcf hf hil
                        by_cases h1 : (xn : Int) - 4 < f
                        · by_cases h2 : f < (xn : Int) + 4
                          · have hRf := HBad.out (by
                              rw [HIX.out]
                              have : clash fix (xn : Int) = true := by
                                unfold clash; rw [List.any_eq_true]
                                exact ⟨f, HFM.out, by rw [decide_eq_true h2, decide_eq_true (by omega)]; rfl⟩
                              rw [this]; rfl)
                            subst hRf
                            go_wp2
                            go_ret
                            exact ⟨rfl, New.trans hnr hN5⟩
                          · have HNE : Hid (¬ (f < (xn : Int) + 4 ∧ (xn : Int) < f + 4)) := Lib.hid (fun x => h2 x.1)
                            go_wp2
                            go_round
                            case rel => exact ⟨j + 1, by go_num, by omega, Lib.hid (fun q hq => by
                              rcases HTK.out q hq with h | rfl
                              · exact HNO.out q h
                              · exact HNE.out)⟩
                            case measure => simp [intOf]; omega
                        · have HNE : Hid (¬ (f < (xn : Int) + 4 ∧ (xn : Int) < f + 4)) := Lib.hid (fun x => by omega)
                          go_wp2
                          go_round
                          case rel => exact ⟨j + 1, by go_num, by omega, Lib.hid (fun q hq => by
                            rcases HTK.out q hq with h | rfl
                            · exact HNO.out q h
                            · exact HNE.out)⟩
                          case measure => simp [intOf]; omega
                      · obtain rfl : n = j := by omega
                        have HNC : Hid (clash fix (xn : Int) = false) := Lib.hid (by
                          unfold clash
                          rw [List.any_eq_false]
                          intro f hf
                          have := HNO.out f (by rw [List.take_of_length_le (by rw [HN.out]; exact Nat.le_refl _)]; exact hf)
                          simpa using this)
                        have HIX2 : Hid (impOK places image (posR imps i) fix.reverse ⟨xl, xs, (xn : Int)⟩ = true) := Lib.hid (by rw [HIX.out, HNC.out]; rfl)
                        go_wp2
                        go_roundw
                        case rel => exact ⟨i + 1, (xn : Int), by go_num, rfl, by omega, New.trans hnr hN5, BB5, Lib.hid (by rw [HRV.out]; exact HLN2.out), Lib.hid (by rw [HRV.out, HGo.out, HG2.out, HIX2.out, Bool.true_and])⟩
                        case measure => simp [intOf]; omega
              · have hw1 : (wv == 0) = false := beq_eq_false_iff_ne.2 hw0
                have hw2 : (wv != 0) = true := by rw [bne, hw1]; rfl
                have hRf := HBad.out (by rw [HIX.out, decide_eq_false hw0]; rfl)
                subst hRf
                clear hw0
                go_wp2_with (first | (go_at_call 34; (with_reducible refine (HNa.out _).mono ?_); rintro e w5 ⟨rfl, hn5⟩; have hg4 := (BB.new (New.trans (New.trans hn2 hn3) (New.trans hn4 hn5))).cell' 4 _ rfl) | (go_at_call 106; (with_reducible refine (HPa.out _).mono ?_); rintro e w4 ⟨rfl, hn4⟩; have k0c := (BX.new (New.trans (New.trans hn2 hn3) hn4)).cell' 0 _ rfl; have k1c := (BX.new (New.trans (New.trans hn2 hn3) hn4)).cell' 1 _ rfl; have k2c := (BX.new (New.trans (New.trans hn2 hn3) hn4)).cell' 2 _ rfl; have h2c := (BB.new (New.trans (New.trans hn2 hn3) hn4)).cell' 2 _ rfl) | (go_at_call 105; (with_reducible refine (HW.out _).mono ?_); rintro e w3 ⟨rfl, hn3⟩; have k0b := (BX.new (New.trans hn2 hn3)).cell' 0 _ rfl; have k1b := (BX.new (New.trans hn2 hn3)).cell' 1 _ rfl; have k2b := (BX.new (New.trans hn2 hn3)).cell' 2 _ rfl; have h2b := (BB.new (New.trans hn2 hn3)).cell' 2 _ rfl) | (go_at_call 104; (with_reducible refine (HI.out _ hnX).mono ?_); rintro e w2 ⟨rfl, hn2⟩; have k0a := (BX.new hn2).cell' 0 _ rfl; have k1a := (BX.new hn2).cell' 1 _ rfl; have k2a := (BX.new hn2).cell' 2 _ rfl; have h2a := (BB.new hn2).cell' 2 _ rfl))
                go_ret
                exact ⟨rfl, New.trans (New.trans hnX hn2) hn3⟩
          · have t1 : xp < last + 4 := by omega
            have hRf := HBad.out (by rw [HIX.out, decide_eq_false hla]; rfl)
            subst hRf
            go_wp2
            go_ret
            exact ⟨rfl, hnX⟩
        · obtain rfl : n3 = i := by omega
          have HG3 : Hid (R = true) := Lib.hid (by rw [← HRR2.out, HGo.out, List.drop_of_length_le (by rw [HN3.out]; exact Nat.le_refl _), impGo])
          have hRt := HG3.out
          subst hRt
          go_wp2
          go_ret
          exact ⟨rfl, hnr⟩
end Go.Proofs.YtnknmpcgbfmfjaaGreatDoor

