/- The builder's flush. Conditions: sizes. (Printed by mk-w15.py.) -/
import Derived.Test.YtfeknjpinboknaaGreatDoorGBase
import Derived.Test.YtfeknjpinboknaaGreatDoorGW13
import Derived.Test.YtfeknjpinboknaaGreatDoorGBase
import Derived.Deep.DeepCutAuto

namespace Go.Proofs.YtfeknjpinboknaaGreatDoor
open Go Go.RowKit Go.Joins Go.Shelf
set_option linter.unusedSimpArgs false
set_option linter.unusedVariables false

set_option maxRecDepth 100000 in
set_option maxHeartbeats 16000000 in
theorem flush_any {w0 w : World} {g b1 b2 : Nat} {hs : List Hm} {d : Nat} {a : List ByteArray} {V VA : Value} (h : BM w0 w g b1 b2 hs d a V VA) (hl : hs.length ≤ 100000) (ha : a.length ≤ 1000000) (hd : d ≤ 1000000) :
    Calls Tryz.prog 76 #[.pointer (some ⟨g, 0, none⟩)] w fun e w' => e = .returned (.tuple #[]) ∧ ∃ V' hs' b2', BM w0 w' g b1 b2' hs' 0 [] V' (.slice none 0 0) ∧ Fr w w' g V V' ∧ hs'.map Hm.d = (Bs.flush ⟨hs.map Hm.d, d, a⟩).l ∧ hs'.length ≤ hs.length + 2 := by
  obtain ⟨j0, hinf, hz0, hz1, hz2⟩ := info_parts Tryz.info55'
  have HB := Lib.hid h
  have f1 := h.blk.cell' 1 _ rfl
  clear h
  go_enter Tryz.func76, Tryz.ntmps76
  go_upto_if 6 with (fail)
  clear f1
  go_cut [7] (fun v7 wc => ∃ V1 hs1, BM w0 wc g b1 b2 hs1 d a V1 VA ∧ Fr w wc g V V1 ∧ hs1.map Hm.d = hs.map Hm.d ++ dropH d ∧ hs1.length ≤ hs.length + 1)
  case first =>
    by_cases h0 : 0 < d
    · have t0 : (0 : Int) < (d : Int) := by omega
      have t1 : decide ((0 : Int) < (d : Int)) = true := decide_eq_true t0
      have f1 := HB.out.blk.cell' 1 _ rfl
      have f0 := HB.out.blk.cell' 0 _ rfl
      have f0a := (HB.out.blk.alloc (.cells #[.int .i64 2, .int .i64 (d : Int), .slice none 0 0] 55)).cell' 0 _ rfl
      have hnV : V.ownBlock ≠ some g := ne_kind (cs := []) HB.out.own HB.out.blk (by decide)
      have hk1 := HB.out.k1
      go_upto_region 1 with (fail)
      refine wp_region_held_drew (S := (fun W : World => W.cell? ⟨g, 1, none⟩ = some (.int .i64 (d : Int)))) (by kernel_rfl) (f1) (fun hS => ?_)
      refine tkT 0 (v := ?v23) hS (fun wq hSq => ?y23) ?_; (case y23 => clear hSq; go_simp; (try with_reducible rfl)); simp only [Act.put, gqD, gqE, gqF]
      refine tkT 1 (v := ?v24) hS (fun wq hSq => ?y24) ?_; (case y24 => clear hSq; go_simp; (try with_reducible rfl)); simp only [Act.put, gqD, gqE, gqF]
      refine tkT 2 (v := ?v25) hS (fun wq hSq => ?y25) ?_; (case y25 => clear hSq; go_simp; (try with_reducible rfl)); simp only [Act.put, gqD, gqE, gqF]
      refine tkT 3 (v := ?v26) hS (fun wq hSq => ?y26) ?_; (case y26 => clear hSq; go_simp; (try with_reducible rfl)); simp only [Act.put, gqD, gqE, gqF]
      refine tkT 5 (v := ?v27) hS (fun wq hSq => ?y27) ?_; (case y27 => clear hSq; go_simp; (try with_reducible rfl)); simp only [Act.put, gqD, gqE, gqF]
      refine tkT 6 (v := ?v28) hS (fun wq hSq => ?y28) ?_; (case y28 => clear hSq; go_simp; (try with_reducible rfl)); simp only [Act.put, gqD, gqE, gqF]
      refine tkT 7 (v := ?v29) hS (fun wq hSq => ?y29) ?_; (case y29 => clear hSq; go_simp; (try with_reducible rfl)); simp only [Act.put, gqD, gqE, gqF]
      refine tkT 8 (v := ?v30) hS (fun wq hSq => ?y30) ?_; (case y30 => have hf0 := hSq; clear hSq; go_simp; (try with_reducible rfl)); simp only [Act.put, gqD, gqE, gqF]
      refine tkT 9 (v := ?v31) hS (fun wq hSq => ?y31) ?_; (case y31 => clear hSq; go_simp; (try with_reducible rfl)); simp only [Act.put, gqD, gqE, gqF]
      refine wpAnyH_ready (rs := [4, 10]) (by kernel_rfl) (by simp) ?_
      apply cut1
      case h =>
        intro key
        refine AllReadyH.cons (o := ?oi32) ?hi32 (fun K hK => ?_) (AllReadyH.cons (o := ?oi33) ?hi33 (fun K hK => ?_) AllReadyH.nil)
        case hi32 => (simp only [gqA, gqB, gqC]; rfl)
        case hi33 => (simp only [gqA, gqB, gqC]; rfl)
        · go_simp
          refine hK.out _ _ (HB.out.blk.drew.cell' 1 _ rfl) (fun hS => ?_)
          clear hK K
          refine wpAnyH_ready (rs := [10]) (by kernel_rfl) (by simp) ?_
          refine AllReadyH.cons (o := ?oi34) ?hi34 (fun K hK => ?_) AllReadyH.nil
          case hi34 => (simp only [gqA, gqB, gqC]; rfl)
          go_simp
          refine hK.out _ _ ((HB.out.blk.drew.alloc _).cell' 1 _ rfl) (fun hS => ?_)
          clear hK K
          (try simp only [Act.put, gqD, gqE, gqF])
          exact key
        · go_simp
          refine hK.out _ _ ((HB.out.blk.drew.alloc _).cell' 1 _ rfl) (fun hS => ?_)
          clear hK K
          refine wpAnyH_ready (rs := [4]) (by kernel_rfl) (by simp) ?_
          refine AllReadyH.cons (o := ?oi35) ?hi35 (fun K hK => ?_) AllReadyH.nil
          case hi35 => (simp only [gqA, gqB, gqC]; rfl)
          go_simp
          refine hK.out _ _ ((HB.out.blk.drew.alloc _).cell' 1 _ rfl) (fun hS => ?_)
          clear hK K
          (try simp only [Act.put, gqD, gqE, gqF])
          exact key
      have hS : (fun W : World => W.cell? ⟨g, 1, none⟩ = some (.int .i64 (d : Int))) (w.drew.alloc (.cells #[.int .i64 2, .int .i64 (d : Int), .slice none 0 0] 55)) := (HB.out.blk.drew.alloc _).cell' 1 _ rfl
      refine wpAnyH_ready (rs := [11]) (by kernel_rfl) (by simp) ?_
      refine AllReadyH.cons (o := ?oi36) ?hi36 (fun K hK => ?_) AllReadyH.nil
      case hi36 => (simp only [gqA, gqB, gqC]; rfl)
      refine step_append_lies _ (by rfl) _ _ _ (by rfl) b1 55 j0 (.agg #[.int .i64 0, .int .i64 0, .slice none 0 0]) 3 40 Tryz.underlying22 hinf hz0 hz1 hz2 rfl (by omega) V hs.length (hs.flatMap hmC) (by rfl) (HB.out.own.drew.alloc _) ⟨w.heap.size, 0, none⟩ 1 1 [.int .i64 2, .int .i64 (d : Int), .slice none 0 0] (by rfl) (by rfl) (World.news_of_block (cs := #[.int .i64 2, .int .i64 (d : Int), .slice none 0 0]) (t := 55) (fr := (0, 0)) (heap_alloc_new _ _)) (by simp [Value.oneCell']) (by omega) (by simp [maxLen]; omega) (by omega) (by simp; omega) (w.heap.size + 1) (by simp) ?_
      intro gg cap2 w2 hown2 hgrow hat hlt2
      have BG := (HB.out.blk.drew.alloc (.cells #[.int .i64 2, .int .i64 (d : Int), .slice none 0 0] 55)).grown hgrow (Ne.symm hnV)
      have p0 := BG.cell' 0 _ rfl
      have p1 := BG.free 0
      simp only [Act.put, gqD, gqE, gqF]
      refine hK.out _ _ (((HB.out.blk.drew.alloc _).grown hgrow (Ne.symm hnV)).cell' 1 _ rfl) (fun hS => ?_)
      clear hK K
      refine tkT 12 (v := ?v37) hS (fun wq hSq => ?y37) ?_; (case y37 => clear hSq; go_simp; (try with_reducible rfl)); simp only [Act.put, gqD, gqE, gqF]
      refine tkT 13 (v := ?v38) hS (fun wq hSq => ?y38) ?_; (case y38 => clear hSq; go_simp; (try with_reducible rfl)); simp only [Act.put, gqD, gqE, gqF]
      refine wpAnyH_ready (rs := [14]) (by kernel_rfl) (by simp) ?_
      refine AllReadyH.cons (o := ?oi39) ?hi39 (fun K hK => ?_) AllReadyH.nil
      case hi39 => (simp only [gqA, gqB, gqC]; rfl)
      go_simp
      refine hK.out _ _ ((BG.put 0 _).cell' 1 _ rfl) (fun hS => ?_)
      clear hK K
      refine wpAnyH_done (by kernel_rfl) ?_ _
      go_wp2
      go_meet
      case rel =>
        obtain ⟨q1, q2, q3, q4⟩ := HB.out.drew.push hgrow (x := ⟨2, d, [], none, 0⟩) (by simp) hown2 hat (fun y hy => by rw [List.mem_singleton] at hy; subst hy; exact ⟨Nat.le_refl _, Rd.none_ _, fun h0 => absurd h0 (by simp)⟩)
        exact ⟨_, _, ⟨q1, q3.own, q2, q3.ln, HB.out.lt.snoc (fun h0 => absurd h0 (by simp)), q3.nw, q3.g0, q3.h1, HB.out.h2, q3.k1, Nat.le_trans HB.out.k2 q4.sz⟩, q4.undrew, by rw [dropH_pos h0, List.map_append]; rfl, by simp⟩
    · obtain rfl : d = 0 := by omega
      have t1 : decide ((0 : Int) < ((0 : Nat) : Int)) = false := rfl
      go_wp2
      go_meet
      case rel => exact ⟨V, hs, HB.out, Fr.refl _ _ _, by simp [dropH_zero], by omega⟩
  case rest =>
    obtain ⟨V1, hs1, h1, fr1, hm1, hl1⟩ := hcut
    have H1 := Lib.hid h1
    have F1 := Lib.hid fr1
    have HM := Lib.hid hm1
    have HL := Lib.hid hl1
    have hl2 : hs1.length ≤ 100001 := by omega
    clear h1 fr1 hm1 hl1 HB
    by_cases ha0 : 0 < a.length
    · obtain ⟨A, c, rfl, hAc, hAd, hAk⟩ := own_ln3 H1.out.add
      have f2 := H1.out.blk.cell' 2 _ rfl
      have t0 : (0 : Int) < (a.length : Int) := by omega
      have t1 : decide ((0 : Int) < (a.length : Int)) = true := decide_eq_true t0
      have t2 : decide (0 < a.length) = true := decide_eq_true ha0
      obtain ⟨na, hna⟩ : ∃ na, a.length = na := ⟨_, rfl⟩
      have HNA := Lib.hid hna
      rw [hna] at f2 t0 t1 t2 ha0 ha
      clear hna
      go_upto_region 3 with (fail)
      have f0 := H1.out.blk.cell' 0 _ rfl
      have f0a := (H1.out.blk.alloc (.cells #[.int .i64 3, .int .i64 (na : Int), .slice A na c] 55)).cell' 0 _ rfl
      have hnV : V1.ownBlock ≠ some g := ne_kind (cs := []) H1.out.own H1.out.blk (by decide)
      have hk1 := H1.out.k1
      rw [HNA.out] at f0 f0a
      refine wp_region_held_drew (S := (fun W : World => W.cell? ⟨g, 2, none⟩ = some (.slice A na c))) (by kernel_rfl) (f2) (fun hS => ?_)
      refine tkT 0 (v := ?v1) hS (fun wq hSq => ?y1) ?_; (case y1 => clear hSq; go_simp; (try with_reducible rfl)); simp only [Act.put, gqD, gqE, gqF]
      refine tkT 1 (v := ?v2) hS (fun wq hSq => ?y2) ?_; (case y2 => clear hSq; go_simp; (try with_reducible rfl)); simp only [Act.put, gqD, gqE, gqF]
      refine tkT 2 (v := ?v3) hS (fun wq hSq => ?y3) ?_; (case y3 => clear hSq; go_simp; (try with_reducible rfl)); simp only [Act.put, gqD, gqE, gqF]
      refine tkT 3 (v := ?v4) hS (fun wq hSq => ?y4) ?_; (case y4 => clear hSq; go_simp; (try with_reducible rfl)); simp only [Act.put, gqD, gqE, gqF]
      refine tkT 5 (v := ?v5) hS (fun wq hSq => ?y5) ?_; (case y5 => clear hSq; go_simp; (try with_reducible rfl)); simp only [Act.put, gqD, gqE, gqF]
      refine tkT 6 (v := ?v6) hS (fun wq hSq => ?y6) ?_; (case y6 => clear hSq; go_simp; (try with_reducible rfl)); simp only [Act.put, gqD, gqE, gqF]
      refine tkT 7 (v := ?v7) hS (fun wq hSq => ?y7) ?_; (case y7 => clear hSq; go_simp; (try with_reducible rfl)); simp only [Act.put, gqD, gqE, gqF]
      refine tkT 8 (v := ?v8) hS (fun wq hSq => ?y8) ?_; (case y8 => have hf0 := hSq; clear hSq; go_simp; (try with_reducible rfl)); simp only [Act.put, gqD, gqE, gqF]
      refine tkT 9 (v := ?v9) hS (fun wq hSq => ?y9) ?_; (case y9 => clear hSq; go_simp; (try with_reducible rfl)); simp only [Act.put, gqD, gqE, gqF]
      refine tkT 10 (v := ?v10) hS (fun wq hSq => ?y10) ?_; (case y10 => clear hSq; go_simp; (try with_reducible rfl)); simp only [Act.put, gqD, gqE, gqF]
      refine tkT 11 (v := ?v11) hS (fun wq hSq => ?y11) ?_; (case y11 => clear hSq; go_simp; (try with_reducible rfl)); simp only [Act.put, gqD, gqE, gqF]
      refine tkT 12 (v := ?v12) hS (fun wq hSq => ?y12) ?_; (case y12 => clear hSq; go_simp; (try with_reducible rfl)); simp only [Act.put, gqD, gqE, gqF]
      refine tkT 13 (v := ?v13) hS (fun wq hSq => ?y13) ?_; (case y13 => have hf0 := hSq; clear hSq; go_simp; (try with_reducible rfl)); simp only [Act.put, gqD, gqE, gqF]
      refine tkT 14 (v := ?v14) hS (fun wq hSq => ?y14) ?_; (case y14 => clear hSq; go_simp; (try with_reducible rfl)); simp only [Act.put, gqD, gqE, gqF]
      refine wpAnyH_ready (rs := [4, 15]) (by kernel_rfl) (by simp) ?_
      apply cut1
      case h =>
        intro key
        refine AllReadyH.cons (o := ?oi15) ?hi15 (fun K hK => ?_) (AllReadyH.cons (o := ?oi16) ?hi16 (fun K hK => ?_) AllReadyH.nil)
        case hi15 => (simp only [gqA, gqB, gqC]; rfl)
        case hi16 => (simp only [gqA, gqB, gqC]; rfl)
        · go_simp
          refine hK.out _ _ ((rn H1.out.blk HNA.out).drew.cell' 2 _ rfl) (fun hS => ?_)
          clear hK K
          refine wpAnyH_ready (rs := [15]) (by kernel_rfl) (by simp) ?_
          refine AllReadyH.cons (o := ?oi17) ?hi17 (fun K hK => ?_) AllReadyH.nil
          case hi17 => (simp only [gqA, gqB, gqC]; rfl)
          go_simp
          refine hK.out _ _ (((rn H1.out.blk HNA.out).drew.alloc _).cell' 2 _ rfl) (fun hS => ?_)
          clear hK K
          (try simp only [Act.put, gqD, gqE, gqF])
          exact key
        · go_simp
          refine hK.out _ _ (((rn H1.out.blk HNA.out).drew.alloc _).cell' 2 _ rfl) (fun hS => ?_)
          clear hK K
          refine wpAnyH_ready (rs := [4]) (by kernel_rfl) (by simp) ?_
          refine AllReadyH.cons (o := ?oi18) ?hi18 (fun K hK => ?_) AllReadyH.nil
          case hi18 => (simp only [gqA, gqB, gqC]; rfl)
          go_simp
          refine hK.out _ _ (((rn H1.out.blk HNA.out).drew.alloc _).cell' 2 _ rfl) (fun hS => ?_)
          clear hK K
          (try simp only [Act.put, gqD, gqE, gqF])
          exact key
      have hS : (fun W : World => W.cell? ⟨g, 2, none⟩ = some (.slice A na c)) (wc.drew.alloc (.cells #[.int .i64 3, .int .i64 (na : Int), .slice A na c] 55)) := ((rn H1.out.blk HNA.out).drew.alloc _).cell' 2 _ rfl
      refine wpAnyH_ready (rs := [16]) (by kernel_rfl) (by simp) ?_
      refine AllReadyH.cons (o := ?oi19) ?hi19 (fun K hK => ?_) AllReadyH.nil
      case hi19 => (simp only [gqA, gqB, gqC]; rfl)
      refine step_append_lies _ (by rfl) _ _ _ (by rfl) b1 55 j0 (.agg #[.int .i64 0, .int .i64 0, .slice none 0 0]) 3 40 Tryz.underlying22 hinf hz0 hz1 hz2 rfl (by omega) V1 hs1.length (hs1.flatMap hmC) (by rfl) (H1.out.own.drew.alloc _) ⟨wc.heap.size, 0, none⟩ 1 1 [.int .i64 3, .int .i64 (na : Int), .slice A na c] (by rfl) (by rfl) (World.news_of_block (cs := #[.int .i64 3, .int .i64 (na : Int), .slice A na c]) (t := 55) (fr := (0, 0)) (heap_alloc_new _ _)) (by simp [Value.oneCell']) (by omega) (by simp [maxLen]; omega) (by omega) (by simp; omega) (wc.heap.size + 1) (by simp) ?_
      intro gg cap2 w2 hown2 hgrow hat hlt2
      have BG := ((rn H1.out.blk HNA.out).drew.alloc (.cells #[.int .i64 3, .int .i64 (na : Int), .slice A na c] 55)).grown hgrow (Ne.symm hnV)
      have p0 := BG.cell' 0 _ rfl
      have p1 := BG.free 0
      simp only [Act.put, gqD, gqE, gqF]
      refine hK.out _ _ ((((rn H1.out.blk HNA.out).drew.alloc _).grown hgrow (Ne.symm hnV)).cell' 2 _ rfl) (fun hS => ?_)
      clear hK K
      refine tkT 17 (v := ?v20) hS (fun wq hSq => ?y20) ?_; (case y20 => clear hSq; go_simp; (try with_reducible rfl)); simp only [Act.put, gqD, gqE, gqF]
      refine tkT 18 (v := ?v21) hS (fun wq hSq => ?y21) ?_; (case y21 => clear hSq; go_simp; (try with_reducible rfl)); simp only [Act.put, gqD, gqE, gqF]
      refine wpAnyH_ready (rs := [19]) (by kernel_rfl) (by simp) ?_
      refine AllReadyH.cons (o := ?oi22) ?hi22 (fun K hK => ?_) AllReadyH.nil
      case hi22 => (simp only [gqA, gqB, gqC]; rfl)
      go_simp
      refine hK.out _ _ ((BG.put 0 _).cell' 2 _ rfl) (fun hS => ?_)
      clear hK K
      refine wpAnyH_done (by kernel_rfl) ?_ _
      clear hS
      obtain ⟨q1, q2, q3, q4⟩ := H1.out.drew.push hgrow (x := ⟨3, (a.length : Int), a, A, c⟩) (n := hs1.length + 1) (by simp) (by have hown3 := hown2; rw [← HNA.out] at hown3; exact hown3) hat hAd
      have q4 := q4.undrew
      have u1 := q1.free 1
      have u2 := q1.cell' 1 _ rfl
      have u3 := (q1.put 1 (.int .i64 0)).cell' 2 _ rfl
      have u4 := (q1.put 1 (.int .i64 0)).free 2
      obtain ⟨b2', D⟩ := q3.done q1
      have F2 := (q4.put (i := 1) (.int .i64 0)).put (i := 2) (.slice none 0 0)
      have HR : Hid (∃ V' hs' b2', BM w0 (((w2.setCell ⟨g, 0, none⟩ (.slice (some ⟨gg, 0, none⟩) (hs1.length + 1) cap2)).setCell ⟨g, 1, none⟩ (.int .i64 0)).setCell ⟨g, 2, none⟩ (.slice none 0 0)) g b1 b2' hs' 0 [] V' (.slice none 0 0) ∧ Fr w (((w2.setCell ⟨g, 0, none⟩ (.slice (some ⟨gg, 0, none⟩) (hs1.length + 1) cap2)).setCell ⟨g, 1, none⟩ (.int .i64 0)).setCell ⟨g, 2, none⟩ (.slice none 0 0)) g V V' ∧ hs'.map Hm.d = (Bs.flush ⟨hs.map Hm.d, d, a⟩).l ∧ hs'.length ≤ hs.length + 2) := Lib.hid ⟨_, _, b2', D, F1.out.trans F2, by
        rw [List.map_append, HM.out, Bs.flush, addH_pos (by rw [HNA.out]; exact ha0)]; rfl, by have := HL.out; simp; omega⟩
      clear D F2 q1 q2 q3 q4 BG
      generalize (w2.setCell ⟨g, 0, none⟩ (.slice (some ⟨gg, 0, none⟩) (hs1.length + 1) cap2)) = W at *
      go_wp2
      go_end0
      obtain ⟨V', hs', b2', r1, r2, r3, r4⟩ := HR.out
      exact ⟨rfl, V', hs', ⟨b2', r1⟩, r2, r3, r4⟩
    · obtain rfl : a = [] := List.eq_nil_of_length_eq_zero (by omega)
      obtain ⟨A, c, rfl, hAc, hAd, hAk⟩ := own_ln3 H1.out.add
      have f1 := H1.out.blk.cell' 1 _ rfl
      have f2 := H1.out.blk.cell' 2 _ rfl
      have z1 := H1.out.blk.free 1
      have u3 := (H1.out.blk.put 1 (.int .i64 0)).cell' 2 _ rfl
      have u4 := (H1.out.blk.put 1 (.int .i64 0)).free 2
      obtain ⟨b2', D⟩ := H1.out.bp.done H1.out.blk
      have F2 := ((Fr.refl wc g V1).put (i := 1) (.int .i64 0)).put (i := 2) (.slice none 0 0)
      have HR : Hid (∃ V' hs' b2', BM w0 ((wc.setCell ⟨g, 1, none⟩ (.int .i64 0)).setCell ⟨g, 2, none⟩ (.slice none 0 0)) g b1 b2' hs' 0 [] V' (.slice none 0 0) ∧ Fr w ((wc.setCell ⟨g, 1, none⟩ (.int .i64 0)).setCell ⟨g, 2, none⟩ (.slice none 0 0)) g V V' ∧ hs'.map Hm.d = (Bs.flush ⟨hs.map Hm.d, d, []⟩).l ∧ hs'.length ≤ hs.length + 2) := Lib.hid ⟨_, _, b2', D, F1.out.trans F2, by
        rw [HM.out, Bs.flush, addH_nil, List.append_nil], by have := HL.out; omega⟩
      clear D F2
      go_wp2
      go_end0
      obtain ⟨V', hs', b2', r1, r2, r3, r4⟩ := HR.out
      exact ⟨rfl, V', hs', b2', r1, r2, r3, r4⟩
end Go.Proofs.YtfeknjpinboknaaGreatDoor

