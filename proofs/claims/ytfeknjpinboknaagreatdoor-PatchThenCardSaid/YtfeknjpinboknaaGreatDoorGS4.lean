/- The reference's Permute of SHA3. Conditions: words. -/
import Derived.Test.YtfeknjpinboknaaGreatDoorGBase
import Derived.Test.YtfeknjpinboknaaGreatDoorGS3

namespace Go.Proofs.YtfeknjpinboknaaGreatDoor
open Go Go.RowKit Go.Joins Go.Shelf
set_option linter.unusedSimpArgs false
set_option linter.unusedVariables false

theorem cut2 {P : World → Prop} {Q : Prop} {w0 : World} (h : (∀ w5, New w0 w5 → P w5) → Q) (k : ∀ w5, New w0 w5 → P w5) : Q := h k
set_option maxRecDepth 100000 in
set_option maxHeartbeats 16000000 in
theorem rpermute_any (s : Nat → Nat) (hs : StW s) (w : World) : Calls Tryz.prog 80 #[.agg (wdA 25 s)] w fun e w' => e = .returned (.agg (wdA 25 (permS s))) ∧ New w w' := by
  have HS := Lib.hid hs
  obtain ⟨g, hg⟩ : ∃ g, w.heap.size = g := ⟨_, rfl⟩
  have HG := Lib.hid hg
  clear hg hs
  go_enter Tryz.func80, Tryz.ntmps80
  go_wp2
  rw [HG.out, zero25]
  have b1 : Wd ((w.alloc (.cells (wdA 25 s) 108)).alloc (.cells (wdA 25 zeroS) 108)) g 108 25 s := by
    have := (Blk.made w 108 (wdA 25 s)).alloc (.cells (wdA 25 zeroS) 108)
    rw [HG.out] at this; exact this
  have b2 : Wd ((w.alloc (.cells (wdA 25 s) 108)).alloc (.cells (wdA 25 zeroS) 108)) (g + 1) 108 25 zeroS := by
    have := Blk.made (w.alloc (.cells (wdA 25 s) 108)) 108 (wdA 25 zeroS)
    rw [World.size_alloc, HG.out] at this; exact this
  have n0 := ((New.refl w).alloc (.cells (wdA 25 s) 108)).alloc (.cells (wdA 25 zeroS) 108)
  generalize (w.alloc (.cells (wdA 25 s) 108)).alloc (.cells (wdA 25 zeroS) 108) = w1 at *
  go_loopw [3] (fun v3 wr => ∃ k : Nat, v3 = .int .i64 (k : Int) ∧ k ≤ 24 ∧ New w wr ∧ Wd wr g 108 25 (permK s k) ∧ Wd wr (g + 1) 108 25 zeroS) (fun v3 _ => 24 - (intOf v3).toNat)
  case atStart => exact ⟨0, rfl, by omega, n0, b1, b2⟩
  case round =>
    clear b1 b2 n0
    obtain ⟨k, rfl, hk, hn, q1, q2⟩ := hrel
    by_cases hlt : k < 24
    · have k0 : (0 : Int) ≤ (k : Int) := by omega
      have k1 : (k : Int) < 24 := by omega
      have CC := Lib.hid (fun W => constant_any k hlt W)
      have CR := Lib.hid (fun W => rround_any (permK s k) (conN k) (HS.out.permK k hk) (con_lt ⟨k, hlt⟩) W)
      have HP : Hid (roundS (permK s k) (conN k) = permK s (k + 1)) := Lib.hid rfl
      rw [HP.out] at CR
      have N0 := Lib.hid hn
      have Q1 := Lib.hid q1
      have Q2 := Lib.hid q2
      have HGL : Hid (g < wr.heap.size) := Lib.hid q1.lt
      clear hn q1 q2
      obtain ⟨sn, hsn⟩ : ∃ sn, permK s (k + 1) = sn := ⟨_, rfl⟩
      rw [hsn] at CR HP
      have HSN := Lib.hid hsn
      clear hsn
      generalize permK s k = sk at *
      go_upto_region 4 with (fail)
      have W1 : Wd wr.drew g 108 25 sk := Q1.out.drew
      have W2 : Wd wr.drew (g + 1) 108 25 zeroS := Q2.out.drew
      have N1 : New w wr.drew := N0.out.drew
      refine wp_region_held_drew (S := (fun Y : World => True)) (by kernel_rfl) trivial (fun hS => ?_)
      refine tkT 1 (v := ?v2) hS (fun wq hSq => ?y2) ?_; (case y2 => clear hSq; go_simp; (try with_reducible rfl)); simp only [Act.put, gqD, gqE, gqF]
      refine wpAnyH_ready (rs := [0, 2]) (by kernel_rfl) (by simp) ?_
      apply cut2 (w0 := wr.drew)
      case h =>
        intro key
        refine AllReadyH.cons (o := ?oi1) ?hi1 (fun K hK => ?_) (AllReadyH.cons (o := ?oi2) ?hi2 (fun K hK => ?_) AllReadyH.nil)
        case hi1 => (simp only [gqA, gqB, gqC]; rfl)
        case hi2 => (simp only [gqA, gqB, gqC]; rfl)
        · rw [if_pos (by simp [Region.wanted])]
          refine wp_load_row 108 (.tmp 1) rfl g rfl 108 _ (0, 0) _ W1 Tryz.underlying108 rfl info108s ?_
          simp only [Act.put, gqD, gqE, gqF]
          refine hK.out _ _ trivial (fun hS => ?_)
          clear hK K
          refine wpAnyH_ready (rs := [2]) (by kernel_rfl) (by simp) ?_
          refine AllReadyH.cons (o := ?oi11) ?hi11 (fun K hK => ?_) AllReadyH.nil
          case hi11 => (simp only [gqA, gqB, gqC]; rfl)
          go_simp
          with_reducible refine (CC.out _).mono ?_
          rintro e w5 ⟨rfl, n5⟩
          refine hK.out _ _ trivial (fun hS => ?_)
          clear hK K
          (try simp only [Act.put, gqD, gqE, gqF])
          exact key _ n5
        · go_simp
          with_reducible refine (CC.out _).mono ?_
          rintro e w5 ⟨rfl, n5⟩
          refine hK.out _ _ trivial (fun hS => ?_)
          clear hK K
          refine wpAnyH_ready (rs := [0]) (by kernel_rfl) (by simp) ?_
          refine AllReadyH.cons (o := ?oi12) ?hi12 (fun K hK => ?_) AllReadyH.nil
          case hi12 => (simp only [gqA, gqB, gqC]; rfl)
          rw [if_pos (by simp [Region.wanted])]
          refine wp_load_row 108 (.tmp 1) rfl g rfl 108 _ (0, 0) _ (Blk.new W1 n5) Tryz.underlying108 rfl info108s ?_
          simp only [Act.put, gqD, gqE, gqF]
          refine hK.out _ _ trivial (fun hS => ?_)
          clear hK K
          (try simp only [Act.put, gqD, gqE, gqF])
          exact key _ n5
      intro w5 n5
      refine wpAnyH_ready (rs := [3]) (by kernel_rfl) (by simp) ?_
      refine AllReadyH.cons (o := ?oi4) ?hi4 (fun K hK => ?_) AllReadyH.nil
      case hi4 => (simp only [gqA, gqB, gqC]; rfl)
      go_simp
      with_reducible refine (CR.out _).mono ?_
      rintro e w6 ⟨rfl, n6⟩
      have B1 := Blk.new W1 (n5.trans n6)
      have B2 := Blk.new W2 (n5.trans n6)
      have N2 := N1.trans (n5.trans n6)
      refine hK.out _ _ trivial (fun hS => ?_)
      clear hK K
      refine wpAnyH_ready (rs := [4]) (by kernel_rfl) (by simp) ?_
      refine AllReadyH.cons (o := ?oi5) ?hi5 (fun K hK => ?_) AllReadyH.nil
      case hi5 => (simp only [gqA, gqB, gqC]; rfl)
      rw [if_pos (by simp [Region.wanted])]
      refine wp_store_row 108 (.tmp 1) (.tmp 11) rfl g (wdA 25 sn) rfl rfl 108 _ B1 info108s (by rw [wdA_size, wdA_size]) (wdA_one 25 _) ?_
      have R1 := setRow_heap w6 g (wdA 25 sk) (wdA 25 sn) 108 (0, 0) B1
      have R2 : (w6.setRow g (wdA 25 sn)).heap[g + 1]? = some (.cells (wdA 25 zeroS) 108 (0, 0)) := (setRow_other w6 g (g + 1) (wdA 25 sn) (by omega)).trans B2
      have R3 := below_setRow N2 (show w.heap.size ≤ g by rw [HG.out]; exact Nat.le_refl _) (wdA 25 sn)
      refine hK.out _ _ trivial (fun hS => ?_)
      clear hK K B1 B2 N2
      refine wpAnyH_done (by kernel_rfl) ?_ _
      go_wp2
      go_roundw
      case rel => exact ⟨k + 1, by go_num, by omega, R3, by rw [HSN.out]; exact R1, R2⟩
      case measure => (simp [intOf]; try omega)
    · obtain rfl : k = 24 := by omega
      have q1 : Wd wr g 108 25 (permS s) := q1
      obtain ⟨sp, hsp⟩ : ∃ sp, permS s = sp := ⟨_, rfl⟩
      rw [hsp] at q1
      have HSP := Lib.hid hsp
      clear hsp
      have hs1 : wr.heap[g + 1]? = some (.cells (wdA 25 zeroS) 108 (0, 0)) := q2
      go_upto_region 5 with (fail)
      go_step
      refine wpList_load_row rfl 108 (.tmp 1) rfl g rfl 108 _ (0, 0) _ q1 Tryz.underlying108 rfl info108s ?_
      refine wpList_store_rowTo rfl 108 (.tmp 2) (.tmp 12) rfl rfl (g + 1) (wdA 25 sp) rfl rfl 108 _ hs1 info108s (by rw [wdA_size, wdA_size]) (wdA_one 25 _) ?_
      have RB := setRow_heap wr (g + 1) (wdA 25 zeroS) (wdA 25 sp) 108 (0, 0) hs1
      have NB := below_setRow hn (show w.heap.size ≤ g + 1 by rw [HG.out]; omega) (wdA 25 sp)
      generalize wr.setRow (g + 1) (wdA 25 sp) = w6 at *
      go_wp2
      exact bodyPost_ret (v := .agg (wdA 25 sp)) (results_cell_row Tryz.results80 _ _ (g + 1) 108 _ (0, 0) _ rfl RB Tryz.underlying108 rfl info108s) rfl ⟨by rw [HSP.out], NB⟩
end Go.Proofs.YtfeknjpinboknaaGreatDoor

