/- The program's round of SHA3. Conditions: words. -/
import Derived.Test.YtfeknjpinboknaaGreatDoorGS4

namespace Go.Proofs.YtfeknjpinboknaaGreatDoor
open Go Go.RowKit Go.Joins Go.Shelf
set_option linter.unusedSimpArgs false
set_option linter.unusedVariables false

theorem run_ix (s : Nat → Nat) (k : Nat) (hk : k < 25) (W : World) : (Instr.index 108 (.agg (wdA 25 s)) (.int .i64 (k : Int))).run Tryz.prog W = .ok (.int .u64 (s k : Int)) W := by
  have h1 : (k : Int) < 25 := by omega
  have h2 := wdA_at 25 s k hk
  simp [Instr.index, run_underlying Tryz.underlying108, asIntOf, h1, go_sem]
  rw [if_pos hk, h2]
  rfl
def tP (s : Nat → Nat) (k p : Nat) : Nat := if srcN p < k then movS s p else 0
theorem tP_put (s : Nat → Nat) {k : Nat} (hk : k < 25) {p : Nat} (hp : p < 25) : putS (tP s k) (dstN k) (valS s k) p = tP s (k + 1) p := by
  have h := dst_src ⟨p, hp⟩
  simp only at h
  have hd := src_dst ⟨k, hk⟩
  simp only at hd
  unfold putS
  by_cases e : p = dstN k
  · rw [if_pos e, tP, e, hd.1, if_pos (by omega), movS, hd.1]
  · rw [if_neg e]
    have hne : srcN p ≠ k := fun q => e (by rw [← h.1, q])
    unfold tP
    by_cases e2 : srcN p < k
    · rw [if_pos e2, if_pos (by omega)]
    · rw [if_neg e2, if_neg (by omega)]
theorem tP_end (s : Nat → Nat) {p : Nat} (hp : p < 25) : tP s 25 p = movS s p := by unfold tP; rw [if_pos (dst_src ⟨p, hp⟩).2]
def cP (s : Nat → Nat) (k p : Nat) : Nat := if p < k then chiS (movS s) p else s p
theorem cP_put (s : Nat → Nat) {k p : Nat} : putS (cP s k) k (chiS (movS s) k) p = cP s (k + 1) p := by
  unfold putS cP
  by_cases e : p = k
  · subst e; rw [if_pos rfl, if_pos (by omega)]
  · rw [if_neg e]
    by_cases e2 : p < k
    · rw [if_pos e2, if_pos (by omega)]
    · rw [if_neg e2, if_neg (by omega)]
theorem colK_put (s : Nat → Nat) (k x : Nat) : putS (colK s k) (k % 5) (colK s k (k % 5) ^^^ s k) x = colK s (k + 1) x := by
  show (if x = k % 5 then colK s k (k % 5) ^^^ s k else colK s k x) = (if x = k % 5 then colK s k x ^^^ s k else colK s k x)
  by_cases e : x = k % 5
  · rw [if_pos e, if_pos e, e]
  · rw [if_neg e, if_neg e]
set_option maxRecDepth 100000 in
set_option maxHeartbeats 16000000 in
theorem round_any (s : Nat → Nat) (c : Nat) (hs : StW s) (hc : c < M64) (w : World) : Calls Tryz.prog 130 #[.agg (wdA 25 s), .agg offA, .int .u64 (c : Int)] w fun e w' => e = .returned (.agg (wdA 25 (roundS s c))) ∧ New w w' := by
  have HS := Lib.hid hs
  obtain ⟨g, hg⟩ : ∃ g, w.heap.size = g := ⟨_, rfl⟩
  have HG := Lib.hid hg
  have HIX := Lib.hid (run_ix s)
  obtain ⟨OF, hOF⟩ : ∃ OF, offA = OF := ⟨_, rfl⟩
  have HOF := Lib.hid (fun i h => offA_at i h)
  rw [hOF] at HOF ⊢
  clear hg hs hOF
  go_enter Tryz.func130, Tryz.ntmps130
  go_upto_region 2 with (fail)
  rw [HG.out, zero25, zero5]
  have b0 : Wd ((((w.alloc (.cells (wdA 25 s) 108)).alloc (.cells OF 153)).alloc (.cells (wdA 25 zeroS) 108)).alloc (.cells (wdA 5 zeroS) 139)) g 108 25 s := by
    have := (((Blk.made w 108 (wdA 25 s)).alloc (.cells OF 153)).alloc (.cells (wdA 25 zeroS) 108)).alloc (.cells (wdA 5 zeroS) 139)
    rw [HG.out] at this; exact this
  have b1 : Blk ((((w.alloc (.cells (wdA 25 s) 108)).alloc (.cells OF 153)).alloc (.cells (wdA 25 zeroS) 108)).alloc (.cells (wdA 5 zeroS) 139)) (g + 1) 153 OF := by
    have := ((Blk.made (w.alloc (.cells (wdA 25 s) 108)) 153 OF).alloc (.cells (wdA 25 zeroS) 108)).alloc (.cells (wdA 5 zeroS) 139)
    rw [World.size_alloc, HG.out] at this; exact this
  have b2 : Wd ((((w.alloc (.cells (wdA 25 s) 108)).alloc (.cells OF 153)).alloc (.cells (wdA 25 zeroS) 108)).alloc (.cells (wdA 5 zeroS) 139)) (g + 1 + 1) 108 25 zeroS := by
    have := (Blk.made ((w.alloc (.cells (wdA 25 s) 108)).alloc (.cells OF 153)) 108 (wdA 25 zeroS)).alloc (.cells (wdA 5 zeroS) 139)
    rw [World.size_alloc, World.size_alloc, HG.out] at this; exact this
  have b3 : Wd ((((w.alloc (.cells (wdA 25 s) 108)).alloc (.cells OF 153)).alloc (.cells (wdA 25 zeroS) 108)).alloc (.cells (wdA 5 zeroS) 139)) (g + 1 + 1 + 1) 139 5 zeroS := by
    have := Blk.made (((w.alloc (.cells (wdA 25 s) 108)).alloc (.cells OF 153)).alloc (.cells (wdA 25 zeroS) 108)) 139 (wdA 5 zeroS)
    rw [World.size_alloc, World.size_alloc, World.size_alloc, HG.out] at this; exact this
  have n0 := ((((New.refl w).alloc (.cells (wdA 25 s) 108)).alloc (.cells OF 153)).alloc (.cells (wdA 25 zeroS) 108)).alloc (.cells (wdA 5 zeroS) 139)
  have hz0 : ((((w.alloc (.cells (wdA 25 s) 108)).alloc (.cells OF 153)).alloc (.cells (wdA 25 zeroS) 108)).alloc (.cells (wdA 5 zeroS) 139)).heap.size = g + 4 := by simp only [World.size_alloc]; rw [HG.out]
  generalize ((((w.alloc (.cells (wdA 25 s) 108)).alloc (.cells OF 153)).alloc (.cells (wdA 25 zeroS) 108)).alloc (.cells (wdA 5 zeroS) 139)) = w1 at *
  go_step
  refine wpList_load_row rfl 108 (.tmp 3) rfl g rfl 108 _ (0, 0) _ b0 Tryz.underlying108 rfl info108s ?_
  go_wp2
  go_loopw [8, 9, 18] (fun _ _ v18 wr => ∃ k : Nat, v18 = .int .i64 (k : Int) ∧ k ≤ 25 ∧ New w wr ∧ wr.heap.size = g + 4 ∧ Wd wr g 108 25 s ∧ Blk wr (g + 1) 153 OF ∧ Wd wr (g + 1 + 1) 108 25 zeroS ∧ Wd wr (g + 1 + 1 + 1) 139 5 (colK s k)) (fun _ _ v18 _ => 25 - (intOf v18).toNat)
  case atStart => exact ⟨0, rfl, by omega, n0, hz0, b0, b1, b2, b3⟩
  case round =>
    clear b0 b1 b2 b3 n0 hz0
    obtain ⟨k, rfl, hk, hn, hz, q0, q1, q2, q3⟩ := hrel
    by_cases hlt : k < 25
    · have k0 : (0 : Int) ≤ (k : Int) := by omega
      have k1 : (k : Int) < 25 := by omega
      have hix := HIX.out k hlt
      have a1 : (k : Int) % 5 = ((k % 5 : Nat) : Int) := by omega
      have a2 : (k : Int).tmod 5 = ((k % 5 : Nat) : Int) := by rw [Int.tmod_eq_emod_of_nonneg (by omega)]; omega
      have hm5 : k % 5 < 5 := Nat.mod_lt _ (by decide)
      have a3 : (0 : Int) ≤ ((k % 5 : Nat) : Int) := by omega
      have a4 : ((k % 5 : Nat) : Int) < 5 := by omega
      have c0 := Wd.at q3 hm5
      have z0 := Blk.free q3 (k % 5)
      have l0 := colK_lt HS.out k hk (k % 5)
      have l1 := HS.out k hlt
      have y1 := bits_xor_u64_nat _ _ l0 l1
      have HCP := Lib.hid (fun x => colK_put s k x)
      have Q0 := Lib.hid q0
      have Q1 := Lib.hid q1
      have Q2 := Lib.hid q2
      have Q3 := Lib.hid q3
      have HN := Lib.hid hn
      clear q0 q1 q2 q3 hn l0 l1
      generalize colK s k (k % 5) ^^^ s k = e2 at *
      generalize colK s k (k % 5) = e0 at *
      generalize k % 5 = m at *
      go_wp2
      go_roundw
      case rel =>
        have h1 : g ≠ g + 1 + 1 + 1 := by omega
        have h2 : g + 1 ≠ g + 1 + 1 + 1 := by omega
        have h3 : g + 1 + 1 ≠ g + 1 + 1 + 1 := by omega
        exact ⟨k + 1, by go_num, by omega, HN.out.setCell (p := ⟨g + 1 + 1 + 1, m, none⟩) (by rw [HG.out]; simp only; omega) _, by rw [World.size_setCell]; exact hz, Blk.far (p := ⟨g + 1 + 1 + 1, m, none⟩) Q0.out h1 _, Blk.far (p := ⟨g + 1 + 1 + 1, m, none⟩) Q1.out h2 _, Blk.far (p := ⟨g + 1 + 1 + 1, m, none⟩) Q2.out h3 _, Wd.ext (Wd.put Q3.out hm5 e2) (fun i _ => HCP.out i)⟩
      case measure => (simp [intOf]; try omega)
    · obtain rfl : k = 25 := by omega
      have p0 := Blk.alloc q0 (.cells (wdA 25 zeroS) 108)
      have p1 := Blk.alloc q1 (.cells (wdA 25 zeroS) 108)
      have p2 := Blk.alloc q2 (.cells (wdA 25 zeroS) 108)
      have p3 : Wd _ (g + 1 + 1 + 1) 139 5 (colS s) := (Wd.ext q3 (fun i hi => colK_end s i hi)).alloc (.cells (wdA 25 zeroS) 108)
      have b4 := Blk.made wr 108 (wdA 25 zeroS)
      rw [hz] at b4
      have m1 := hn.alloc (.cells (wdA 25 zeroS) 108)
      clear q0 q1 q2 q3 hn
      go_upto_region 8 with (fail)
      (try rw [hz])
      rw [zero25]
      clear hz
      generalize wr.alloc (.cells (wdA 25 zeroS) 108) = w2 at *
      go_step
      refine wpList_load_row rfl 108 (.tmp 3) rfl g rfl 108 _ (0, 0) _ p0 Tryz.underlying108 rfl info108s ?_
      go_wp2
      go_loopw [11, 12, 13, 14, 31] (fun _ _ _ _ v31 wr2 => ∃ k : Nat, v31 = .int .i64 (k : Int) ∧ k ≤ 25 ∧ New w wr2 ∧ Wd wr2 g 108 25 s ∧ Blk wr2 (g + 1) 153 OF ∧ Wd wr2 (g + 1 + 1) 108 25 zeroS ∧ Wd wr2 (g + 1 + 1 + 1) 139 5 (colS s) ∧ Wd wr2 (g + 4) 108 25 (tP s k)) (fun _ _ _ _ v31 _ => 25 - (intOf v31).toNat)
      case atStart => exact ⟨0, rfl, by omega, m1, p0, p1, p2, p3, Wd.ext b4 (fun i hi => by unfold tP; rw [if_neg (by omega)]; rfl)⟩
      case round =>
        clear p0 p1 p2 p3 b4 m1
        obtain ⟨k, rfl, hk, hn, q0, q1, q2, q3, q4⟩ := hrel
        by_cases hlt : k < 25
        · have k0 : (0 : Int) ≤ (k : Int) := by omega
          have k1 : (k : Int) < 25 := by omega
          have hix := HIX.out k hlt
          have f1 := q1.cell' k _ (HOF.out k hlt)
          have hput := fun (p : Nat) (hp : p < 25) => tP_put s hlt hp
          have ho : offN k < 64 := off_lt ⟨k, hlt⟩
          have hsx := HS.out k hlt
          have hv : valS s k = rotN (s k ^^^ dS s (k % 5)) (offN k) := rfl
          have hdl : dS s (k % 5) < M64 := HS.out.d _
          have CR := Lib.hid (fun W => rotl_any (s k ^^^ dS s (k % 5)) (offN k) (xor_lt hsx hdl) ho W)
          have y2 := bits_xor_u64_nat _ _ hsx hdl
          rw [hv, show dstN k = k / 5 + 5 * ((2 * (k % 5) + 3 * (k / 5)) % 5) from rfl] at hput
          have t1 : (k : Int) % 5 = ((k % 5 : Nat) : Int) := by omega
          have t2 : (k : Int).tmod 5 = ((k % 5 : Nat) : Int) := by rw [Int.tmod_eq_emod_of_nonneg (by omega)]; omega
          have t3 : (k : Int) / 5 = ((k / 5 : Nat) : Int) := by omega
          have t4 : (k : Int).tdiv 5 = ((k / 5 : Nat) : Int) := by rw [Int.tdiv_eq_ediv_of_nonneg (by omega)]; omega
          have hm5 : k % 5 < 5 := Nat.mod_lt _ (by decide)
          have hq5 : k / 5 < 5 := by omega
          have l4 : colS s ((k % 5 + 4) % 5) < M64 := HS.out.col (Nat.mod_lt _ (by decide))
          have l1 : colS s ((k % 5 + 1) % 5) < M64 := HS.out.col (Nat.mod_lt _ (by decide))
          have CC := Lib.hid (fun W => rotl_any (colS s ((k % 5 + 1) % 5)) 1 l1 (by omega) W)
          have y1 := bits_xor_u64_nat _ _ l4 (rot_lt 1 l1)
          rw [show colS s ((k % 5 + 4) % 5) ^^^ rotN (colS s ((k % 5 + 1) % 5)) 1 = dS s (k % 5) from rfl] at y1
          have c4 := Wd.at q3 (i := (k % 5 + 4) % 5) (Nat.mod_lt _ (by decide))
          have c1 := Wd.at q3 (i := (k % 5 + 1) % 5) (Nat.mod_lt _ (by decide))
          have HPUT := Lib.hid hput
          have Q0 := Lib.hid q0
          have Q1 := Lib.hid q1
          have Q2 := Lib.hid q2
          have Q3 := Lib.hid q3
          have Q4 := Lib.hid q4
          have HN := Lib.hid hn
          clear q0 q1 q2 q3 q4 hn hput hv ho hsx hdl l1 l4
          generalize hm : k % 5 = m at *
          generalize hq : k / 5 = q at *
          clear hm hq
          have a1 : IntKind.i64.wrap ((m : Int) + 4) = (m : Int) + 4 := IntWalk.i64_in _ (by omega)
          have a2 : ((m : Int) + 4) % 5 = (((m + 4) % 5 : Nat) : Int) := by omega
          have a2' : ((m : Int) + 4).tmod 5 = (((m + 4) % 5 : Nat) : Int) := by rw [Int.tmod_eq_emod_of_nonneg (by omega)]; omega
          have a3 : (0 : Int) ≤ (((m + 4) % 5 : Nat) : Int) := by omega
          have a4 : (((m + 4) % 5 : Nat) : Int) < 5 := by omega
          have b1 : IntKind.i64.wrap ((m : Int) + 1) = (m : Int) + 1 := IntWalk.i64_in _ (by omega)
          have b2 : ((m : Int) + 1) % 5 = (((m + 1) % 5 : Nat) : Int) := by omega
          have b2' : ((m : Int) + 1).tmod 5 = (((m + 1) % 5 : Nat) : Int) := by rw [Int.tmod_eq_emod_of_nonneg (by omega)]; omega
          have b3 : (0 : Int) ≤ (((m + 1) % 5 : Nat) : Int) := by omega
          have b4 : (((m + 1) % 5 : Nat) : Int) < 5 := by omega
          have d1 : IntKind.i64.wrap (2 * (m : Int)) = 2 * (m : Int) := IntWalk.i64_in _ (by omega)
          have d2 : IntKind.i64.wrap (3 * (q : Int)) = 3 * (q : Int) := IntWalk.i64_in _ (by omega)
          have d3 : IntKind.i64.wrap (2 * (m : Int) + 3 * (q : Int)) = 2 * (m : Int) + 3 * (q : Int) := IntWalk.i64_in _ (by omega)
          have d4 : (2 * (m : Int) + 3 * (q : Int)) % 5 = (((2 * m + 3 * q) % 5 : Nat) : Int) := by omega
          have d4t : (2 * (m : Int) + 3 * (q : Int)).tmod 5 = (((2 * m + 3 * q) % 5 : Nat) : Int) := by rw [Int.tmod_eq_emod_of_nonneg (by omega)]; omega
          have HZ : (2 * m + 3 * q) % 5 < 5 := Nat.mod_lt _ (by decide)
          generalize (2 * m + 3 * q) % 5 = zz at *
          have d5 : IntKind.i64.wrap (5 * (zz : Int)) = 5 * (zz : Int) := IntWalk.i64_in _ (by omega)
          have d6 : IntKind.i64.wrap ((q : Int) + 5 * (zz : Int)) = ((q + 5 * zz : Nat) : Int) := by rw [IntWalk.i64_in _ (by omega)]; omega
          have d7 : (0 : Int) ≤ ((q + 5 * zz : Nat) : Int) := by omega
          have d8 : ((q + 5 * zz : Nat) : Int) < 25 := by omega
          have hpd2 : q + 5 * zz < 25 := by omega
          generalize q + 5 * zz = pd at *
          generalize (m + 4) % 5 = i4 at *
          generalize (m + 1) % 5 = i1 at *
          generalize rotN (s k ^^^ dS s m) (offN k) = nv at *
          generalize s k ^^^ dS s m = xv at *
          generalize dS s m = dv at *
          generalize rotN (colS s i1) 1 = rv at *
          generalize colS s i1 = cv1 at *
          generalize colS s i4 = cv4 at *
          generalize offN k = ok at *
          generalize s k = sk at *
          go_wp2
          go_quiet ((go_at_call 136; exact Calls.quiet_of_same (CC.out _)))
          have U0 := Lib.hid (Blk.drewN' Q0.out nq)
          have U1 := Lib.hid (Blk.drewN' Q1.out nq)
          have U2 := Lib.hid (Blk.drewN' Q2.out nq)
          have U3 := Lib.hid (Blk.drewN' Q3.out nq)
          have U4 := Lib.hid (Blk.drewN' Q4.out nq)
          have UN := Lib.hid (HN.out.drewN nq)
          have f1 : (wr.drewN nq).cell? ⟨g + 1, k, none⟩ = _ := f1
          clear c1 c4 Q0 Q1 Q2 Q3 Q4 HN
          generalize wr.drewN nq = w5 at *
          have zf := Blk.free U4.out pd
          obtain ⟨uo, fo⟩ : ∃ uo, w5.cell? ⟨g + 4, pd, none⟩ = some uo := ⟨_, Wd.at U4.out hpd2⟩
          go_wp2_with (go_at_call 136; with_reducible refine (CR.out _).mono ?_; rintro e w6 ⟨rfl, rfl⟩)
          go_roundw
          case rel =>
            have h0 : g ≠ g + 4 := by omega
            have h1 : g + 1 ≠ g + 4 := by omega
            have h2 : g + 1 + 1 ≠ g + 4 := by omega
            have h3 : g + 1 + 1 + 1 ≠ g + 4 := by omega
            exact ⟨k + 1, by go_num, by omega, UN.out.setCell (p := ⟨g + 4, pd, none⟩) (by rw [HG.out]; simp only; omega) _, Blk.far (p := ⟨g + 4, pd, none⟩) U0.out h0 _, Blk.far (p := ⟨g + 4, pd, none⟩) U1.out h1 _, Blk.far (p := ⟨g + 4, pd, none⟩) U2.out h2 _, Blk.far (p := ⟨g + 4, pd, none⟩) U3.out h3 _, Wd.ext (Wd.put U4.out hpd2 nv) (fun i hi => HPUT.out i hi)⟩
          case measure => (simp [intOf]; try omega)
        · obtain rfl : k = 25 := by omega
          have m4 : Wd wr (g + 4) 108 25 (movS s) := Wd.ext q4 (fun i hi => tP_end s hi)
          have HM : Hid (StW (movS s)) := Lib.hid HS.out.mov
          have q00 : Wd wr g 108 25 (cP s 0) := Wd.ext q0 (fun i hi => by unfold cP; rw [if_neg (by omega)])
          clear q0 q1 q3 q4
          obtain ⟨wo, rfl⟩ : ∃ wo : World, wo = wr := ⟨_, rfl⟩
          go_wp2
          go_loopw [15, 16, 69] (fun _ _ v69 wr3 => ∃ k : Nat, v69 = .int .i64 (k : Int) ∧ k ≤ 25 ∧ New w wr3 ∧ Wd wr3 g 108 25 (cP s k) ∧ Wd wr3 (g + 1 + 1) 108 25 zeroS ∧ Wd wr3 (g + 4) 108 25 (movS s)) (fun _ _ v69 _ => 25 - (intOf v69).toNat)
          case atStart => exact ⟨0, rfl, by omega, hn, q00, q2, m4⟩
          case round =>
            clear q00 q2 m4 hn
            obtain ⟨k, rfl, hk, hn, q0, q2, q4⟩ := hrel
            by_cases hlt : k < 25
            · have k0 : (0 : Int) ≤ (k : Int) := by omega
              have k1 : (k : Int) < 25 := by omega
              have a1 : (k : Int) % 5 = ((k % 5 : Nat) : Int) := by omega
              have a2 : (k : Int).tmod 5 = ((k % 5 : Nat) : Int) := by rw [Int.tmod_eq_emod_of_nonneg (by omega)]; omega
              have a3 : IntKind.i64.wrap ((k : Int) - ((k % 5 : Nat) : Int)) = ((k - k % 5 : Nat) : Int) := by rw [IntWalk.i64_in _ (by omega)]; omega
              have b1 : IntKind.i64.wrap ((k : Int) + 1) = (k : Int) + 1 := IntWalk.i64_in _ (by omega)
              have b2 : ((k : Int) + 1) % 5 = (((k + 1) % 5 : Nat) : Int) := by omega
              have b2' : ((k : Int) + 1).tmod 5 = (((k + 1) % 5 : Nat) : Int) := by rw [Int.tmod_eq_emod_of_nonneg (by omega)]; omega
              have b3 : IntKind.i64.wrap (((k - k % 5 : Nat) : Int) + (((k + 1) % 5 : Nat) : Int)) = ((k - k % 5 + (k + 1) % 5 : Nat) : Int) := by rw [IntWalk.i64_in _ (by omega)]; omega
              have c1 : IntKind.i64.wrap ((k : Int) + 2) = (k : Int) + 2 := IntWalk.i64_in _ (by omega)
              have c2 : ((k : Int) + 2) % 5 = (((k + 2) % 5 : Nat) : Int) := by omega
              have c2' : ((k : Int) + 2).tmod 5 = (((k + 2) % 5 : Nat) : Int) := by rw [Int.tmod_eq_emod_of_nonneg (by omega)]; omega
              have c3 : IntKind.i64.wrap (((k - k % 5 : Nat) : Int) + (((k + 2) % 5 : Nat) : Int)) = ((k - k % 5 + (k + 2) % 5 : Nat) : Int) := by rw [IntWalk.i64_in _ (by omega)]; omega
              have hp1 : k - k % 5 + (k + 1) % 5 < 25 := by omega
              have hp2 : k - k % 5 + (k + 2) % 5 < 25 := by omega
              have e1 : (0 : Int) ≤ ((k - k % 5 + (k + 1) % 5 : Nat) : Int) := by omega
              have e2 : ((k - k % 5 + (k + 1) % 5 : Nat) : Int) < 25 := by omega
              have e3 : (0 : Int) ≤ ((k - k % 5 + (k + 2) % 5 : Nat) : Int) := by omega
              have e4 : ((k - k % 5 + (k + 2) % 5 : Nat) : Int) < 25 := by omega
              have l0 := HM.out k hlt
              have l1 := HM.out _ hp1
              have l2 := HM.out _ hp2
              have n1 := not_val l1
              have n2 := bits_and_u64_nat _ _ (notN_lt l1) l2
              have n3 := bits_xor_u64_nat _ _ l0 (and_lt (a := notN (movS s (k - k % 5 + (k + 1) % 5))) l2)
              have g0 := Wd.at q4 (i := k) hlt
              have g1 := Wd.at q4 hp1
              have g2 := Wd.at q4 hp2
              have zf := Blk.free q0 k
              obtain ⟨uo, fo⟩ : ∃ uo, wr.cell? ⟨g, k, none⟩ = some uo := ⟨_, Wd.at q0 hlt⟩
              have hput := fun (p : Nat) => cP_put s (k := k) (p := p)
              rw [show chiS (movS s) k = movS s k ^^^ (notN (movS s (k - k % 5 + (k + 1) % 5)) &&& movS s (k - k % 5 + (k + 2) % 5)) from rfl] at hput
              have HPUT := Lib.hid hput
              have Q0 := Lib.hid q0
              have Q2 := Lib.hid q2
              have Q4 := Lib.hid q4
              have HN := Lib.hid hn
              clear q0 q2 q4 hn hput l0 l1 l2
              generalize movS s k ^^^ (notN (movS s (k - k % 5 + (k + 1) % 5)) &&& movS s (k - k % 5 + (k + 2) % 5)) = f3 at *
              generalize notN (movS s (k - k % 5 + (k + 1) % 5)) &&& movS s (k - k % 5 + (k + 2) % 5) = f2 at *
              generalize notN (movS s (k - k % 5 + (k + 1) % 5)) = f1 at *
              generalize movS s (k - k % 5 + (k + 1) % 5) = u1 at *
              generalize movS s (k - k % 5 + (k + 2) % 5) = u2 at *
              generalize movS s k = u0 at *
              generalize k - k % 5 + (k + 1) % 5 = pd1 at *
              generalize k - k % 5 + (k + 2) % 5 = pd2 at *
              generalize k - k % 5 = bs at *
              generalize (k + 1) % 5 = m1 at *
              generalize (k + 2) % 5 = m2 at *
              generalize k % 5 = m0 at *
              go_wp2
              go_still_tail 22, (by kernel_rfl)
              go_wp2
              go_roundw
              case rel =>
                have h1 : g + 1 + 1 ≠ g := by omega
                have h2 : g + 4 ≠ g := by omega
                (repeat apply Exists.intro)
                refine ⟨⟨k + 1, ?hv, by omega, (HN.out.setCell (p := ⟨g, k, none⟩) (by rw [HG.out]; exact Nat.le_refl _) _).drew, Wd.ext (Blk.drew (Wd.put Q0.out hlt f3)) (fun i _ => HPUT.out i), (Blk.far (p := ⟨g, k, none⟩) Q2.out h1 _).drew, (Blk.far (p := ⟨g, k, none⟩) Q4.out h2 _).drew⟩, rfl, rfl, rfl⟩
                go_num
              case measure => (simp [intOf]; try omega)
            · obtain rfl : k = 25 := by omega
              have q6 : Wd wr g 108 25 (chiS (movS s)) := Wd.ext q0 (fun i hi => by unfold cP; rw [if_pos hi])
              have c0 := Wd.at q6 (i := 0) (by omega)
              have z0 := Blk.free q6 0
              have l0 := HM.out.chi 0 (by omega)
              have y1 := bits_xor_u64_nat _ _ l0 hc
              have q7 := Wd.ext (s' := roundS s c) (Wd.put q6 (i := 0) (by omega) (chiS (movS s) 0 ^^^ c)) (fun i hi => by
                unfold putS roundS
                by_cases e : i = 0
                · subst e; simp
                · simp [e])
              have hg1 : g + 1 + 1 ≠ g := by omega
              have HQ7 := Lib.hid q7
              have HQ2 := Lib.hid (q2.far (p := ⟨g, 0, none⟩) hg1 (.int .u64 ((chiS (movS s) 0 ^^^ c : Nat) : Int)))
              have HNN := Lib.hid (hn.setCell (p := ⟨g, 0, none⟩) (by rw [HG.out]; exact Nat.le_refl _) (.int .u64 ((chiS (movS s) 0 ^^^ c : Nat) : Int)))
              clear q0 q2 q4 q6 q7 hn l0
              generalize chiS (movS s) 0 ^^^ c = f0 at *
              generalize chiS (movS s) 0 = k0 at *
              obtain ⟨wq, rfl⟩ : ∃ wq : World, wq = wr := ⟨_, rfl⟩
              go_upto_region 22 with (fail)
              generalize wq.setCell ⟨g, 0, none⟩ (.int .u64 (f0 : Int)) = w5 at *
              have hsz : w5.heap[g + 1 + 1]? = some (.cells (wdA 25 zeroS) 108 (0, 0)) := HQ2.out
              go_step
              refine wpList_load_row rfl 108 (.tmp 3) rfl g rfl 108 _ (0, 0) _ HQ7.out Tryz.underlying108 rfl info108s ?_
              refine wpList_store_rowTo rfl 108 (.tmp 6) (.tmp 104) rfl rfl (g + 1 + 1) (wdA 25 (roundS s c)) rfl rfl 108 _ hsz info108s (by rw [wdA_size, wdA_size]) (wdA_one 25 _) ?_
              have RB := setRow_heap w5 (g + 1 + 1) (wdA 25 zeroS) (wdA 25 (roundS s c)) 108 (0, 0) hsz
              have NB := below_setRow HNN.out (show w.heap.size ≤ g + 1 + 1 by rw [HG.out]; omega) (wdA 25 (roundS s c))
              generalize w5.setRow (g + 1 + 1) (wdA 25 (roundS s c)) = w6 at *
              go_wp2
              exact bodyPost_ret (v := .agg (wdA 25 (roundS s c))) (results_cell_row Tryz.results130 _ _ (g + 1 + 1) 108 _ (0, 0) _ rfl RB Tryz.underlying108 rfl info108s) rfl ⟨rfl, NB⟩
end Go.Proofs.YtfeknjpinboknaaGreatDoor

