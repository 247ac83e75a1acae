/- The reference's Make. Conditions: sizes. -/
import Derived.Test.YtfeknjpinboknaaGreatDoorGW25
import Derived.Test.YtfeknjpinboknaaGreatDoorGW28
import Derived.Test.YtfeknjpinboknaaGreatDoorGV

namespace Go.Proofs.YtfeknjpinboknaaGreatDoor
open Go Go.RowKit Go.Joins Go.Shelf
set_option linter.unusedSimpArgs false
set_option linter.unusedVariables false

theorem Tryz.underlying80' : Tryz.prog.underlying 80 = some (.slice 81) := by kernel_rfl
theorem Tryz.info81' : (Tryz.prog.info? 81).map (fun i => (i.zero, i.size, i.bytes)) = some (some (.agg #[.int .i64 0, .int .i64 0]), 2, 16) := by kernel_rfl
theorem kept_snd {α : Type} [DecidableEq α] : ∀ (a b : List α) (i j : Nat), ∀ p ∈ keptL a b i j, p.2 < j + b.length
  | [], b, i, j, p, h => by cases h
  | x :: a, b, i, j, p, h => by
    rw [keptL] at h
    split at h
    · rename_i k hf
      have hk := (List.getElem?_eq_some_iff.1 (firstK_some hf).1).1
      rcases List.mem_cons.1 h with rfl | h
      · simp only; omega
      · have := kept_snd a _ _ _ p h; rw [List.length_drop] at this; omega
    · exact kept_snd a _ _ _ p h
theorem BP.ret {w1 w' w : World} {base : ByteArray} {g b1 r c : Nat} {A : Option Addr} {hs : List Hm} (h : BP w1 w' g b1 hs (.slice A hs.length c)) (hw : New w w1) (B : Blk w' r 24 #[.string ⟨#[]⟩, .slice none 0 0]) (hr : w.heap.size ≤ r) :
    New w ((w'.setCell ⟨r, 0, none⟩ (.string base)).setCell ⟨r, 1, none⟩ (.slice A hs.length c)) ∧ PRd ((w'.setCell ⟨r, 0, none⟩ (.string base)).setCell ⟨r, 1, none⟩ (.slice A hs.length c)) A hs.length hs ∧ LnOK ((w'.setCell ⟨r, 0, none⟩ (.string base)).setCell ⟨r, 1, none⟩ (.slice A hs.length c)) hs ∧ hs.length ≤ c := by
  have nn := ((hw.trans h.nw).setCell (p := ⟨r, 0, none⟩) hr (.string base)).setCell (p := ⟨r, 1, none⟩) hr (.slice A hs.length c)
  have o1 := h.own.kept (grown_set w' r 0 (.string base)) (Or.inr (ne_kind (cs := []) h.own B (by decide)))
  have l1 := h.ln.keep (grown_set w' r 0 (.string base)) (fun q e => by injection e with e; subst e; exact ⟨_, 24, _, B, by decide⟩)
  have B1 := B.put 0 (.string base)
  have o2 := o1.kept (grown_set (w'.setCell ⟨r, 0, none⟩ (.string base)) r 1 (.slice A hs.length c)) (Or.inr (ne_kind (cs := []) o1 B1 (by decide)))
  have l2 := l1.keep (grown_set (w'.setCell ⟨r, 0, none⟩ (.string base)) r 1 (.slice A hs.length c)) (fun q e => by injection e with e; subst e; exact ⟨_, 24, _, B1, by decide⟩)
  obtain ⟨A', c', hq, hc, hp'⟩ := own_prd o2 l2
  obtain ⟨rfl, rfl⟩ : A = A' ∧ c = c' := by injection hq with q1 q2 q3; exact ⟨q1, q3⟩
  exact ⟨nn, hp', l2, hc⟩
theorem TabR.zero {w : World} {g la lb : Nat} {b : Nat → Nat} {A B : List ByteArray} {r : Nat} (h : TabR w g la lb b (fun x y => if x = r then 0 else fillF (tabM A B) (r + 1) 0 x y) r) (hB : B.length = lb) : TabR w g la lb b (fillF (tabM A B) r lb) r :=
  h.ext (fun x y h0 hx hy => by
    unfold fillF
    by_cases e : x = r
    · subst e
      rw [if_pos rfl]
      split
      · rw [tabM_end]; right; omega
      · rfl
    · rw [if_neg e, if_pos (by omega), if_pos (by omega)])
set_option maxRecDepth 100000 in
set_option maxHeartbeats 32000000 in
theorem rmake_any (s1 s2 : ByteArray) (w : World) (h1 : s1.size ≤ 1000000) (h2 : s2.size ≤ 1000000) :
    Calls Tryz.prog 29 #[.string s1, .string s2] w (MkP s1 s2 w) := by
  obtain ⟨j0, hinf, hz0, hz1, hz2⟩ := info_parts Tryz.info81'
  have R0 := Blk.made w 24 #[.string ⟨#[]⟩, .slice none 0 0]
  have n0 := (New.refl w).alloc (.cells #[.string ⟨#[]⟩, .slice none 0 0] 24)
  obtain ⟨r, hr⟩ : ∃ r, w.heap.size = r := ⟨_, rfl⟩
  have HR := Lib.hid hr
  rw [hr] at R0
  have HMP : Hid (∀ e w', MkP s1 s2 w e w' = if linesE s1 = 0 ∧ linesE s2 = 0 then PatP w ⟨#[]⟩ (mkL s1 s2) e w' else New w w' ∧ e = .returned (.tuple #[.agg #[.string ⟨#[]⟩, .slice none 0 0], .int .i64 10])) := Lib.hid (fun _ _ => rfl)
  generalize MkP s1 s2 w = MP at *
  clear hr
  by_cases hl1 : linesE s1 = 0
  · have C1 := Lib.hid (fun W => rlns_ok s1 W h1 hl1)
    by_cases hl2 : linesE s2 = 0
    · have HI2 : Hid (∀ e w', PatP w ⟨#[]⟩ (mkL s1 s2) e w' → MP e w') := Lib.hid (fun e w' h => by rw [HMP.out, if_pos ⟨hl1, hl2⟩]; exact h)
      have HLa := Lib.hid (lines_len hl1)
      have HLb := Lib.hid (lines_len hl2)
      have HSB := Lib.hid (parts_sz h2)
      have C2 := Lib.hid (fun W => rlns_ok s2 W h2 hl2)
      have HMK : Hid (mkL s1 s2 = ofV (parts 10 s2) (parts 10 s1).length (keptL (parts 10 s1) (parts 10 s2) 0 0)) := Lib.hid rfl
      generalize parts 10 s1 = la1 at *
      generalize parts 10 s2 = lb1 at *
      generalize mkL s1 s2 = ML at *
      obtain ⟨la, hla⟩ : ∃ la, la1.length = la := ⟨_, rfl⟩
      obtain ⟨lb, hlb⟩ : ∃ lb, lb1.length = lb := ⟨_, rfl⟩
      rw [hla] at C1 HLa HMK
      rw [hlb] at C2 HLb
      have HA := Lib.hid hla
      have HB := Lib.hid hlb
      have hla2 : la ≤ 1024 := HLa.out
      have hlb2 : lb ≤ 1024 := HLb.out
      have HMQ := Lib.hid (run_mk85 la (by omega))
      have HMI := Lib.hid (run_mk3 lb (by omega))
      clear HMP hl1 hl2 h1 h2 hla hlb HLa HLb
      go_enter Tryz.func29, Tryz.ntmps29
      go_wp2_with (fail)
      rw [HR.out]
      generalize w.alloc (.cells #[.string ⟨#[]⟩, .slice none 0 0] 24) = w1 at *
      have C1' := Lib.hid (C1.out w1)
      with_reducible refine C1'.out.mono ?_
      rintro e w2 ⟨A1, c1, rfl, L1, m1⟩
      have R1 := R0.new m1
      have n1 := n0.trans m1
      have C2' := Lib.hid (C2.out w2)
      clear m1
      go_wp2_with (fail)
      with_reducible refine C2'.out.mono ?_
      rintro e w3 ⟨A2, c2, rfl, L2, m2⟩
      have R2 := R1.new m2
      have n2 := n1.trans m2
      have L1 := L1.new m2
      clear m2 C1 C2 C1' C2' R0 n0 R1 n1
      have hmk := HMQ.out
      obtain ⟨g, hg⟩ : ∃ g, w3.heap.size = g := ⟨_, rfl⟩
      have HG := Lib.hid hg
      have HT0 := Lib.hid ((TabR.start w3 la lb (fun i => w3.heap.size + 1 + (la - i)) (fillF (tabM la1 lb1) (la + 1) 0) (fun i j hi hj e => by omega)))
      rw [hg] at HT0
      have HN0 := Lib.hid ((New.refl w3).alloc (.cells (madeCells #[.slice none 0 0] (la + 1)) 85))
      have HZ0 : Hid ((w3.alloc (.cells (madeCells #[.slice none 0 0] (la + 1)) 85)).heap.size = g + 1) := Lib.hid (by rw [World.size_alloc, hg])
      have HW3 := Lib.hid n2
      have HR3 := Lib.hid R2
      have HL1 := Lib.hid L1
      have HL2 := Lib.hid L2
      clear hg n2 R2 L1 L2
      go_wp2
      rw [HG.out]
      clear hmk
      generalize w3.alloc (.cells (madeCells #[.slice none 0 0] (la + 1)) 85) = w4 at *
      go_loopw [10] (fun v10 wr => ∃ (i : Nat) (z : Int), v10 = .int .i64 z ∧ z + 1 = (i : Int) ∧ i ≤ la + 1 ∧ New w3 wr ∧ wr.heap.size = g + 1 + (la + 1 - i) ∧ TabR wr g la lb (fun i => g + 1 + (la - i)) (fillF (tabM la1 lb1) i 0) i) (fun v10 _ => (intOf v10 + 1).toNat)
      case atStart => exact ⟨la + 1, (la : Int), by go_num, by omega, by omega, HN0.out, by rw [HZ0.out]; omega, HT0.out⟩
      case round =>
        obtain ⟨i, z, rfl, hz, hi, hn, hsz, hT⟩ := hrel
        by_cases hlt : 0 < i
        · obtain ⟨q, rfl⟩ : ∃ q, i = q + 1 := ⟨i - 1, by omega⟩
          obtain rfl : z = (q : Int) := by omega
          have q0 : (0 : Int) ≤ (q : Int) := by omega
          have q1 : (q : Int) < ((la + 1 : Nat) : Int) := by omega
          have q2 : (q : Int) < (la : Int) + 1 := by omega
          obtain ⟨⟨u0, c0⟩, z0⟩ := hT.any (i := q) (by omega)
          have hmi := HMI.out
          have hgl := hT.glt
          have TN := Lib.hid ((hT.more (i := q) (by omega) (by rw [hsz]; omega)).zero HB.out)
          have c0 : (wr.alloc (.cells (madeCells #[.int .i64 0] (lb + 1)) 3)).cell? ⟨g, q, none⟩ = some u0 := (World.cell?_alloc_lt wr _ _ hgl).trans c0
          have z0 : (wr.alloc (.cells (madeCells #[.int .i64 0] (lb + 1)) 3)).frozen? ⟨g, q, none⟩ = false := (World.frozen?_alloc_old wr _ _ (show g ≠ wr.heap.size by omega)).trans z0
          have NN := Lib.hid ((hn.alloc (.cells (madeCells #[.int .i64 0] (lb + 1)) 3)).setCell (p := ⟨g, q, none⟩) (by rw [HG.out]; exact Nat.le_refl _) (.slice (some ⟨wr.heap.size, 0, none⟩) (lb + 1) (lb + 1)))
          have HZ := Lib.hid (show ((wr.alloc (.cells (madeCells #[.int .i64 0] (lb + 1)) 3)).setCell ⟨g, q, none⟩ (.slice (some ⟨wr.heap.size, 0, none⟩) (lb + 1) (lb + 1))).heap.size = g + 1 + (la + 1 - q) by rw [World.size_setCell, World.size_alloc, hsz]; omega)
          clear hn hT hsz hz
          obtain ⟨w5, rfl⟩ : ∃ w5 : World, w5 = wr := ⟨_, rfl⟩
          go_wp2
          rw [World.setCell_alloc_past _ _ _ _ hgl] at TN NN HZ
          generalize (w5.setCell ⟨g, q, none⟩ (.slice (some ⟨w5.heap.size, 0, none⟩) (lb + 1) (lb + 1))).alloc (.cells (madeCells #[.int .i64 0] (lb + 1)) 3) = w6 at *
          clear c0 z0 hmi
          go_loopw [11] (fun v11 wr3 => ∃ (j : Nat) (z : Int), v11 = .int .i64 z ∧ z + 1 = (j : Int) ∧ j ≤ lb ∧ New w3 wr3 ∧ wr3.heap.size = g + 1 + (la + 1 - q) ∧ TabR wr3 g la lb (fun i => g + 1 + (la - i)) (fillF (tabM la1 lb1) q j) q) (fun v11 _ => (intOf v11 + 1).toNat)
          case atStart => exact ⟨lb, (lb : Int) - 1, by go_num, by omega, by omega, NN.out, HZ.out, TN.out⟩
          case round =>
            obtain ⟨j, z, rfl, hz, hj, hn, hsz, hT⟩ := hrel
            have HSZ := Lib.hid hsz
            clear hsz
            by_cases hlt2 : 0 < j
            · obtain ⟨c, rfl⟩ : ∃ c, j = c + 1 := ⟨j - 1, by omega⟩
              obtain rfl : z = (c : Int) := by omega
              have j0 : (0 : Int) ≤ (c : Int) := by omega
              by_cases hq : q < la
              · have j1 : (c : Int) < (lb : Int) := by omega
                have i1 : (q : Int) < (la : Int) := by omega
                have i3 : (q : Int) + 1 < ((la + 1 : Nat) : Int) := by omega
                have i4 : ((q : Int) + 1).toNat = q + 1 := by omega
                have i5 : (0 : Int) ≤ (q : Int) + 1 := by omega
                have i7 : (q : Int) + 1 < (la : Int) + 1 := by omega
                have j2 : (c : Int) < ((lb + 1 : Nat) : Int) := by omega
                have j3 : (c : Int) + 1 < ((lb + 1 : Nat) : Int) := by omega
                have j4 : ((c : Int) + 1).toNat = c + 1 := by omega
                have j5 : (0 : Int) ≤ (c : Int) + 1 := by omega
                have j6 : (c : Int) < (lb : Int) + 1 := by omega
                have j7 : (c : Int) + 1 < (lb : Int) + 1 := by omega
                have i8 : IntKind.i64.wrap ((q : Int) + 1) = (q : Int) + 1 := IntWalk.i64_in _ (by omega)
                have j8 : IntKind.i64.wrap ((c : Int) + 1) = (c : Int) + 1 := IntWalk.i64_in _ (by omega)
                have r0 : wr.cell? ⟨g, q, none⟩ = some (.slice (some ⟨g + 1 + (la - q), 0, none⟩) (lb + 1) (lb + 1)) := hT.row q (by omega) (by omega)
                have r1 : wr.cell? ⟨g, q + 1, none⟩ = some (.slice (some ⟨g + 1 + (la - (q + 1)), 0, none⟩) (lb + 1) (lb + 1)) := hT.row (q + 1) (by omega) (by omega)
                have d0 := hT.cell q c (by omega) (by omega) (by omega)
                have d1 := hT.cell (q + 1) c (by omega) (by omega) (by omega)
                have d2 := hT.cell q (c + 1) (by omega) (by omega) (by omega)
                have z0 := hT.free q c (by omega) (by omega) (by omega)
                rw [show fillF (tabM la1 lb1) q (c + 1) (q + 1) c = tabM la1 lb1 (q + 1) c from if_pos (Or.inl (Nat.le_refl _))] at d1
                rw [show fillF (tabM la1 lb1) q (c + 1) q (c + 1) = tabM la1 lb1 q (c + 1) from if_pos (Or.inr ⟨rfl, Nat.le_refl _⟩)] at d2
                have m1le := tabM_le la1 lb1 (q + 1) c
                have m2le := tabM_le la1 lb1 q (c + 1)
                have HST := Lib.hid (tabM_step la1 lb1 (i := q) (j := c) (by rw [HA.out]; omega) (by rw [HB.out]; omega))
                have HT1 := Lib.hid hT
                have HN := Lib.hid hn
                have d0 : wr.cell? ⟨g + 1 + (la - q), c, none⟩ = some (.int .i64 (fillF (tabM la1 lb1) q (c + 1) q c : Int)) := d0
                have d1 : wr.cell? ⟨g + 1 + (la - (q + 1)), c, none⟩ = some (.int .i64 (tabM la1 lb1 (q + 1) c : Int)) := d1
                have d2 : wr.cell? ⟨g + 1 + (la - q), c + 1, none⟩ = some (.int .i64 (tabM la1 lb1 q (c + 1) : Int)) := d2
                have z0 : wr.frozen? ⟨g + 1 + (la - q), c, none⟩ = false := z0
                rw [HA.out] at m1le m2le
                generalize fillF (tabM la1 lb1) q (c + 1) q c = m0 at *
                generalize tabM la1 lb1 (q + 1) c = m1 at *
                generalize tabM la1 lb1 q (c + 1) = m2 at *
                have mx : max (m1 : Int) (m2 : Int) = ((max m1 m2 : Nat) : Int) := by omega
                clear hz hT hn
                obtain ⟨w7, rfl⟩ : ∃ w7 : World, w7 = wr := ⟨_, rfl⟩
                go_wp2
                go_still_tail 23, (by kernel_rfl)
                go_wp2
                have T1 := HT1.out.put (i := q) (j := c) (by omega) (by omega) (by omega) (max m1 m2)
                have NW1 := HN.out.setCell (p := ⟨g + 1 + (la - q), c, none⟩) (by rw [HG.out]; simp only; omega) (.int .i64 ((max m1 m2 : Nat) : Int))
                have HSZ1 := Lib.hid (show (w7.setCell ⟨g + 1 + (la - q), c, none⟩ (.int .i64 ((max m1 m2 : Nat) : Int))).heap.size = g + 1 + (la + 1 - q) by rw [World.size_setCell, HSZ.out])
                have T1 : TabR (w7.setCell ⟨g + 1 + (la - q), c, none⟩ (.int .i64 ((max m1 m2 : Nat) : Int))) g la lb (fun i => g + 1 + (la - i)) (upd (fillF (tabM la1 lb1) q (c + 1)) q c (max m1 m2)) q := T1
                generalize w7.setCell ⟨g + 1 + (la - q), c, none⟩ (.int .i64 ((max m1 m2 : Nat) : Int)) = W1 at *
                clear d0 d1 d2 r0 r1 z0 mx
                have hx1 := (ln_rd (HL1.out.new NW1)).1
                have hx2 := (ln_rd (HL2.out.new NW1)).1
                rw [HA.out] at hx1
                rw [HB.out] at hx2
                obtain ⟨bx, ox, x, rfl, hbx, hx, cx⟩ := sRd_at hx1 (show q < la by omega)
                obtain ⟨by', oy, y, rfl, hby, hy, cy⟩ := sRd_at hx2 (show c < lb by omega)
                obtain ⟨hxl, hxe⟩ := List.getElem?_eq_some_iff.1 hx
                obtain ⟨hyl, hye⟩ := List.getElem?_eq_some_iff.1 hy
                have hst := HST.out
                rw [hxe, hye] at hst
                have hmx : max m1 m2 ≤ 1024 := by omega
                clear hx1 hx2
                by_cases e : x = y
                · have e1 : (x.toList == y.toList) = true := by rw [e]; simp
                  rw [if_pos e] at hst
                  have r0 : W1.cell? ⟨g, q, none⟩ = some (.slice (some ⟨g + 1 + (la - q), 0, none⟩) (lb + 1) (lb + 1)) := T1.row q (by omega) (by omega)
                  have r1 : W1.cell? ⟨g, q + 1, none⟩ = some (.slice (some ⟨g + 1 + (la - (q + 1)), 0, none⟩) (lb + 1) (lb + 1)) := T1.row (q + 1) (by omega) (by omega)
                  have d0 : W1.cell? ⟨g + 1 + (la - q), c, none⟩ = some (.int .i64 ((max m1 m2 : Nat) : Int)) := by
                    have := T1.cell q c (by omega) (by omega) (by omega)
                    rw [upd, if_pos ⟨rfl, rfl⟩] at this
                    exact this
                  have d1 : W1.cell? ⟨g + 1 + (la - (q + 1)), c + 1, none⟩ = some (.int .i64 (tabM la1 lb1 (q + 1) (c + 1) : Int)) := by
                    have := T1.cell (q + 1) (c + 1) (by omega) (by omega) (by omega)
                    rw [upd, if_neg (by omega), fillF, if_pos (Or.inl (Nat.le_refl _))] at this
                    exact this
                  have z0 : W1.frozen? ⟨g + 1 + (la - q), c, none⟩ = false := T1.free q c (by omega) (by omega) (by omega)
                  have m3le := tabM_le la1 lb1 (q + 1) (c + 1)
                  have HST2 := Lib.hid hst
                  have HTT := Lib.hid T1
                  have HNW := Lib.hid NW1
                  generalize tabM la1 lb1 (q + 1) (c + 1) = m3 at *
                  generalize max m1 m2 = m4 at *
                  rw [HA.out] at m3le
                  have mx : max (m4 : Int) ((m3 : Int) + 1) = ((max m4 (1 + m3) : Nat) : Int) := by omega
                  have mw : IntKind.i64.wrap ((m3 : Int) + 1) = (m3 : Int) + 1 := IntWalk.i64_in _ (by omega)
                  clear hst T1 NW1 hx hy hxe hye HST HT1 HN
                  go_quiet (fail)
                  go_wp2
                  have TT := HTT.out.drew.drewN nq
                  have NN := HNW.out.drew.drewN nq
                  have HSZ2 := Lib.hid (show (W1.drew.drewN nq).heap.size = g + 1 + (la + 1 - q) from HSZ1.out)
                  have r0 : (W1.drew.drewN nq).cell? ⟨g, q, none⟩ = _ := r0
                  have r1 : (W1.drew.drewN nq).cell? ⟨g, q + 1, none⟩ = _ := r1
                  have d0 : (W1.drew.drewN nq).cell? ⟨g + 1 + (la - q), c, none⟩ = _ := d0
                  have d1 : (W1.drew.drewN nq).cell? ⟨g + 1 + (la - (q + 1)), c + 1, none⟩ = _ := d1
                  have z0 : (W1.drew.drewN nq).frozen? ⟨g + 1 + (la - q), c, none⟩ = _ := z0
                  generalize W1.drew.drewN nq = W2 at *
                  go_still_tail 24, (by kernel_rfl)
                  go_wp2
                  go_roundw
                  case rel => exact ⟨c, (c : Int) - 1, by go_num, by omega, by omega, (NN.setCell (p := ⟨g + 1 + (la - q), c, none⟩) (by rw [HG.out]; simp only; omega) _).drew, (World.size_setCell _ _ _).trans HSZ2.out, (TT.put (i := q) (j := c) (by omega) (by omega) (by omega) (max m4 (1 + m3))).drew.ext (fun x y _ _ _ => fill_two HST2.out x y)⟩
                  case measure => (simp [intOf]; try omega)
                · have e1 : (x.toList == y.toList) = false := by rw [beq_bytes]; exact decide_eq_false e
                  rw [if_neg e, Nat.max_eq_left (Nat.zero_le _)] at hst
                  have HST2 := Lib.hid hst
                  have HTT := Lib.hid T1
                  have HNW := Lib.hid NW1
                  generalize max m1 m2 = m4 at *
                  clear hst T1 NW1 hx hy hxe hye HST HT1 HN
                  go_quiet (fail)
                  go_wp2
                  go_roundw
                  case rel => exact ⟨c, (c : Int) - 1, by go_num, by omega, by omega, HNW.out.drewN _, HSZ1.out, (HTT.out.drewN _).ext (fun x y _ _ _ => fill_one HST2.out x y)⟩
                  case measure => (simp [intOf]; try omega)
              · obtain rfl : q = la := by omega
                go_wp2
                go_roundw
                case rel => exact ⟨q, (q : Int) - 1, by go_num, by omega, by omega, hn, HSZ.out, hT.ext (fun x y h0 hx hy => by
                  unfold fillF
                  rw [tabM_end la1 lb1 (Or.inl (by rw [HA.out]; exact h0))]
                  split <;> split <;> rfl)⟩
                case measure => (simp [intOf]; try omega)
            · obtain rfl : j = 0 := by omega
              obtain rfl : z = -1 := by omega
              go_wp2
              go_roundw
              case rel => exact ⟨q, (q : Int) - 1, by go_num, by omega, by omega, hn, HSZ.out, hT⟩
              case measure => (simp [intOf]; try omega)
        · obtain rfl : i = 0 := by omega
          obtain rfl : z = -1 := by omega
          have HT := Lib.hid (hT.tab.ext (G := tabM la1 lb1) (fun x y _ _ => by unfold fillF; rw [if_pos (by omega)]))
          have HW := Lib.hid (HW3.out.trans hn)
          have HR5 := Lib.hid (HR3.out.new hn)
          have HLA := Lib.hid (HL1.out.new hn)
          have HLB := Lib.hid (HL2.out.new hn)
          clear hT hn hz hi hsz HT0 HN0 HZ0 HW3 HR3 HL1 HL2
          obtain ⟨w5, rfl⟩ : ∃ w5 : World, w5 = wr := ⟨_, rfl⟩
          obtain ⟨gP, hgP⟩ : ∃ gP, w5.heap.size = gP := ⟨_, rfl⟩
          have HGP := Lib.hid hgP
          have OW0 : Hid (w5.ownsRow gP 81 2 (.slice none 0 0) 0 []) := Lib.hid (World.ownsRow_nil _ _ _ _)
          clear hgP
          go_wp2
          go_loopw [12, 13, 14] (fun v12 v13 v14 wr => ∃ (i j : Nat) (done : List (Nat × Nat)) (V : Value), V = v12 ∧ v13 = .int .i64 (i : Int) ∧ v14 = .int .i64 (j : Int) ∧ i ≤ la ∧ j ≤ lb ∧ New w5 wr ∧ wr.ownsRow gP 81 2 V done.length (done.flatMap prC) ∧ Hid (keptL la1 lb1 0 0 = done ++ keptL (la1.drop i) (lb1.drop j) i j)) (fun _ v13 _ _ => la + 1 - (intOf v13).toNat)
          case atStart => exact ⟨0, 0, [], _, rfl, rfl, rfl, by omega, by omega, New.refl _, OW0.out, Lib.hid rfl⟩
          case round =>
            obtain ⟨i, j, done, V, rfl, rfl, rfl, hi, hj, hn, hown, HK⟩ := hrel
            have HOW := Lib.hid hown
            have HN := Lib.hid hn
            have hdl : done.length ≤ 1024 := by
              have h1 := kept_len la1 lb1 0 0
              have h2 := (lcs_le la1 lb1).1
              rw [HK.out, List.length_append] at h1
              rw [HA.out] at h2
              omega
            have hgs : gP ≤ wr.heap.size := by have := hn.size; rw [HGP.out] at this; exact this
            have HTr := Lib.hid (HT.out.new hn)
            have r0 : wr.cell? ⟨g, i, none⟩ = some (.slice (some ⟨g + 1 + (la - i), 0, none⟩) (lb + 1) (lb + 1)) := HTr.out.row i hi
            have d0 : wr.cell? ⟨g + 1 + (la - i), j, none⟩ = some (.int .i64 (tabM la1 lb1 i j : Int)) := HTr.out.cell i j hi hj
            have hm0le := tabM_le la1 lb1 i j
            rw [HA.out] at hm0le
            obtain ⟨m0, hm0⟩ : ∃ m0, tabM la1 lb1 i j = m0 := ⟨_, rfl⟩
            have HM0 := Lib.hid hm0
            rw [hm0] at d0 hm0le
            have i0 : (0 : Int) ≤ (i : Int) := by omega
            have i1 : (i : Int) < ((la + 1 : Nat) : Int) := by omega
            have i2 : (i : Int) < (la : Int) + 1 := by omega
            have j0' : (0 : Int) ≤ (j : Int) := by omega
            have j1 : (j : Int) < ((lb + 1 : Nat) : Int) := by omega
            have j2 : (j : Int) < (lb : Int) + 1 := by omega
            have hgr := HTr.out.glt
            clear hown hn hm0
            by_cases hpos : 0 < m0
            · have hil : i < la := Nat.lt_of_not_le (fun h => by have := tabM_end la1 lb1 (i := i) (j := j) (Or.inl (by rw [HA.out]; exact h)); rw [HM0.out] at this; omega)
              have hjl : j < lb := Nat.lt_of_not_le (fun h => by have := tabM_end la1 lb1 (i := i) (j := j) (Or.inr (by rw [HB.out]; exact h)); rw [HM0.out] at this; omega)
              obtain ⟨w6, rfl⟩ : ∃ w6 : World, w6 = wr := ⟨_, rfl⟩
              have p0 : (0 : Int) < (m0 : Int) := by omega
              go_wp2
              go_loopw [15] (fun v15 wr2 => ∃ k : Nat, v15 = .int .i64 (k : Int) ∧ j ≤ k ∧ k ≤ lb ∧ New w5 wr2 ∧ wr2.ownsRow gP 81 2 V done.length (done.flatMap prC) ∧ Hid (∀ v, j ≤ v → v < k → ¬ goodP la1 lb1 m0 i v)) (fun v15 _ => lb - (intOf v15).toNat)
              case atStart => exact ⟨j, rfl, Nat.le_refl _, hj, HN.out, HOW.out, Lib.hid (fun v h1 h2 => absurd h2 (by omega))⟩
              case round =>
                obtain ⟨k, rfl, hk1, hk2, hn2, hown2, HNO⟩ := hrel
                have HN2 := Lib.hid hn2
                have HOW2 := Lib.hid hown2
                have hgs2 : gP ≤ wr.heap.size := by have := hn2.size; rw [HGP.out] at this; exact this
                have k0 : (0 : Int) ≤ (k : Int) := by omega
                by_cases hkl : k < lb
                · have T2 := HT.out.new hn2
                  have x1' := (ln_rd (HLA.out.new hn2)).1
                  have x2' := (ln_rd (HLB.out.new hn2)).1
                  rw [HA.out] at x1'
                  rw [HB.out] at x2'
                  obtain ⟨bx, ox, x, rfl, hbx, hx, cx⟩ := sRd_at x1' hil
                  obtain ⟨by', oy, y, rfl, hby, hy, cy⟩ := sRd_at x2' hkl
                  have hgi := good_iff la1 lb1 (i := i) (j := j) (k := k) (by rw [HA.out]; omega) hk1 (by rw [HB.out]; omega)
                  rw [(List.getElem?_eq_some_iff.1 hx).2, (List.getElem?_eq_some_iff.1 hy).2, HM0.out] at hgi
                  have HGI := Lib.hid hgi
                  have r2 : wr.cell? ⟨g, i, none⟩ = some (.slice (some ⟨g + 1 + (la - i), 0, none⟩) (lb + 1) (lb + 1)) := T2.row i hi
                  have r3 : wr.cell? ⟨g, i + 1, none⟩ = some (.slice (some ⟨g + 1 + (la - (i + 1)), 0, none⟩) (lb + 1) (lb + 1)) := T2.row (i + 1) (by omega)
                  have d2 : wr.cell? ⟨g + 1 + (la - i), j, none⟩ = some (.int .i64 (tabM la1 lb1 i j : Int)) := T2.cell i j hi hj
                  rw [HM0.out] at d2
                  have d3 : wr.cell? ⟨g + 1 + (la - (i + 1)), k + 1, none⟩ = some (.int .i64 (tabM la1 lb1 (i + 1) (k + 1) : Int)) := T2.cell (i + 1) (k + 1) (by omega) (by omega)
                  have hm3le := tabM_le la1 lb1 (i + 1) (k + 1)
                  rw [HA.out] at hm3le
                  generalize tabM la1 lb1 (i + 1) (k + 1) = m3 at *
                  have k1 : (k : Int) < (lb : Int) := by omega
                  have t1 : decide ((k : Int) < (lb : Int)) = true := decide_eq_true k1
                  have i3 : (i : Int) < (la : Int) := by omega
                  have i4 : (i : Int) + 1 < ((la + 1 : Nat) : Int) := by omega
                  have i5 : (i : Int) + 1 < (la : Int) + 1 := by omega
                  have i6 : (0 : Int) ≤ (i : Int) + 1 := by omega
                  have i7 : ((i : Int) + 1).toNat = i + 1 := by omega
                  have i8 : IntKind.i64.wrap ((i : Int) + 1) = (i : Int) + 1 := IntWalk.i64_in _ (by omega)
                  have k3 : (k : Int) + 1 < ((lb + 1 : Nat) : Int) := by omega
                  have k4 : (k : Int) + 1 < (lb : Int) + 1 := by omega
                  have k5 : (0 : Int) ≤ (k : Int) + 1 := by omega
                  have k6 : ((k : Int) + 1).toNat = k + 1 := by omega
                  have k7 : IntKind.i64.wrap ((k : Int) + 1) = (k : Int) + 1 := IntWalk.i64_in _ (by omega)
                  have mw : IntKind.i64.wrap ((m3 : Int) + 1) = (m3 : Int) + 1 := IntWalk.i64_in _ (by omega)
                  clear T2 x1' x2' hx hy hgi hn2 hown2 r0 d0
                  by_cases huv : x = y
                  · have e1 : (x.toList == y.toList) = true := by rw [huv]; simp
                    have e2 : (x.toList != y.toList) = false := by rw [huv]; simp
                    by_cases hle : m3 + 1 < m0
                    · have t2 : decide ((m3 : Int) + 1 < (m0 : Int)) = true := decide_eq_true (by omega)
                      have HNO2 : Hid (∀ v, j ≤ v → v < k + 1 → ¬ goodP la1 lb1 m0 i v) := Lib.hid (fun v h1 h2 => by
                        by_cases e : v = k
                        · subst e; rw [HGI.out]; exact fun q => q.2 hle
                        · exact HNO.out v h1 (by omega))
                      clear HNO HGI
                      go_wp2
                      go_quiet (fail)
                      go_wp2
                      go_roundw
                      case rel => exact ⟨k + 1, by go_num, by omega, by omega, HN2.out.drewN _, HOW2.out, HNO2⟩
                      case measure => (simp [intOf]; try omega)
                    · have t2 : decide ((m3 : Int) + 1 < (m0 : Int)) = false := decide_eq_false (by omega)
                      have HKN : Hid (keptL la1 lb1 0 0 = (done ++ [(i, k)]) ++ keptL (la1.drop (i + 1)) (lb1.drop (k + 1)) (i + 1) (k + 1)) := Lib.hid (by
                        have hq := kept_ref la1 lb1 (i := i) (j := j) (k := k) (by rw [HA.out]; omega) hk1 (by rw [HB.out]; omega) (by rw [HM0.out, HGI.out]; exact ⟨huv, hle⟩) (by rw [HM0.out]; exact HNO.out)
                        rw [HK.out, hq, List.append_assoc, List.singleton_append])
                      clear HNO HGI
                      go_wp2
                      go_quiet (fail)
                      have HN3 := Lib.hid (HN2.out.drewN nq)
                      have HOW3 : Hid ((wr.drewN nq).ownsRow gP 81 2 V done.length (done.flatMap prC)) := Lib.hid HOW2.out
                      have hgs3 : gP ≤ (wr.drewN nq).heap.size := hgs2
                      clear r2 r3 d2 d3 cx cy hbx hby HN2 HOW2 hgs2
                      generalize wr.drewN nq = w7 at *
                      go_wp2_with (at_builtin; refine wpList_append_own_at _ rfl _ _ 80 rfl gP 81 j0 (.agg #[.int .i64 0, .int .i64 0]) 2 16 Tryz.underlying80' hinf hz0 hz1 hz2 rfl (by decide) _ (done.length) _ rfl (HOW3.out.alloc _) ⟨w7.heap.size, 0, none⟩ 1 1 [.int .i64 (i : Int), .int .i64 (k : Int)] rfl rfl ?c1 ?c2 ?c3 ?c4 ?c5 ?_)
                      case c1 => exact World.news_of_block (cs := #[.int .i64 (i : Int), .int .i64 (k : Int)]) (t := 81) (fr := (0, 0)) (heap_alloc_new _ _)
                      case c2 => simp [Value.oneCell']
                      case c3 => unfold maxLen; omega
                      case c4 => omega
                      case c5 => simp; omega
                      intro v5 w8 hown5 hg5 _ h5
                      have HNW := Lib.hid (Below.grown (HN3.out.alloc (.cells #[.int .i64 (i : Int), .int .i64 (k : Int)] 81)) hg5 (by rw [World.size_alloc, HGP.out]; omega) (fun q e => by rw [HGP.out]; exact (HOW3.out.lt q e).1))
                      have HOW5 := Lib.hid (own_len hown5 (n' := (done ++ [(i, k)]).length) (xs' := (done ++ [(i, k)]).flatMap prC) (by simp) (by simp [prC]))
                      clear hown5 hg5 h5
                      go_wp2
                      go_roundw
                      case rel => exact ⟨i + 1, k + 1, done ++ [(i, k)], _, rfl, by go_num, by go_num, by omega, by omega, HNW.out, HOW5.out, HKN⟩
                      case measure => (simp [intOf]; try omega)
                  · have e1 : (x.toList == y.toList) = false := by rw [beq_bytes]; exact decide_eq_false huv
                    have e2 : (x.toList != y.toList) = true := by rw [bne, e1]; rfl
                    have HNO2 : Hid (∀ v, j ≤ v → v < k + 1 → ¬ goodP la1 lb1 m0 i v) := Lib.hid (fun v h1 h2 => by
                      by_cases e : v = k
                      · subst e; rw [HGI.out]; exact fun q => huv q.1
                      · exact HNO.out v h1 (by omega))
                    clear HNO HGI
                    go_wp2
                    go_quiet (fail)
                    go_wp2
                    go_roundw
                    case rel => exact ⟨k + 1, by go_num, by omega, by omega, HN2.out.drewN _, HOW2.out, HNO2⟩
                    case measure => (simp [intOf]; try omega)
                · obtain rfl : k = lb := by omega
                  have t1 : decide ((k : Int) < (k : Int)) = false := decide_eq_false (by omega)
                  have HKN : Hid (keptL la1 lb1 0 0 = done ++ keptL (la1.drop (i + 1)) (lb1.drop j) (i + 1) j) := Lib.hid (by
                    rw [HK.out, (kept_ref_no la1 lb1 (i := i) (j := j) (by rw [HA.out]; omega) (fun v h1 h2 => by rw [HM0.out]; exact HNO.out v h1 (by rw [← HB.out]; exact h2))).1])
                  clear HNO hn2 hown2 r0 d0
                  go_wp2
                  go_quiet (fail)
                  go_wp2
                  go_roundw
                  case rel => exact ⟨i + 1, j, done, _, rfl, by go_num, by go_num, by omega, by omega, HN2.out.drewN _, HOW2.out, HKN⟩
                  case measure => (simp [intOf]; try omega)
            · obtain rfl : m0 = 0 := by omega
              have HKD : Hid (keptL la1 lb1 0 0 = done) := Lib.hid (by
                have h1 := kept_len (la1.drop i) (lb1.drop j) i j
                have h2 := HM0.out
                unfold tabM at h2
                rw [h2] at h1
                rw [HK.out, List.eq_nil_of_length_eq_zero h1, List.append_nil])
              obtain ⟨AP, cP, rfl, _, _, hrd⟩ := own_form HOW.out
              have HOF := Lib.hid (of_any ⟨#[]⟩ la AP A2 done.length cP lb c2 done lb1 wr hrd rfl (HLB.out.new HN.out) HB.out hla2 hlb2 hdl (fun p hp => by
                rw [← HKD.out] at hp
                have h1 := kept_fst la1 lb1 0 0 p hp
                have h2 := kept_snd la1 lb1 0 0 p hp
                rw [HA.out] at h1
                rw [HB.out] at h2
                exact ⟨by omega, by omega⟩) HSB.out)
              have HZB := Lib.hid (ofL_bound HSB.out (by rw [HB.out]; exact hlb2) done (fun p hp => by
                rw [← HKD.out] at hp
                have h1 := kept_fst la1 lb1 0 0 p hp
                have h2 := kept_snd la1 lb1 0 0 p hp
                rw [HA.out] at h1
                exact ⟨by omega, by omega⟩) (by omega)).2.1
              have HZV : Hid (SzK ML) := Lib.hid (by
                rw [HMK.out, HKD.out, ofV, emit]
                exact (HZB.out.app (SzK.dropH _)).app (SzK.addH (by simp only [List.length_take, List.length_drop]; rw [HB.out]; omega) (fun s h => HSB.out s (List.mem_of_mem_drop (List.mem_of_mem_take h)))))
              have HNW := Lib.hid (HW.out.trans HN.out)
              have HRR := Lib.hid (HR5.out.new HN.out)
              rw [show ofV lb1 la done = ML by rw [HMK.out, HKD.out]] at HOF
              clear hrd
              have HPX := Lib.hid (fun (W : World) (h : New wr W) => HNW.out.trans h)
              have HRX := Lib.hid (fun (W : World) (h : New wr W) => HRR.out.new h)
              clear HOW HK HKD HM0 HZB HSB HTr
              go_wp2_with (fail)
              with_reducible refine HOF.out.mono ?_
              rintro e w6 ⟨VH, b1, hs, rfl, hBP, hm, hl⟩
              obtain ⟨AV, cV, rfl⟩ := own_cap hBP.own
              obtain ⟨AV', cV', hq, hcV, hpr⟩ := own_prd hBP.own hBP.ln
              obtain ⟨rfl, rfl⟩ : AV = AV' ∧ cV = cV' := by injection hq with q1 q2 q3; exact ⟨q1, q3⟩
              have HSZ := Lib.hid (SzK.szh (hs := hs) (by rw [hm]; exact HZV.out) (by omega))
              have nb := (New.refl w6).alloc (.cells #[.string ⟨#[]⟩, .slice AV hs.length cV] 24)
              have BX := Blk.made w6 24 #[.string ⟨#[]⟩, .slice AV hs.length cV]
              have HPB := Lib.hid (hBP.new nb)
              have HVA := Lib.hid (rvalid_any ⟨#[]⟩ AV hs.length cV hs _ (hpr.new nb) HSZ.out (by decide))
              rw [hm] at HVA
              have HBX := Lib.hid BX
              have HHM := Lib.hid hm
              have hgw : w6.heap.size < (w6.alloc (.cells #[.string ⟨#[]⟩, .slice AV hs.length cV] 24)).heap.size := by rw [World.size_alloc]; omega
              clear hBP hq hpr nb BX hm hgw
              go_wp2_with (fail)
              with_reducible refine HVA.out.mono ?_
              rintro e w8 ⟨rfl, n8⟩
              have PB := HPB.out.new n8
              have RB := HRX.out _ PB.nw
              have BX := HBX.out.new n8
              have x0 := BX.cell' 0 _ rfl
              have x1 := BX.cell' 1 _ rfl
              have t0 := RB.cell' 0 _ rfl
              have t1 := RB.cell' 1 _ rfl
              have s0 := RB.free 0
              have s1' := RB.free 1
              by_cases hv : validV ⟨#[]⟩ ML = true
              · obtain ⟨nn, pp, ll, hc⟩ := PB.ret HNW.out RB (by rw [HR.out]; exact Nat.le_refl _)
                have HF : Hid (PatP w ⟨#[]⟩ ML (.returned (.tuple #[.agg #[.string ⟨#[]⟩, .slice AV hs.length cV], .int .i64 0])) ((w8.setCell ⟨r, 0, none⟩ (.string ⟨#[]⟩)).setCell ⟨r, 1, none⟩ (.slice AV hs.length cV))) := Lib.hid ⟨nn, by rw [if_pos hv]; exact ⟨AV, cV, hs, rfl, pp, ll, hc, HHM.out⟩⟩
                have BE := put2 RB (.string ⟨#[]⟩) (.slice AV hs.length cV)
                have e0 := BE.cell' 0 _ rfl
                have e1 := BE.cell' 1 _ rfl
                clear nn pp ll hc PB BX n8
                rw [hv]
                go_wp2
                exact bodyPost_ret (v := .tuple #[.agg #[.string ⟨#[]⟩, .slice AV hs.length cV], .int .i64 0]) (by simp [results, Tryz.results29, go_sem, e0, e1]) rfl (HI2.out _ _ HF.out)
              · have hvf : validV ⟨#[]⟩ ML = false := (by simpa using hv)
                have nn := ((HPX.out _ PB.nw).setCell (p := ⟨r, 0, none⟩) (by rw [HR.out]; exact Nat.le_refl _) (.string ⟨#[]⟩)).setCell (p := ⟨r, 1, none⟩) (by rw [HR.out]; exact Nat.le_refl _) (.slice none 0 0)
                have HF : Hid (PatP w ⟨#[]⟩ ML (.returned (.tuple #[.agg #[.string ⟨#[]⟩, .slice none 0 0], .int .i64 10])) ((w8.setCell ⟨r, 0, none⟩ (.string ⟨#[]⟩)).setCell ⟨r, 1, none⟩ (.slice none 0 0))) := Lib.hid ⟨nn, by rw [if_neg hv]⟩
                have BE := put2 RB (.string ⟨#[]⟩) (.slice none 0 0)
                have e0 := BE.cell' 0 _ rfl
                have e1 := BE.cell' 1 _ rfl
                clear nn PB BX n8
                rw [hvf]
                go_wp2
                exact bodyPost_ret (v := .tuple #[.agg #[.string ⟨#[]⟩, .slice none 0 0], .int .i64 10]) (by simp [results, Tryz.results29, go_sem, e0, e1]) rfl (HI2.out _ _ HF.out)
    · have HN : Hid (∀ e w', New w w' → e = .returned (.tuple #[.agg #[.string ⟨#[]⟩, .slice none 0 0], .int .i64 10]) → MP e w') := Lib.hid (fun e w' hn he => by rw [HMP.out, if_neg (fun q => hl2 q.2)]; exact ⟨hn, he⟩)
      have C2 := Lib.hid (fun W => rlns_bad s2 W h2 hl2)
      generalize parts 10 s1 = la1 at *
      clear HMP hl1 hl2
      go_enter Tryz.func29, Tryz.ntmps29
      go_wp2_with (fail)
      rw [HR.out]
      generalize w.alloc (.cells #[.string ⟨#[]⟩, .slice none 0 0] 24) = w1 at *
      have C1' := Lib.hid (C1.out w1)
      with_reducible refine C1'.out.mono ?_
      rintro e w2 ⟨A1, c1, rfl, L1, m1⟩
      have C2' := Lib.hid (C2.out w2)
      have HRB := Lib.hid (R0.new m1)
      have HNB := Lib.hid (n0.trans m1)
      clear m1 L1
      go_wp2_with (fail)
      with_reducible refine C2'.out.mono ?_
      rintro e w3 ⟨rfl, m2⟩
      have RB := HRB.out.new m2
      have NB := HNB.out.trans m2
      have t0 := RB.cell' 0 _ rfl
      have t1 := RB.cell' 1 _ rfl
      have s0 := RB.free 0
      have s1' := RB.free 1
      have NN := (NB.setCell (p := ⟨r, 0, none⟩) (by rw [HR.out]; exact Nat.le_refl _) (.string ⟨#[]⟩)).setCell (p := ⟨r, 1, none⟩) (by rw [HR.out]; exact Nat.le_refl _) (.slice none 0 0)
      have BE := put2 RB (.string ⟨#[]⟩) (.slice none 0 0)
      have e0 := BE.cell' 0 _ rfl
      have e1 := BE.cell' 1 _ rfl
      clear m2 R0 n0
      go_wp2
      exact bodyPost_ret (v := .tuple #[.agg #[.string ⟨#[]⟩, .slice none 0 0], .int .i64 10]) (by simp [results, Tryz.results29, go_sem, e0, e1]) rfl (HN.out _ _ NN rfl)
  · have HN : Hid (∀ e w', New w w' → e = .returned (.tuple #[.agg #[.string ⟨#[]⟩, .slice none 0 0], .int .i64 10]) → MP e w') := Lib.hid (fun e w' hn he => by rw [HMP.out, if_neg (fun q => hl1 q.1)]; exact ⟨hn, he⟩)
    have C1 := Lib.hid (fun W => rlns_bad s1 W h1 hl1)
    clear HMP hl1
    go_enter Tryz.func29, Tryz.ntmps29
    go_wp2_with (fail)
    rw [HR.out]
    generalize w.alloc (.cells #[.string ⟨#[]⟩, .slice none 0 0] 24) = w1 at *
    have C1' := Lib.hid (C1.out w1)
    with_reducible refine C1'.out.mono ?_
    rintro e w3 ⟨rfl, m1⟩
    have RB := R0.new m1
    have NB := n0.trans m1
    have t0 := RB.cell' 0 _ rfl
    have t1 := RB.cell' 1 _ rfl
    have s0 := RB.free 0
    have s1' := RB.free 1
    have NN := (NB.setCell (p := ⟨r, 0, none⟩) (by rw [HR.out]; exact Nat.le_refl _) (.string ⟨#[]⟩)).setCell (p := ⟨r, 1, none⟩) (by rw [HR.out]; exact Nat.le_refl _) (.slice none 0 0)
    have BE := put2 RB (.string ⟨#[]⟩) (.slice none 0 0)
    have e0 := BE.cell' 0 _ rfl
    have e1 := BE.cell' 1 _ rfl
    clear m1 R0 n0
    go_wp2
    exact bodyPost_ret (v := .tuple #[.agg #[.string ⟨#[]⟩, .slice none 0 0], .int .i64 10]) (by simp [results, Tryz.results29, go_sem, e0, e1]) rfl (HN.out _ _ NN rfl)
end Go.Proofs.YtfeknjpinboknaaGreatDoor

