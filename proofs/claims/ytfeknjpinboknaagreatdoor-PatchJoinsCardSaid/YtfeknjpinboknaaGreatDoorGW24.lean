/- The program's table of common lengths, walked. Conditions: sizes. -/
import Derived.Test.YtfeknjpinboknaaGreatDoorGW23
import Derived.StillTailTactics
import Derived.BigQuiet

namespace Go.Proofs.YtfeknjpinboknaaGreatDoor
open Go Go.RowKit Go.Joins Go.Shelf
set_option linter.unusedSimpArgs false
set_option linter.unusedVariables false

theorem Tab.drewN {w : World} {g la lb : Nat} {b : Nat → Nat} {F : Nat → Nat → Nat} (h : Tab w g la lb b F) (n : Nat) : Tab (w.drewN n) g la lb b F := ⟨h.glt, h.gt, h.row, h.cell, h.free, h.lt, h.kind, h.inj⟩
theorem Tab.drew {w : World} {g la lb : Nat} {b : Nat → Nat} {F : Nat → Nat → Nat} (h : Tab w g la lb b F) : Tab w.drew g la lb b F := ⟨h.glt, h.gt, h.row, h.cell, h.free, h.lt, h.kind, h.inj⟩
def fillF (M : Nat → Nat → Nat) (r j : Nat) : Nat → Nat → Nat := fun x y => if r + 1 ≤ x ∨ x = r ∧ j ≤ y then M x y else 0
theorem fill_one {M : Nat → Nat → Nat} {r c v : Nat} (h : M r c = v) (x y : Nat) : upd (fillF M r (c + 1)) r c v x y = fillF M r c x y := by
  unfold upd fillF
  by_cases e : x = r ∧ y = c
  · obtain ⟨rfl, rfl⟩ := e
    rw [if_pos ⟨rfl, rfl⟩, if_pos (Or.inr ⟨rfl, Nat.le_refl _⟩), h]
  · rw [if_neg e]
    by_cases e2 : r + 1 ≤ x ∨ x = r ∧ c + 1 ≤ y
    · rw [if_pos e2, if_pos (by omega)]
    · rw [if_neg e2, if_neg (by omega)]
theorem fill_two {M : Nat → Nat → Nat} {r c v u : Nat} (h : M r c = v) (x y : Nat) : upd (upd (fillF M r (c + 1)) r c u) r c v x y = fillF M r c x y := by
  rw [← fill_one h]
  unfold upd
  by_cases e : x = r ∧ y = c
  · rw [if_pos e, if_pos e]
  · rw [if_neg e, if_neg e, if_neg e]
set_option maxRecDepth 100000 in
set_option maxHeartbeats 16000000 in
theorem common_any (A1 A2 : Option Addr) (la c1 lb c2 : Nat) (ls1 ls2 : List ByteArray) (w : World) (h1 : Rd w 1 A1 la (sCells ls1)) (h2 : Rd w 1 A2 lb (sCells ls2)) (hla : la ≤ 1024) (hlb : lb ≤ 1024) :
    Calls Tryz.prog 57 #[.slice A1 la c1, .slice A2 lb c2] w fun e w' => e = .returned (.slice (some ⟨w.heap.size, 0, none⟩) (la + 1) (la + 1)) ∧ New w w' ∧ Tab w' w.heap.size la lb (fun i => w.heap.size + 1 + i) (tabM ls1 ls2) := by
  have HMK := Lib.hid (run_mk85 la (by omega))
  have HMI := Lib.hid (run_mk3 lb (by omega))
  have H1 := Lib.hid h1
  have H2 := Lib.hid h2
  have hL1 : ls1.length = la := by have := h1.1; rw [sCells_len, Nat.mul_one] at this; exact this
  have hL2 : ls2.length = lb := by have := h2.1; rw [sCells_len, Nat.mul_one] at this; exact this
  have HL1 := Lib.hid hL1
  have HL2 := Lib.hid hL2
  obtain ⟨g, hg⟩ : ∃ g, w.heap.size = g := ⟨_, rfl⟩
  have HG := Lib.hid hg
  have n0 := (New.refl w).alloc (.cells (madeCells #[.slice none 0 0] (la + 1)) 85)
  have T0 : TabP (w.alloc (.cells (madeCells #[.slice none 0 0] (la + 1)) 85)) g la lb (fun i => g + 1 + i) (fun x => x < 0) := ⟨⟨_, hg ▸ Blk.made w 85 _, size_madeCells _ _, fun x _ h => absurd h (by omega)⟩, fun x h => absurd h (by omega)⟩
  have hz0 : (w.alloc (.cells (madeCells #[.slice none 0 0] (la + 1)) 85)).heap.size = g + 1 := by rw [World.size_alloc, hg]
  have hmk := HMK.out
  have t0 : (w.alloc (.cells (madeCells #[.slice none 0 0] (la + 1)) 85)).heap.size = g + 1 + 0 := hz0
  clear h1 h2 hL1 hL2 hg hz0
  go_enter Tryz.func57, Tryz.ntmps57
  go_wp2
  rw [HG.out]
  clear hmk
  generalize w.alloc (.cells (madeCells #[.slice none 0 0] (la + 1)) 85) = w1 at *
  go_loopw [15] (fun v15 wr => ∃ i : Nat, v15 = .int .i64 (i : Int) ∧ i ≤ la + 1 ∧ New w wr ∧ wr.heap.size = g + 1 + i ∧ TabP wr g la lb (fun i => g + 1 + i) (fun x => x < i)) (fun v15 _ => la + 1 - (intOf v15).toNat)
  case atStart => exact ⟨0, rfl, by omega, n0, t0, T0⟩
  case round =>
    obtain ⟨i, rfl, hi, hn, hz, hT⟩ := hrel
    by_cases hlt : i < la + 1
    · have i0 : (0 : Int) ≤ (i : Int) := by omega
      have i1 : (i : Int) < ((la + 1 : Nat) : Int) := by omega
      have i2 : (i : Int) < (la : Int) + 1 := by omega
      have hmi := HMI.out
      have TN := Lib.hid (hT.row (i := i) (R' := fun x => x < i + 1) (by omega) hz.symm (fun x hx => by omega))
      obtain ⟨⟨cs, B1, hcs, _⟩, _⟩ := hT
      have hgl := B1.lt
      have BX := B1.alloc (.cells (madeCells #[.int .i64 0] (lb + 1)) 3)
      have c0 : (wr.alloc (.cells (madeCells #[.int .i64 0] (lb + 1)) 3)).cell? ⟨g, i, none⟩ = some cs[i] := BX.cell' i _ (Array.getElem?_eq_getElem (by omega))
      have z0 := BX.free i
      have NN := Lib.hid ((hn.alloc (.cells (madeCells #[.int .i64 0] (lb + 1)) 3)).setCell (p := ⟨g, i, none⟩) (by rw [HG.out]; exact Nat.le_refl _) (.slice (some ⟨wr.heap.size, 0, none⟩) (lb + 1) (lb + 1)))
      rw [hz] at TN NN
      generalize cs[i] = u0 at *
      go_wp2
      go_roundw
      case rel => exact ⟨i + 1, by go_num, by omega, NN.out, by rw [World.size_setCell, World.size_alloc, hz]; omega, TN.out⟩
      case measure => simp [intOf]; omega
    · obtain rfl : i = la + 1 := by omega
      have hT0 : Tab wr g la lb (fun i => g + 1 + i) (fillF (tabM ls1 ls2) la 0) := by
        have h0 : TabP wr g la lb (fun i => g + 1 + i) (fun x => x ≤ la) := ⟨by
          obtain ⟨⟨cs, q1, q2, q3⟩, q4⟩ := hT
          exact ⟨cs, q1, q2, fun x hx _ => q3 x hx (by omega)⟩, fun x hx => hT.inn x (by omega)⟩
        refine (h0.tab (fun i j _ _ e => by omega)).ext (fun i j hi hj => ?_)
        unfold fillF
        split
        · rw [tabM_end]; left; rw [HL1.out]; omega
        · rfl
      have HT0 := Lib.hid hT0
      have HN0 := Lib.hid hn
      clear hT hT0 hn hi hlt hz n0 t0 T0
      obtain ⟨w2, rfl⟩ : ∃ w2 : World, w2 = wr := ⟨_, rfl⟩
      go_wp2
      go_loopw [7] (fun v7 wr2 => ∃ (i : Nat) (z : Int), v7 = .int .i64 z ∧ z + 1 = (i : Int) ∧ i ≤ la ∧ New w wr2 ∧ Tab wr2 g la lb (fun i => g + 1 + i) (fillF (tabM ls1 ls2) i 0)) (fun v7 _ => (intOf v7 + 1).toNat)
      case atStart => exact ⟨la, (la : Int) - 1, by go_num, by omega, by omega, HN0.out, HT0.out⟩
      case round =>
        obtain ⟨i, z, rfl, hz, hi, hn, hT⟩ := hrel
        by_cases hlt : 0 < i
        · obtain ⟨r, rfl⟩ : ∃ r, i = r + 1 := ⟨i - 1, by omega⟩
          obtain rfl : z = (r : Int) := by omega
          have i0 : (0 : Int) ≤ (r : Int) := by omega
          have HTO := Lib.hid hT
          have HNO := Lib.hid hn
          clear hT hn hz
          obtain ⟨w3, rfl⟩ : ∃ w3 : World, w3 = wr := ⟨_, rfl⟩
          go_wp2
          go_loopw [8] (fun v8 wr3 => ∃ (j : Nat) (z : Int), v8 = .int .i64 z ∧ z + 1 = (j : Int) ∧ j ≤ lb ∧ New w wr3 ∧ Tab wr3 g la lb (fun i => g + 1 + i) (fillF (tabM ls1 ls2) r j)) (fun v8 _ => (intOf v8 + 1).toNat)
          case atStart => exact ⟨lb, (lb : Int) - 1, by go_num, by omega, by omega, HNO.out, HTO.out.ext (fun x y hx hy => by
            unfold fillF
            by_cases e : r + 1 ≤ x
            · rw [if_pos (Or.inl e)]
              by_cases e2 : r + 1 + 1 ≤ x ∨ x = r + 1 ∧ 0 ≤ y
              · rw [if_pos e2]
              · exact absurd (show r + 1 + 1 ≤ x ∨ x = r + 1 ∧ 0 ≤ y by omega) e2
            · rw [if_neg (by omega)]
              by_cases e2 : r + 1 ≤ x ∨ x = r ∧ lb ≤ y
              · rw [if_pos e2, tabM_end]; right; rw [HL2.out]; omega
              · rw [if_neg e2])⟩
          case round =>
            obtain ⟨j, z, rfl, hz, hj, hn, hT⟩ := hrel
            by_cases hlt2 : 0 < j
            · obtain ⟨c, rfl⟩ : ∃ c, j = c + 1 := ⟨j - 1, by omega⟩
              obtain rfl : z = (c : Int) := by omega
              have j0 : (0 : Int) ≤ (c : Int) := by omega
              have j1 : (c : Int) < (lb : Int) := by omega
              have i1 : (r : Int) < (la : Int) := by omega
              have i2 : (r : Int) < ((la + 1 : Nat) : Int) := by omega
              have i3 : (r : Int) + 1 < ((la + 1 : Nat) : Int) := by omega
              have i4 : ((r : Int) + 1).toNat = r + 1 := by omega
              have i5 : (0 : Int) ≤ (r : Int) + 1 := by omega
              have i6 : (r : Int) < (la : Int) + 1 := by omega
              have i7 : (r : Int) + 1 < (la : Int) + 1 := by omega
              have j2 : (c : Int) < ((lb + 1 : Nat) : Int) := by omega
              have j3 : (c : Int) + 1 < ((lb + 1 : Nat) : Int) := by omega
              have j4 : ((c : Int) + 1).toNat = c + 1 := by omega
              have j5 : (0 : Int) ≤ (c : Int) + 1 := by omega
              have j6 : (c : Int) < (lb : Int) + 1 := by omega
              have j7 : (c : Int) + 1 < (lb : Int) + 1 := by omega
              have i8 : IntKind.i64.wrap ((r : Int) + 1) = (r : Int) + 1 := IntWalk.i64_in _ (by omega)
              have j8 : IntKind.i64.wrap ((c : Int) + 1) = (c : Int) + 1 := IntWalk.i64_in _ (by omega)
              have r0 : wr.cell? ⟨g, r, none⟩ = some (.slice (some ⟨g + 1 + r, 0, none⟩) (lb + 1) (lb + 1)) := hT.row r (by omega)
              have r1 : wr.cell? ⟨g, r + 1, none⟩ = some (.slice (some ⟨g + 1 + (r + 1), 0, none⟩) (lb + 1) (lb + 1)) := hT.row (r + 1) (by omega)
              have d0 := hT.cell r c (by omega) (by omega)
              have d1 := hT.cell (r + 1) c (by omega) (by omega)
              have d2 := hT.cell r (c + 1) (by omega) (by omega)
              have z0 := hT.free r c (by omega) (by omega)
              rw [show fillF (tabM ls1 ls2) r (c + 1) (r + 1) c = tabM ls1 ls2 (r + 1) c from if_pos (Or.inl (Nat.le_refl _))] at d1
              rw [show fillF (tabM ls1 ls2) r (c + 1) r (c + 1) = tabM ls1 ls2 r (c + 1) from if_pos (Or.inr ⟨rfl, Nat.le_refl _⟩)] at d2
              have m1le := tabM_le ls1 ls2 (r + 1) c
              have m2le := tabM_le ls1 ls2 r (c + 1)
              have HST := Lib.hid (tabM_step ls1 ls2 (i := r) (j := c) (by rw [HL1.out]; omega) (by rw [HL2.out]; omega))
              have HT1 := Lib.hid hT
              have HN := Lib.hid hn
              have d0 : wr.cell? ⟨g + 1 + r, c, none⟩ = some (.int .i64 (fillF (tabM ls1 ls2) r (c + 1) r c : Int)) := d0
              have d1 : wr.cell? ⟨g + 1 + (r + 1), c, none⟩ = some (.int .i64 (tabM ls1 ls2 (r + 1) c : Int)) := d1
              have d2 : wr.cell? ⟨g + 1 + r, c + 1, none⟩ = some (.int .i64 (tabM ls1 ls2 r (c + 1) : Int)) := d2
              have z0 : wr.frozen? ⟨g + 1 + r, c, none⟩ = false := z0
              generalize fillF (tabM ls1 ls2) r (c + 1) r c = m0 at *
              generalize tabM ls1 ls2 (r + 1) c = m1 at *
              generalize tabM ls1 ls2 r (c + 1) = m2 at *
              have mx : max (m1 : Int) (m2 : Int) = ((max m1 m2 : Nat) : Int) := by omega
              clear hz hT hn
              go_wp2
              go_still_tail 23, (by kernel_rfl)
              go_wp2
              have T1 := HT1.out.put (i := r) (j := c) (by omega) (by omega) (max m1 m2)
              have NW1 := HN.out.setCell (p := ⟨g + 1 + r, c, none⟩) (by rw [HG.out]; simp only; omega) (.int .i64 ((max m1 m2 : Nat) : Int))
              have T1 : Tab (wr.setCell ⟨g + 1 + r, c, none⟩ (.int .i64 ((max m1 m2 : Nat) : Int))) g la lb (fun i => g + 1 + i) (upd (fillF (tabM ls1 ls2) r (c + 1)) r c (max m1 m2)) := T1
              generalize wr.setCell ⟨g + 1 + r, c, none⟩ (.int .i64 ((max m1 m2 : Nat) : Int)) = W1 at *
              clear d0 d1 d2 r0 r1 z0 mx
              obtain ⟨bx, ox, x, rfl, hbx, hx, cx⟩ := sRd_at (H1.out.below NW1) (show r < la by omega)
              obtain ⟨by', oy, y, rfl, hby, hy, cy⟩ := sRd_at (H2.out.below NW1) (show c < lb by omega)
              obtain ⟨hxl, hxe⟩ := List.getElem?_eq_some_iff.1 hx
              obtain ⟨hyl, hye⟩ := List.getElem?_eq_some_iff.1 hy
              have hst := HST.out
              rw [hxe, hye] at hst
              have hmx : max m1 m2 ≤ 1024 := by have := HL1.out; omega
              by_cases e : x = y
              · have e1 : (x.toList == y.toList) = true := by rw [e]; simp
                rw [if_pos e] at hst
                have r0 : W1.cell? ⟨g, r, none⟩ = some (.slice (some ⟨g + 1 + r, 0, none⟩) (lb + 1) (lb + 1)) := T1.row r (by omega)
                have r1 : W1.cell? ⟨g, r + 1, none⟩ = some (.slice (some ⟨g + 1 + (r + 1), 0, none⟩) (lb + 1) (lb + 1)) := T1.row (r + 1) (by omega)
                have d0 : W1.cell? ⟨g + 1 + r, c, none⟩ = some (.int .i64 ((max m1 m2 : Nat) : Int)) := by
                  have := T1.cell r c (by omega) (by omega)
                  rw [upd, if_pos ⟨rfl, rfl⟩] at this
                  exact this
                have d1 : W1.cell? ⟨g + 1 + (r + 1), c + 1, none⟩ = some (.int .i64 (tabM ls1 ls2 (r + 1) (c + 1) : Int)) := by
                  have := T1.cell (r + 1) (c + 1) (by omega) (by omega)
                  rw [upd, if_neg (by omega), fillF, if_pos (Or.inl (Nat.le_refl _))] at this
                  exact this
                have z0 : W1.frozen? ⟨g + 1 + r, c, none⟩ = false := T1.free r c (by omega) (by omega)
                have m3le := tabM_le ls1 ls2 (r + 1) (c + 1)
                have HST2 := Lib.hid hst
                have HTT := Lib.hid T1
                have HNW := Lib.hid NW1
                generalize tabM ls1 ls2 (r + 1) (c + 1) = m3 at *
                generalize max m1 m2 = m4 at *
                have mx : max (m4 : Int) (1 + (m3 : Int)) = ((max m4 (1 + m3) : Nat) : Int) := by omega
                have mw : IntKind.i64.wrap (1 + (m3 : Int)) = 1 + (m3 : Int) := IntWalk.i64_in _ (by have := HL1.out; omega)
                clear hst T1 NW1 hx hy hxe hye HST HT1 HN
                go_quiet (fail)
                go_wp2
                have TT := HTT.out.drew.drewN nq
                have NN := HNW.out.drew.drewN nq
                have r0 : (W1.drew.drewN nq).cell? ⟨g, r, none⟩ = _ := r0
                have r1 : (W1.drew.drewN nq).cell? ⟨g, r + 1, none⟩ = _ := r1
                have d0 : (W1.drew.drewN nq).cell? ⟨g + 1 + r, c, none⟩ = _ := d0
                have d1 : (W1.drew.drewN nq).cell? ⟨g + 1 + (r + 1), c + 1, none⟩ = _ := d1
                have z0 : (W1.drew.drewN nq).frozen? ⟨g + 1 + r, c, none⟩ = _ := z0
                generalize W1.drew.drewN nq = W2 at *
                go_still_tail 24, (by kernel_rfl)
                go_wp2
                go_roundw
                case rel => (repeat apply Exists.intro); refine ⟨⟨c, (c : Int) - 1, by go_num, by omega, by omega, (NN.setCell (p := ⟨g + 1 + r, c, none⟩) (by rw [HG.out]; simp only; omega) _).drew, (TT.put (i := r) (j := c) (by omega) (by omega) (max m4 (1 + m3))).drew.ext (fun x y _ _ => fill_two HST2.out x y)⟩, rfl⟩
                case measure => (simp [intOf]; try omega)
              · have e1 : (x.toList == y.toList) = false := by rw [beq_bytes]; exact decide_eq_false e
                rw [if_neg e, Nat.max_eq_left (Nat.zero_le _)] at hst
                have HST2 := Lib.hid hst
                have HTT := Lib.hid T1
                have HNW := Lib.hid NW1
                generalize max m1 m2 = m4 at *
                clear hst T1 NW1 hx hy hxe hye HST HT1 HN
                go_quiet (fail)
                go_wp2
                go_roundw
                case rel => (repeat apply Exists.intro); refine ⟨⟨c, (c : Int) - 1, by go_num, by omega, by omega, HNW.out.drewN _, (HTT.out.drewN _).ext (fun x y _ _ => fill_one HST2.out x y)⟩, rfl⟩
                case measure => (simp [intOf]; try omega)
            · obtain rfl : j = 0 := by omega
              obtain rfl : z = -1 := by omega
              go_wp2
              go_roundw
              case rel => exact ⟨r, (r : Int) - 1, by go_num, by omega, by omega, hn, hT⟩
              case measure => (simp [intOf]; try omega)
        · obtain rfl : i = 0 := by omega
          obtain rfl : z = -1 := by omega
          go_wp2
          go_ret
          rw [HG.out]
          exact ⟨rfl, hn, hT.ext (fun x y _ _ => by unfold fillF; rw [if_pos (by omega)])⟩
end Go.Proofs.YtfeknjpinboknaaGreatDoor

