/- The reference's Same at two binaries that read alike. Conditions: sizes. (Printed by mk-s1.py.) -/
import Derived.Test.YtnknmpcgbfmfjaaGreatDoorGD
import Derived.Deep.QuietTactic
import Derived.BigQuiet

namespace Go.Proofs.YtnknmpcgbfmfjaaGreatDoor
open Go Go.RowKit Go.Joins
set_option linter.unusedSimpArgs false
set_option linter.unusedVariables false

set_option maxRecDepth 100000 in
set_option maxHeartbeats 8000000 in
theorem same_self (b : Bn) (h h2 : BH) (w : World) (hr : BRd w b h) (hr2 : BRd w b h2) (l1 : b.places.length ≤ 1000000) (l2 : b.fix.length ≤ 1000000) (l3 : b.imps.length ≤ 1000000) (l4 : b.exps.length ≤ 1000000) (l5 : b.notes.length ≤ 1000000) :
    Calls Tryz.prog 18 #[.agg (bcells b h), .agg (bcells b h2)] w fun e w' => e = .returned (.bool true) ∧ New w w' := by
  have HA1 := Lib.hid hr.r1
  have HB1 := Lib.hid hr2.r1
  have HA2 := Lib.hid hr.r2
  have HB2 := Lib.hid hr2.r2
  have HA3 := Lib.hid hr.r3
  have HB3 := Lib.hid hr2.r3
  have HA4 := Lib.hid hr.r4
  have HB4 := Lib.hid hr2.r4
  have HA5 := Lib.hid hr.r5
  have HB5 := Lib.hid hr2.r5
  obtain ⟨kind, entry, image, places, fix, imps, exps, notes⟩ := b
  obtain ⟨a1, A1, a2, A2, a3, A3, a4, A4, a5, A5⟩ := h
  obtain ⟨b1, B1, b2, B2, b3, B3, b4, B4, b5, B5⟩ := h2
  simp only [bcells] at HA1 HA2 HA3 HA4 HA5 HB1 HB2 HB3 HB4 HB5 l1 l2 l3 l4 l5 ⊢
  obtain ⟨n1, hn1⟩ : ∃ n, places.length = n := ⟨_, rfl⟩
  have HL1 := Lib.hid hn1
  rw [hn1] at HA1 HB1 l1
  obtain ⟨n2, hn2⟩ : ∃ n, fix.length = n := ⟨_, rfl⟩
  have HL2 := Lib.hid hn2
  rw [hn2] at HA2 HB2 l2
  obtain ⟨n3, hn3⟩ : ∃ n, imps.length = n := ⟨_, rfl⟩
  have HL3 := Lib.hid hn3
  rw [hn3] at HA3 HB3 l3
  obtain ⟨n4, hn4⟩ : ∃ n, exps.length = n := ⟨_, rfl⟩
  have HL4 := Lib.hid hn4
  rw [hn4] at HA4 HB4 l4
  obtain ⟨n5, hn5⟩ : ∃ n, notes.length = n := ⟨_, rfl⟩
  have HL5 := Lib.hid hn5
  rw [hn5] at HA5 HB5 l5
  rw [hn1, hn2, hn3, hn4, hn5]
  have X1 := (Blk.made w 28 #[.int .i64 kind, .int .i64 entry, .string image, .slice a1 n1 A1, .slice a2 n2 A2, .slice a3 n3 A3, .slice a4 n4 A4, .slice a5 n5 A5]).alloc (.cells #[.int .i64 kind, .int .i64 entry, .string image, .slice b1 n1 B1, .slice b2 n2 B2, .slice b3 n3 B3, .slice b4 n4 B4, .slice b5 n5 B5] 28)
  have X2 : Blk ((w.alloc (.cells #[.int .i64 kind, .int .i64 entry, .string image, .slice a1 n1 A1, .slice a2 n2 A2, .slice a3 n3 A3, .slice a4 n4 A4, .slice a5 n5 A5] 28)).alloc (.cells #[.int .i64 kind, .int .i64 entry, .string image, .slice b1 n1 B1, .slice b2 n2 B2, .slice b3 n3 B3, .slice b4 n4 B4, .slice b5 n5 B5] 28)) (w.heap.size + 1) 28 #[.int .i64 kind, .int .i64 entry, .string image, .slice b1 n1 B1, .slice b2 n2 B2, .slice b3 n3 B3, .slice b4 n4 B4, .slice b5 n5 B5] := by
    have q := Blk.made (w.alloc (.cells #[.int .i64 kind, .int .i64 entry, .string image, .slice a1 n1 A1, .slice a2 n2 A2, .slice a3 n3 A3, .slice a4 n4 A4, .slice a5 n5 A5] 28)) 28 #[.int .i64 kind, .int .i64 entry, .string image, .slice b1 n1 B1, .slice b2 n2 B2, .slice b3 n3 B3, .slice b4 n4 B4, .slice b5 n5 B5]
    rwa [World.size_alloc] at q
  have hnX : New w ((w.alloc (.cells #[.int .i64 kind, .int .i64 entry, .string image, .slice a1 n1 A1, .slice a2 n2 A2, .slice a3 n3 A3, .slice a4 n4 A4, .slice a5 n5 A5] 28)).alloc (.cells #[.int .i64 kind, .int .i64 entry, .string image, .slice b1 n1 B1, .slice b2 n2 B2, .slice b3 n3 B3, .slice b4 n4 B4, .slice b5 n5 B5] 28)) := ((New.refl w).alloc _).alloc _
  clear hr hr2 hn1 hn2 hn3 hn4 hn5
  have ei : (image.toList == image.toList) = true := beq_self_eq_true _
  have ek : (kind == kind) = true := beq_self_eq_true _
  have ee : (entry == entry) = true := beq_self_eq_true _
  have ek' : (kind != kind) = false := by rw [bne, ek]; rfl
  have ee' : (entry != entry) = false := by rw [bne, ee]; rfl
  go_enter Tryz.func18, Tryz.ntmps18
  go_wp2
  generalize (w.alloc (.cells #[.int .i64 kind, .int .i64 entry, .string image, .slice a1 n1 A1, .slice a2 n2 A2, .slice a3 n3 A3, .slice a4 n4 A4, .slice a5 n5 A5] 28)).alloc (.cells #[.int .i64 kind, .int .i64 entry, .string image, .slice b1 n1 B1, .slice b2 n2 B2, .slice b3 n3 B3, .slice b4 n4 B4, .slice b5 n5 B5] 28) = w0 at *
  go_loopw [77] (fun v77 wr => ∃ i : Nat, v77 = .int .i64 i ∧ i ≤ n1 ∧ New w0 wr) (fun v77 _ => n1 - (intOf v77).toNat)
  case atStart => exact ⟨0, rfl, by omega, New.refl _⟩
  case round =>
    obtain ⟨i, rfl, hi9, hnr1⟩ := hrel
    have g1 := (X1.new hnr1).cell' 3 _ rfl
    have g2 := (X2.new hnr1).cell' 3 _ rfl
    by_cases hlt : i < n1
    · obtain ⟨bk, o, rfl, _, x, hx, hc1⟩ := rd_row (f := plC) (k := 5) (fun _ => rfl) HL1.out (HA1.out.below (New.trans hnX hnr1)) hlt
      obtain ⟨bk', o', rfl, _, x', hx', hc2⟩ := rd_row (f := plC) (k := 5) (fun _ => rfl) HL1.out (HB1.out.below (New.trans hnX hnr1)) hlt
      obtain rfl : x' = x := by rw [hx] at hx'; exact (Option.some.inj hx').symm
      obtain ⟨po, ps, pk, pa, pz⟩ := x'
      have p0 := hc1 0 (.string po) (by omega) rfl
      have q0 := hc2 0 (.string po) (by omega) rfl
      have p1 := hc1 1 (.string ps) (by omega) rfl
      have q1 := hc2 1 (.string ps) (by omega) rfl
      have p2 := hc1 2 (.int .i64 pk) (by omega) rfl
      have q2 := hc2 2 (.int .i64 pk) (by omega) rfl
      have p3 := hc1 3 (.int .i64 pa) (by omega) rfl
      have q3 := hc2 3 (.int .i64 pa) (by omega) rfl
      have p4 := hc1 4 (.int .i64 pz) (by omega) rfl
      have q4 := hc2 4 (.int .i64 pz) (by omega) rfl
      simp only [Nat.add_zero] at p0 q0
      rw [← Nat.add_assoc] at p1 q1 p2 q2 p3 q3 p4 q4
      clear hc1 hc2 hx hx'
      have f_po : (po.toList == po.toList) = true := beq_self_eq_true _
      have f_ps : (ps.toList == ps.toList) = true := beq_self_eq_true _
      have f_pk : (pk == pk) = true := beq_self_eq_true _
      have f'_pk : (pk != pk) = false := by rw [bne, f_pk]; rfl
      have f_pa : (pa == pa) = true := beq_self_eq_true _
      have f'_pa : (pa != pa) = false := by rw [bne, f_pa]; rfl
      have f_pz : (pz == pz) = true := beq_self_eq_true _
      have f'_pz : (pz != pz) = false := by rw [bne, f_pz]; rfl
      have i0 : (0 : Int) ≤ (i : Int) := by omega
      have i1 : (i : Int) < (n1 : Int) := by omega
      go_wp2_with (fail)
      go_quiet (fail)
      go_wp2
      go_roundw
      case rel => exact ⟨i + 1, by go_num, by omega, hnr1.drewN nq⟩
      case measure => simp [intOf]; omega
    · obtain rfl : n1 = i := by omega
      obtain ⟨wx1, rfl⟩ : ∃ wx : World, wx = wr := ⟨_, rfl⟩
      have e1 := (X1.new hnr1).cell' 4 _ rfl
      have e2 := (X2.new hnr1).cell' 4 _ rfl
      clear g1 g2 hlt hi9
      go_wp2
      go_loopw [95] (fun v95 wr => ∃ i : Nat, v95 = .int .i64 i ∧ i ≤ n2 ∧ New w0 wr) (fun v95 _ => n2 - (intOf v95).toNat)
      case atStart => exact ⟨0, rfl, by omega, hnr1⟩
      case round =>
        obtain ⟨i, rfl, hi9, hnr2⟩ := hrel
        have g1 := (X1.new hnr2).cell' 4 _ rfl
        have g2 := (X2.new hnr2).cell' 4 _ rfl
        by_cases hlt : i < n2
        · have hil : i < fix.length := by rw [HL2.out]; exact hlt
          obtain ⟨bk, o, rfl, _, hc1⟩ := (HA2.out.below (New.trans hnX hnr2)).2 (by omega)
          obtain ⟨bk', o', rfl, _, hc2⟩ := (HB2.out.below (New.trans hnX hnr2)).2 (by omega)
          obtain ⟨x, hx⟩ : ∃ x, fix[i]? = some x := ⟨_, List.getElem?_eq_getElem hil⟩
          have p0 := hc1 i (.int .i64 x) (by rw [flat_one, hx]; rfl)
          have q0 := hc2 i (.int .i64 x) (by rw [flat_one, hx]; rfl)
          clear hc1 hc2 hx
          have f_x : (x == x) = true := beq_self_eq_true _
          have f'_x : (x != x) = false := by rw [bne, f_x]; rfl
          have i0 : (0 : Int) ≤ (i : Int) := by omega
          have i1 : (i : Int) < (n2 : Int) := by omega
          go_wp2_with (fail)
          go_quiet (fail)
          go_wp2
          go_roundw
          case rel => exact ⟨i + 1, by go_num, by omega, hnr2.drewN nq⟩
          case measure => simp [intOf]; omega
        · obtain rfl : n2 = i := by omega
          obtain ⟨wx2, rfl⟩ : ∃ wx : World, wx = wr := ⟨_, rfl⟩
          have e1 := (X1.new hnr2).cell' 5 _ rfl
          have e2 := (X2.new hnr2).cell' 5 _ rfl
          clear g1 g2 hlt hi9
          go_wp2
          go_loopw [113] (fun v113 wr => ∃ i : Nat, v113 = .int .i64 i ∧ i ≤ n3 ∧ New w0 wr) (fun v113 _ => n3 - (intOf v113).toNat)
          case atStart => exact ⟨0, rfl, by omega, hnr2⟩
          case round =>
            obtain ⟨i, rfl, hi9, hnr3⟩ := hrel
            have g1 := (X1.new hnr3).cell' 5 _ rfl
            have g2 := (X2.new hnr3).cell' 5 _ rfl
            by_cases hlt : i < n3
            · obtain ⟨bk, o, rfl, _, x, hx, hc1⟩ := rd_row (f := imC) (k := 3) (fun _ => rfl) HL3.out (HA3.out.below (New.trans hnX hnr3)) hlt
              obtain ⟨bk', o', rfl, _, x', hx', hc2⟩ := rd_row (f := imC) (k := 3) (fun _ => rfl) HL3.out (HB3.out.below (New.trans hnX hnr3)) hlt
              obtain rfl : x' = x := by rw [hx] at hx'; exact (Option.some.inj hx').symm
              obtain ⟨xl, xs, xp⟩ := x'
              have p0 := hc1 0 (.string xl) (by omega) rfl
              have q0 := hc2 0 (.string xl) (by omega) rfl
              have p1 := hc1 1 (.string xs) (by omega) rfl
              have q1 := hc2 1 (.string xs) (by omega) rfl
              have p2 := hc1 2 (.int .i64 xp) (by omega) rfl
              have q2 := hc2 2 (.int .i64 xp) (by omega) rfl
              simp only [Nat.add_zero] at p0 q0
              rw [← Nat.add_assoc] at p1 q1 p2 q2
              clear hc1 hc2 hx hx'
              have f_xl : (xl.toList == xl.toList) = true := beq_self_eq_true _
              have f_xs : (xs.toList == xs.toList) = true := beq_self_eq_true _
              have f_xp : (xp == xp) = true := beq_self_eq_true _
              have f'_xp : (xp != xp) = false := by rw [bne, f_xp]; rfl
              have i0 : (0 : Int) ≤ (i : Int) := by omega
              have i1 : (i : Int) < (n3 : Int) := by omega
              go_wp2_with (fail)
              go_quiet (fail)
              go_wp2
              go_roundw
              case rel => exact ⟨i + 1, by go_num, by omega, hnr3.drewN nq⟩
              case measure => simp [intOf]; omega
            · obtain rfl : n3 = i := by omega
              obtain ⟨wx3, rfl⟩ : ∃ wx : World, wx = wr := ⟨_, rfl⟩
              have e1 := (X1.new hnr3).cell' 6 _ rfl
              have e2 := (X2.new hnr3).cell' 6 _ rfl
              clear g1 g2 hlt hi9
              go_wp2
              go_loopw [131] (fun v131 wr => ∃ i : Nat, v131 = .int .i64 i ∧ i ≤ n4 ∧ New w0 wr) (fun v131 _ => n4 - (intOf v131).toNat)
              case atStart => exact ⟨0, rfl, by omega, hnr3⟩
              case round =>
                obtain ⟨i, rfl, hi9, hnr4⟩ := hrel
                have g1 := (X1.new hnr4).cell' 6 _ rfl
                have g2 := (X2.new hnr4).cell' 6 _ rfl
                by_cases hlt : i < n4
                · obtain ⟨bk, o, rfl, _, x, hx, hc1⟩ := rd_row (f := exC) (k := 2) (fun _ => rfl) HL4.out (HA4.out.below (New.trans hnX hnr4)) hlt
                  obtain ⟨bk', o', rfl, _, x', hx', hc2⟩ := rd_row (f := exC) (k := 2) (fun _ => rfl) HL4.out (HB4.out.below (New.trans hnX hnr4)) hlt
                  obtain rfl : x' = x := by rw [hx] at hx'; exact (Option.some.inj hx').symm
                  obtain ⟨xs, xp⟩ := x'
                  have p0 := hc1 0 (.string xs) (by omega) rfl
                  have q0 := hc2 0 (.string xs) (by omega) rfl
                  have p1 := hc1 1 (.int .i64 xp) (by omega) rfl
                  have q1 := hc2 1 (.int .i64 xp) (by omega) rfl
                  simp only [Nat.add_zero] at p0 q0
                  rw [← Nat.add_assoc] at p1 q1
                  clear hc1 hc2 hx hx'
                  have f_xs : (xs.toList == xs.toList) = true := beq_self_eq_true _
                  have f_xp : (xp == xp) = true := beq_self_eq_true _
                  have f'_xp : (xp != xp) = false := by rw [bne, f_xp]; rfl
                  have i0 : (0 : Int) ≤ (i : Int) := by omega
                  have i1 : (i : Int) < (n4 : Int) := by omega
                  go_wp2_with (fail)
                  go_quiet (fail)
                  go_wp2
                  go_roundw
                  case rel => exact ⟨i + 1, by go_num, by omega, hnr4.drewN nq⟩
                  case measure => simp [intOf]; omega
                · obtain rfl : n4 = i := by omega
                  obtain ⟨wx4, rfl⟩ : ∃ wx : World, wx = wr := ⟨_, rfl⟩
                  have e1 := (X1.new hnr4).cell' 7 _ rfl
                  have e2 := (X2.new hnr4).cell' 7 _ rfl
                  clear g1 g2 hlt hi9
                  go_wp2
                  go_loopw [149] (fun v149 wr => ∃ i : Nat, v149 = .int .i64 i ∧ i ≤ n5 ∧ New w0 wr) (fun v149 _ => n5 - (intOf v149).toNat)
                  case atStart => exact ⟨0, rfl, by omega, hnr4⟩
                  case round =>
                    obtain ⟨i, rfl, hi9, hnr5⟩ := hrel
                    have g1 := (X1.new hnr5).cell' 7 _ rfl
                    have g2 := (X2.new hnr5).cell' 7 _ rfl
                    by_cases hlt : i < n5
                    · obtain ⟨bk, o, rfl, _, x, hx, hc1⟩ := rd_row (f := ntC) (k := 2) (fun _ => rfl) HL5.out (HA5.out.below (New.trans hnX hnr5)) hlt
                      obtain ⟨bk', o', rfl, _, x', hx', hc2⟩ := rd_row (f := ntC) (k := 2) (fun _ => rfl) HL5.out (HB5.out.below (New.trans hnX hnr5)) hlt
                      obtain rfl : x' = x := by rw [hx] at hx'; exact (Option.some.inj hx').symm
                      obtain ⟨xs, xt⟩ := x'
                      have p0 := hc1 0 (.string xs) (by omega) rfl
                      have q0 := hc2 0 (.string xs) (by omega) rfl
                      have p1 := hc1 1 (.string xt) (by omega) rfl
                      have q1 := hc2 1 (.string xt) (by omega) rfl
                      simp only [Nat.add_zero] at p0 q0
                      rw [← Nat.add_assoc] at p1 q1
                      clear hc1 hc2 hx hx'
                      have f_xs : (xs.toList == xs.toList) = true := beq_self_eq_true _
                      have f_xt : (xt.toList == xt.toList) = true := beq_self_eq_true _
                      have i0 : (0 : Int) ≤ (i : Int) := by omega
                      have i1 : (i : Int) < (n5 : Int) := by omega
                      go_wp2_with (fail)
                      go_quiet (fail)
                      go_wp2
                      go_roundw
                      case rel => exact ⟨i + 1, by go_num, by omega, hnr5.drewN nq⟩
                      case measure => simp [intOf]; omega
                    · obtain rfl : n5 = i := by omega
                      go_wp2
                      go_ret
                      exact ⟨rfl, New.trans hnX hnr5⟩
end Go.Proofs.YtnknmpcgbfmfjaaGreatDoor

