/- The law PatchBack: it answers true. Conditions: none but the world's. -/
import Derived.Test.YtfeknjpinboknaaGreatDoorGW26
import Derived.Test.YtfeknjpinboknaaGreatDoorGW9
import Derived.Test.YtfeknjpinboknaaGreatDoorGY0
import Derived.Test.YtfeknjpinboknaaGreatDoorGS16

namespace Go.Proofs.YtfeknjpinboknaaGreatDoor
open Go Go.RowKit Go.Joins Go.Shelf
set_option linter.unusedSimpArgs false
set_option linter.unusedVariables false

set_option maxRecDepth 100000 in
set_option maxHeartbeats 16000000 in
theorem law_back (base : ByteArray) (A : Option Addr) (n c : Nat) (hs : List Hm) (s : ByteArray) (w : World) (hr : PRd w A n hs) (hn : n ≤ maxLen) (hll : ∀ h ∈ hs, h.lines.length ≤ maxLen) (hE : Env w) :
    Calls Tryz.prog 6 #[.agg #[.string base, .slice A n c], .string s] w fun e w' => e = .returned (.bool true) ∧ New w w' := by
  have B0 := Blk.made w 24 #[.string base, .slice A n c]
  have n0 := (New.refl w).alloc (.cells #[.string base, .slice A n c] 24)
  have HE := Lib.hid hE
  have HR := Lib.hid hr
  have HLL := Lib.hid hll
  have HL := Lib.hid hr.len
  have HF := Lib.hid (fun W (h : New w W) => few_any base A n c hs W (hr.new h) hn hll)
  obtain ⟨gp, hgp⟩ : ∃ gp, w.heap.size = gp := ⟨_, rfl⟩
  rw [hgp] at B0
  have HGP := Lib.hid hgp
  clear hr hll hE hgp hn
  go_enter Tryz.func6, Tryz.ntmps6
  go_wp2_with (fail)
  rw [HGP.out]
  generalize w.alloc (.cells #[.string base, .slice A n c] 24) = wA at *
  with_reducible refine (awake_any _ (HE.out.new n0)).mono ?_
  rintro e w1 ⟨rfl, m1⟩
  have n1 := n0.trans m1
  have B1 := B0.new m1
  have d0 := B1.cell' 0 _ rfl
  have d1 := B1.cell' 1 _ rfl
  go_wp2_with (fail)
  with_reducible refine (HF.out _ n1).mono ?_
  rintro e w2 ⟨m2, v, rfl, hv⟩
  have n2 := n1.trans m2
  have B2 := B1.new m2
  clear d0 d1 n0 n1 B0 B1 m1 m2
  cases v
  · go_wp2
    go_ret
    exact ⟨rfl, n2⟩
  have HS := Lib.hid (hv rfl)
  have HF2 := Lib.hid (fews_any (some ⟨w2.heap.size, 0, none⟩) 1 1 [s] (w2.alloc (.cells #[.string s] 9)) (rd_new w2 (sCells [s]) 9 _ (by simp [sCells])) rfl (by decide))
  have n3 := n2.alloc (.cells #[.string s] 9)
  have B3 := B2.alloc (.cells #[.string s] 9)
  clear hv HF n2 B2
  go_wp2_with (fail)
  generalize w2.alloc (.cells #[.string s] 9) = w3 at *
  with_reducible refine HF2.out.mono ?_
  rintro e w4 ⟨b, rfl, rfl, hb⟩
  cases b
  · go_wp2
    go_ret
    exact ⟨rfl, n3⟩
  have hsz := hb rfl s (by simp)
  have HSZ : Hid (SzH hs) := Lib.hid (HS.out.szh HLL.out)
  have hb1 : base.size ≤ 1000000 := by have := HS.out.b; omega
  have C1 := Lib.hid (applyT_any sumV base A n c hs s w4 (HR.out.new n3) HSZ.out hb1 (by omega) (HE.out.new n3) (Or.inr sumC))
  have C2 := Lib.hid (fun W (h : New w W) => invert_any sumV base A n c hs s W (HR.out.new h) HSZ.out hb1 (by omega) (HE.out.new h) (Or.inr ⟨sumC, sumV_le⟩))
  have d0 := B3.cell' 0 _ rfl
  have d1 := B3.cell' 1 _ rfl
  clear hb HF2
  go_wp2_with (fail)
  with_reducible refine C1.out.mono ?_
  rintro e w5 ⟨rfl, m5⟩
  have n5 := n3.trans m5
  have B5 := B3.new m5
  clear d0 d1 C1 n3 B3 m5
  have d0 := B5.cell' 0 _ rfl
  have d1 := B5.cell' 1 _ rfl
  go_wp2_with (fail)
  with_reducible refine (C2.out _ n5).mono ?_
  intro e w6 hq
  obtain ⟨m6, A6, l6, c6, hs6, rfl, hl6, p6, z6, e6⟩ := inv_out hq
  have nX := (New.refl w6).alloc (.cells #[.string (ivB sumV base (hs.map Hm.d) s), .slice A6 l6 c6] 24)
  have n6 := (n5.trans m6).trans nX
  have B6 := B5.new (m6.trans nX)
  have X6 := Blk.made w6 24 #[.string (ivB sumV base (hs.map Hm.d) s), .slice A6 l6 c6]
  have P6 := p6.new nX
  clear d0 d1 hq p6 n5 B5 m6 nX
  by_cases h0 : appE sumV base (hs.map Hm.d) s = 0
  · by_cases hvq : validV (newB sumV base (appOut s (hs.map Hm.d))) (invL s (hs.map Hm.d)) = true
    · obtain ⟨k1, k2, k3, k4, k5, k6, k7⟩ := back_ok sumV_size h0 hvq
      have hT : appT sumV base (hs.map Hm.d) s = joinV (appOut s (hs.map Hm.d)) := by rw [appT, if_pos h0]
      have hTs := joinV_le (app_zero h0).2.2.2.2
      have eB : ivB sumV base (hs.map Hm.d) s = newB sumV base (appOut s (hs.map Hm.d)) := by rw [ivB, if_pos h0, okB, if_pos hvq]
      have eR : ivR sumV base (hs.map Hm.d) s = 0 := by rw [ivR, if_pos h0, okR, if_pos hvq]
      have eL : ivL sumV base (hs.map Hm.d) s = invL s (hs.map Hm.d) := by rw [ivL, if_pos h0, okL, if_pos hvq]
      rw [eB] at n6 B6 X6 P6
      rw [eL] at e6 hl6
      rw [eB, eR, hT, h0]
      generalize newB sumV base (appOut s (hs.map Hm.d)) = qb at *
      generalize invL s (hs.map Hm.d) = ql at *
      generalize joinV (appOut s (hs.map Hm.d)) = T at *
      have hqb : qb.size ≤ 1000000 := by have := (valid_sz hvq).2.2; omega
      have hT2 : appT sumV qb ql T = s := by rw [appT, if_pos k1, k2]
      have nwX : New w6 (w6.alloc (.cells #[.string qb, .slice A6 l6 c6] 24)) := (New.refl w6).alloc _
      have D1 := Lib.hid (fun W (h : New (w6.alloc (.cells #[.string qb, .slice A6 l6 c6] 24)) W) => applyT_any sumV qb A6 l6 c6 hs6 T W (P6.new h) z6 hqb (by omega) (HE.out.new (n6.trans h)) (Or.inr sumC))
      have D2 := Lib.hid (fun W (h : New (w6.alloc (.cells #[.string qb, .slice A6 l6 c6] 24)) W) => invert_any sumV qb A6 l6 c6 hs6 T W (P6.new h) z6 hqb (by omega) (HE.out.new (n6.trans h)) (Or.inr ⟨sumC, sumV_le⟩))
      have D3 := Lib.hid (fun W (h : New (w6.alloc (.cells #[.string qb, .slice A6 l6 c6] 24)) W) => cost_any base A n c hs W (HR.out.new (n6.trans h)) HSZ.out hb1 (HE.out.new (n6.trans h)))
      have D4 := Lib.hid (fun W (h : New (w6.alloc (.cells #[.string qb, .slice A6 l6 c6] 24)) W) => cost_any qb A6 l6 c6 hs6 W (P6.new h) z6 hqb (HE.out.new (n6.trans h)))
      have HP := Lib.hid (fun W (h : New (w6.alloc (.cells #[.string qb, .slice A6 l6 c6] 24)) W) => HR.out.new (n6.trans h))
      rw [e6] at D1 D2 D4
      rw [hT2, k1] at D1
      have eV : validV base (hs.map Hm.d) = true := k7
      have gB : ivB sumV qb ql T = base := by rw [ivB, if_pos k1, k3, k4, okB, if_pos eV]
      have gR : ivR sumV qb ql T = 0 := by rw [ivR, if_pos k1, k3, k4, okR, if_pos eV]
      have gL : ivL sumV qb ql T = hs.map Hm.d := by rw [ivL, if_pos k1, k3, k4, okL, if_pos eV]
      have eE1 : errV base (hs.map Hm.d) = 0 := by rw [errV, if_pos eV]
      have eE2 : errV qb ql = 0 := by rw [errV, if_pos hvq]
      rw [eE1] at D3
      rw [eE2, ← k5] at D4
      have HG := Lib.hid (And.intro gB (And.intro gR gL))
      have HK6 := Lib.hid k6
      generalize costV base (hs.map Hm.d) = cv at *
      obtain ⟨g6, hg6⟩ : ∃ g6, w6.heap.size = g6 := ⟨_, rfl⟩
      have HG6 := Lib.hid hg6
      rw [hg6] at X6
      have x0 := X6.cell' 0 _ rfl
      have x1 := X6.cell' 1 _ rfl
      clear hl6 k1 k2 k3 k4 k5 k6 k7 hT hTs eB eR eL hT2 hg6 nwX gB gR gL eE1 eE2 h0 hvq C2
      go_wp2_with (fail)
      rw [HG6.out]
      generalize w6.alloc (.cells #[.string qb, .slice A6 l6 c6] 24) = w7 at *
      with_reducible refine (D1.out _ (New.refl _)).mono ?_
      rintro e w8 ⟨rfl, m8⟩
      have X8 := X6.new m8
      have B8 := B6.new m8
      clear x0 x1
      have x0 := X8.cell' 0 _ rfl
      have x1 := X8.cell' 1 _ rfl
      go_wp2_with (fail)
      with_reducible refine (D2.out _ m8).mono ?_
      intro e w9 hq
      obtain ⟨m9, A9, l9, c9, hs9, rfl, hl9, p9, z9, e9⟩ := inv_out hq
      rw [HG.out.1, HG.out.2.1]
      rw [HG.out.2.2] at e9 hl9
      have nY := (New.refl w9).alloc (.cells #[.string base, .slice A9 l9 c9] 24)
      have m10 := (m8.trans m9).trans nY
      have X10 := X8.new (m9.trans nY)
      have B10 := B8.new (m9.trans nY)
      have Z10 := Blk.made w9 24 #[.string base, .slice A9 l9 c9]
      have hln : n = l9 := by rw [hl9, List.length_map]; exact HL.out.symm
      subst hln
      have HSM := Lib.hid (fun W (h : New (w9.alloc (.cells #[.string base, .slice A9 n c9] 24)) W) => samep_any base A9 A n c9 c hs9 hs W (p9.new (nY.trans h)) (HP.out W (m10.trans h)) z9 e9)
      obtain ⟨g9, hg9⟩ : ∃ g9, w9.heap.size = g9 := ⟨_, rfl⟩
      have HG9 := Lib.hid hg9
      rw [hg9] at Z10
      have b0 := B10.cell' 0 _ rfl
      have b1 := B10.cell' 1 _ rfl
      clear x0 x1 hq p9 z9 e9 hl9 hg9 nY m8 m9 X8 B8 HG HP D1 D2
      go_wp2_with (fail)
      rw [HG9.out]
      generalize w9.alloc (.cells #[.string base, .slice A9 n c9] 24) = w10 at *
      with_reducible refine (D3.out _ m10).mono ?_
      rintro e w11 ⟨rfl, m11⟩
      have X11 := X10.new m11
      have B11 := B10.new m11
      have Z11 := Z10.new m11
      clear b0 b1 X10 B10 Z10
      have x0 := X11.cell' 0 _ rfl
      have x1 := X11.cell' 1 _ rfl
      go_wp2_with (fail)
      with_reducible refine (D4.out _ (m10.trans m11)).mono ?_
      rintro e w12 ⟨rfl, m12⟩
      have X12 := X11.new m12
      have B12 := B11.new m12
      have Z12 := Z11.new m12
      have t1 : (s.toList == s.toList) = true := by simp
      have t2 : (cv == cv) = true := by simp
      clear x0 x1 X11 B11 Z11 D3 D4
      have b0 := B12.cell' 0 _ rfl
      have b1 := B12.cell' 1 _ rfl
      have z0 := Z12.cell' 0 _ rfl
      have z1 := Z12.cell' 1 _ rfl
      go_wp2_with (fail)
      with_reducible refine (HSM.out _ (m11.trans m12)).mono ?_
      rintro e w13 ⟨rfl, m13⟩
      have X13 := X12.new m13
      have B13 := B12.new m13
      clear b0 b1 z0 z1 X12 B12 Z12
      have b0 := B13.cell' 0 _ rfl
      have x0 := X13.cell' 0 _ rfl
      have HNN := Lib.hid (n6.trans (((m10.trans m11).trans m12).trans m13))
      rcases base_or base with ⟨u1, u2, u3, u4, u5⟩ | ⟨u1, u2, u3⟩
      · obtain ⟨v1, v2, v3, v4, v5⟩ : qb.size = 0 ∧ qb = ⟨#[]⟩ ∧ (qb.toList == ([] : List UInt8)) = true ∧ qb.toList.isEmpty = true ∧ qb.toList = [] := by
          rcases base_or qb with h | h
          · exact h
          · exact absurd (HK6.out.1 u1) h.1
        clear u2 v2
        go_wp2
        go_ret
        exact ⟨rfl, HNN.out⟩
      · obtain ⟨v1, v2, v3⟩ : ¬ qb.size = 0 ∧ (qb.toList == ([] : List UInt8)) = false ∧ qb.toList.isEmpty = false := by
          rcases base_or qb with h | h
          · exact absurd (HK6.out.2 h.1) u1
          · exact h
        go_wp2
        go_ret
        exact ⟨rfl, HNN.out⟩
    · have hvf : validV (newB sumV base (appOut s (hs.map Hm.d))) (invL s (hs.map Hm.d)) = false := by simpa using hvq
      have eR : ivR sumV base (hs.map Hm.d) s = 10 := by rw [ivR, if_pos h0, okR, if_neg hvq]
      have eL : ivL sumV base (hs.map Hm.d) s = [] := by rw [ivL, if_pos h0, okL, if_neg hvq]
      rw [eL] at e6 hl6
      obtain rfl : l6 = 0 := hl6
      rw [eR, h0]
      generalize ivB sumV base (hs.map Hm.d) s = vB at *
      generalize appT sumV base (hs.map Hm.d) s = aT at *
      have x1 := X6.cell' 1 _ rfl
      clear h0 hvq hvf eR eL C2
      go_wp2
      go_ret
      exact ⟨rfl, n6⟩
  · have eR : ivR sumV base (hs.map Hm.d) s = appE sumV base (hs.map Hm.d) s := by rw [ivR, if_neg h0]
    have eL : ivL sumV base (hs.map Hm.d) s = [] := by rw [ivL, if_neg h0]
    rw [eL] at e6 hl6
    obtain rfl : l6 = 0 := hl6
    rw [eR]
    generalize ivB sumV base (hs.map Hm.d) s = vB at *
    generalize appT sumV base (hs.map Hm.d) s = aT at *
    generalize appE sumV base (hs.map Hm.d) s = x at *
    have q1 : (x == 0) = false := by simpa using h0
    have q2 : (x != 0) = true := by simpa using h0
    have x1 := X6.cell' 1 _ rfl
    clear eR eL C2
    go_wp2
    go_ret
    exact ⟨rfl, n6⟩
end Go.Proofs.YtfeknjpinboknaaGreatDoor

