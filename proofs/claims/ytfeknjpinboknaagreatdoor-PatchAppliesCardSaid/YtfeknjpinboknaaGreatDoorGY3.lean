/- The law PatchApplies: it answers true. Conditions: none but the world's. -/
import Derived.Test.YtfeknjpinboknaaGreatDoorGW26
import Derived.Test.YtfeknjpinboknaaGreatDoorGW9
import Derived.Test.YtfeknjpinboknaaGreatDoorGY0
import Derived.Test.YtfeknjpinboknaaGreatDoorGS16
import Derived.Test.YtfeknjpinboknaaGreatDoorGS18

namespace Go.Proofs.YtfeknjpinboknaaGreatDoor
open Go Go.RowKit Go.Joins Go.Shelf
set_option linter.unusedSimpArgs false
set_option linter.unusedVariables false

set_option maxRecDepth 100000 in
set_option maxHeartbeats 16000000 in
theorem law_applies (base : ByteArray) (A : Option Addr) (n c : Nat) (hs : List Hm) (s : ByteArray) (x : Int) (w : World) (hr : PRd w A n hs) (hn : n ≤ maxLen) (hll : ∀ h ∈ hs, h.lines.length ≤ maxLen) (hE : Env w) :
    Calls Tryz.prog 4 #[.agg #[.string base, .slice A n c], .string s, .int .i64 x] w fun e w' => e = .returned (.bool true) ∧ New w w' := by
  have B0 := Blk.made w 24 #[.string base, .slice A n c]
  have n0 := (New.refl w).alloc (.cells #[.string base, .slice A n c] 24)
  have HE := Lib.hid hE
  have HR := Lib.hid hr
  have HLL := Lib.hid hll
  have HF := Lib.hid (fun W (h : New w W) => few_any base A n c hs W (hr.new h) hn hll)
  obtain ⟨gp, hgp⟩ : ∃ gp, w.heap.size = gp := ⟨_, rfl⟩
  rw [hgp] at B0
  have HGP := Lib.hid hgp
  clear hr hll hE hgp hn
  go_enter Tryz.func4, Tryz.ntmps4
  go_wp2_with (fail)
  rw [HGP.out]
  generalize w.alloc (.cells #[.string base, .slice A n c] 24) = wA at *
  with_reducible refine (awake_any _ (HE.out.new n0)).mono ?_
  rintro e w1 ⟨rfl, m1⟩
  have n1 := n0.trans m1
  have B1 := B0.new m1
  have d0 := B1.cell' 0 _ rfl
  have d1 := B1.cell' 1 _ rfl
  go_wp2_with (fail)
  with_reducible refine (HF.out _ n1).mono ?_
  rintro e w2 ⟨m2, v, rfl, hv⟩
  have n2 := n1.trans m2
  have B2 := B1.new m2
  clear d0 d1
  cases v
  · go_wp2
    go_ret
    exact ⟨rfl, n2⟩
  have HS := Lib.hid (hv rfl)
  have HF2 := Lib.hid (fews_any (some ⟨w2.heap.size, 0, none⟩) 1 1 [s] (w2.alloc (.cells #[.string s] 9)) (rd_new w2 (sCells [s]) 9 _ (by simp [sCells])) rfl (by decide))
  have n3 := n2.alloc (.cells #[.string s] 9)
  have B3 := B2.alloc (.cells #[.string s] 9)
  clear hv HF
  go_wp2_with (fail)
  generalize w2.alloc (.cells #[.string s] 9) = w3 at *
  with_reducible refine HF2.out.mono ?_
  rintro e w4 ⟨b, rfl, rfl, hb⟩
  cases b
  · go_wp2
    go_ret
    exact ⟨rfl, n3⟩
  have hsz := hb rfl s (by simp)
  have HSZ : Hid (SzH hs) := Lib.hid (HS.out.szh HLL.out)
  have hb1 : base.size ≤ 1000000 := by have := HS.out.b; omega
  have C1 := Lib.hid (fun W (h : New w W) => applyT_any sumV base A n c hs s W (HR.out.new h) HSZ.out hb1 (by omega) (HE.out.new h) (Or.inr sumC))
  have C2 := Lib.hid (fun W (h : New w W) => rapplyT_any sumV base A n c hs s W (HR.out.new h) HSZ.out hb1 (by omega) (Or.inr sumR))
  have C3 := Lib.hid (fun W (h : New w W) => ptrace_any base A n c hs x W (HR.out.new h) HSZ.out hb1 (HE.out.new h))
  have C4 := Lib.hid (fun W (h : New w W) => rtrace_any base A n c hs x W (HR.out.new h) HSZ.out hb1)
  have C5 := Lib.hid (fun W (h : New w W) => invert_any sumV base A n c hs s W (HR.out.new h) HSZ.out hb1 (by omega) (HE.out.new h) (Or.inr ⟨sumC, sumV_le⟩))
  have C6 := Lib.hid (fun W (h : New w W) => rinvert_any sumV base A n c hs s W (HR.out.new h) HSZ.out hb1 (by omega) (Or.inr ⟨sumR, sumV_le⟩))
  generalize appT sumV base (hs.map Hm.d) s = aT at *
  generalize appE sumV base (hs.map Hm.d) s = aE at *
  have d0 := B3.cell' 0 _ rfl
  have d1 := B3.cell' 1 _ rfl
  clear hb HF2
  go_wp2_with (fail)
  with_reducible refine (C1.out _ n3).mono ?_
  rintro e w5 ⟨rfl, m5⟩
  have n5 := n3.trans m5
  have B5 := B3.new m5
  clear d0 d1
  have d0 := B5.cell' 0 _ rfl
  have d1 := B5.cell' 1 _ rfl
  go_wp2_with (fail)
  with_reducible refine (C2.out _ n5).mono ?_
  rintro e w6 ⟨rfl, m6⟩
  have n6 := n5.trans m6
  have B6 := B5.new m6
  clear d0 d1
  have d0 := B6.cell' 0 _ rfl
  have d1 := B6.cell' 1 _ rfl
  go_wp2_with (fail)
  with_reducible refine (C3.out _ n6).mono ?_
  intro e w7 hq
  obtain ⟨m7, A7, l7, c7, rfl, hl7, r7, hl7b⟩ := tr_out hq
  have n7 := n6.trans m7
  have B7 := B6.new m7
  clear d0 d1 hq
  have d0 := B7.cell' 0 _ rfl
  have d1 := B7.cell' 1 _ rfl
  have HR7 := Lib.hid r7
  have HL7 := Lib.hid hl7
  clear r7 hl7
  go_wp2_with (fail)
  with_reducible refine (C4.out _ n7).mono ?_
  intro e w8 hq
  obtain ⟨m8, A8, l8, c8, rfl, hl8, r8, hl8b⟩ := tr_out hq
  obtain rfl : l7 = l8 := HL7.out.trans hl8.symm
  have n8 := n7.trans m8
  have B8 := B7.new m8
  have HQ := Lib.hid (fun W (h : New w8 W) => eqPl_any A7 A8 l7 l7 c7 c8 _ _ W HL7.out.symm HL7.out.symm (HR7.out.below (m8.trans h)) (r8.below h) hl7b hl7b)
  clear d0 d1 hq r8 hl8
  have d0 := B8.cell' 0 _ rfl
  have d1 := B8.cell' 1 _ rfl
  go_wp2_with (fail)
  with_reducible refine (C5.out _ n8).mono ?_
  intro e w9 hq
  obtain ⟨m9, A9, l9, c9, hs9, rfl, hl9, p9, z9, e9⟩ := inv_out hq
  have n9 := (n8.trans m9).alloc (.cells #[.string (ivB sumV base (hs.map Hm.d) s), .slice A9 l9 c9] 24)
  have B9 := (B8.new m9).alloc (.cells #[.string (ivB sumV base (hs.map Hm.d) s), .slice A9 l9 c9] 24)
  have X9 := Blk.made w9 24 #[.string (ivB sumV base (hs.map Hm.d) s), .slice A9 l9 c9]
  have H89 := Lib.hid (m9.alloc (.cells #[.string (ivB sumV base (hs.map Hm.d) s), .slice A9 l9 c9] 24))
  have HP9 := Lib.hid (p9.new ((New.refl w9).alloc (.cells #[.string (ivB sumV base (hs.map Hm.d) s), .slice A9 l9 c9] 24)))
  have HZ9 := Lib.hid z9
  have HE9 := Lib.hid e9
  have HL9 := Lib.hid hl9
  clear d0 d1 hq p9 z9 e9 hl9
  have d0 := B9.cell' 0 _ rfl
  have d1 := B9.cell' 1 _ rfl
  have HO := Lib.hid (fun (w : World) (e : Ending) (w' : World) (h : InvP sumV base (hs.map Hm.d) s w e w') => inv_out h)
  generalize ivB sumV base (hs.map Hm.d) s = vB at *
  generalize ivR sumV base (hs.map Hm.d) s = vR at *
  generalize ivL sumV base (hs.map Hm.d) s = vL at *
  go_wp2_with (fail)
  obtain ⟨g9, hg9⟩ : ∃ g9, w9.heap.size = g9 := ⟨_, rfl⟩
  rw [hg9] at X9
  rw [hg9]
  generalize w9.alloc (.cells #[.string vB, .slice A9 l9 c9] 24) = wX at *
  with_reducible refine (C6.out _ n9).mono ?_
  intro e w10 hq
  obtain ⟨m10, A10, l10, c10, hs10, rfl, hl10, p10, z10, e10⟩ := HO.out _ _ _ hq
  obtain rfl : l9 = l10 := HL9.out.trans hl10.symm
  have nX := (New.refl w10).alloc (.cells #[.string vB, .slice A10 l9 c10] 24)
  have HN11 := Lib.hid ((n9.trans m10).trans nX)
  have X11 := X9.new (m10.trans nX)
  have Y11 := Blk.made w10 24 #[.string vB, .slice A10 l9 c10]
  have HEQ : Hid (∀ W, New wX W → Calls Tryz.prog 27 #[.slice A7 l7 c7, .slice A8 l7 c8] W fun e w' => e = .returned (.bool true) ∧ New W w') := Lib.hid (fun W h => (HQ.out W (H89.out.trans h)).mono fun e w' q => ⟨by rw [q.1]; simp, q.2⟩)
  have HSM := Lib.hid (fun W (h : New (w10.alloc (.cells #[.string vB, .slice A10 l9 c10] 24)) W) => samep_any vB A9 A10 l9 c9 c10 hs9 hs10 W (HP9.out.new ((m10.trans nX).trans h)) (p10.new (nX.trans h)) HZ9.out (HE9.out.trans e10.symm))
  have HM10 := Lib.hid (m10.trans nX)
  obtain ⟨g10, hg10⟩ : ∃ g10, w10.heap.size = g10 := ⟨_, rfl⟩
  have HG10 := Lib.hid hg10
  rw [hg10] at Y11
  have t1 : (aT.toList == aT.toList) = true := by simp
  have t2 : (aE == aE) = true := by simp
  generalize trR base (hs.map Hm.d) x = tR at *
  have t3 : (tR == tR) = true := by simp
  have t4 : (vR == vR) = true := by simp
  clear d0 d1 hq p10 z10 e10 hl10 m10 nX HQ C1 C2 C3 C4 C5 C6 hg10 n9
  go_wp2_with (fail)
  rw [HG10.out]
  generalize w10.alloc (.cells #[.string vB, .slice A10 l9 c10] 24) = w11 at *
  with_reducible refine (HEQ.out _ HM10.out).mono ?_
  rintro e w12 ⟨rfl, m12⟩
  have X12 := X11.new m12
  have Y12 := Y11.new m12
  have x0 := X12.cell' 0 _ rfl
  have x1 := X12.cell' 1 _ rfl
  have y0 := Y12.cell' 0 _ rfl
  have y1 := Y12.cell' 1 _ rfl
  go_wp2_with (fail)
  with_reducible refine (HSM.out _ m12).mono ?_
  rintro e w13 ⟨rfl, m13⟩
  go_wp2
  go_ret
  exact ⟨rfl, (HN11.out.trans m12).trans m13⟩
end Go.Proofs.YtfeknjpinboknaaGreatDoor

