/- The law PatchThen: it answers true. Conditions: none but the world's. -/
import Derived.Test.YtfeknjpinboknaaGreatDoorGW26
import Derived.Test.YtfeknjpinboknaaGreatDoorGW9
import Derived.Test.YtfeknjpinboknaaGreatDoorGY0
import Derived.Test.YtfeknjpinboknaaGreatDoorGW33
import Derived.Test.YtfeknjpinboknaaGreatDoorGW34
import Derived.Test.YtfeknjpinboknaaGreatDoorGS16
import Derived.Test.YtfeknjpinboknaaGreatDoorGS18

namespace Go.Proofs.YtfeknjpinboknaaGreatDoor
open Go Go.RowKit Go.Joins Go.Shelf
set_option linter.unusedSimpArgs false
set_option linter.unusedVariables false

set_option maxRecDepth 100000 in
set_option maxHeartbeats 16000000 in
theorem law_then (bp : ByteArray) (Ap : Option Addr) (np cp : Nat) (hp : List Hm) (bq : ByteArray) (Aq : Option Addr) (nq cq : Nat) (hq : List Hm) (s : ByteArray) (w : World) (hrp : PRd w Ap np hp) (hnp : np ≤ maxLen) (hllp : ∀ h ∈ hp, h.lines.length ≤ maxLen) (hrq : PRd w Aq nq hq) (hnq : nq ≤ maxLen) (hllq : ∀ h ∈ hq, h.lines.length ≤ maxLen) (hE : Env w) :
    Calls Tryz.prog 9 #[.agg #[.string bp, .slice Ap np cp], .agg #[.string bq, .slice Aq nq cq], .string s] w fun e w' => e = .returned (.bool true) ∧ New w w' := by
  have P0 := (Blk.made w 24 #[.string bp, .slice Ap np cp]).alloc (.cells #[.string bq, .slice Aq nq cq] 24)
  have Q0 := Blk.made (w.alloc (.cells #[.string bp, .slice Ap np cp] 24)) 24 #[.string bq, .slice Aq nq cq]
  have n0 := ((New.refl w).alloc (.cells #[.string bp, .slice Ap np cp] 24)).alloc (.cells #[.string bq, .slice Aq nq cq] 24)
  rw [World.size_alloc] at Q0
  have HE := Lib.hid hE
  have HRP := Lib.hid hrp
  have HRQ := Lib.hid hrq
  have HLP := Lib.hid hllp
  have HLQ := Lib.hid hllq
  have HFP := Lib.hid (fun W (h : New w W) => few_any bp Ap np cp hp W (hrp.new h) hnp hllp)
  have HFQ := Lib.hid (fun W (h : New w W) => few_any bq Aq nq cq hq W (hrq.new h) hnq hllq)
  obtain ⟨gp, hgp⟩ : ∃ gp, w.heap.size = gp := ⟨_, rfl⟩
  rw [hgp] at P0 Q0
  have HGP := Lib.hid hgp
  clear hrp hllp hrq hllq hE hgp hnp hnq
  go_enter Tryz.func9, Tryz.ntmps9
  go_wp2_with (fail)
  (try simp only [World.size_alloc])
  rw [HGP.out]
  generalize (w.alloc (.cells #[.string bp, .slice Ap np cp] 24)).alloc (.cells #[.string bq, .slice Aq nq cq] 24) = wA at *
  with_reducible refine (awake_any _ (HE.out.new n0)).mono ?_
  rintro e w1 ⟨rfl, m1⟩
  have n1 := n0.trans m1
  have P1 := P0.new m1
  have Q1 := Q0.new m1
  have d0 := P1.cell' 0 _ rfl
  have d1 := P1.cell' 1 _ rfl
  clear P0 Q0 n0 m1
  go_wp2_with (fail)
  with_reducible refine (HFP.out _ n1).mono ?_
  rintro e w2 ⟨m2, v, rfl, hv⟩
  have n2 := n1.trans m2
  have P2 := P1.new m2
  have Q2 := Q1.new m2
  clear d0 d1 P1 Q1 n1 m2
  cases v
  · go_wp2
    go_ret
    exact ⟨rfl, n2⟩
  have HSP := Lib.hid (hv rfl)
  clear hv
  have d0 := Q2.cell' 0 _ rfl
  have d1 := Q2.cell' 1 _ rfl
  go_wp2_with (fail)
  with_reducible refine (HFQ.out _ n2).mono ?_
  rintro e w3 ⟨m3, v, rfl, hv⟩
  have n3 := n2.trans m3
  have P3 := P2.new m3
  have Q3 := Q2.new m3
  clear d0 d1 P2 Q2 n2 m3
  cases v
  · go_wp2
    go_ret
    exact ⟨rfl, n3⟩
  have HSQ := Lib.hid (hv rfl)
  have HF2 := Lib.hid (fews_any (some ⟨w3.heap.size, 0, none⟩) 1 1 [s] (w3.alloc (.cells #[.string s] 9)) (rd_new w3 (sCells [s]) 9 _ (by simp [sCells])) rfl (by decide))
  have n4 := n3.alloc (.cells #[.string s] 9)
  have P4 := P3.alloc (.cells #[.string s] 9)
  have Q4 := Q3.alloc (.cells #[.string s] 9)
  clear hv HFP HFQ P3 Q3 n3
  go_wp2_with (fail)
  generalize w3.alloc (.cells #[.string s] 9) = w4 at *
  with_reducible refine HF2.out.mono ?_
  rintro e w5 ⟨b, rfl, rfl, hb⟩
  cases b
  · go_wp2
    go_ret
    exact ⟨rfl, n4⟩
  have hsz := hb rfl s (by simp)
  have HZP : Hid (SzH hp) := Lib.hid (HSP.out.szh HLP.out)
  have HZQ : Hid (SzH hq) := Lib.hid (HSQ.out.szh HLQ.out)
  have hb1 : bp.size ≤ 1000000 := by have := HSP.out.b; omega
  have hb2 : bq.size ≤ 1000000 := by have := HSQ.out.b; omega
  have C1 := Lib.hid (fun W (h : New w W) => then_any sumV bp Ap np cp hp bq Aq nq cq hq s W (HRP.out.new h) HZP.out hb1 (HRQ.out.new h) HZQ.out hb2 (by omega) (HE.out.new h) sumC)
  have C2 := Lib.hid (fun W (h : New w W) => rthen_any sumV bp Ap np cp hp bq Aq nq cq hq s W (HRP.out.new h) HZP.out hb1 (HRQ.out.new h) HZQ.out hb2 (by omega) sumR)
  have d0 := P4.cell' 0 _ rfl
  have d1 := P4.cell' 1 _ rfl
  have q0 := Q4.cell' 0 _ rfl
  have q1 := Q4.cell' 1 _ rfl
  clear hb HF2
  go_wp2_with (fail)
  with_reducible refine (C1.out _ n4).mono ?_
  intro e w9 hq'
  obtain ⟨m9, A9, l9, c9, hs9, rfl, hl9, p9, z9, e9⟩ := thn_out hq'
  clear d0 d1 q0 q1 hq'
  have HO := Lib.hid (fun (w : World) (e : Ending) (w' : World) (h : ThnP sumV bp (hp.map Hm.d) bq (hq.map Hm.d) s w e w') => thn_out h)
  generalize tnB sumV bp (hp.map Hm.d) bq (hq.map Hm.d) s = vB at *
  generalize tnR sumV bp (hp.map Hm.d) bq (hq.map Hm.d) s = vR at *
  generalize tnL sumV bp (hp.map Hm.d) bq (hq.map Hm.d) s = vL at *
  have nX := (New.refl w9).alloc (.cells #[.string vB, .slice A9 l9 c9] 24)
  have n9 := (n4.trans m9).trans nX
  have P9 := P4.new (m9.trans nX)
  have Q9 := Q4.new (m9.trans nX)
  have X9 := Blk.made w9 24 #[.string vB, .slice A9 l9 c9]
  have HP9 := Lib.hid (p9.new nX)
  have HZ9 := Lib.hid z9
  have HE9 := Lib.hid e9
  have HL9 := Lib.hid hl9
  obtain ⟨g9, hg9⟩ : ∃ g9, w9.heap.size = g9 := ⟨_, rfl⟩
  have HG9 := Lib.hid hg9
  rw [hg9] at X9
  have d0 := P9.cell' 0 _ rfl
  have d1 := P9.cell' 1 _ rfl
  have q0 := Q9.cell' 0 _ rfl
  have q1 := Q9.cell' 1 _ rfl
  clear p9 z9 e9 hl9 hg9 n4 m9 nX P4 Q4 C1
  go_wp2_with (fail)
  rw [HG9.out]
  generalize w9.alloc (.cells #[.string vB, .slice A9 l9 c9] 24) = wX at *
  with_reducible refine (C2.out _ n9).mono ?_
  intro e w10 hq'
  obtain ⟨m10, A10, l10, c10, hs10, rfl, hl10, p10, z10, e10⟩ := HO.out _ _ _ hq'
  obtain rfl : l9 = l10 := HL9.out.trans hl10.symm
  have nY := (New.refl w10).alloc (.cells #[.string vB, .slice A10 l9 c10] 24)
  have HN11 := Lib.hid ((n9.trans m10).trans nY)
  have X11 := X9.new (m10.trans nY)
  have Y11 := Blk.made w10 24 #[.string vB, .slice A10 l9 c10]
  have HSM := Lib.hid (samep_any vB A9 A10 l9 c9 c10 hs9 hs10 _ (HP9.out.new (m10.trans nY)) (p10.new nY) HZ9.out (HE9.out.trans e10.symm))
  obtain ⟨g10, hg10⟩ : ∃ g10, w10.heap.size = g10 := ⟨_, rfl⟩
  have HG10 := Lib.hid hg10
  rw [hg10] at Y11
  have t4 : (vR == vR) = true := by simp
  have x0 := X11.cell' 0 _ rfl
  have x1 := X11.cell' 1 _ rfl
  have y0 := Y11.cell' 0 _ rfl
  have y1 := Y11.cell' 1 _ rfl
  clear d0 d1 q0 q1 hq' p10 z10 e10 hl10 m10 nY C2 hg10 n9 P9 Q9
  go_wp2_with (fail)
  rw [HG10.out]
  generalize w10.alloc (.cells #[.string vB, .slice A10 l9 c10] 24) = w11 at *
  with_reducible refine HSM.out.mono ?_
  rintro e w13 ⟨rfl, m13⟩
  go_wp2
  go_ret
  exact ⟨rfl, HN11.out.trans m13⟩
end Go.Proofs.YtfeknjpinboknaaGreatDoor

