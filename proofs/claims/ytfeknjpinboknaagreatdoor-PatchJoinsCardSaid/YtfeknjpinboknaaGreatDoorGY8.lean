/- The law PatchJoins: it answers true. Conditions: none but the world's. -/
import Derived.Test.YtfeknjpinboknaaGreatDoorGW26
import Derived.Test.YtfeknjpinboknaaGreatDoorGW9
import Derived.Test.YtfeknjpinboknaaGreatDoorGY0
import Derived.Test.YtfeknjpinboknaaGreatDoorGW33
import Derived.Test.YtfeknjpinboknaaGreatDoorGS16

namespace Go.Proofs.YtfeknjpinboknaaGreatDoor
open Go Go.RowKit Go.Joins Go.Shelf
set_option linter.unusedSimpArgs false
set_option linter.unusedVariables false

def keepM (n : Nat) : List Hm := [⟨1, n, [], none, 0⟩]
theorem keep_prd (w : World) (n : Nat) : PRd (w.alloc (.cells #[.int .i64 1, .int .i64 (n : Int), .slice none 0 0] 55)) (some ⟨w.heap.size, 0, none⟩) 1 (keepM n) :=
  ⟨rfl, ⟨rfl, fun _ => ⟨_, 0, rfl, by simp, fun j u hu => by
    rw [Nat.zero_add, cell_of_row _ w.heap.size j #[.int .i64 1, .int .i64 (n : Int), .slice none 0 0] 55 (0, 0) (heap_alloc_new w _)]
    simpa [keepM, hmC] using hu⟩⟩, fun h hh => by rw [keepM, List.mem_singleton] at hh; subst hh; exact ⟨Rd.none_ _, Nat.le_refl _⟩⟩
theorem keep_szh (n : Nat) : SzH (keepM n) := ⟨by simp [keepM], fun h hh => by rw [keepM, List.mem_singleton] at hh; subst hh; simp, fun h hh s hs => by rw [keepM, List.mem_singleton] at hh; subst hh; cases hs⟩
theorem cost_le {base : ByteArray} {l : List Hk} (h : validV base l = true) : 0 ≤ costV base l ∧ costV base l ≤ 4096 := by
  have hs := sizes_of h
  have ho := ok_of h
  have b1 := (cnt_bound 1 ho).1
  have b2 := (cnt_bound 2 ho).1
  have b3 := (cnt_bound 3 ho).1
  rw [costV, if_pos h]; omega
set_option maxRecDepth 100000 in
set_option maxHeartbeats 16000000 in
theorem law_joins (bp : ByteArray) (Ap : Option Addr) (np cp : Nat) (hp : List Hm) (bq : ByteArray) (Aq : Option Addr) (nq cq : Nat) (hq : List Hm) (s : ByteArray) (w : World) (hrp : PRd w Ap np hp) (hnp : np ≤ maxLen) (hllp : ∀ h ∈ hp, h.lines.length ≤ maxLen) (hrq : PRd w Aq nq hq) (hnq : nq ≤ maxLen) (hllq : ∀ h ∈ hq, h.lines.length ≤ maxLen) (hE : Env w) :
    Calls Tryz.prog 10 #[.agg #[.string bp, .slice Ap np cp], .agg #[.string bq, .slice Aq nq cq], .string s] w fun e w' => e = .returned (.bool true) ∧ New w w' := by
  have P0 := (Blk.made w 24 #[.string bp, .slice Ap np cp]).alloc (.cells #[.string bq, .slice Aq nq cq] 24)
  have Q0 := Blk.made (w.alloc (.cells #[.string bp, .slice Ap np cp] 24)) 24 #[.string bq, .slice Aq nq cq]
  have n0 := ((New.refl w).alloc (.cells #[.string bp, .slice Ap np cp] 24)).alloc (.cells #[.string bq, .slice Aq nq cq] 24)
  rw [World.size_alloc] at Q0
  have HE := Lib.hid hE
  have HRP := Lib.hid hrp
  have HRQ := Lib.hid hrq
  have HLP := Lib.hid hllp
  have HLQ := Lib.hid hllq
  have HNP := Lib.hid hrp.len
  have HFP := Lib.hid (fun W (h : New w W) => few_any bp Ap np cp hp W (hrp.new h) hnp hllp)
  have HFQ := Lib.hid (fun W (h : New w W) => few_any bq Aq nq cq hq W (hrq.new h) hnq hllq)
  obtain ⟨gp, hgp⟩ : ∃ gp, w.heap.size = gp := ⟨_, rfl⟩
  rw [hgp] at P0 Q0
  have HGP := Lib.hid hgp
  clear hrp hllp hrq hllq hE hgp hnp hnq
  go_enter Tryz.func10, Tryz.ntmps10
  go_wp2_with (fail)
  (try simp only [World.size_alloc])
  rw [HGP.out]
  generalize (w.alloc (.cells #[.string bp, .slice Ap np cp] 24)).alloc (.cells #[.string bq, .slice Aq nq cq] 24) = wA at *
  with_reducible refine (awake_any _ (HE.out.new n0)).mono ?_
  rintro e w1 ⟨rfl, m1⟩
  have n1 := n0.trans m1
  have P1 := P0.new m1
  have Q1 := Q0.new m1
  have d0 := P1.cell' 0 _ rfl
  have d1 := P1.cell' 1 _ rfl
  clear P0 Q0 n0 m1
  go_wp2_with (fail)
  with_reducible refine (HFP.out _ n1).mono ?_
  rintro e w2 ⟨m2, v, rfl, hv⟩
  have n2 := n1.trans m2
  have P2 := P1.new m2
  have Q2 := Q1.new m2
  clear d0 d1 P1 Q1 n1 m2
  cases v
  · go_wp2
    go_ret
    exact ⟨rfl, n2⟩
  have HSP := Lib.hid (hv rfl)
  clear hv
  have d0 := Q2.cell' 0 _ rfl
  have d1 := Q2.cell' 1 _ rfl
  go_wp2_with (fail)
  with_reducible refine (HFQ.out _ n2).mono ?_
  rintro e w3 ⟨m3, v, rfl, hv⟩
  have n3 := n2.trans m3
  have P3 := P2.new m3
  have Q3 := Q2.new m3
  clear d0 d1 P2 Q2 n2 m3
  cases v
  · go_wp2
    go_ret
    exact ⟨rfl, n3⟩
  have HSQ := Lib.hid (hv rfl)
  have HF2 := Lib.hid (fews_any (some ⟨w3.heap.size, 0, none⟩) 1 1 [s] (w3.alloc (.cells #[.string s] 9)) (rd_new w3 (sCells [s]) 9 _ (by simp [sCells])) rfl (by decide))
  have n4 := n3.alloc (.cells #[.string s] 9)
  have P4 := P3.alloc (.cells #[.string s] 9)
  have Q4 := Q3.alloc (.cells #[.string s] 9)
  clear hv HFP HFQ P3 Q3 n3
  go_wp2_with (fail)
  generalize w3.alloc (.cells #[.string s] 9) = w4 at *
  with_reducible refine HF2.out.mono ?_
  rintro e w5 ⟨b, rfl, rfl, hb⟩
  cases b
  · go_wp2
    go_ret
    exact ⟨rfl, n4⟩
  have hsz := hb rfl s (by simp)
  have HZP : Hid (SzH hp) := Lib.hid (HSP.out.szh HLP.out)
  have HZQ : Hid (SzH hq) := Lib.hid (HSQ.out.szh HLQ.out)
  have hb1 : bp.size ≤ 1000000 := by have := HSP.out.b; omega
  have hb2 : bq.size ≤ 1000000 := by have := HSQ.out.b; omega
  have C1 := Lib.hid (then_any sumV bp Ap np cp hp bq Aq nq cq hq s w5 (HRP.out.new n4) HZP.out hb1 (HRQ.out.new n4) HZQ.out hb2 (by omega) (HE.out.new n4) sumC)
  have d0 := P4.cell' 0 _ rfl
  have d1 := P4.cell' 1 _ rfl
  have q0 := Q4.cell' 0 _ rfl
  have q1 := Q4.cell' 1 _ rfl
  clear hb HF2
  go_wp2_with (fail)
  with_reducible refine C1.out.mono ?_
  intro e w6 hq'
  obtain ⟨m6, A6, l6, c6, h6, rfl, hl6, p6, z6, e6⟩ := thn_out hq'
  have nX := (New.refl w6).alloc (.cells #[.string (tnB sumV bp (hp.map Hm.d) bq (hq.map Hm.d) s), .slice A6 l6 c6] 24)
  have n6 := (n4.trans m6).trans nX
  have P6 := P4.new (m6.trans nX)
  have Q6 := Q4.new (m6.trans nX)
  have X6 := Blk.made w6 24 #[.string (tnB sumV bp (hp.map Hm.d) bq (hq.map Hm.d) s), .slice A6 l6 c6]
  have R6 := p6.new nX
  clear d0 d1 q0 q1 hq' p6 n4 P4 Q4 m6 nX C1
  by_cases h0 : thnE sumV bp (hp.map Hm.d) bq (hq.map Hm.d) s = 0
  · by_cases hv : validV bp (thnL s (hp.map Hm.d) (hq.map Hm.d)) = true
    · obtain ⟨k1, k2, k3, k4, k5⟩ := then_ok h0 hv
      obtain ⟨hv1, hlin1, hcc1, hbs1, hje1⟩ := app_zero k1
      obtain ⟨hv2, hlin2, hcc2, hbs2, hje2⟩ := app_zero k2
      obtain ⟨hlm, hpm⟩ := joinE_lines hje1
      obtain ⟨u1, u2⟩ := then_keep k1
      have eB : tnB sumV bp (hp.map Hm.d) bq (hq.map Hm.d) s = bp := by rw [tnB, if_pos h0, okB, if_pos hv]
      have eR : tnR sumV bp (hp.map Hm.d) bq (hq.map Hm.d) s = 0 := by rw [tnR, if_pos h0, okR, if_pos hv]
      have eL : tnL sumV bp (hp.map Hm.d) bq (hq.map Hm.d) s = thnL s (hp.map Hm.d) (hq.map Hm.d) := by rw [tnL, if_pos h0, okL, if_pos hv]
      rw [eB] at n6 P6 Q6 X6 R6
      rw [eL] at e6
      rw [eB, eR]
      have f1 : appT sumV bp (hp.map Hm.d) s = joinV (appOut s (hp.map Hm.d)) := by rw [appT, if_pos k1]
      have f2 : appT sumV bq (hq.map Hm.d) (joinV (appOut s (hp.map Hm.d))) = joinV (thnO s (hp.map Hm.d) (hq.map Hm.d)) := by rw [appT, if_pos k2]; rfl
      have f3 : appT sumV bp (thnL s (hp.map Hm.d) (hq.map Hm.d)) s = joinV (thnO s (hp.map Hm.d) (hq.map Hm.d)) := by rw [appT, if_pos k3, k4]
      have hm1 := joinV_le hje1
      have g1 : errV bp (hp.map Hm.d) = 0 := by rw [errV, if_pos hv1]
      have g2 : errV bq (hq.map Hm.d) = 0 := by rw [errV, if_pos hv2]
      have g3 : errV bp (thnL s (hp.map Hm.d) (hq.map Hm.d)) = 0 := by rw [errV, if_pos hv]
      have D1 := Lib.hid (fun W (h : New w W) => applyT_any sumV bp Ap np cp hp s W (HRP.out.new h) HZP.out hb1 (by omega) (HE.out.new h) (Or.inr sumC))
      have D2 := Lib.hid (fun W (h : New w W) => applyT_any sumV bq Aq nq cq hq (joinV (appOut s (hp.map Hm.d))) W (HRQ.out.new h) HZQ.out hb2 (by omega) (HE.out.new h) (Or.inr sumC))
      have D3 := Lib.hid (fun W (h : New (w6.alloc (.cells #[.string bp, .slice A6 l6 c6] 24)) W) => applyT_any sumV bp A6 l6 c6 h6 s W (R6.new h) z6 hb1 (by omega) (HE.out.new (n6.trans h)) (Or.inr sumC))
      have D4 := Lib.hid (fun W (h : New w W) => cost_any bp Ap np cp hp W (HRP.out.new h) HZP.out hb1 (HE.out.new h))
      have D5 := Lib.hid (fun W (h : New w W) => cost_any bq Aq nq cq hq W (HRQ.out.new h) HZQ.out hb2 (HE.out.new h))
      have D6 := Lib.hid (fun W (h : New (w6.alloc (.cells #[.string bp, .slice A6 l6 c6] 24)) W) => cost_any bp A6 l6 c6 h6 W (R6.new h) z6 hb1 (HE.out.new (n6.trans h)))
      have D7 := Lib.hid (fun W => rlns_ok (joinV (appOut s (hp.map Hm.d))) W (by omega) hlm)
      have D8 := Lib.hid (fun W (A : Option Addr) (hr : PRd W A 1 (keepM (appOut s (hp.map Hm.d)).length)) (h : New w W) => (then_any sumV bp Ap np cp hp ⟨#[]⟩ A 1 1 (keepM (appOut s (hp.map Hm.d)).length) s W (HRP.out.new h) HZP.out hb1 hr (keep_szh _) (by decide) (by omega) (HE.out.new h) sumC).mono fun e w' q => thn_out q)
      have eM : (keepM (appOut s (hp.map Hm.d)).length).map Hm.d = keepH (appOut s (hp.map Hm.d)).length := rfl
      rw [eM] at D8
      have t1 : tnB sumV bp (hp.map Hm.d) ⟨#[]⟩ (keepH (appOut s (hp.map Hm.d)).length) s = bp := by rw [tnB, if_pos u1, okB, u2, if_pos hv1]
      have t2 : tnR sumV bp (hp.map Hm.d) ⟨#[]⟩ (keepH (appOut s (hp.map Hm.d)).length) s = 0 := by rw [tnR, if_pos u1, okR, u2, if_pos hv1]
      have t3 : tnL sumV bp (hp.map Hm.d) ⟨#[]⟩ (keepH (appOut s (hp.map Hm.d)).length) s = hp.map Hm.d := by rw [tnL, if_pos u1, okL, u2, if_pos hv1]
      rw [t1, t2, t3] at D8
      rw [hpm] at D7
      rw [f1, k1] at D1
      rw [f2, k2] at D2
      rw [e6] at D3 D6
      rw [f3, k3] at D3
      rw [g1] at D4
      rw [g2] at D5
      rw [g3] at D6
      have y1 := cost_le hv1
      have y2 := cost_le hv2
      generalize costV bp (hp.map Hm.d) = v1 at *
      generalize costV bq (hq.map Hm.d) = v2 at *
      generalize costV bp (thnL s (hp.map Hm.d) (hq.map Hm.d)) = v3 at *
      generalize joinV (appOut s (hp.map Hm.d)) = T1 at *
      generalize joinV (thnO s (hp.map Hm.d) (hq.map Hm.d)) = T2 at *
      generalize (appOut s (hp.map Hm.d)).length = ml at *
      obtain ⟨g6, hg6⟩ : ∃ g6, w6.heap.size = g6 := ⟨_, rfl⟩
      have HG6 := Lib.hid hg6
      rw [hg6] at X6
      have HR6 := Lib.hid R6
      have HZ6 := Lib.hid z6
      have c1 : IntKind.i64.wrap (v1 + v2) = v1 + v2 := IntWalk.i64_in _ (by omega)
      have c2 : decide (v1 + v2 < v3) = false := decide_eq_false (by omega)
      have c3 : (T2.toList == T2.toList) = true := by simp
      have c4 : (T2.toList != T2.toList) = false := by simp
      have c5 : (bp.toList == bp.toList) = true := by simp
      have c6' : (bp.toList != bp.toList) = false := by simp
      have d0 := P6.cell' 0 _ rfl
      have d1 := P6.cell' 1 _ rfl
      clear h0 hv k1 k2 k3 k4 k5 hv1 hlin1 hcc1 hbs1 hje1 hv2 hlin2 hcc2 hbs2 hje2 hlm hpm u1 u2 eB eR eL f1 f2 f3 hm1 g1 g2 g3 eM t1 t2 t3 y1 y2 hg6 hl6 e6 R6 z6
      go_wp2_with (fail)
      rw [HG6.out]
      generalize w6.alloc (.cells #[.string bp, .slice A6 l6 c6] 24) = w7 at *
      with_reducible refine (D1.out _ n6).mono ?_
      rintro e w8 ⟨rfl, m8⟩
      have n8 := n6.trans m8
      have P8 := P6.new m8
      have Q8 := Q6.new m8
      have X8 := X6.new m8
      clear d0 d1 P6 Q6 X6 n6 D1
      have q0 := Q8.cell' 0 _ rfl
      have q1 := Q8.cell' 1 _ rfl
      go_wp2_with (fail)
      with_reducible refine (D2.out _ n8).mono ?_
      rintro e w9 ⟨rfl, m9⟩
      have m97 := m8.trans m9
      have n9 := n8.trans m9
      have P9 := P8.new m9
      have Q9 := Q8.new m9
      have X9 := X8.new m9
      clear q0 q1 P8 Q8 X8 n8 D2 m8 m9
      have x0 := X9.cell' 0 _ rfl
      have x1 := X9.cell' 1 _ rfl
      go_wp2_with (fail)
      with_reducible refine (D3.out _ m97).mono ?_
      rintro e w10 ⟨rfl, m10⟩
      have m107 := m97.trans m10
      have n10 := n9.trans m10
      have P10 := P9.new m10
      have Q10 := Q9.new m10
      have X10 := X9.new m10
      clear x0 x1 P9 Q9 X9 n9 D3 m97 m10
      have d0 := P10.cell' 0 _ rfl
      have d1 := P10.cell' 1 _ rfl
      go_wp2_with (fail)
      with_reducible refine (D4.out _ n10).mono ?_
      rintro e w11 ⟨rfl, m11⟩
      have m117 := m107.trans m11
      have n11 := n10.trans m11
      have P11 := P10.new m11
      have Q11 := Q10.new m11
      have X11 := X10.new m11
      clear d0 d1 P10 Q10 X10 n10 D4 m107 m11
      have q0 := Q11.cell' 0 _ rfl
      have q1 := Q11.cell' 1 _ rfl
      go_wp2_with (fail)
      with_reducible refine (D5.out _ n11).mono ?_
      rintro e w12 ⟨rfl, m12⟩
      have m127 := m117.trans m12
      have n12 := n11.trans m12
      have P12 := P11.new m12
      have X12 := X11.new m12
      clear q0 q1 P11 Q11 X11 n11 D5 m117 m12
      have x0 := X12.cell' 0 _ rfl
      have x1 := X12.cell' 1 _ rfl
      go_wp2_with (fail)
      with_reducible refine (D6.out _ m127).mono ?_
      rintro e w13 ⟨rfl, m13⟩
      have n13 := n12.trans m13
      have P13 := P12.new m13
      have X13 := X12.new m13
      clear x0 x1 P12 X12 n12 D6 m127 m13
      have d0 := P13.cell' 0 _ rfl
      have x0 := X13.cell' 0 _ rfl
      go_wp2_with (fail)
      with_reducible refine (D7.out _).mono ?_
      rintro e w14 ⟨AL, cL, rfl, L14, m14⟩
      have n14 := n13.trans m14
      have P14 := P13.new m14
      clear d0 x0 P13 X13 n13 D7 m14 L14
      have kp := keep_prd w14 ml
      have nY := (New.refl w14).alloc (.cells #[.int .i64 1, .int .i64 (ml : Int), .slice none 0 0] 55)
      have D9 := Lib.hid (D8.out _ _ kp (n14.trans nY))
      have n15 := n14.trans nY
      have P15 := P14.new nY
      have d0 := P14.cell' 0 _ rfl
      have d1 := P14.cell' 1 _ rfl
      clear D8 kp nY
      go_wp2_with (fail)
      with_reducible refine D9.out.mono ?_
      intro e w16 hq'
      obtain ⟨m16, A16, l16, c16, hs16, rfl, hl16, p16, z16, e16⟩ := hq'
      have hln : np = l16 := by rw [hl16, List.length_map]; exact HNP.out.symm
      subst hln
      have nZ := (New.refl w16).alloc (.cells #[.string bp, .slice A16 np c16] 24)
      have n17 := (n15.trans m16).trans nZ
      have P17 := P15.new (m16.trans nZ)
      have X17 := Blk.made w16 24 #[.string bp, .slice A16 np c16]
      have HSM := Lib.hid (samep_any bp A16 Ap np c16 cp hs16 hp _ (p16.new nZ) (HRP.out.new n17) z16 e16)
      obtain ⟨g16, hg16⟩ : ∃ g16, w16.heap.size = g16 := ⟨_, rfl⟩
      have HG16 := Lib.hid hg16
      rw [hg16] at X17
      have x0 := X17.cell' 0 _ rfl
      have x1 := X17.cell' 1 _ rfl
      have p0 := P17.cell' 0 _ rfl
      have p1 := P17.cell' 1 _ rfl
      clear d0 d1 hl16 p16 z16 e16 nZ n15 P15 P14 n14 m16 hg16 D9
      go_wp2_with (fail)
      rw [HG16.out]
      generalize w16.alloc (.cells #[.string bp, .slice A16 np c16] 24) = w17 at *
      with_reducible refine HSM.out.mono ?_
      rintro e w18 ⟨rfl, m18⟩
      go_wp2
      go_ret
      exact ⟨rfl, n17.trans m18⟩
    · have eR : tnR sumV bp (hp.map Hm.d) bq (hq.map Hm.d) s = 10 := by rw [tnR, if_pos h0, okR, if_neg hv]
      have eL : tnL sumV bp (hp.map Hm.d) bq (hq.map Hm.d) s = [] := by rw [tnL, if_pos h0, okL, if_neg hv]
      have eB : tnB sumV bp (hp.map Hm.d) bq (hq.map Hm.d) s = ⟨#[]⟩ := by rw [tnB, if_pos h0, okB, if_neg hv]
      rw [eL] at e6 hl6
      obtain rfl : l6 = 0 := hl6
      rw [eB] at n6 P6 Q6 X6 R6
      rw [eR, eB]
      have x0 := X6.cell' 0 _ rfl
      have x1 := X6.cell' 1 _ rfl
      clear h0 hv eR eL eB
      go_wp2
      go_ret
      exact ⟨rfl, n6⟩
  · have eR : tnR sumV bp (hp.map Hm.d) bq (hq.map Hm.d) s = thnE sumV bp (hp.map Hm.d) bq (hq.map Hm.d) s := by rw [tnR, if_neg h0]
    have eL : tnL sumV bp (hp.map Hm.d) bq (hq.map Hm.d) s = [] := by rw [tnL, if_neg h0]
    have eB : tnB sumV bp (hp.map Hm.d) bq (hq.map Hm.d) s = ⟨#[]⟩ := by rw [tnB, if_neg h0]
    rw [eL] at e6 hl6
    obtain rfl : l6 = 0 := hl6
    rw [eB] at n6 P6 Q6 X6 R6
    rw [eR, eB]
    generalize thnE sumV bp (hp.map Hm.d) bq (hq.map Hm.d) s = x at *
    have q1 : (x == 0) = false := by simpa using h0
    have q2 : (x != 0) = true := by simpa using h0
    have x0 := X6.cell' 0 _ rfl
    have x1 := X6.cell' 1 _ rfl
    clear eR eL eB
    go_wp2
    go_ret
    exact ⟨rfl, n6⟩
end Go.Proofs.YtfeknjpinboknaaGreatDoor

