/- The law PatchShortest: it answers true. Conditions: none but the world's. -/
import Derived.Test.YtfeknjpinboknaaGreatDoorGW26
import Derived.Test.YtfeknjpinboknaaGreatDoorGW9
import Derived.Test.YtfeknjpinboknaaGreatDoorGY0
import Derived.Test.YtfeknjpinboknaaGreatDoorGS16
import Derived.Deep.DeepCutAuto

namespace Go.Proofs.YtfeknjpinboknaaGreatDoor
open Go Go.RowKit Go.Joins Go.Shelf
set_option linter.unusedSimpArgs false
set_option linter.unusedVariables false

set_option maxRecDepth 100000 in
set_option maxHeartbeats 16000000 in
theorem law_shortest (base : ByteArray) (A : Option Addr) (n c : Nat) (hs : List Hm) (s1 s2 : ByteArray) (w : World) (hr : PRd w A n hs) (hn : n ≤ maxLen) (hll : ∀ h ∈ hs, h.lines.length ≤ maxLen) (hE : Env w) :
    Calls Tryz.prog 7 #[.agg #[.string base, .slice A n c], .string s1, .string s2] w fun e w' => e = .returned (.bool true) ∧ New w w' := by
  have B0 := Blk.made w 24 #[.string base, .slice A n c]
  have n0 := (New.refl w).alloc (.cells #[.string base, .slice A n c] 24)
  have HE := Lib.hid hE
  have HR := Lib.hid hr
  have HLL := Lib.hid hll
  have HF := Lib.hid (fun W (h : New w W) => few_any base A n c hs W (hr.new h) hn hll)
  obtain ⟨gp, hgp⟩ : ∃ gp, w.heap.size = gp := ⟨_, rfl⟩
  rw [hgp] at B0
  have HGP := Lib.hid hgp
  clear hr hll hE hgp hn
  go_enter Tryz.func7, Tryz.ntmps7
  go_wp2_with (fail)
  rw [HGP.out]
  generalize w.alloc (.cells #[.string base, .slice A n c] 24) = wA at *
  with_reducible refine (awake_any _ (HE.out.new n0)).mono ?_
  rintro e w1 ⟨rfl, m1⟩
  have n1 := n0.trans m1
  have B1 := B0.new m1
  have d0 := B1.cell' 0 _ rfl
  have d1 := B1.cell' 1 _ rfl
  go_wp2_with (fail)
  with_reducible refine (HF.out _ n1).mono ?_
  rintro e w2 ⟨m2, v, rfl, hv⟩
  have n2 := n1.trans m2
  have B2 := B1.new m2
  clear d0 d1 n0 n1 B0 B1 m1 m2
  cases v
  · go_wp2
    go_ret
    exact ⟨rfl, n2⟩
  have HS := Lib.hid (hv rfl)
  have HF2 := Lib.hid (fews_any (some ⟨w2.heap.size, 0, none⟩) 2 2 [s1, s2] (w2.alloc (.cells #[.string s1, .string s2] 9)) (rd_new w2 (sCells [s1, s2]) 9 _ (by simp [sCells])) rfl (by decide))
  have n3 := n2.alloc (.cells #[.string s1, .string s2] 9)
  have B3 := B2.alloc (.cells #[.string s1, .string s2] 9)
  clear hv HF n2 B2
  go_wp2_with (fail)
  generalize w2.alloc (.cells #[.string s1, .string s2] 9) = w3 at *
  with_reducible refine HF2.out.mono ?_
  rintro e w4 ⟨b, rfl, rfl, hb⟩
  cases b
  · go_wp2
    go_ret
    exact ⟨rfl, n3⟩
  have hsz1 := hb rfl s1 (by simp)
  have hsz2 := hb rfl s2 (by simp)
  have HSZ : Hid (SzH hs) := Lib.hid (HS.out.szh HLL.out)
  have hb1 : base.size ≤ 1000000 := by have := HS.out.b; omega
  have C1 := Lib.hid (fun W (h : New w W) => applyT_any sumV base A n c hs s1 W (HR.out.new h) HSZ.out hb1 (by omega) (HE.out.new h) (Or.inr sumC))
  have C2 := Lib.hid (fun W (h : New w W) => cost_any base A n c hs W (HR.out.new h) HSZ.out hb1 (HE.out.new h))
  have HBEST := Lib.hid (fun (t : ByteArray) (ht : t.size ≤ 500) (h0 : appE sumV base (hs.map Hm.d) s1 = 0) (hT : appT sumV base (hs.map Hm.d) s1 = t) => And.intro (show errV base (hs.map Hm.d) = 0 from by rw [errV, if_pos (app_zero h0).1]) (short_best (sum := sumV) hsz1 ht h0 (by rw [appT, if_pos h0] at hT; exact hT)))
  generalize appT sumV base (hs.map Hm.d) s1 = aT at *
  generalize appE sumV base (hs.map Hm.d) s1 = aE at *
  generalize costV base (hs.map Hm.d) = pc at *
  generalize errV base (hs.map Hm.d) = pe at *
  obtain ⟨t, ht⟩ : ∃ t, (if aE = 0 ∧ aT.size ≤ 500 then aT else s2) = t := ⟨_, rfl⟩
  have hts : t.size ≤ 500 := by
    rw [← ht]; split
    · rename_i q; exact q.2
    · exact hsz2
  have hcase : (aE = 0 ∧ aT = t) ∨ (¬ aE = 0) ∨ (aE = 0 ∧ aT ≠ t) := by
    by_cases q : aE = 0
    · by_cases q2 : aT = t
      · exact Or.inl ⟨q, q2⟩
      · exact Or.inr (Or.inr ⟨q, q2⟩)
    · exact Or.inr (Or.inl q)
  have HT := Lib.hid ht
  have d0 := B3.cell' 0 _ rfl
  have d1 := B3.cell' 1 _ rfl
  clear hb HF2 ht
  go_wp2_with (fail)
  with_reducible refine (C1.out _ n3).mono ?_
  rintro e w5 ⟨rfl, m5⟩
  have n5 := n3.trans m5
  have B5 := B3.new m5
  clear d0 d1 n3 B3 m5
  go_upto_region 6 with (fail)
  obtain ⟨bb0, hbb0⟩ : ∃ b, decide (aE = 0 ∧ aT.size ≤ 500) = b := ⟨_, rfl⟩
  have HBB := Lib.hid hbb0
  clear hbb0
  go_cut [43] from 37 to 43 (fun v43 wc => v43 = .bool bb0 ∧ wc = w5)
  case first =>
    by_cases q1 : aE = 0
    · have e1 : (aE == 0) = true := by simpa using q1
      by_cases q2 : aT.size ≤ 500
      · have e2 : decide ((aT.size : Int) ≤ 500) = true := decide_eq_true (by omega)
        have e3 : decide (aT.size ≤ 500) = true := decide_eq_true q2
        obtain rfl : true = bb0 := by rw [← HBB.out]; exact (decide_eq_true ⟨q1, q2⟩).symm
        go_wp2
        go_meet
        case rel => exact ⟨rfl, rfl⟩
      · have e2 : decide ((aT.size : Int) ≤ 500) = false := decide_eq_false (by omega)
        have e3 : decide (aT.size ≤ 500) = false := decide_eq_false q2
        obtain rfl : false = bb0 := by rw [← HBB.out]; exact (decide_eq_false (fun h => q2 h.2)).symm
        go_wp2
        go_meet
        case rel => exact ⟨rfl, rfl⟩
    · have e1 : (aE == 0) = false := by simpa using q1
      obtain rfl : false = bb0 := by rw [← HBB.out]; exact (decide_eq_false (fun h => q1 h.1)).symm
      go_wp2
      go_meet
      case rel => exact ⟨rfl, rfl⟩
  case rest =>
   obtain ⟨rfl, rfl⟩ := hcut
   go_upto_if 43 with (fail)
   go_cut [2] (fun v2 wd => v2 = .string t ∧ wd = wc)
   case first =>
    cases bb0
    · obtain rfl : s2 = t := by rw [← HT.out, if_neg (fun h => by have := HBB.out; rw [decide_eq_true h] at this; cases this)]
      go_wp2
      go_meet
      case rel => exact ⟨rfl, rfl⟩
    · obtain rfl : aT = t := by rw [← HT.out, if_pos (of_decide_eq_true HBB.out)]
      go_wp2
      go_meet
      case rel => exact ⟨rfl, rfl⟩
   case rest =>
    obtain ⟨rfl, hwd⟩ := hcut
    obtain rfl := hwd.symm
    obtain ⟨kv, kr, kd⟩ := short_ok hsz1 hts
    obtain ⟨ka, kt⟩ := short_app (sum := sumV) hsz1 hts
    have kz := short_zero hsz1 hts
    have HM := Lib.hid (make_any s1 t wc (by omega) (by omega) (HE.out.new n5))
    go_wp2_with (fail)
    with_reducible refine HM.out.mono ?_
    rintro e w6 hmk
    obtain ⟨m6, A6, l6, c6, h6, rfl, hl6, p6, z6, e6⟩ := mk_out hmk (by omega)
    rw [kr]
    rw [kd] at e6
    have nX := (New.refl w6).alloc (.cells #[.string ⟨#[]⟩, .slice A6 l6 c6] 24)
    have n6 := (n5.trans m6).trans nX
    have B6 := B5.new (m6.trans nX)
    have X6 := Blk.made w6 24 #[.string ⟨#[]⟩, .slice A6 l6 c6]
    have P6 := p6.new nX
    have D1 := Lib.hid (fun W (h : New (w6.alloc (.cells #[.string ⟨#[]⟩, .slice A6 l6 c6] 24)) W) => applyT_any sumV ⟨#[]⟩ A6 l6 c6 h6 s1 W (P6.new h) z6 (by decide) (by omega) (HE.out.new (n6.trans h)) (Or.inr sumC))
    have D2 := Lib.hid (fun W (h : New (w6.alloc (.cells #[.string ⟨#[]⟩, .slice A6 l6 c6] 24)) W) => cost_any ⟨#[]⟩ A6 l6 c6 h6 W (P6.new h) z6 (by decide) (HE.out.new (n6.trans h)))
    have hq : appT sumV ⟨#[]⟩ (mkL s1 t) s1 = t := by rw [appT, if_pos ka, kt]
    have he : errV ⟨#[]⟩ (mkL s1 t) = 0 := by rw [errV, if_pos kv]
    rw [e6] at D1 D2
    rw [hq, ka] at D1
    rw [he] at D2
    obtain ⟨g6, hg6⟩ : ∃ g6, w6.heap.size = g6 := ⟨_, rfl⟩
    have HG6 := Lib.hid hg6
    rw [hg6] at X6
    have HBE := Lib.hid (HBEST.out t hts)
    obtain ⟨qc, hqc⟩ : ∃ qc, costV ⟨#[]⟩ (mkL s1 t) = qc := ⟨_, rfl⟩
    rw [hqc] at D2 kz HBE
    obtain ⟨bb, f1, f2⟩ : ∃ bb, (qc == 0) = bb ∧ (s1.toList == t.toList) = bb := by
      refine ⟨decide (s1 = t), ?_, beq_bytes _ _⟩
      by_cases q : s1 = t
      · rw [decide_eq_true q]; simpa using kz.2 q
      · rw [decide_eq_false q]
        have : ¬ qc = 0 := fun h => q (kz.1 h)
        simpa using this
    have x0 := X6.cell' 0 _ rfl
    have x1 := X6.cell' 1 _ rfl
    clear hmk hl6 p6 e6 m6 nX kv kr kd ka kt kz hq he hg6 hqc n5 B5 HM HBEST
    go_wp2_with (fail)
    rw [HG6.out]
    generalize w6.alloc (.cells #[.string ⟨#[]⟩, .slice A6 l6 c6] 24) = w7 at *
    with_reducible refine (D1.out _ (New.refl _)).mono ?_
    rintro e w8 ⟨rfl, m8⟩
    have X8 := X6.new m8
    have B8 := B6.new m8
    clear x0 x1
    have x0 := X8.cell' 0 _ rfl
    have x1 := X8.cell' 1 _ rfl
    go_wp2_with (fail)
    with_reducible refine (D2.out _ m8).mono ?_
    rintro e w9 ⟨rfl, m9⟩
    have m10 := m8.trans m9
    have B9 := B8.new m9
    have n9 := n6.trans m10
    have g1 : (t.toList == t.toList) = true := by simp
    have g2 : (t.toList != t.toList) = false := by simp
    clear x0 x1 X8 B8 m8 m9 B6 X6 D1 D2
    have d0 := B9.cell' 0 _ rfl
    have d1 := B9.cell' 1 _ rfl
    go_wp2_with (fail)
    with_reducible refine (C1.out _ n9).mono ?_
    rintro e w11 ⟨rfl, m11⟩
    have n11 := n9.trans m11
    have B11 := B9.new m11
    clear d0 d1 B9
    rcases hcase with ⟨q1, q2⟩ | q1 | ⟨q1, q2⟩
    · have hbe := HBE.out q1 q2
      have e1 : (aE == 0) = true := by simpa using q1
      subst q2
      subst q1
      obtain ⟨hb1', hb2'⟩ := hbe
      subst hb1'
      have e4 : decide (qc ≤ pc) = true := decide_eq_true hb2'
      have d0 := B11.cell' 0 _ rfl
      have d1 := B11.cell' 1 _ rfl
      go_wp2_with (fail)
      with_reducible refine (C2.out _ n11).mono ?_
      rintro e w12 ⟨rfl, m12⟩
      go_wp2
      go_ret
      exact ⟨rfl, n11.trans m12⟩
    · have e1 : (aE == 0) = false := by simpa using q1
      go_wp2
      go_ret
      exact ⟨rfl, n11⟩
    · have e1 : (aE == 0) = true := by simpa using q1
      have e2 : (aT.toList == t.toList) = false := by rw [beq_bytes]; exact decide_eq_false q2
      subst q1
      go_wp2
      go_ret
      exact ⟨rfl, n11⟩
end Go.Proofs.YtfeknjpinboknaaGreatDoor

