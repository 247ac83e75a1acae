/- licitref35.Check: the walk. Conditions: the template's size; no string is longer than a string can be. -/
import Derived.Test.YtpoelhnceebmkaaGreatDoorE2
namespace Go.Proofs.YtpoelhnceebmkaaGreatDoor
open Go Go.RowKit Go.Shelf
set_option linter.unusedSimpArgs false
set_option linter.unusedVariables false

def SzX (ws : List ByteArray) : Prop := ∀ x ∈ ws, x.size ≤ 9223372036854775807
theorem allOk_no {ws : List ByteArray} {x : ByteArray} (h : x ∈ ws) (hx : okW x = false) : allOk ws = false := by
  unfold allOk
  cases e : ws.all okW with
  | false => rfl
  | true => rw [List.all_eq_true.1 e x h] at hx; cases hx

set_option maxRecDepth 100000 in
set_option maxHeartbeats 4000000 in
theorem rcheck_any (v : Value) (nm : ByteArray) (ps : List Pt) (w : World) (h : TRd w v nm ps) (hs : SmT ps) (hx : ∀ p ∈ ps, SzX p.2) :
    Calls Tryz.prog 22 #[v] w fun e w' => e = .returned (.int .i64 (checkV ps)) ∧ New w w' := by
  have HC0 := Lib.hid (fun w h => count_any v nm ps w h hs)
  have HTR := Lib.hid h
  obtain ⟨A, c, rfl, hc1, hc2, hr⟩ := h
  have hnS : New w (w.alloc (.cells #[.string nm, .slice A ps.length c] 25)) := (New.refl w).alloc _
  by_cases h0 : ps = []
  · have hv : checkV ps = 1 := if_pos h0
    have HV := Lib.hid hv
    have hl : ps.length = 0 := by rw [h0]; rfl
    rw [hl] at hnS ⊢
    clear hv hr HC0 HTR
    go_enter Tryz.func22, Tryz.ntmps22
    go_wp2
    go_ret
    exact ⟨ret_i HV.out.symm, hnS⟩
  have hv : checkV ps = if 256 < total ps then 10 else chk 0 ps := if_neg h0
  have hlp : 0 < ps.length := List.length_pos_iff.2 h0
  obtain ⟨hs1, hs2⟩ := hs
  have HV := Lib.hid hv
  obtain ⟨n, hn0⟩ : ∃ n, ps.length = n := ⟨_, rfl⟩
  rw [hn0] at hr hc1 hlp hs1 hnS HC0 HTR ⊢
  have HS2 := Lib.hid hs2
  have HX := Lib.hid hx
  have HN := Lib.hid hn0
  have e1 : ((n : Int) == 0) = false := beq_eq_false_iff_ne.2 (by omega)
  have e2 : ¬ (n : Int) = 0 := by omega
  have HTR2 := Lib.hid (HTR.out.new hnS)
  have HR := Lib.hid (hr.new hnS)
  have B0 := Blk.made w 25 #[.string nm, .slice A n c]
  have k0 := B0.cell' 0 _ rfl
  have k1 := B0.cell' 1 _ rfl
  obtain ⟨tt, htt⟩ : ∃ t, total ps = t := ⟨_, rfl⟩
  rw [htt] at HC0 HV
  clear hv h0 hs2 hn0 hx hr htt HTR
  by_cases hbig : 256 < tt
  · have hb1 : decide ((256 : Int) < (tt : Int)) = true := decide_eq_true (by omega)
    have hV2 : checkV ps = 10 := by rw [HV.out, if_pos hbig]
    have HV2 := Lib.hid hV2
    clear hV2 hbig
    go_enter Tryz.func22, Tryz.ntmps22
    go_wp2_with (go_at_call 42; refine (HC0.out _ HTR2.out).mono ?_; rintro e w1 ⟨rfl, hn1⟩)
    go_ret
    exact ⟨ret_i HV2.out.symm, hnS.trans hn1⟩
  · have hb1 : decide ((256 : Int) < (tt : Int)) = false := decide_eq_false (by omega)
    have hV2 : checkV ps = chk 0 ps := by rw [HV.out, if_neg hbig]
    have HV2 := Lib.hid hV2
    clear hV2 hbig
    go_enter Tryz.func22, Tryz.ntmps22
    go_wp2_with (go_at_call 42; refine (HC0.out _ HTR2.out).mono ?_; rintro e w1 ⟨rfl, hn1⟩)
    go_loopw [3] (fun v3 wr => ∃ j : Nat, v3 = .int .i64 j ∧ j ≤ n ∧ New w1 wr ∧ Hid (chk j (ps.drop j) = checkV ps)) (fun v3 _ => n - (intOf v3).toNat)
    case atStart => exact ⟨0, rfl, by omega, New.refl _, Lib.hid (by rw [HV2.out]; rfl)⟩
    case round =>
      obtain ⟨j, rfl, hj, hn2, H⟩ := hrel
      have k1 := ((B0.new hn1).new hn2).cell' 1 _ rfl
      by_cases hlt2 : j < n
      · obtain ⟨bk, o, vp, p, rfl, hp, d1, d2, hw⟩ := ((HR.out.new hn1).new hn2).at hlt2
        obtain ⟨Aw, cw, rfl, hw1, hw2, hwr⟩ := hw
        have hpm := List.mem_of_getElem? hp
        have hpl := HS2.out p hpm
        have HPX := Lib.hid (HX.out p hpm)
        have hca := chk_at hp
        rw [H.out] at hca
        clear hpm hp
        obtain ⟨m, hm⟩ : ∃ m, p.2.length = m := ⟨_, rfl⟩
        rw [hm] at d2 hpl hw1 hwr
        have HM := Lib.hid hm
        have i0 : (0 : Int) ≤ (j : Int) := by omega
        have i1 : (j : Int) < (n : Int) := by omega
        clear hm
        by_cases hj0 : j = 0
        · have q1 : ((j : Int) == 0) = true := beq_iff_eq.2 (by omega)
          have q2 : decide ((0 : Int) < (j : Int)) = false := decide_eq_false (by omega)
          have q3 : ¬ (0 : Int) < (j : Int) := by omega
          by_cases hh : p.1 = 0
          · have hbad : badH j p.1 = false := by simp [badH, hh, hj0]
            have hh1 : (p.1 != 0) = false := by simp [hh]
            rw [if_neg (by rw [hbad]; decide)] at hca
            clear hbad hh hj0
            by_cases hw0 : p.2 = []
            · rw [if_pos hw0] at hca
              have HC := Lib.hid hca
              have hm0 : m = 0 := by rw [← HM.out, hw0]; rfl
              have l1 : ((m : Int) == 0) = true := beq_iff_eq.2 (by omega)
              clear hca hw0
              go_wp2
              go_ret
              exact ⟨ret_i HC.out.symm, ((hnS.trans hn1).trans hn2).alloc _⟩
            · rw [if_neg hw0] at hca
              have hl0 : 0 < m := by rw [← HM.out]; exact List.length_pos_iff.2 hw0
              have l1 : ((m : Int) == 0) = false := beq_eq_false_iff_ne.2 (by omega)
              have l2 : ¬ (m : Int) = 0 := by omega
              have HC := Lib.hid hca
              clear hca hw0
              obtain ⟨wq, rfl⟩ : ∃ x, x = wr := ⟨_, rfl⟩
              have B58 := Blk.made wq 58 #[.int .i64 p.1, .slice Aw m cw]
              go_wp2
              obtain ⟨wo, hwo⟩ : ∃ x, x = wq.alloc (.cells #[.int .i64 p.1, .slice Aw m cw] 58) := ⟨_, rfl⟩
              rw [← hwo] at B58 ⊢
              have hno : New wq wo := by rw [hwo]; exact (New.refl _).alloc _
              have HWR := Lib.hid (hwr.below hno)
              clear hwo hwr d1 d2
              go_loopw [5] (fun v5 wr3 => ∃ k : Nat, v5 = .int .i64 k ∧ k ≤ m ∧ New wo wr3 ∧ Hid ((p.2.take k).all okW = true)) (fun v5 _ => m - (intOf v5).toNat)
              case atStart => exact ⟨0, rfl, by omega, New.refl _, Lib.hid (by simp)⟩
              case round =>
                obtain ⟨k, rfl, hk, hn3, HK⟩ := hrel
                have g1 := (B58.new hn3).cell' 1 _ rfl
                by_cases hlt3 : k < m
                · obtain ⟨bw, ow, rfl, _, hcw⟩ := (HWR.out.below hn3).2 (by omega)
                  have hlt4 : k < p.2.length := by rw [HM.out]; exact hlt3
                  have d3 : wr.cell? ⟨bw, ow + k, none⟩ = some (.string p.2[k]) := hcw k _ (by simp [hlt4])
                  have hxm := List.getElem_mem hlt4
                  have HXS := Lib.hid (HPX.out _ hxm)
                  have HAN := Lib.hid (fun h => allOk_no hxm h)
                  have htk : (p.2.take (k + 1)).all okW = ((p.2.take k).all okW && okW p.2[k]) := by rw [List.take_succ_eq_append_getElem hlt4, List.all_append]; simp
                  rw [HK.out, Bool.true_and] at htk
                  have HT := Lib.hid htk
                  clear htk hxm hcw
                  generalize p.2[k] = x at *
                  have k0 : (0 : Int) ≤ (k : Int) := by omega
                  have k2 : (k : Int) < (m : Int) := by omega
                  have HWD := Lib.hid (fun W => word_any x W HXS.out)
                  cases hok : okW x
                  · rw [hok] at HWD
                    have hC2 := HC.out
                    rw [HAN.out hok, if_neg (by decide)] at hC2
                    have HC3 := Lib.hid hC2
                    clear hok hC2
                    go_wp2_with (go_at_call 52; refine (HWD.out _).mono ?_; rintro e w9 ⟨rfl, hn9⟩)
                    go_ret
                    exact ⟨ret_i HC3.out.symm, ((((hnS.trans hn1).trans hn2).trans hno).trans hn3).trans hn9⟩
                  · rw [hok] at HWD
                    have HOK := Lib.hid hok
                    clear hok
                    go_wp2_with (go_at_call 52; refine (HWD.out _).mono ?_; rintro e w9 ⟨rfl, hn9⟩)
                    go_roundw
                    case rel => exact ⟨k + 1, by go_num, by omega, hn3.trans hn9, Lib.hid (by rw [HT.out]; exact HOK.out)⟩
                    case measure => simp [intOf]; omega
                · obtain rfl : k = m := by omega
                  have hC2 := HC.out
                  have hall : allOk p.2 = true := by
                    have h1 := HK.out
                    have h2 := HM.out
                    rw [← h2, List.take_length] at h1
                    exact h1
                  rw [hall, if_pos rfl] at hC2
                  have HC3 := Lib.hid hC2
                  clear hC2 hall
                  go_wp2
                  go_roundw
                  case rel => exact ⟨j + 1, by go_num, by omega, (hn2.trans hno).trans hn3, Lib.hid HC3.out.symm⟩
                  case measure => simp [intOf]; omega
          · have hbad : badH j p.1 = true := by simp [badH, hh, hj0]
            have hh1 : (p.1 != 0) = true := by simp [hh]
            clear hj0
            rw [if_pos hbad] at hca
            have HC := Lib.hid hca
            clear hca hbad
            go_wp2
            go_ret
            exact ⟨ret_i HC.out.symm, ((hnS.trans hn1).trans hn2).alloc _⟩
        · have j1 : ((j : Int) == 0) = false := beq_eq_false_iff_ne.2 (by omega)
          have j2 : ¬ (j : Int) = 0 := by omega
          have j3 : (0 : Int) < (j : Int) := by omega
          have hbe : badH j p.1 = (decide (p.1 < 1) || decide (99 < p.1)) := if_neg hj0
          clear hj0
          by_cases hh : p.1 < 1
          · have hbad : badH j p.1 = true := by rw [hbe, decide_eq_true hh]; rfl
            clear hbe
            rw [if_pos hbad] at hca
            have HC := Lib.hid hca
            clear hca hbad
            go_wp2
            go_ret
            exact ⟨ret_i HC.out.symm, ((hnS.trans hn1).trans hn2).alloc _⟩
          · by_cases hh2 : 99 < p.1
            · have hbad : badH j p.1 = true := by rw [hbe, decide_eq_true hh2]; simp
              clear hbe
              rw [if_pos hbad] at hca
              have HC := Lib.hid hca
              clear hca hbad
              go_wp2
              go_ret
              exact ⟨ret_i HC.out.symm, ((hnS.trans hn1).trans hn2).alloc _⟩
            · have hbad : badH j p.1 = false := by rw [hbe, decide_eq_false hh, decide_eq_false hh2]; rfl
              clear hbe
              rw [if_neg (by rw [hbad]; decide)] at hca
              clear hbad
              by_cases hw0 : p.2 = []
              · rw [if_pos hw0] at hca
                have HC := Lib.hid hca
                have hm0 : m = 0 := by rw [← HM.out, hw0]; rfl
                have l1 : ((m : Int) == 0) = true := beq_iff_eq.2 (by omega)
                clear hca hw0
                go_wp2
                go_ret
                exact ⟨ret_i HC.out.symm, ((hnS.trans hn1).trans hn2).alloc _⟩
              · rw [if_neg hw0] at hca
                have hl0 : 0 < m := by rw [← HM.out]; exact List.length_pos_iff.2 hw0
                have l1 : ((m : Int) == 0) = false := beq_eq_false_iff_ne.2 (by omega)
                have l2 : ¬ (m : Int) = 0 := by omega
                have HC := Lib.hid hca
                clear hca hw0
                obtain ⟨wq, rfl⟩ : ∃ x, x = wr := ⟨_, rfl⟩
                have B58 := Blk.made wq 58 #[.int .i64 p.1, .slice Aw m cw]
                go_wp2
                obtain ⟨wo, hwo⟩ : ∃ x, x = wq.alloc (.cells #[.int .i64 p.1, .slice Aw m cw] 58) := ⟨_, rfl⟩
                rw [← hwo] at B58 ⊢
                have hno : New wq wo := by rw [hwo]; exact (New.refl _).alloc _
                have HWR := Lib.hid (hwr.below hno)
                clear hwo hwr d1 d2
                go_loopw [5] (fun v5 wr3 => ∃ k : Nat, v5 = .int .i64 k ∧ k ≤ m ∧ New wo wr3 ∧ Hid ((p.2.take k).all okW = true)) (fun v5 _ => m - (intOf v5).toNat)
                case atStart => exact ⟨0, rfl, by omega, New.refl _, Lib.hid (by simp)⟩
                case round =>
                  obtain ⟨k, rfl, hk, hn3, HK⟩ := hrel
                  have g1 := (B58.new hn3).cell' 1 _ rfl
                  by_cases hlt3 : k < m
                  · obtain ⟨bw, ow, rfl, _, hcw⟩ := (HWR.out.below hn3).2 (by omega)
                    have hlt4 : k < p.2.length := by rw [HM.out]; exact hlt3
                    have d3 : wr.cell? ⟨bw, ow + k, none⟩ = some (.string p.2[k]) := hcw k _ (by simp [hlt4])
                    have hxm := List.getElem_mem hlt4
                    have HXS := Lib.hid (HPX.out _ hxm)
                    have HAN := Lib.hid (fun h => allOk_no hxm h)
                    have htk : (p.2.take (k + 1)).all okW = ((p.2.take k).all okW && okW p.2[k]) := by rw [List.take_succ_eq_append_getElem hlt4, List.all_append]; simp
                    rw [HK.out, Bool.true_and] at htk
                    have HT := Lib.hid htk
                    clear htk hxm hcw
                    generalize p.2[k] = x at *
                    have k0 : (0 : Int) ≤ (k : Int) := by omega
                    have k2 : (k : Int) < (m : Int) := by omega
                    have HWD := Lib.hid (fun W => word_any x W HXS.out)
                    cases hok : okW x
                    · rw [hok] at HWD
                      have hC2 := HC.out
                      rw [HAN.out hok, if_neg (by decide)] at hC2
                      have HC3 := Lib.hid hC2
                      clear hok hC2
                      go_wp2_with (go_at_call 52; refine (HWD.out _).mono ?_; rintro e w9 ⟨rfl, hn9⟩)
                      go_ret
                      exact ⟨ret_i HC3.out.symm, ((((hnS.trans hn1).trans hn2).trans hno).trans hn3).trans hn9⟩
                    · rw [hok] at HWD
                      have HOK := Lib.hid hok
                      clear hok
                      go_wp2_with (go_at_call 52; refine (HWD.out _).mono ?_; rintro e w9 ⟨rfl, hn9⟩)
                      go_roundw
                      case rel => exact ⟨k + 1, by go_num, by omega, hn3.trans hn9, Lib.hid (by rw [HT.out]; exact HOK.out)⟩
                      case measure => simp [intOf]; omega
                  · obtain rfl : k = m := by omega
                    have hC2 := HC.out
                    have hall : allOk p.2 = true := by
                      have h1 := HK.out
                      have h2 := HM.out
                      rw [← h2, List.take_length] at h1
                      exact h1
                    rw [hall, if_pos rfl] at hC2
                    have HC3 := Lib.hid hC2
                    clear hC2 hall
                    go_wp2
                    go_roundw
                    case rel => exact ⟨j + 1, by go_num, by omega, (hn2.trans hno).trans hn3, Lib.hid HC3.out.symm⟩
                    case measure => simp [intOf]; omega
      · obtain rfl : j = n := by omega
        have h9 : checkV ps = 0 := by have := H.out; rw [List.drop_of_length_le (by rw [HN.out]; exact Nat.le_refl _)] at this; exact this.symm
        have H9 := Lib.hid h9
        clear h9
        go_wp2
        go_ret
        exact ⟨ret_i H9.out.symm, (hnS.trans hn1).trans hn2⟩
end Go.Proofs.YtpoelhnceebmkaaGreatDoor
