/- template.Check, and the law's texts. No conditions but that a template is small. -/
import Derived.Test.YtpoelhnceebmkaaGreatDoorF
namespace Go.Proofs.YtpoelhnceebmkaaGreatDoor
open Go Go.RowKit Go.Shelf
set_option linter.unusedSimpArgs false
set_option linter.unusedVariables false

theorem ret_i {a b : Int} (h : a = b) : Ending.returned (.int .i64 a) = .returned (.int .i64 b) := by rw [h]
/-! ### Check -/
def total (ps : List Pt) : Nat := (ps.map fun p => p.2.length).sum
theorem total_take {ps : List Pt} {i : Nat} {p : Pt} (h : ps[i]? = some p) : total (ps.take (i + 1)) = total (ps.take i) + p.2.length := by
  obtain ⟨hi, he⟩ := List.getElem?_eq_some_iff.1 h
  rw [total, total, List.take_succ_eq_append_getElem hi, List.map_append, List.sum_append, he]; simp
theorem total_le {ps : List Pt} (h : ∀ p ∈ ps, p.2.length ≤ 1000) : total ps ≤ ps.length * 1000 := by
  induction ps with
  | nil => simp [total]
  | cons p r ih =>
    have h1 := h p (by simp)
    have h2 := ih (fun q hq => h q (by simp [hq]))
    rw [total, List.map_cons, List.sum_cons, ← total, List.length_cons]; omega
/-- Whether a hole has a wrong size at a place. -/
def badH (i : Nat) (h : Int) : Bool := if i = 0 then decide (h ≠ 0) else decide (h < 1) || decide (99 < h)
/-- The first error from place i on. -/
def chk : Nat → List Pt → Int
  | _, [] => 0
  | i, p :: r => if badH i p.1 then 3 else if p.2 = [] then 1 else if allOk p.2 then chk (i + 1) r else 2
def checkV (ps : List Pt) : Int := if ps = [] then 1 else if 256 < total ps then 10 else chk 0 ps
theorem chk_at {ps : List Pt} {i : Nat} {p : Pt} (h : ps[i]? = some p) : chk i (ps.drop i) = if badH i p.1 then 3 else if p.2 = [] then 1 else if allOk p.2 then chk (i + 1) (ps.drop (i + 1)) else 2 := by
  obtain ⟨hi, he⟩ := List.getElem?_eq_some_iff.1 h
  rw [List.drop_eq_getElem_cons hi, chk, he]

set_option maxRecDepth 100000 in
set_option maxHeartbeats 4000000 in
theorem check_any (v : Value) (nm : ByteArray) (ps : List Pt) (w : World) (h : TRd w v nm ps) (hs : SmT ps) :
    Calls Tryz.prog 21 #[v] w fun e w' => e = .returned (.int .i64 (checkV ps)) ∧ New w w' := by
  obtain ⟨A, c, rfl, hc1, hc2, hr⟩ := h
  have hnS : New w (w.alloc (.cells #[.string nm, .slice A ps.length c] 25)) := (New.refl w).alloc _
  by_cases h0 : ps = []
  · have hv : checkV ps = 1 := if_pos h0
    rw [hv]
    have hl : ps.length = 0 := by rw [h0]; rfl
    rw [hl] at hnS ⊢
    clear hv hr
    go_enter Tryz.func21, Tryz.ntmps21
    go_wp2
    go_ret
    exact ⟨rfl, hnS⟩
  have hv : checkV ps = if 256 < total ps then 10 else chk 0 ps := if_neg h0
  have hlp : 0 < ps.length := List.length_pos_iff.2 h0
  obtain ⟨hs1, hs2⟩ := hs
  have htl := total_le hs2
  have htk : ∀ i, total (ps.take i) ≤ 1000000 := fun i => by
    have := total_le (ps := ps.take i) (fun p hp => hs2 p (List.mem_of_mem_take hp))
    have h3 : (ps.take i).length ≤ 1000 := by simp; omega
    omega
  have HTK := Lib.hid htk
  have HV := Lib.hid hv
  obtain ⟨n, hn0⟩ : ∃ n, ps.length = n := ⟨_, rfl⟩
  rw [hn0] at hr hc1 hlp hs1 htl hnS ⊢
  have HS2 := Lib.hid hs2
  have HN := Lib.hid hn0
  have e1 : ((n : Int) == 0) = false := beq_eq_false_iff_ne.2 (by omega)
  have e2 : ¬ (n : Int) = 0 := by omega
  clear hv h0 htk hs2 hn0
  go_enter Tryz.func21, Tryz.ntmps21
  go_wp2
  obtain ⟨wS, hwS⟩ : ∃ x, x = w.alloc (.cells #[.string nm, .slice A n c] 25) := ⟨_, rfl⟩
  rw [← hwS]
  have B0 : Blk wS w.heap.size 25 #[.string nm, .slice A n c] := by rw [hwS]; exact Blk.made w _ _
  rw [← hwS] at hnS
  clear hwS
  go_loopw [3, 15] (fun v3 v15 wr => ∃ i : Nat, v15 = .int .i64 i ∧ i ≤ n ∧ v3 = .int .i64 (total (ps.take i) : Nat) ∧ New wS wr) (fun _ v15 _ => n - (intOf v15).toNat)
  case atStart => exact ⟨0, rfl, by omega, by simp [total], New.refl _⟩
  case round =>
    obtain ⟨i, rfl, hi, rfl, hn⟩ := hrel
    by_cases hlt : i < n
    · obtain ⟨bk, o, vp, p, rfl, hp, d1, d2, hw⟩ := ((hr.new hnS).new hn).at hlt
      obtain ⟨Aw, cw, rfl, hw1, hw2, _⟩ := hw
      have hpl := HS2.out p (List.mem_of_getElem? hp)
      have htt := total_take hp
      have ht1 := HTK.out (i + 1)
      have u1 : IntKind.i64.wrap ((total (ps.take i) : Int) + (p.2.length : Int)) = (total (ps.take (i + 1)) : Int) := by rw [htt, IntWalk.i64_in _ (by omega)]; omega
      have HT := Lib.hid htt
      clear htt
      go_wp2
      go_roundw
      case rel => exact ⟨i + 1, by go_num, by omega, rfl, hn.alloc _⟩
      case measure => simp [intOf]; omega
    · obtain rfl : i = n := by omega
      have ht : total (ps.take i) = total ps := by rw [List.take_of_length_le (by rw [HN.out]; exact Nat.le_refl _)]
      rw [ht]
      have b0 := (B0.new hn).cell' 1 _ rfl
      have b1 := (B0.new hn).cell' 0 _ rfl
      by_cases hbig : 256 < total ps
      · have hb1 : (256 : Int) < (total ps : Int) := by omega
        have hV2 : checkV ps = 10 := by rw [HV.out, if_pos hbig]
        have HV2 := Lib.hid hV2
        clear hV2
        go_wp2
        go_ret
        exact ⟨ret_i HV2.out.symm, hnS.trans hn⟩
      · have hb1 : ¬ (256 : Int) < (total ps : Int) := by omega
        have hV2 : checkV ps = chk 0 ps := by rw [HV.out, if_neg hbig]
        have HV2 := Lib.hid hV2
        obtain ⟨tt, htt⟩ : ∃ t, total ps = t := ⟨_, rfl⟩
        rw [htt] at hb1 ⊢
        obtain ⟨wo, rfl⟩ : ∃ x, x = wr := ⟨_, rfl⟩
        clear hV2 ht htl hbig htt
        go_wp2
        go_loopw [30] (fun v30 wr => ∃ j : Nat, v30 = .int .i64 j ∧ j ≤ i ∧ New wo wr ∧ Hid (chk j (ps.drop j) = checkV ps)) (fun v30 _ => i - (intOf v30).toNat)
        case atStart => exact ⟨0, rfl, by omega, New.refl _, Lib.hid (by rw [HV2.out]; rfl)⟩
        case round =>
          obtain ⟨j, rfl, hj, hn2, H⟩ := hrel
          by_cases hlt2 : j < i
          · obtain ⟨bk, o, vp, p, rfl, hp, d1, d2, hw⟩ := (((hr.new hnS).new hn).new hn2).at hlt2
            obtain ⟨Aw, cw, rfl, hw1, hw2, hwr⟩ := hw
            have hpl := HS2.out p (List.mem_of_getElem? hp)
            have hca := chk_at hp
            rw [H.out] at hca
            by_cases hj0 : j = 0
            · subst hj0
              simp only [Nat.zero_mul, Nat.add_zero] at d1 d2
              by_cases hh : p.1 = 0
              · have hbad : badH 0 p.1 = false := by simp [badH, hh]
                have hh1 : (p.1 == 0) = true := by simp [hh]
                rw [if_neg (by rw [hbad]; decide)] at hca
                clear hbad
                by_cases hw0 : p.2 = []
                · rw [if_pos hw0] at hca
                  have HC := Lib.hid hca
                  have hl0 : p.2.length = 0 := by rw [hw0]; rfl
                  rw [hl0] at d2
                  clear hca hw0
                  go_wp2
                  go_ret
                  exact ⟨ret_i HC.out.symm, (hnS.trans hn).trans (hn2.alloc _)⟩
                · rw [if_neg hw0] at hca
                  have hl0 : 0 < p.2.length := List.length_pos_iff.2 hw0
                  have l1 : ((p.2.length : Int) == 0) = false := beq_eq_false_iff_ne.2 (by omega)
                  have l2 : ¬ (p.2.length : Int) = 0 := by omega
                  have HF := Lib.hid (fun w hr => containsFn33 Aw cw p.2.length p.2 rfl w (by omega) hr)
                  clear hw0
                  cases hok : allOk p.2
                  · rw [hok] at hca HF
                    rw [if_neg (by decide)] at hca
                    have HC := Lib.hid hca
                    clear hca hok
                    go_wp2_with (go_at_call 49; refine (HF.out _ (hwr.below ((New.refl _).alloc _))).mono ?_; rintro e w9 ⟨rfl, hn9⟩)
                    go_ret
                    exact ⟨ret_i HC.out.symm, (hnS.trans hn).trans ((hn2.alloc _).trans hn9)⟩
                  · rw [hok] at hca HF
                    rw [if_pos rfl] at hca
                    have HC := Lib.hid hca
                    clear hca hok
                    go_wp2_with (go_at_call 49; refine (HF.out _ (hwr.below ((New.refl _).alloc _))).mono ?_; rintro e w9 ⟨rfl, hn9⟩)
                    go_roundw
                    case rel => exact ⟨0 + 1, by go_num, by omega, (hn2.alloc _).trans hn9, Lib.hid HC.out.symm⟩
                    case measure => simp [intOf]; omega
              · have hbad : badH 0 p.1 = true := by simp [badH, hh]
                have hh1 : (p.1 == 0) = false := by simp [hh]
                rw [if_pos hbad] at hca
                have HC := Lib.hid hca
                clear hca hbad
                go_wp2
                go_ret
                exact ⟨ret_i HC.out.symm, (hnS.trans hn).trans (hn2.alloc _)⟩
            · have j1 : ((j : Int) == 0) = false := beq_eq_false_iff_ne.2 (by omega)
              have j2 : ¬ (j : Int) = 0 := by omega
              have j3 : (0 : Int) < (j : Int) := by omega
              have hbe : badH j p.1 = (decide (p.1 < 1) || decide (99 < p.1)) := if_neg hj0
              clear hj0
              by_cases hh : p.1 < 1
              · have hbad : badH j p.1 = true := by rw [hbe, decide_eq_true hh]; rfl
                clear hbe
                rw [if_pos hbad] at hca
                have HC := Lib.hid hca
                clear hca hbad
                go_wp2
                go_ret
                exact ⟨ret_i HC.out.symm, (hnS.trans hn).trans (hn2.alloc _)⟩
              · by_cases hh2 : 99 < p.1
                · have hbad : badH j p.1 = true := by rw [hbe, decide_eq_true hh2]; simp
                  clear hbe
                  rw [if_pos hbad] at hca
                  have HC := Lib.hid hca
                  clear hca hbad
                  go_wp2
                  go_ret
                  exact ⟨ret_i HC.out.symm, (hnS.trans hn).trans (hn2.alloc _)⟩
                · have hbad : badH j p.1 = false := by rw [hbe, decide_eq_false hh, decide_eq_false hh2]; rfl
                  clear hbe
                  rw [if_neg (by rw [hbad]; decide)] at hca
                  clear hbad
                  by_cases hw0 : p.2 = []
                  · rw [if_pos hw0] at hca
                    have HC := Lib.hid hca
                    have hl0 : p.2.length = 0 := by rw [hw0]; rfl
                    rw [hl0] at d2
                    clear hca hw0
                    go_wp2
                    go_ret
                    exact ⟨ret_i HC.out.symm, (hnS.trans hn).trans (hn2.alloc _)⟩
                  · rw [if_neg hw0] at hca
                    have hl0 : 0 < p.2.length := List.length_pos_iff.2 hw0
                    have l1 : ((p.2.length : Int) == 0) = false := beq_eq_false_iff_ne.2 (by omega)
                    have l2 : ¬ (p.2.length : Int) = 0 := by omega
                    have HF := Lib.hid (fun w hr => containsFn33 Aw cw p.2.length p.2 rfl w (by omega) hr)
                    clear hw0
                    cases hok : allOk p.2
                    · rw [hok] at hca HF
                      rw [if_neg (by decide)] at hca
                      have HC := Lib.hid hca
                      clear hca hok
                      go_wp2_with (go_at_call 49; refine (HF.out _ (hwr.below ((New.refl _).alloc _))).mono ?_; rintro e w9 ⟨rfl, hn9⟩)
                      go_ret
                      exact ⟨ret_i HC.out.symm, (hnS.trans hn).trans ((hn2.alloc _).trans hn9)⟩
                    · rw [hok] at hca HF
                      rw [if_pos rfl] at hca
                      have HC := Lib.hid hca
                      clear hca hok
                      go_wp2_with (go_at_call 49; refine (HF.out _ (hwr.below ((New.refl _).alloc _))).mono ?_; rintro e w9 ⟨rfl, hn9⟩)
                      go_roundw
                      case rel => exact ⟨j + 1, by go_num, by omega, (hn2.alloc _).trans hn9, Lib.hid HC.out.symm⟩
                      case measure => simp [intOf]; omega
          · obtain rfl : j = i := by omega
            have h9 : checkV ps = 0 := by have := H.out; rw [List.drop_of_length_le (by rw [HN.out]; exact Nat.le_refl _)] at this; exact this.symm
            have H9 := Lib.hid h9
            clear h9
            go_wp2
            go_ret
            exact ⟨ret_i H9.out.symm, (hnS.trans hn).trans hn2⟩

/-! ### texts -/
theorem Tryz.info9' : (Tryz.prog.info? 9).map (fun i => (i.zero, i.size, i.bytes)) = some (some (.string ⟨#[]⟩), 1, 16) := by kernel_rfl
def tCells (l : List Tw) : List Value := l.map fun x => .string x.1
theorem tCells_app (a b : List Tw) : tCells (a ++ b) = tCells a ++ tCells b := List.map_append
theorem tCells_eq (l : List Tw) : tCells l = (l.map Prod.fst).map Value.string := by rw [List.map_map]; rfl
set_option maxRecDepth 100000 in
set_option maxHeartbeats 1000000 in
theorem texts_any (A : Option Addr) (c n : Nat) (l : List Tw) (hl : l.length = n) (w : World) (hr : Rd w 2 A n (twCells l)) (hz : n ≤ 100000) :
    Calls Tryz.prog 31 #[.slice A n c] w fun e w' => ∃ v, e = .returned v ∧ w'.ownsRow w.heap.size 9 1 v n (tCells l) ∧ New w w' := by
  obtain ⟨i0, hi, hz0, hz1, hz2⟩ := info_parts Tryz.info9'
  have HL := Lib.hid hl
  clear hl
  go_enter Tryz.func31, Tryz.ntmps31
  go_wp2
  go_loopw [3, 8] (fun v3 v8 wr => ∃ i : Nat, v8 = .int .i64 i ∧ i ≤ n ∧ wr.ownsRow w.heap.size 9 1 v3 i (tCells (l.take i)) ∧ New w wr) (fun _ v8 _ => n - (intOf v8).toNat)
  case atStart => exact ⟨0, rfl, by omega, World.ownsRow_nil _ _ _ _, New.refl _⟩
  case round =>
    obtain ⟨i, rfl, hi2, own, hn⟩ := hrel
    by_cases hlt : i < n
    · obtain ⟨bk, o, rfl, _, hc⟩ := (hr.below hn).2 (by omega)
      have hil : i < l.length := by rw [HL.out]; exact hlt
      obtain ⟨q1, q2⟩ := twCells_at l i hil
      have d1 := hc _ _ q1
      have d2 : wr.cell? ⟨bk, o + i * 2 + 1, none⟩ = some (.int .i64 l[i].2) := hc _ _ q2
      have HN : Hid (tCells (l.take (i + 1)) = tCells (l.take i) ++ [.string l[i].1]) := Lib.hid (by rw [List.take_succ_eq_append_getElem hil, tCells_app]; rfl)
      clear hc q1 q2
      generalize l[i] = x at *
      have hzr := hn.size
      go_wp2_with (at_builtin; refine wpList_append_own _ rfl (.tmp 12) (.tmp 15) 37 rfl w.heap.size 9 i0 (.string ⟨#[]⟩) 1 16 Tryz.underlying37 hi hz0 hz1 hz2 rfl (by decide) _ _ _ rfl ((own.alloc _).alloc _) ⟨wr.heap.size + 1, 0, none⟩ 1 1 [.string x.1] rfl rfl ?c1 ?c2 ?c3 ?c4 ?c5 ?_)
      case c1 => simpa only [World.size_alloc] using cell_one_new (wr.alloc (.cells #[.string x.1, .int .i64 x.2] 74)) (.string x.1) 9
      case c2 => simp [Value.oneCell']
      case c3 => simp [maxLen]; omega
      case c4 => omega
      case c5 => simp; omega
      intro v' w2 hown hg _
      go_wp2
      go_roundw
      case rel => exact ⟨i + 1, by go_num, by omega, own_to hown rfl HN.out.symm, Below.grown ((hn.alloc _).alloc _) hg (by simp; omega) (fun q hq => (own.lt q hq).1)⟩
      case measure => simp [intOf]; omega
    · obtain rfl : i = n := by omega
      obtain ⟨A9, c9, rfl, _, _, _⟩ := own_form own
      go_wp2
      go_ret
      exact ⟨_, rfl, own_to own rfl (by rw [List.take_of_length_le (by rw [HL.out]; exact Nat.le_refl _)]), hn⟩
end Go.Proofs.YtpoelhnceebmkaaGreatDoor
