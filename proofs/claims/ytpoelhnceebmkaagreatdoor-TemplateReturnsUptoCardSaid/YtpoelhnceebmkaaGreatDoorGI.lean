/- template.Check, and the law's texts. No conditions but that a template is small. A map[int]bool that the call has made: a set of numbers. No conditions. template.match. No conditions but the sizes' own. -/
import Derived.Test.YtpoelhnceebmkaaGreatDoorGF
import Derived.Maps.RangeWalk
import Derived.Maps.OwnSet
import Derived.Maps.OwnOps

namespace Go.Proofs.YtpoelhnceebmkaaGreatDoor
open Go Go.RowKit Go.Shelf
set_option linter.unusedSimpArgs false
set_option linter.unusedVariables false

theorem ret_i {a b : Int} (h : a = b) : Ending.returned (.int .i64 a) = .returned (.int .i64 b) := by rw [h]
/-! ### Check -/
def total (ps : List Pt) : Nat := (ps.map fun p => p.2.length).sum
theorem total_take {ps : List Pt} {i : Nat} {p : Pt} (h : ps[i]? = some p) : total (ps.take (i + 1)) = total (ps.take i) + p.2.length := by
  obtain ⟨hi, he⟩ := List.getElem?_eq_some_iff.1 h
  rw [total, total, List.take_succ_eq_append_getElem hi, List.map_append, List.sum_append, he]; simp
theorem total_le {ps : List Pt} (h : ∀ p ∈ ps, p.2.length ≤ 1000) : total ps ≤ ps.length * 1000 := by
  induction ps with
  | nil => simp [total]
  | cons p r ih =>
    have h1 := h p (by simp)
    have h2 := ih (fun q hq => h q (by simp [hq]))
    rw [total, List.map_cons, List.sum_cons, ← total, List.length_cons]; omega
/-- Whether a hole has a wrong size at a place. -/
def badH (i : Nat) (h : Int) : Bool := if i = 0 then decide (h ≠ 0) else decide (h < 1) || decide (99 < h)
/-- The first error from place i on. -/
def chk : Nat → List Pt → Int
  | _, [] => 0
  | i, p :: r => if badH i p.1 then 3 else if p.2 = [] then 1 else if allOk p.2 then chk (i + 1) r else 2
def checkV (ps : List Pt) : Int := if ps = [] then 1 else if 256 < total ps then 10 else chk 0 ps
theorem chk_at {ps : List Pt} {i : Nat} {p : Pt} (h : ps[i]? = some p) : chk i (ps.drop i) = if badH i p.1 then 3 else if p.2 = [] then 1 else if allOk p.2 then chk (i + 1) (ps.drop (i + 1)) else 2 := by
  obtain ⟨hi, he⟩ := List.getElem?_eq_some_iff.1 h
  rw [List.drop_eq_getElem_cons hi, chk, he]

set_option maxRecDepth 100000 in
set_option maxHeartbeats 4000000 in
theorem check_any (v : Value) (nm : ByteArray) (ps : List Pt) (w : World) (h : TRd w v nm ps) (hs : SmT ps) :
    Calls Tryz.prog 21 #[v] w fun e w' => e = .returned (.int .i64 (checkV ps)) ∧ New w w' := by
  obtain ⟨A, c, rfl, hc1, hc2, hr⟩ := h
  have hnS : New w (w.alloc (.cells #[.string nm, .slice A ps.length c] 25)) := (New.refl w).alloc _
  by_cases h0 : ps = []
  · have hv : checkV ps = 1 := if_pos h0
    rw [hv]
    have hl : ps.length = 0 := by rw [h0]; rfl
    rw [hl] at hnS ⊢
    clear hv hr
    go_enter Tryz.func21, Tryz.ntmps21
    go_wp2
    go_ret
    exact ⟨rfl, hnS⟩
  have hv : checkV ps = if 256 < total ps then 10 else chk 0 ps := if_neg h0
  have hlp : 0 < ps.length := List.length_pos_iff.2 h0
  obtain ⟨hs1, hs2⟩ := hs
  have htl := total_le hs2
  have htk : ∀ i, total (ps.take i) ≤ 1000000 := fun i => by
    have := total_le (ps := ps.take i) (fun p hp => hs2 p (List.mem_of_mem_take hp))
    have h3 : (ps.take i).length ≤ 1000 := by simp; omega
    omega
  have HTK := Lib.hid htk
  have HV := Lib.hid hv
  obtain ⟨n, hn0⟩ : ∃ n, ps.length = n := ⟨_, rfl⟩
  rw [hn0] at hr hc1 hlp hs1 htl hnS ⊢
  have HS2 := Lib.hid hs2
  have HN := Lib.hid hn0
  have e1 : ((n : Int) == 0) = false := beq_eq_false_iff_ne.2 (by omega)
  have e2 : ¬ (n : Int) = 0 := by omega
  clear hv h0 htk hs2 hn0
  go_enter Tryz.func21, Tryz.ntmps21
  go_wp2
  obtain ⟨wS, hwS⟩ : ∃ x, x = w.alloc (.cells #[.string nm, .slice A n c] 25) := ⟨_, rfl⟩
  rw [← hwS]
  have B0 : Blk wS w.heap.size 25 #[.string nm, .slice A n c] := by rw [hwS]; exact Blk.made w _ _
  rw [← hwS] at hnS
  clear hwS
  go_loopw [3, 15] (fun v3 v15 wr => ∃ i : Nat, v15 = .int .i64 i ∧ i ≤ n ∧ v3 = .int .i64 (total (ps.take i) : Nat) ∧ New wS wr) (fun _ v15 _ => n - (intOf v15).toNat)
  case atStart => exact ⟨0, rfl, by omega, by simp [total], New.refl _⟩
  case round =>
    obtain ⟨i, rfl, hi, rfl, hn⟩ := hrel
    by_cases hlt : i < n
    · obtain ⟨bk, o, vp, p, rfl, hp, d1, d2, hw⟩ := ((hr.new hnS).new hn).at hlt
      obtain ⟨Aw, cw, rfl, hw1, hw2, _⟩ := hw
      have hpl := HS2.out p (List.mem_of_getElem? hp)
      have htt := total_take hp
      have ht1 := HTK.out (i + 1)
      have u1 : IntKind.i64.wrap ((total (ps.take i) : Int) + (p.2.length : Int)) = (total (ps.take (i + 1)) : Int) := by rw [htt, IntWalk.i64_in _ (by omega)]; omega
      have HT := Lib.hid htt
      clear htt
      go_wp2
      go_roundw
      case rel => exact ⟨i + 1, by go_num, by omega, rfl, hn.alloc _⟩
      case measure => simp [intOf]; omega
    · obtain rfl : i = n := by omega
      have ht : total (ps.take i) = total ps := by rw [List.take_of_length_le (by rw [HN.out]; exact Nat.le_refl _)]
      rw [ht]
      have b0 := (B0.new hn).cell' 1 _ rfl
      have b1 := (B0.new hn).cell' 0 _ rfl
      by_cases hbig : 256 < total ps
      · have hb1 : (256 : Int) < (total ps : Int) := by omega
        have hV2 : checkV ps = 10 := by rw [HV.out, if_pos hbig]
        have HV2 := Lib.hid hV2
        clear hV2
        go_wp2
        go_ret
        exact ⟨ret_i HV2.out.symm, hnS.trans hn⟩
      · have hb1 : ¬ (256 : Int) < (total ps : Int) := by omega
        have hV2 : checkV ps = chk 0 ps := by rw [HV.out, if_neg hbig]
        have HV2 := Lib.hid hV2
        obtain ⟨tt, htt⟩ : ∃ t, total ps = t := ⟨_, rfl⟩
        rw [htt] at hb1 ⊢
        obtain ⟨wo, rfl⟩ : ∃ x, x = wr := ⟨_, rfl⟩
        clear hV2 ht htl hbig htt
        go_wp2
        go_loopw [30] (fun v30 wr => ∃ j : Nat, v30 = .int .i64 j ∧ j ≤ i ∧ New wo wr ∧ Hid (chk j (ps.drop j) = checkV ps)) (fun v30 _ => i - (intOf v30).toNat)
        case atStart => exact ⟨0, rfl, by omega, New.refl _, Lib.hid (by rw [HV2.out]; rfl)⟩
        case round =>
          obtain ⟨j, rfl, hj, hn2, H⟩ := hrel
          by_cases hlt2 : j < i
          · obtain ⟨bk, o, vp, p, rfl, hp, d1, d2, hw⟩ := (((hr.new hnS).new hn).new hn2).at hlt2
            obtain ⟨Aw, cw, rfl, hw1, hw2, hwr⟩ := hw
            have hpl := HS2.out p (List.mem_of_getElem? hp)
            have hca := chk_at hp
            rw [H.out] at hca
            by_cases hj0 : j = 0
            · subst hj0
              simp only [Nat.zero_mul, Nat.add_zero] at d1 d2
              by_cases hh : p.1 = 0
              · have hbad : badH 0 p.1 = false := by simp [badH, hh]
                have hh1 : (p.1 == 0) = true := by simp [hh]
                rw [if_neg (by rw [hbad]; decide)] at hca
                clear hbad
                by_cases hw0 : p.2 = []
                · rw [if_pos hw0] at hca
                  have HC := Lib.hid hca
                  have hl0 : p.2.length = 0 := by rw [hw0]; rfl
                  rw [hl0] at d2
                  clear hca hw0
                  go_wp2
                  go_ret
                  exact ⟨ret_i HC.out.symm, (hnS.trans hn).trans (hn2.alloc _)⟩
                · rw [if_neg hw0] at hca
                  have hl0 : 0 < p.2.length := List.length_pos_iff.2 hw0
                  have l1 : ((p.2.length : Int) == 0) = false := beq_eq_false_iff_ne.2 (by omega)
                  have l2 : ¬ (p.2.length : Int) = 0 := by omega
                  have HF := Lib.hid (fun w hr => containsFn33 Aw cw p.2.length p.2 rfl w (by omega) hr)
                  clear hw0
                  cases hok : allOk p.2
                  · rw [hok] at hca HF
                    rw [if_neg (by decide)] at hca
                    have HC := Lib.hid hca
                    clear hca hok
                    go_wp2_with (go_at_call 49; refine (HF.out _ (hwr.below ((New.refl _).alloc _))).mono ?_; rintro e w9 ⟨rfl, hn9⟩)
                    go_ret
                    exact ⟨ret_i HC.out.symm, (hnS.trans hn).trans ((hn2.alloc _).trans hn9)⟩
                  · rw [hok] at hca HF
                    rw [if_pos rfl] at hca
                    have HC := Lib.hid hca
                    clear hca hok
                    go_wp2_with (go_at_call 49; refine (HF.out _ (hwr.below ((New.refl _).alloc _))).mono ?_; rintro e w9 ⟨rfl, hn9⟩)
                    go_roundw
                    case rel => exact ⟨0 + 1, by go_num, by omega, (hn2.alloc _).trans hn9, Lib.hid HC.out.symm⟩
                    case measure => simp [intOf]; omega
              · have hbad : badH 0 p.1 = true := by simp [badH, hh]
                have hh1 : (p.1 == 0) = false := by simp [hh]
                rw [if_pos hbad] at hca
                have HC := Lib.hid hca
                clear hca hbad
                go_wp2
                go_ret
                exact ⟨ret_i HC.out.symm, (hnS.trans hn).trans (hn2.alloc _)⟩
            · have j1 : ((j : Int) == 0) = false := beq_eq_false_iff_ne.2 (by omega)
              have j2 : ¬ (j : Int) = 0 := by omega
              have j3 : (0 : Int) < (j : Int) := by omega
              have hbe : badH j p.1 = (decide (p.1 < 1) || decide (99 < p.1)) := if_neg hj0
              clear hj0
              by_cases hh : p.1 < 1
              · have hbad : badH j p.1 = true := by rw [hbe, decide_eq_true hh]; rfl
                clear hbe
                rw [if_pos hbad] at hca
                have HC := Lib.hid hca
                clear hca hbad
                go_wp2
                go_ret
                exact ⟨ret_i HC.out.symm, (hnS.trans hn).trans (hn2.alloc _)⟩
              · by_cases hh2 : 99 < p.1
                · have hbad : badH j p.1 = true := by rw [hbe, decide_eq_true hh2]; simp
                  clear hbe
                  rw [if_pos hbad] at hca
                  have HC := Lib.hid hca
                  clear hca hbad
                  go_wp2
                  go_ret
                  exact ⟨ret_i HC.out.symm, (hnS.trans hn).trans (hn2.alloc _)⟩
                · have hbad : badH j p.1 = false := by rw [hbe, decide_eq_false hh, decide_eq_false hh2]; rfl
                  clear hbe
                  rw [if_neg (by rw [hbad]; decide)] at hca
                  clear hbad
                  by_cases hw0 : p.2 = []
                  · rw [if_pos hw0] at hca
                    have HC := Lib.hid hca
                    have hl0 : p.2.length = 0 := by rw [hw0]; rfl
                    rw [hl0] at d2
                    clear hca hw0
                    go_wp2
                    go_ret
                    exact ⟨ret_i HC.out.symm, (hnS.trans hn).trans (hn2.alloc _)⟩
                  · rw [if_neg hw0] at hca
                    have hl0 : 0 < p.2.length := List.length_pos_iff.2 hw0
                    have l1 : ((p.2.length : Int) == 0) = false := beq_eq_false_iff_ne.2 (by omega)
                    have l2 : ¬ (p.2.length : Int) = 0 := by omega
                    have HF := Lib.hid (fun w hr => containsFn33 Aw cw p.2.length p.2 rfl w (by omega) hr)
                    clear hw0
                    cases hok : allOk p.2
                    · rw [hok] at hca HF
                      rw [if_neg (by decide)] at hca
                      have HC := Lib.hid hca
                      clear hca hok
                      go_wp2_with (go_at_call 49; refine (HF.out _ (hwr.below ((New.refl _).alloc _))).mono ?_; rintro e w9 ⟨rfl, hn9⟩)
                      go_ret
                      exact ⟨ret_i HC.out.symm, (hnS.trans hn).trans ((hn2.alloc _).trans hn9)⟩
                    · rw [hok] at hca HF
                      rw [if_pos rfl] at hca
                      have HC := Lib.hid hca
                      clear hca hok
                      go_wp2_with (go_at_call 49; refine (HF.out _ (hwr.below ((New.refl _).alloc _))).mono ?_; rintro e w9 ⟨rfl, hn9⟩)
                      go_roundw
                      case rel => exact ⟨j + 1, by go_num, by omega, (hn2.alloc _).trans hn9, Lib.hid HC.out.symm⟩
                      case measure => simp [intOf]; omega
          · obtain rfl : j = i := by omega
            have h9 : checkV ps = 0 := by have := H.out; rw [List.drop_of_length_le (by rw [HN.out]; exact Nat.le_refl _)] at this; exact this.symm
            have H9 := Lib.hid h9
            clear h9
            go_wp2
            go_ret
            exact ⟨ret_i H9.out.symm, (hnS.trans hn).trans hn2⟩

/-! ### texts -/
theorem Tryz.info9' : (Tryz.prog.info? 9).map (fun i => (i.zero, i.size, i.bytes)) = some (some (.string ⟨#[]⟩), 1, 16) := by kernel_rfl
def tCells (l : List Tw) : List Value := l.map fun x => .string x.1
theorem tCells_app (a b : List Tw) : tCells (a ++ b) = tCells a ++ tCells b := List.map_append
theorem tCells_eq (l : List Tw) : tCells l = (l.map Prod.fst).map Value.string := by rw [List.map_map]; rfl
set_option maxRecDepth 100000 in
set_option maxHeartbeats 1000000 in
theorem texts_any (A : Option Addr) (c n : Nat) (l : List Tw) (hl : l.length = n) (w : World) (hr : Rd w 2 A n (twCells l)) (hz : n ≤ 100000) :
    Calls Tryz.prog 31 #[.slice A n c] w fun e w' => ∃ v, e = .returned v ∧ w'.ownsRow w.heap.size 9 1 v n (tCells l) ∧ New w w' := by
  obtain ⟨i0, hi, hz0, hz1, hz2⟩ := info_parts Tryz.info9'
  have HL := Lib.hid hl
  clear hl
  go_enter Tryz.func31, Tryz.ntmps31
  go_wp2
  go_loopw [3, 8] (fun v3 v8 wr => ∃ i : Nat, v8 = .int .i64 i ∧ i ≤ n ∧ wr.ownsRow w.heap.size 9 1 v3 i (tCells (l.take i)) ∧ New w wr) (fun _ v8 _ => n - (intOf v8).toNat)
  case atStart => exact ⟨0, rfl, by omega, World.ownsRow_nil _ _ _ _, New.refl _⟩
  case round =>
    obtain ⟨i, rfl, hi2, own, hn⟩ := hrel
    by_cases hlt : i < n
    · obtain ⟨bk, o, rfl, _, hc⟩ := (hr.below hn).2 (by omega)
      have hil : i < l.length := by rw [HL.out]; exact hlt
      obtain ⟨q1, q2⟩ := twCells_at l i hil
      have d1 := hc _ _ q1
      have d2 : wr.cell? ⟨bk, o + i * 2 + 1, none⟩ = some (.int .i64 l[i].2) := hc _ _ q2
      have HN : Hid (tCells (l.take (i + 1)) = tCells (l.take i) ++ [.string l[i].1]) := Lib.hid (by rw [List.take_succ_eq_append_getElem hil, tCells_app]; rfl)
      clear hc q1 q2
      generalize l[i] = x at *
      have hzr := hn.size
      go_wp2_with (at_builtin; refine wpList_append_own _ rfl (.tmp 12) (.tmp 15) 37 rfl w.heap.size 9 i0 (.string ⟨#[]⟩) 1 16 Tryz.underlying37 hi hz0 hz1 hz2 rfl (by decide) _ _ _ rfl ((own.alloc _).alloc _) ⟨wr.heap.size + 1, 0, none⟩ 1 1 [.string x.1] rfl rfl ?c1 ?c2 ?c3 ?c4 ?c5 ?_)
      case c1 => simpa only [World.size_alloc] using cell_one_new (wr.alloc (.cells #[.string x.1, .int .i64 x.2] 74)) (.string x.1) 9
      case c2 => simp [Value.oneCell']
      case c3 => simp [maxLen]; omega
      case c4 => omega
      case c5 => simp; omega
      intro v' w2 hown hg _
      go_wp2
      go_roundw
      case rel => exact ⟨i + 1, by go_num, by omega, own_to hown rfl HN.out.symm, Below.grown ((hn.alloc _).alloc _) hg (by simp; omega) (fun q hq => (own.lt q hq).1)⟩
      case measure => simp [intOf]; omega
    · obtain rfl : i = n := by omega
      obtain ⟨A9, c9, rfl, _, _, _⟩ := own_form own
      go_wp2
      go_ret
      exact ⟨_, rfl, own_to own rfl (by rw [List.take_of_length_le (by rw [HL.out]; exact Nat.le_refl _)]), hn⟩
end Go.Proofs.YtpoelhnceebmkaaGreatDoor

namespace Go.Proofs.YtpoelhnceebmkaaGreatDoor
open Go Go.RowKit
set_option linter.unusedSimpArgs false
set_option linter.unusedVariables false

noncomputable abbrev RB : Value → Option (DataW Unit × List MemPlace) := plainElem Tryz.prog 4
theorem lawI : Maps.Keyed Tryz.prog 3 := Maps.int_keyed Tryz.underlying3
theorem zeroB (w : World) : (zeroValue 4).run Tryz.prog w = .ok (.bool false) w := by kernel_rfl
/-- A set of numbers, as a set of keys. -/
def inK (T : Nat → Bool) : Lit → Bool
  | .int .i64 x => decide (0 ≤ x) && T x.toNat
  | _ => false
theorem inK_mk (T : Nat → Bool) (k : Nat) : inK T (.int .i64 (k : Int)) = T k := by simp [inK]
theorem wfI {k : Nat} (h : k ≤ 4611686018427387904) : (Lit.int .i64 (k : Int)).wf = true := by
  exact WalkArith.wf_i64 ⟨by omega, by omega⟩
theorem keyI {k : Nat} (h : k ≤ 4611686018427387904) : keyOf Tryz.prog 3 (.int .i64 (k : Int)) = some (.int .i64 (k : Int)) := Maps.keyOf_int_mk Tryz.underlying3 (wfI h)
theorem RB_true : RB (.bool true) = some (.lit (.bool true), []) := plainElem_bool Tryz.underlying4 true
set_option maxRecDepth 100000 in
theorem RB_inv {v : Value} {z : DataW Unit × List MemPlace} (h : RB v = some z) : ∃ x, v = .bool x ∧ z = (.lit (.bool x), []) := by
  unfold RB plainElem at h
  rw [Tryz.underlying4] at h
  cases v <;> simp at h
  exact ⟨_, rfl, h.symm⟩
/-- What the map reads as. -/
def Desc (D : DataW Unit) (T : Nat → Bool) : Prop := (∀ kl, Maps.has D kl = inK T kl) ∧ ∀ kl z, Maps.has D kl = true → D.atKey kl z = .lit (.bool true)
theorem desc_none : Desc (.map []) (fun _ => false) := ⟨fun kl => by
  rw [Maps.has_eq]; unfold inK; split <;> simp, fun kl z h => by simp [Maps.has_eq] at h⟩
theorem desc_put {D : DataW Unit} {T : Nat → Bool} (hm : Maps.IsMap D) (h : Desc D T) (k : Nat) : Desc (D.put (.int .i64 (k : Int)) (.lit (.bool true))) (fun j => T j || decide (j = k)) := by
  have hI : WideAt.IsKeyLit (.int .i64 (k : Int)) := trivial
  refine ⟨fun kl => ?_, fun kl z hh => ?_⟩
  · by_cases e : kl = .int .i64 (k : Int)
    · subst e
      rw [Maps.has_put_same hm hI, inK_mk]; simp
    · rw [Maps.has_put_other e, h.1]
      unfold inK
      split
      · rename_i x
        by_cases hx : 0 ≤ x
        · have : ¬ x.toNat = k := fun e' => e (by congr 1; omega)
          simp [this]
        · simp [hx]
      · rfl
  · by_cases e : kl = .int .i64 (k : Int)
    · subst e
      rw [Maps.atKey_put_same hm hI]
    · rw [Maps.atKey_put_other e]
      rw [Maps.has_put_other e] at hh
      exact h.2 kl z hh
/-- Block b is a map of at most n entries, whose keys are the numbers of T, each with 'true'. -/
def IMap (w : World) (b n : Nat) (T : Nat → Bool) : Prop := ∃ D, w.ownsMap Tryz.prog 3 RB b n D ∧ Desc D T
section
variable {w w' : World} {b n : Nat} {T : Nat → Bool}
theorem IMap.made (w : World) : IMap (w.alloc (.map #[] 0)) w.heap.size 0 (fun _ => false) := ⟨_, World.ownsMap_made w _ _ _, desc_none⟩
theorem IMap.kept {row : Option Nat} (h : IMap w b n T) (hg : w.grownBy w' row) (hne : some b ≠ row) : IMap w' b n T := let ⟨D, h1, h2⟩ := h; ⟨D, h1.kept hg hne, h2⟩
theorem IMap.new (h : IMap w b n T) (hn : New w w') : IMap w' b n T := h.kept (hn.grown_ none) (by simp)
theorem IMap.alloc (h : IMap w b n T) (o : Obj) : IMap (w.alloc o) b n T := h.new ((New.refl w).alloc o)
theorem IMap.lt (h : IMap w b n T) : b < w.heap.size := let ⟨_, h1, _⟩ := h; h1.lt
set_option maxRecDepth 100000 in
theorem IMap.look (h : IMap w b n T) {k : Nat} (hk : k ≤ 4611686018427387904) : (Instr.lookup 113 (.map (some b)) (.int .i64 (k : Int)) false).run Tryz.prog w = .ok (.bool (T k)) w := by
  obtain ⟨D, hown, hd⟩ := h
  obtain ⟨v, ps, hrun, hv⟩ := hown.lookup lawI Tryz.underlying113 (zeroB w) (plainElem_bool Tryz.underlying4 false) (keyI hk)
  obtain ⟨x, rfl, hx⟩ := RB_inv hv
  simp only [Prod.mk.injEq] at hx
  have h1 := hd.1 (.int .i64 (k : Int))
  rw [inK_mk] at h1
  have : x = T k := by
    cases hT : T k
    · rw [hT] at h1
      have := Maps.atKey_of_not_has h1 (.lit (.bool false))
      rw [this] at hx
      injection hx.1 with e; injection e with e; exact e.symm
    · rw [hT] at h1
      have := hd.2 _ (.lit (.bool false)) h1
      rw [this] at hx
      injection hx.1 with e; injection e with e; exact e.symm
  rw [← this]
  exact hrun
theorem IMap.put (h : IMap w b n T) (hn : n < maxLen) {k : Nat} (hk : k ≤ 4611686018427387904) : ∃ w', (Instr.mapUpdate 113 (.map (some b)) (.int .i64 (k : Int)) (.bool true)).run Tryz.prog w = .ok () w' ∧ IMap w' b (n + 1) (fun j => T j || decide (j = k)) ∧ w.grownBy w' (some b) := by
  obtain ⟨D, hown, hd⟩ := h
  obtain ⟨w', r1, r2, r3⟩ := hown.update lawI Tryz.underlying113 hn (keyI hk) RB_true
  exact ⟨w', r1, ⟨_, r2, desc_put hown.isMap hd k⟩, r3⟩
end

/-- A loop over the map: the keys of L are still to come. -/
def IRng (w : World) (b r n : Nat) (T L : Nat → Bool) (cnt : Nat) : Prop := ∃ D left, w.ranges Tryz.prog 3 RB b r n D left cnt ∧ Desc D T ∧ ∀ kl, left kl = inK L kl
section
variable {w w' : World} {b r n cnt : Nat} {T L : Nat → Bool}
theorem IRng.left_eq (h : IRng w b r n T L cnt) : w.rangeLeft b r = cnt := let ⟨_, _, h1, _⟩ := h; h1.left_eq
theorem IRng.lt (h : IRng w b r n T L cnt) : r < w.heap.size := let ⟨_, _, h1, _⟩ := h; h1.lt
theorem IRng.kept {row : Option Nat} (h : IRng w b r n T L cnt) (hg : w.grownBy w' row) (hb : some b ≠ row) (hr : some r ≠ row) : IRng w' b r n T L cnt :=
  let ⟨D, left, h1, h2⟩ := h; ⟨D, left, h1.kept hg hb hr, h2⟩
theorem IRng.new (h : IRng w b r n T L cnt) (hn : New w w') : IRng w' b r n T L cnt := h.kept (hn.grown_ none) (by simp) (by simp)
theorem IRng.owns (h : IRng w b r n T L cnt) : IMap w b n T := let ⟨D, _, h1, h2, _⟩ := h; ⟨D, h1.owns, h2⟩
end

section
variable (w : World) {ops : Array Oper} {rest : List Oper} {o : Oper} {a : Act} {Q : Exit → Act → World → Prop}
theorem wpList_iinsert (hg : o.guard = none) (m x v : Operand) (hop : o.op = Op.insert 113 m x v ∨ o.op = Op.mapUpdate 113 m x v) (b n : Nat) (T : Nat → Bool) (hm : a.eval m = .map (some b)) (h : IMap w b n T) (hn : n < maxLen) (k : Nat) (hk : k ≤ 4611686018427387904)
    (hx : a.eval x = .int .i64 (k : Int)) (hv : a.eval v = .bool true) (hK : ∀ w', IMap w' b (n + 1) (fun j => T j || decide (j = k)) → w.grownBy w' (some b) → wpList Tryz.prog ops Q rest (a.put o.dst undef) w') :
    wpList Tryz.prog ops Q (o :: rest) a w := by
  refine wpList_plain hg fun K' hK' => ?_
  obtain ⟨w', hrun, r1, r2⟩ := h.put hn hk
  unfold Oper.wp
  rcases hop with hop | hop
  · simp [execOp, hop, hm, hx, hv, hrun, Result.andThen]
    exact hK' _ _ (hK w' r1 r2)
  · simp [execOp, hop, hm, hx, hv, hrun, Result.andThen]
    exact hK' _ _ (hK w' r1 r2)
theorem wpList_ilook (hg : o.guard = none) (m x : Operand) (hop : o.op = Op.lookup 113 m x false) (b n : Nat) (T : Nat → Bool) (hm : a.eval m = .map (some b)) (h : IMap w b n T) (k : Nat) (hk : k ≤ 4611686018427387904)
    (bb : Bool) (hb : T k = bb) (hx : a.eval x = .int .i64 (k : Int)) (hK : wpList Tryz.prog ops Q rest (a.put o.dst (.bool bb)) w) :
    wpList Tryz.prog ops Q (o :: rest) a w := by
  refine wpList_plain hg fun K' hK' => ?_
  have hrun := h.look hk
  rw [hb] at hrun
  unfold Oper.wp
  simp [execOp, hop, hm, hx, hrun, Result.andThen]
  exact hK' _ _ hK
theorem wpList_irange (hg : o.guard = none) (m : Operand) (hop : o.op = Op.range 113 m) (b n : Nat) (T : Nat → Bool) (hm : a.eval m = .map (some b)) (h : IMap w b n T)
    (hK : ∀ w' cnt, IRng w' b w.heap.size n T T cnt → w.grownBy w' none → w'.heap.size = w.heap.size + 1 → wpList Tryz.prog ops Q rest (a.put o.dst (.pointer (some ⟨w.heap.size, 0, none⟩))) w') :
    wpList Tryz.prog ops Q (o :: rest) a w := by
  obtain ⟨D, hown, hd⟩ := h
  refine wpList_range_own w hg m 113 hop 3 4 lawI Tryz.underlying113 RB b n D hm hown (fun w' hr hg hs => hK w' _ ⟨D, _, hr, hd, hd.1⟩ hg hs)
set_option maxRecDepth 100000 in
theorem wpList_inext (hg : o.guard = none) (it : Operand) (hop : o.op = Op.next it false) (b r n : Nat) (T L : Nat → Bool) (cnt : Nat)
    (hit : a.eval it = .pointer (some ⟨r, 0, none⟩)) (h : IRng w b r n T L cnt)
    (hDone : (∀ k, L k = false) → wpList Tryz.prog ops Q rest (a.put o.dst (.tuple #[.bool false])) w)
    (hMore : ∀ (k : Nat) (w' : World) (cnt' : Nat), T k = true → L k = true → IRng w' b r n T (fun j => L j && !decide (j = k)) cnt' → cnt' < cnt →
      w.grownBy w' (some r) → w'.heap.size = w.heap.size → (Instr.entry (.pointer (some ⟨r, 0, none⟩))).run Tryz.prog w' = .ok (.tuple #[.int .i64 (k : Int), .bool true]) w' → wpList Tryz.prog ops Q rest (a.put o.dst (.tuple #[.bool true, .int .i64 (k : Int), .bool true])) w') :
    wpList Tryz.prog ops Q (o :: rest) a w := by
  obtain ⟨D, left, hr, hd, hl⟩ := h
  refine wpList_next_ranges w hg it hop 3 lawI RB (Value.int .i64) Value.bool (fun key kl hkey => by obtain ⟨x, rfl, _⟩ := Maps.keyOf_int_inv Tryz.underlying3 hkey; exact ⟨x, rfl⟩) (fun v y hv => by obtain ⟨c, rfl, _⟩ := RB_inv hv; exact ⟨c, rfl⟩)
    b r n D left cnt hit hr (fun _ h0 => hDone (fun k => by have := h0 (.int .i64 (k : Int)); rw [hl, inK_mk] at this; exact this)) (fun x c kl y w' cnt' hkey hlk hv hat hrg hlt hgr hsz hen => ?_)
  obtain ⟨x', ex, rfl, hwx⟩ := Maps.keyOf_int_inv Tryz.underlying3 hkey
  cases ex
  have hlk' := hlk
  rw [hl] at hlk'
  unfold inK at hlk'
  simp only [Bool.and_eq_true, decide_eq_true_eq] at hlk'
  obtain ⟨hx0, hLx⟩ := hlk'
  obtain ⟨k, rfl⟩ : ∃ k : Nat, x = (k : Int) := ⟨x.toNat, by omega⟩
  rw [Int.toNat_natCast] at hLx
  have hhas := Maps.has_true_of_atKey hat
  have hT : T k = true := by have := hd.1 (.int .i64 (k : Int)); rw [hhas, inK_mk] at this; exact this.symm
  obtain ⟨c', ec, hy⟩ := RB_inv hv
  injection ec with ec
  subst ec
  have hc : c = true := by
    have h1 := hd.2 _ (.lit (.bool true)) hhas
    rw [hat, hy] at h1
    injection h1 with e; injection e
  subst hc
  refine hMore k w' cnt' hT hLx ⟨D, _, hrg, hd, fun kl => ?_⟩ hlt hgr hsz hen
  rw [hl]
  by_cases e : kl = .int .i64 (k : Int)
  · subst e
    rw [inK_mk, inK_mk, WideAt.sameKey_self (a := .int .i64 (k : Int)) trivial]; simp
  · rw [Maps.sameKey_ne e]
    unfold inK
    split
    · rename_i x
      by_cases hx : 0 ≤ x
      · have : ¬ x.toNat = k := fun e' => e (by congr 1; omega)
        simp [this]
      · simp [hx]
    · rfl
end

/-! ### how many numbers up to M a set has -/
def cntS (T : Nat → Bool) (M : Nat) : Nat := (List.range (M + 1)).countP T
theorem cntS_le (T : Nat → Bool) (M : Nat) : cntS T M ≤ M + 1 := by
  have := List.countP_le_length (p := T) (l := List.range (M + 1)); simpa [cntS] using this
theorem cntS_add (T : Nat → Bool) {k : Nat} (h : T k = false) : ∀ m, ((List.range m).countP fun j => T j || decide (j = k)) = (List.range m).countP T + if k < m then 1 else 0
  | 0 => by simp
  | m + 1 => by
    rw [List.range_succ, List.countP_append, List.countP_append, cntS_add T h m]
    by_cases e : m = k
    · subst e
      simp [h]
    · by_cases hk : k < m
      · have : k < m + 1 := by omega
        cases hT : T m <;> simp [e, hk, this, hT]
      · have : ¬ k < m + 1 := by omega
        cases hT : T m <;> simp [e, hk, this, hT]
theorem cntS_put (T : Nat → Bool) {k M : Nat} (h : T k = false) (hk : k ≤ M) : cntS (fun j => T j || decide (j = k)) M = cntS T M + 1 := by
  rw [cntS, cntS_add T h, if_pos (by omega)]; rfl

end Go.Proofs.YtpoelhnceebmkaaGreatDoor

namespace Go.Proofs.YtpoelhnceebmkaaGreatDoor
open Go Go.RowKit
set_option linter.unusedSimpArgs false
set_option linter.unusedVariables false

theorem pCells_cons (p : Pt) (r : List Pt) (v : Value) (vs : List Value) : (pCells (p :: r) (v :: vs)).drop 2 = pCells r vs := rfl
theorem PRd.tail {w : World} {A : Option Addr} {n c : Nat} {p0 : Pt} {r : List Pt} (h : PRd w A (n + 1) (p0 :: r)) (hc : n + 1 ≤ c) : PRd w (if c = 1 then A else A.map (·.add (1 * 2))) n r := by
  obtain ⟨h0, vs, h1, hr, hw⟩ := h
  cases vs with
  | nil => simp at h1
  | cons v vs =>
    have hr2 := hr.cut (k := 1) (cap := c) (by omega) hc
    rw [show 1 * 2 = 2 from rfl, pCells_cons] at hr2
    refine ⟨by simpa using h0, vs, by simpa using h1, hr2, fun i hi hi' => ?_⟩
    exact hw (i + 1) (by simpa using hi) (by simpa using hi')
theorem slice_tail (A : Option Addr) (n c : Nat) (h1 : 1 ≤ n) (w : World) : (Instr.slice 23 (.slice A n c) (some (.int .i64 1)) none none).run Tryz.prog w = .ok (.slice (if c = 1 then A else A.map (·.add (1 * 2))) (n - 1) (c - 1)) w := by
  have hu : Tryz.prog.underlying 23 = some (.slice (Tryz.prog.elem 23)) := by kernel_rfl
  have hz : (Go.sizeOf (Tryz.prog.elem 23)).run Tryz.prog w = .ok 2 w := by kernel_rfl
  rw [run_slice_l w 23 A n c hu .i64 1 (by omega) (by omega), hz]
  rfl

/-! ### the form's ends -/
/-- From the ends T over a hole of at most h words and the words ws. -/
def stepE (ws words : List ByteArray) (h : Nat) (T : Nat → Bool) (j : Nat) : Bool :=
  decide (ws.length ≤ j) && standsV ws words (j - ws.length) && (List.range (h + 1)).any fun d => decide (d ≤ j - ws.length) && T (j - ws.length - d)
def endsV (words : List ByteArray) : List Pt → (Nat → Bool) → Nat → Bool
  | [], T => T
  | p :: r, T => endsV words r (stepE p.2 words p.1.toNat T)
def leastV (T : Nat → Bool) (M : Nat) : Option Nat := (List.range (M + 1)).find? T
def matchV (ps : List Pt) (words : List ByteArray) (i : Nat) : Option Nat :=
  match ps with
  | [] => none
  | p :: r => if standsV p.2 words i then leastV (endsV words r fun j => decide (j = i + p.2.length)) words.length else none

theorem standsV_le {part words : List ByteArray} {i : Nat} (h : standsV part words i = true) : i + part.length ≤ words.length := by
  simp only [standsV, Bool.and_eq_true, decide_eq_true_eq] at h; exact h.1
theorem stepE_le {ws words : List ByteArray} {h : Nat} {T : Nat → Bool} {j : Nat} (hj : stepE ws words h T j = true) : j ≤ words.length := by
  simp only [stepE, Bool.and_eq_true, decide_eq_true_eq] at hj
  have := standsV_le hj.1.2; omega
theorem stepE_congr {ws words : List ByteArray} {h : Nat} {T T' : Nat → Bool} (e : ∀ k, T k = T' k) : stepE ws words h T = stepE ws words h T' := by rw [show T = T' from funext e]

/-- The ends while the loop over the holes of e is under way: up to i all are in. -/
def partE (ws words : List ByteArray) (h : Nat) (T : Nat → Bool) (e i : Nat) (j : Nat) : Bool :=
  stepE ws words h T j || (decide (ws.length ≤ j) && standsV ws words (j - ws.length) && decide (e ≤ j - ws.length) && decide (j - ws.length < i))
theorem partE_start (ws words : List ByteArray) (h : Nat) (T : Nat → Bool) (e : Nat) : partE ws words h T e e = stepE ws words h T := by
  funext j
  unfold partE
  by_cases h1 : e ≤ j - ws.length
  · have : ¬ j - ws.length < e := by omega
    simp [this]
  · simp [h1]
theorem partE_le {ws words : List ByteArray} {h : Nat} {T : Nat → Bool} {e i j : Nat} (hj : partE ws words h T e i j = true) : j ≤ words.length := by
  unfold partE at hj
  rw [Bool.or_eq_true] at hj
  rcases hj with hj | hj
  · exact stepE_le hj
  · simp only [Bool.and_eq_true, decide_eq_true_eq] at hj
    have := standsV_le hj.1.1.2; omega
theorem partE_add (ws words : List ByteArray) (h : Nat) (T : Nat → Bool) (e i : Nat) (hs : standsV ws words i = true) (he : e ≤ i) :
    (fun j => partE ws words h T e i j || decide (j = i + ws.length)) = partE ws words h T e (i + 1) := by
  funext j
  unfold partE
  rw [Bool.or_assoc]
  congr 1
  by_cases h1 : j = i + ws.length
  · subst h1
    have e1 : i + ws.length - ws.length = i := by omega
    simp [e1, hs, he]
  · by_cases h2 : ws.length ≤ j
    · have : (j - ws.length < i) ↔ (j - ws.length < i + 1) := by omega
      simp [h1, this]
    · simp [h1, h2]
theorem partE_skip (ws words : List ByteArray) (h : Nat) (T : Nat → Bool) (e i : Nat) (hs : standsV ws words i = false) :
    partE ws words h T e i = partE ws words h T e (i + 1) := by
  funext j
  unfold partE
  congr 1
  by_cases h1 : ws.length ≤ j ∧ j - ws.length = i
  · rw [h1.2, hs]; simp
  · by_cases h2 : ws.length ≤ j
    · have : (j - ws.length < i) ↔ (j - ws.length < i + 1) := by omega
      simp [this]
    · simp [h2]
theorem partE_had (ws words : List ByteArray) (h : Nat) (T : Nat → Bool) (e i : Nat) (hs : partE ws words h T e i (i + ws.length) = true) :
    partE ws words h T e i = partE ws words h T e (i + 1) := by
  have e1 : i + ws.length - ws.length = i := by omega
  cases hst : standsV ws words i
  · exact partE_skip ws words h T e i hst
  · funext j
    by_cases h1 : j = i + ws.length
    · subst h1
      rw [hs]
      unfold partE at hs ⊢
      rw [Bool.or_eq_true] at hs
      rcases hs with hs | hs
      · rw [hs]; rfl
      · rw [e1] at hs
        have : ¬ i < i := by omega
        simp [this] at hs
    · unfold partE
      congr 1
      by_cases h2 : ws.length ≤ j
      · have : (j - ws.length < i) ↔ (j - ws.length < i + 1) := by omega
        simp [this]
      · simp [h2]
theorem partE_end (ws words : List ByteArray) (h : Nat) (T L : Nat → Bool) (e : Nat) (hT : T e = true) (hL : L e = true) :
    partE ws words h (fun j => T j && !L j) e (e + h + 1) = stepE ws words h (fun j => T j && !(L j && !decide (j = e))) := by
  funext j
  unfold partE stepE
  by_cases h1 : ws.length ≤ j
  · cases hst : standsV ws words (j - ws.length)
    · simp
    · simp only [h1, decide_true, Bool.true_and]
      rw [Bool.eq_iff_iff]
      simp only [Bool.or_eq_true, Bool.and_eq_true, decide_eq_true_eq, List.any_eq_true, List.mem_range, Bool.not_eq_true', Bool.and_eq_false_iff, Bool.not_eq_false']
      generalize j - ws.length = q
      constructor
      · rintro (⟨d, hd, hdq, h2, h3⟩ | ⟨h2, h3⟩)
        · exact ⟨d, hd, hdq, h2, Or.inl h3⟩
        · refine ⟨q - e, by omega, by omega, ?_⟩
          rw [show q - (q - e) = e by omega]
          exact ⟨hT, Or.inr (by simp)⟩
      · rintro ⟨d, hd, hdq, h2, h3⟩
        rcases h3 with h3 | h3
        · exact Or.inl ⟨d, hd, hdq, h2, h3⟩
        · have : q - d = e := by simpa using h3
          exact Or.inr ⟨by omega, by omega⟩
  · simp [h1]
/-- What the loop for the least end has so far. -/
def LstI (T L : Nat → Bool) (x : Int) : Prop := (x = -1 ∧ ∀ j, T j = true → L j = true) ∨ ∃ m : Nat, x = (m : Int) ∧ T m = true ∧ ∀ j, T j = true → L j = false → m ≤ j
theorem leastV_of {T : Nat → Bool} {M : Nat} (hM : ∀ j, T j = true → j ≤ M) {x : Int} (h : LstI T (fun _ => false) x) :
    (x = -1 ∧ leastV T M = none) ∨ ∃ m : Nat, x = (m : Int) ∧ leastV T M = some m ∧ m ≤ M := by
  rcases h with ⟨rfl, h⟩ | ⟨m, rfl, h1, h2⟩
  · left
    refine ⟨rfl, ?_⟩
    unfold leastV
    rw [List.find?_eq_none]
    intro j _ hj
    have := h j hj
    cases this
  · right
    refine ⟨m, rfl, ?_, hM m h1⟩
    unfold leastV
    rw [List.find?_range_eq_some]
    refine ⟨h1, ?_, fun j hj => ?_⟩
    · have := hM m h1; simp; omega
    · cases hT : T j
      · rfl
      · have := h2 j hT rfl; omega
end Go.Proofs.YtpoelhnceebmkaaGreatDoor

