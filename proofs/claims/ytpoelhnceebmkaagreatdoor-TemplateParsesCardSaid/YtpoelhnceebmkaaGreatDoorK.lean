/- template.Match. No conditions but the sizes' own. -/
import Derived.Test.YtpoelhnceebmkaaGreatDoorJ
namespace Go.Proofs.YtpoelhnceebmkaaGreatDoor
open Go Go.RowKit
set_option linter.unusedSimpArgs false
set_option linter.unusedVariables false

theorem chk_ok : ∀ (ps : List Pt) (i : Nat), 0 < i → chk i ps = 0 → ∀ p ∈ ps, 1 ≤ p.1 ∧ p.1 ≤ 99 ∧ p.2 ≠ [] ∧ allOk p.2 = true
  | [], _, _, _, p, hp => by cases hp
  | q :: r, i, hi, h, p, hp => by
    rw [chk] at h
    split at h
    · cases h
    · rename_i hb
      split at h
      · cases h
      · rename_i hne
        split at h
        · rename_i hok
          rcases List.mem_cons.1 hp with rfl | hp
          · have hb' : badH i p.1 = false := by simpa using hb
            rw [badH, if_neg (by omega)] at hb'
            simp only [Bool.or_eq_false_iff, decide_eq_false_iff_not] at hb'
            exact ⟨by omega, by omega, hne, hok⟩
          · exact chk_ok r (i + 1) (by omega) h p hp
        · cases h
theorem check_ok {ps : List Pt} (h : checkV ps = 0) : ∃ p0 r, ps = p0 :: r ∧ p0.1 = 0 ∧ p0.2 ≠ [] ∧ allOk p0.2 = true ∧ (∀ p ∈ r, 1 ≤ p.1 ∧ p.1 ≤ 99 ∧ p.2 ≠ [] ∧ allOk p.2 = true) ∧ total ps ≤ 256 := by
  cases ps with
  | nil => cases h
  | cons p0 r =>
    unfold checkV at h
    rw [if_neg (by simp)] at h
    split at h
    · cases h
    · rename_i ht
      rw [chk] at h
      split at h
      · cases h
      · rename_i hb
        split at h
        · cases h
        · rename_i hne
          split at h
          · rename_i hok
            have hb' : badH 0 p0.1 = false := by simpa using hb
            rw [badH, if_pos rfl] at hb'
            exact ⟨p0, r, rfl, by simpa using hb', hne, hok, chk_ok r 1 (by omega) h, by omega⟩
          · cases h

def matchT (ps : List Pt) (words : List ByteArray) (a : Int) : Option Nat := if checkV ps = 0 ∧ 0 ≤ a ∧ a < words.length then matchV ps words a.toNat else none
theorem matchT_no {ps : List Pt} {words : List ByteArray} {a : Int} (h : ¬ (checkV ps = 0 ∧ 0 ≤ a ∧ a < words.length)) : matchT ps words a = none := if_neg h

set_option maxRecDepth 100000 in
set_option maxHeartbeats 4000000 in
theorem matchT_any (v v' : Value) (nm : ByteArray) (ps : List Pt) (words : List ByteArray) (a : Int) (w : World) (h : TRd w v nm ps) (h' : WRd w v' words) (hs : SmT ps) (hm : words.length ≤ 100000) :
    Calls Tryz.prog 25 #[v, v', .int .i64 a] w fun e w' => e = .returned (.tuple #[.int .i64 ((matchT ps words a).getD 0 : Nat), .bool (matchT ps words a).isSome]) ∧ New w w' := by
  obtain ⟨nv, pv, rfl⟩ : ∃ x y, v = .agg #[x, y] := by obtain ⟨A, c, rfl, _⟩ := h; exact ⟨_, _, rfl⟩
  have hnS : New w (w.alloc (.cells #[nv, pv] 25)) := (New.refl w).alloc _
  have B0 := Blk.made w 25 #[nv, pv]
  have b1 := B0.cell' 0 _ rfl
  have b2 := B0.cell' 1 _ rfl
  have HC := Lib.hid (check_any _ nm ps _ (h.new hnS) hs)
  have HM : Hid (matchT ps words a = if checkV ps = 0 ∧ 0 ≤ a ∧ a < words.length then matchV ps words a.toNat else none) := Lib.hid rfl
  have HKO := Lib.hid (fun h => check_ok (ps := ps) h)
  generalize matchT ps words a = mv at *
  generalize checkV ps = ck at *
  by_cases hck : ck = 0
  · subst hck
    by_cases ha : 0 ≤ a
    · obtain ⟨i, rfl⟩ : ∃ i : Nat, a = (i : Int) := ⟨a.toNat, by omega⟩
      obtain ⟨A', c', rfl, hc1', hc2', hr'⟩ := h'
      have a1 : ¬ (i : Int) < 0 := by omega
      by_cases hi : i < words.length
      · have hmv : mv = matchV ps words i := by have := HM.out; rw [if_pos (by omega), Int.toNat_natCast] at this; exact this
        obtain ⟨p0, r, rfl, _, _, _, hh, _⟩ := HKO.out rfl
        have HV := Lib.hid hmv
        have a2 : ¬ (words.length : Int) ≤ (i : Int) := by omega
        have HX := Lib.hid (fun w h h2 => match_any (.agg #[nv, pv]) (.slice A' words.length c') nm p0 r words i w h h2 hs (fun p hp => ⟨by have := (hh p hp).1; omega, (hh p hp).2.1⟩) hm (by omega))
        have HW : Hid (WRd w (.slice A' words.length c') words) := Lib.hid ⟨A', c', rfl, hc1', hc2', hr'⟩
        have HT := Lib.hid h
        rw [← hmv] at HX
        clear hmv hh hr' h
        go_enter Tryz.func25, Tryz.ntmps25
        go_wp2_with (first
          | (go_at_call 55; refine (HX.out _ (HT.out.new (hnS.trans hn1)) (HW.out.new (hnS.trans hn1))).mono ?_; rintro e w2 ⟨rfl, hn2⟩)
          | (go_at_call 21; refine HC.out.mono ?_; rintro e w1 ⟨rfl, hn1⟩; have k1 := (B0.new hn1).cell' 0 _ rfl; have k2 := (B0.new hn1).cell' 1 _ rfl))
        exact bodyPost_ret (v := .tuple #[.int .i64 (mv.getD 0 : Nat), .bool mv.isSome]) (by simp [results, Tryz.results25, go_sem]) rfl ⟨rfl, (hnS.trans hn1).trans hn2⟩
      · have hmv : mv = none := by have := HM.out; rw [if_neg (by omega)] at this; exact this
        subst hmv
        have a2 : (words.length : Int) ≤ (i : Int) := by omega
        go_enter Tryz.func25, Tryz.ntmps25
        go_wp2_with (go_at_call 21; refine HC.out.mono ?_; rintro e w1 ⟨rfl, hn1⟩)
        exact bodyPost_ret (v := .tuple #[.int .i64 0, .bool false]) (by simp [results, Tryz.results25, go_sem]) rfl ⟨rfl, hnS.trans hn1⟩
    · have hmv : mv = none := by have := HM.out; rw [if_neg (by omega)] at this; exact this
      subst hmv
      have a1 : a < 0 := by omega
      go_enter Tryz.func25, Tryz.ntmps25
      go_wp2_with (go_at_call 21; refine HC.out.mono ?_; rintro e w1 ⟨rfl, hn1⟩)
      exact bodyPost_ret (v := .tuple #[.int .i64 0, .bool false]) (by simp [results, Tryz.results25, go_sem]) rfl ⟨rfl, hnS.trans hn1⟩
  · have hmv : mv = none := by have := HM.out; rw [if_neg (by omega)] at this; exact this
    subst hmv
    have c1 : (ck == 0) = false := beq_eq_false_iff_ne.2 hck
    go_enter Tryz.func25, Tryz.ntmps25
    go_wp2_with (go_at_call 21; refine HC.out.mono ?_; rintro e w1 ⟨rfl, hn1⟩)
    exact bodyPost_ret (v := .tuple #[.int .i64 0, .bool false]) (by simp [results, Tryz.results25, go_sem]) rfl ⟨rfl, hnS.trans hn1⟩
end Go.Proofs.YtpoelhnceebmkaaGreatDoor
