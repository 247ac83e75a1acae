/- slices.Equal at Match; the closures over Few. No conditions but the lists' lengths. -/
import Derived.Test.YtpoelhnceebmkaaGreatDoorE7
namespace Go.Proofs.YtpoelhnceebmkaaGreatDoor
open Go Go.RowKit Go.Shelf
set_option linter.unusedSimpArgs false
set_option linter.unusedVariables false

theorem mCells_at : ∀ (l : List Fd) (k : Nat) (h : k < l.length), (mCells l)[k * 3]? = some (.int .i64 (l[k].1 : Nat)) ∧ (mCells l)[k * 3 + 1]? = some (.int .i64 (l[k].2.1 : Nat)) ∧ (mCells l)[k * 3 + 2]? = some (.int .i64 (l[k].2.2 : Nat))
  | [], _, h => by simp at h
  | x :: l, 0, _ => ⟨rfl, rfl, rfl⟩
  | x :: l, k + 1, h => by
    have ih := mCells_at l k (by simpa using h)
    have e1 : (k + 1) * 3 = k * 3 + 3 := by omega
    have e2 : mCells (x :: l) = .int .i64 x.1 :: .int .i64 x.2.1 :: .int .i64 x.2.2 :: mCells l := rfl
    rw [e1, e2]
    simpa using ih
set_option maxRecDepth 100000 in
set_option maxHeartbeats 2000000 in
theorem eqMt_same (A A' : Option Addr) (c c' n : Nat) (l : List Fd) (hl : l.length = n) (w : World) (hr : Rd w 3 A n (mCells l)) (hr' : Rd w 3 A' n (mCells l)) (hz : n ≤ 4294967295) :
    Calls Tryz.prog 27 #[.slice A n c, .slice A' n c'] w fun e w' => e = .returned (.bool true) ∧ New w w' := by
  have HL := Lib.hid hl
  clear hl
  go_enter Tryz.func27, Tryz.ntmps27
  go_wp2
  go_loopw [13] (fun v5 wr => ∃ i : Nat, v5 = .int .i64 i ∧ i ≤ n ∧ New w wr) (fun v5 _ => n - (intOf v5).toNat)
  case atStart => exact ⟨0, rfl, by omega, New.refl _⟩
  case round =>
    obtain ⟨i, rfl, hi, hn⟩ := hrel
    by_cases hlt : i < n
    · obtain ⟨bk, o, rfl, _, hc⟩ := (hr.below hn).2 (by omega)
      obtain ⟨bk', o', rfl, _, hc'⟩ := (hr'.below hn).2 (by omega)
      have hlt2 : i < l.length := by rw [HL.out]; exact hlt
      obtain ⟨q1, q2, q3⟩ := mCells_at l i hlt2
      have d1 := hc _ _ q1
      have d2 : wr.cell? ⟨bk, o + i * 3 + 1, none⟩ = some (.int .i64 (l[i].2.1 : Nat)) := hc _ _ q2
      have d3 : wr.cell? ⟨bk, o + i * 3 + 2, none⟩ = some (.int .i64 (l[i].2.2 : Nat)) := hc _ _ q3
      have d4 := hc' _ _ q1
      have d5 : wr.cell? ⟨bk', o' + i * 3 + 1, none⟩ = some (.int .i64 (l[i].2.1 : Nat)) := hc' _ _ q2
      have d6 : wr.cell? ⟨bk', o' + i * 3 + 2, none⟩ = some (.int .i64 (l[i].2.2 : Nat)) := hc' _ _ q3
      have i0 : (0 : Int) ≤ (i : Int) := by omega
      have i1 : (i : Int) < (n : Int) := by omega
      clear q1 q2 q3 hc hc'
      generalize l[i] = x at *
      go_wp2_with (fail)
      go_quiet (fail)
      go_wp2
      go_roundw
      case rel => exact ⟨i + 1, by go_num, by omega, hn.drewN nq⟩
      case measure => simp [intOf]; omega
    · obtain rfl : i = n := by omega
      go_wp2
      go_ret
      exact ⟨rfl, hn⟩

def optI : Option Nat → Int
  | some j => (j : Int)
  | none => -1
theorem rmatch_opt (ps : List Pt) (words : List ByteArray) (a : Int) : rmatchV ps words a = optI (matchT ps words a) := by
  unfold rmatchV
  cases matchT ps words a <;> rfl
def TOk (t : Tm) : Prop := t.2.length ≤ 10 ∧ ∀ p ∈ t.2, p.2.length ≤ 257
theorem TOk.sm {t : Tm} (h : TOk t) : SmT t.2 := ⟨by have := h.1; omega, fun p hp => by have := h.2 p hp; omega⟩
set_option maxRecDepth 100000 in
set_option maxHeartbeats 1000000 in
theorem notFew24 (v : Value) (nm : ByteArray) (ps : List Pt) (w : World) (h : TRd w v nm ps) :
    Calls Tryz.prog 24 #[v] w fun e w' => (∃ b, e = .returned (.bool (!b)) ∧ FewP nm ps b) ∧ New w w' := by
  obtain ⟨A, c, rfl, _⟩ := id h
  have HF := Lib.hid (fun w h => few_any (.agg #[.string nm, .slice A ps.length c]) nm ps w h)
  have hnS : New w (w.alloc (.cells #[.string nm, .slice A ps.length c] 25)) := (New.refl w).alloc _
  have HT2 := Lib.hid (h.new hnS)
  obtain ⟨n, hn⟩ : ∃ k, ps.length = k := ⟨_, rfl⟩
  rw [hn] at HF hnS HT2 ⊢
  clear h hn
  go_enter Tryz.func24, Tryz.ntmps24
  go_wp2_with (go_at_call 13; refine (HF.out _ HT2.out).mono ?_; rintro e w1 ⟨⟨b, rfl, hb⟩, hn1⟩; have HB := Lib.hid hb; clear hb)
  go_ret
  exact ⟨⟨b, rfl, HB.out⟩, hnS.trans hn1⟩

set_option maxRecDepth 100000 in
set_option maxHeartbeats 1000000 in
theorem indexT24 (A : Option Addr) (c n : Nat) (l : List Tm) (w : World) (hr : TsRd w A n l) (hz : n ≤ 4294967295) :
    Calls Tryz.prog 54 #[.slice A n c, .func (.func 24) #[] #[]] w fun e w' => (∃ i : Int, e = .returned (.int .i64 i) ∧ (i < 0 → ∀ t ∈ l, TOk t)) ∧ New w w' := by
  have HL := Lib.hid hr.1
  have HR := Lib.hid hr
  clear hr
  go_enter Tryz.func54, Tryz.ntmps54
  go_wp2
  go_loopw [8] (fun v wr => ∃ k : Nat, k ≤ n ∧ v = .int .i64 k ∧ New w wr ∧ Hid (∀ t ∈ l.take k, TOk t)) (fun v _ => n - (intOf v).toNat)
  case atStart => exact ⟨0, Nat.zero_le _, rfl, New.refl _, Lib.hid (by simp)⟩
  case round =>
    obtain ⟨k, hk, rfl, hn, H⟩ := hrel
    by_cases hlt : k < n
    · obtain ⟨bk, o, vt, t, rfl, ht, d1, d2, htr⟩ := (HR.out.new hn).at hlt
      obtain ⟨At, ct, rfl⟩ := TRd.form htr
      have HF := Lib.hid (fun w h => notFew24 (.agg #[.string t.1, .slice At t.2.length ct]) t.1 t.2 w h)
      have HT := Lib.hid htr
      have i0 : (0 : Int) ≤ (k : Int) := by omega
      have i1 : (k : Int) < (n : Int) := by omega
      have HTK : Hid (∀ q ∈ l.take (k + 1), q ∈ l.take k ∨ q = t) := Lib.hid (fun q hq => by
        obtain ⟨hi, he⟩ := List.getElem?_eq_some_iff.1 ht
        rw [List.take_succ_eq_append_getElem hi, List.mem_append, he] at hq
        simpa using hq)
      obtain ⟨nt, hnt⟩ : ∃ k, t.2.length = k := ⟨_, rfl⟩
      rw [hnt] at d2 HF HT
      clear htr ht
      go_wp2_with (go_at_call 24; refine (HF.out _ HT.out).mono ?_; rintro e w' ⟨⟨b, rfl, hb⟩, hn2⟩; have HB := Lib.hid hb; clear hb)
      · go_ret
        exact ⟨⟨k, rfl, fun h => by omega⟩, hn.trans hn2⟩
      · have hbt : b = true := by simpa using (by assumption : (!b) = false)
        subst hbt
        have HOK := Lib.hid (HB.out.1 rfl)
        go_roundw
        case rel => exact ⟨k + 1, by omega, by go_num, hn.trans hn2, Lib.hid (fun q hq => by
          rcases HTK.out q hq with h | rfl
          · exact H.out q h
          · exact HOK.out)⟩
        case measure => simp [intOf]; omega
    · obtain rfl : k = n := by omega
      go_wp2
      go_ret
      exact ⟨⟨-1, rfl, fun _ t ht => H.out t (by rw [List.take_of_length_le (by rw [HL.out]; exact Nat.le_refl _)]; exact ht)⟩, hn⟩
set_option maxRecDepth 100000 in
theorem containsT24 (A : Option Addr) (c n : Nat) (l : List Tm) (w : World) (hr : TsRd w A n l) (hz : n ≤ 4294967295) :
    Calls Tryz.prog 23 #[.slice A n c, .func (.func 24) #[] #[]] w fun e w' => (∃ b, e = .returned (.bool b) ∧ (b = false → ∀ t ∈ l, TOk t)) ∧ New w w' := by
  have HC := Lib.hid (indexT24 A c n l w hr hz)
  go_enter Tryz.func23, Tryz.ntmps23
  go_wp2_with (go_at_call 54; refine HC.out.mono ?_; rintro e w' ⟨⟨i, rfl, hi⟩, hn⟩; have HI := Lib.hid hi; clear hi)
  go_ret
  exact ⟨⟨_, rfl, fun h => HI.out (by have := of_decide_eq_false h; omega)⟩, hn⟩

theorem findV_len (l : List Tm) (words : List ByteArray) (g : List Nat) : ∀ (f a : Nat), (findV l words g f a).length ≤ f
  | 0, _ => by simp [findV]
  | f + 1, a => by
    rw [findV]
    split
    · split
      · exact Nat.le_succ_of_le (findV_len l words g f _)
      · rw [List.length_cons]; exact Nat.succ_le_succ (findV_len l words g f _)
    · simp
set_option maxRecDepth 100000 in
set_option maxHeartbeats 8000000 in
theorem law_matches (A : Option Addr) (c n : Nat) (l : List Tm) (v' : Value) (words : List ByteArray) (a : Int) (w : World) (h : TsRd w A n l) (h' : WRd w v' words) (hx : ∀ t ∈ l, ∀ p ∈ t.2, SzX p.2) :
    Calls Tryz.prog 5 #[.slice A n c, v', .int .i64 a] w fun e w' => e = .returned (.bool true) ∧ New w w' := by
  have HA := Lib.hid awake_any
  obtain ⟨A', c', rfl, hc1', hc2', hr'⟩ := h'
  have HW : Hid (WRd w (.slice A' words.length c') words) := Lib.hid ⟨A', c', rfl, hc1', hc2', hr'⟩
  have HTS := Lib.hid h
  have HX := Lib.hid hx
  have HL := Lib.hid h.1
  have HSH := Lib.hid (fun w h => short_any (.slice A' words.length c') words 150 w h (by omega))
  obtain ⟨M, hM⟩ : ∃ k, words.length = k := ⟨_, rfl⟩
  rw [hM] at HW hc1' HSH ⊢
  have HM := Lib.hid hM
  clear hM h hr' hx
  by_cases g1 : n ≤ 6
  · have t1 : decide ((6 : Int) < (n : Int)) = false := decide_eq_false (by omega)
    have HCT := Lib.hid (fun w h => containsT24 A c n l w h (by omega))
    go_enter Tryz.func5, Tryz.ntmps5
    go_wp2_with (first
      | (go_at_call 16; refine (HSH.out _ (HW.out.new (h0.trans h1))).mono ?_; rintro e w2 ⟨⟨b2, rfl, hb2, hb3⟩, rfl⟩)
      | (go_at_call 23; refine (HCT.out _ (HTS.out.new h0)).mono ?_; rintro e w1 ⟨⟨b1, rfl, hb1⟩, h1⟩; have HB1 := Lib.hid hb1; clear hb1)
      | (go_at_call 9; refine (HA.out _).mono ?_; rintro e w0 ⟨rfl, h0⟩))
    · exact bodyPost_ret (v := .bool true) (by simp [results, Tryz.results5, go_sem]) rfl ⟨rfl, h0.trans h1⟩
    · exact bodyPost_ret (v := .bool true) (by simp [results, Tryz.results5, go_sem]) rfl ⟨rfl, h0.trans h1⟩
    · have hb1f : b1 = false := by simpa using (by assumption : ¬ b1 = true)
      have hb2t : b2 = true := by simpa using (by assumption : (!b2) = false)
      have HOK := Lib.hid (HB1.out hb1f)
      have hM150 := hb2 hb2t
      subst hb1f hb2t
      have hSM := Lib.hid (fun t ht => (HOK.out t ht).sm)
      clear hb2 hb3 HSH HCT
      go_loopw [28] (fun v28 wr => ∃ k : Nat, v28 = .int .i64 k ∧ k ≤ n ∧ New w2 wr) (fun v28 _ => n - (intOf v28).toNat)
      case atStart => exact ⟨0, rfl, by omega, New.refl _⟩
      case round =>
        obtain ⟨k, rfl, hk, hn⟩ := hrel
        have hwn : New w wr := (h0.trans h1).trans hn
        by_cases hlt : k < n
        · obtain ⟨bk, o, vt, t, rfl, ht, d1, d2, htr⟩ := (HTS.out.new hwn).at hlt
          obtain ⟨At, ct, rfl⟩ := TRd.form htr
          have htm := List.mem_of_getElem? ht
          have HMT := Lib.hid (fun w h h2 => matchT_any (.agg #[.string t.1, .slice At t.2.length ct]) (.slice A' M c') t.1 t.2 words a w h h2 (hSM.out t htm) (by rw [HM.out]; omega))
          have HRM := Lib.hid (fun w h h2 => rmatch_any (.agg #[.string t.1, .slice At t.2.length ct]) (.slice A' M c') t.1 t.2 words a w h h2 (hSM.out t htm) (HX.out t htm) (by rw [HM.out]; omega))
          have HT := Lib.hid htr
          have HWr := Lib.hid (HW.out.new hwn)
          have i0 : (0 : Int) ≤ (k : Int) := by omega
          have i1 : (k : Int) < (n : Int) := by omega
          obtain ⟨mt, hmt⟩ : ∃ x, matchT t.2 words a = x := ⟨_, rfl⟩
          have hrv := rmatch_opt t.2 words a
          rw [hmt] at hrv
          rw [hmt] at HMT
          obtain ⟨nt, hnt⟩ : ∃ k, t.2.length = k := ⟨_, rfl⟩
          rw [hnt] at d2 HMT HRM HT
          have B25 := Blk.made wr 25 #[.string t.1, .slice At nt ct]
          have hnb : New wr (wr.alloc (.cells #[.string t.1, .slice At nt ct] 25)) := (New.refl wr).alloc _
          clear htr ht htm hmt hnt
          cases mt with
          | none =>
            simp only [optI] at hrv
            rw [hrv] at HRM
            clear hrv
            go_wp2_with (first
              | (go_at_call 26; refine (HRM.out _ ((HT.out.new hnb).new h3) ((HWr.out.new hnb).new h3)).mono ?_; rintro e w4 ⟨rfl, h4⟩)
              | (go_at_call 25; refine (HMT.out _ (HT.out.new hnb) (HWr.out.new hnb)).mono ?_; rintro e w3 ⟨rfl, h3⟩; have q0 := (B25.new h3).cell' 0 _ rfl; have q1 := (B25.new h3).cell' 1 _ rfl))
            go_roundw
            case rel =>
              (repeat apply Exists.intro)
              refine ⟨⟨k + 1, ?_, by omega, ((hn.trans hnb).trans h3).trans h4⟩, rfl⟩
              go_num
            case measure => simp [intOf]; omega
          | some j =>
            simp only [optI] at hrv
            rw [hrv] at HRM
            clear hrv
            have j1 : (0 : Int) ≤ (j : Int) := by omega
            go_wp2_with (first
              | (go_at_call 26; refine (HRM.out _ ((HT.out.new hnb).new h3) ((HWr.out.new hnb).new h3)).mono ?_; rintro e w4 ⟨rfl, h4⟩)
              | (go_at_call 25; refine (HMT.out _ (HT.out.new hnb) (HWr.out.new hnb)).mono ?_; rintro e w3 ⟨rfl, h3⟩; have q0 := (B25.new h3).cell' 0 _ rfl; have q1 := (B25.new h3).cell' 1 _ rfl))
            go_roundw
            case rel =>
              (repeat apply Exists.intro)
              refine ⟨⟨k + 1, ?_, by omega, ((hn.trans hnb).trans h3).trans h4⟩, rfl⟩
              go_num
            case measure => simp [intOf]; omega
        · obtain rfl : k = n := by omega
          have HFN := Lib.hid (fun w h h2 => find_any A c k l (.slice A' M c') words w h h2 (fun t ht => hSM.out t ht) (by omega) (by rw [HM.out]; omega))
          have HRF := Lib.hid (fun w h h2 => rfind_any A c k l (.slice A' M c') words w h h2 (fun t ht => hSM.out t ht) (fun t ht => HX.out t ht) (by omega) (by rw [HM.out]; omega))
          have HTr := Lib.hid (HTS.out.new hwn)
          have HWr := Lib.hid (HW.out.new hwn)
          have hfl := findV_len l words (goodV 0 l) words.length 0
          generalize findV l words (goodV 0 l) words.length 0 = F at *
          rw [HM.out] at hfl
          obtain ⟨nf, hnf⟩ : ∃ k, F.length = k := ⟨_, rfl⟩
          rw [hnf] at HFN HRF hfl
          have HNF := Lib.hid hnf
          clear hnf
          go_wp2_with (first
            | (go_at_call 27; refine (eqMt_same A3 A4 c3 c4 nf F HNF.out _ (r3.below h4) r4 (by omega)).mono ?_; rintro e w5 ⟨rfl, h5⟩)
            | (go_at_call 29; refine (HRF.out _ (HTr.out.new h3) (HWr.out.new h3)).mono ?_; rintro e w4 ⟨v4, rfl, o4, h4⟩; obtain ⟨A4, c4, rfl, _, _, r4⟩ := own_form o4)
            | (go_at_call 28; refine (HFN.out _ HTr.out HWr.out).mono ?_; rintro e w3 ⟨v3, rfl, o3, h3⟩; obtain ⟨A3, c3, rfl, _, _, r3⟩ := own_form o3))
          go_ret
          exact ⟨rfl, ((hwn.trans h3).trans h4).trans h5⟩
  · have t1 : decide ((6 : Int) < (n : Int)) = true := decide_eq_true (by omega)
    go_enter Tryz.func5, Tryz.ntmps5
    go_wp2_with (go_at_call 9; refine (HA.out _).mono ?_; rintro e w0 ⟨rfl, h0⟩)
    go_ret
    exact ⟨rfl, h0⟩
end Go.Proofs.YtpoelhnceebmkaaGreatDoor
