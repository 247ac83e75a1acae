/- licitref35.Short and Few. Conditions: no string is longer than any machine holds. -/
import Derived.Test.YtpoelhnceebmkaaGreatDoorY
namespace Go.Proofs.YtpoelhnceebmkaaGreatDoor
open Go Go.RowKit Go.Shelf
set_option linter.unusedSimpArgs false
set_option linter.unusedVariables false

def sumS : List ByteArray → Nat
  | [] => 0
  | x :: r => x.size + sumS r
theorem sumS_app : ∀ (a b : List ByteArray), sumS (a ++ b) = sumS a + sumS b
  | [], b => by simp [sumS]
  | p :: a, b => by simp [sumS, sumS_app a b]; omega
theorem sumS_mem : ∀ {a : List ByteArray} {x : ByteArray}, x ∈ a → x.size ≤ sumS a
  | y :: a, x, h => by
    rcases List.mem_cons.1 h with rfl | h
    · simp [sumS]
    · have := sumS_mem h
      simp only [sumS]; omega
theorem sumS_take {ws : List ByteArray} {i : Nat} {x : ByteArray} (h : ws[i]? = some x) : sumS (ws.take (i + 1)) = sumS (ws.take i) + x.size := by
  obtain ⟨hi, he⟩ := List.getElem?_eq_some_iff.1 h
  rw [List.take_succ_eq_append_getElem hi, sumS_app, he]; simp [sumS]
def SzM (ws : List ByteArray) : Prop := ∀ x ∈ ws, x.size ≤ 2000000
theorem sumS_le : ∀ {ws : List ByteArray}, SzM ws → sumS ws ≤ ws.length * 2000000
  | [], _ => by simp [sumS]
  | x :: r, h => by
    have := sumS_le (ws := r) (fun y hy => h y (by simp [hy]))
    have := h x (by simp)
    simp only [sumS, List.length_cons]; omega
def shortV (ws : List ByteArray) (most : Nat) : Bool := decide (ws.length ≤ most) && decide (sumS ws ≤ 2000)

set_option maxRecDepth 100000 in
set_option maxHeartbeats 1000000 in
theorem short_any (v : Value) (ws : List ByteArray) (most : Nat) (w : World) (h : WRd w v ws) (hm : most ≤ 1000) :
    Calls Tryz.prog 16 #[v, .int .i64 (most : Nat)] w fun e w' => (∃ b, e = .returned (.bool b) ∧ (b = true → ws.length ≤ most) ∧ (SzM ws → b = shortV ws most)) ∧ w' = w := by
  obtain ⟨A, c, rfl, hc1, hc2, hr⟩ := h
  have hcm : c ≤ 9223372036854775807 := hc2
  obtain ⟨n, hn⟩ : ∃ n, ws.length = n := ⟨_, rfl⟩
  rw [hn] at hr hc1 ⊢
  by_cases hle : n ≤ most
  · have t1 : decide ((most : Int) < (n : Int)) = false := decide_eq_false (by omega)
    have HV : Hid (SzM ws → shortV ws most = decide (sumS ws ≤ 2000)) := Lib.hid (fun _ => by rw [shortV, hn, decide_eq_true hle, Bool.true_and])
    have HS : Hid (SzM ws → ∀ i, sumS (ws.take i) ≤ 2000000000) := Lib.hid (fun hz i => by
      have h1 := sumS_le hz
      have h2 := sumS_app (ws.take i) (ws.drop i)
      rw [List.take_append_drop] at h2
      rw [hn] at h1
      omega)
    have HN := Lib.hid hn
    clear hn
    go_enter Tryz.func16, Tryz.ntmps16
    go_wp2
    go_loopw [5, 6] (fun v5 v6 wr => ∃ (i : Nat) (s : Int), v5 = .int .i64 s ∧ v6 = .int .i64 i ∧ i ≤ n ∧ Hid (SzM ws → s = sumS (ws.take i)) ∧ wr = w) (fun _ v6 _ => n - (intOf v6).toNat)
    case atStart => exact ⟨0, 0, rfl, rfl, by omega, Lib.hid (fun _ => by simp [sumS]), rfl⟩
    case round =>
      obtain ⟨i, s, rfl, rfl, hi, Hs, rfl⟩ := hrel
      by_cases hlt : i < n
      · obtain ⟨b, o, rfl, _, hc⟩ := hr.2 (by omega)
        have hlt2 : i < ws.length := by rw [HN.out]; exact hlt
        have hx : ws[i]? = some ws[i] := List.getElem?_eq_getElem hlt2
        have d1 : wr.cell? ⟨b, o + i, none⟩ = some (.string ws[i]) := hc i _ (by rw [List.getElem?_map, hx]; rfl)
        have Hs2 : Hid (SzM ws → IntKind.i64.wrap (s + (ws[i].size : Int)) = sumS (ws.take (i + 1))) := Lib.hid (fun hz => by
          have h1 := HS.out hz (i + 1)
          have h2 := sumS_take hx
          rw [Hs.out hz, IntWalk.i64_in _ (by omega)]; omega)
        clear hx hc
        generalize ws[i] = x at *
        obtain ⟨z, hz⟩ : ∃ z, IntKind.i64.wrap (s + (x.size : Int)) = z := ⟨_, rfl⟩
        rw [hz] at Hs2
        have i0 : (0 : Int) ≤ (i : Int) := by omega
        have i1 : (i : Int) < (n : Int) := by omega
        go_wp2
        go_roundw
        case rel => exact ⟨i + 1, z, by go_num, by go_num, by omega, Hs2, trivial⟩
        case measure => simp [intOf]; omega
      · obtain rfl : i = n := by omega
        have HE : Hid (SzM ws → decide (s ≤ 2000) = shortV ws most) := Lib.hid (fun hz => by
          rw [HV.out hz, Hs.out hz]
          have h1 := HN.out
          rw [← h1, List.take_length]
          exact decide_eq_decide.2 (by omega))
        go_wp2
        go_ret
        exact ⟨⟨_, rfl, fun _ => hle, HE.out⟩, rfl⟩
  · have hv : shortV ws most = false := by rw [shortV, hn, decide_eq_false hle, Bool.false_and]
    have t1 : decide ((most : Int) < (n : Int)) = true := decide_eq_true (by omega)
    have t2 : (most : Int) < (n : Int) := by omega
    have HV := Lib.hid hv
    clear hv hn hr hle hc1
    go_enter Tryz.func16, Tryz.ntmps16
    go_wp2
    go_ret
    exact ⟨⟨false, rfl, (fun h => by cases h), (fun _ => HV.out.symm)⟩, rfl⟩

def okP (p : Pt) : Bool := if p.2.length = 257 then shortV p.2 257 else shortV p.2 60
def fewV (nm : ByteArray) (ps : List Pt) : Bool := decide (ps.length ≤ 10) && decide (nm.size ≤ 200) && ps.all okP
def FewP (nm : ByteArray) (ps : List Pt) (b : Bool) : Prop := (b = true → ps.length ≤ 10 ∧ ∀ p ∈ ps, p.2.length ≤ 257) ∧ ((∀ p ∈ ps, SzM p.2) → b = fewV nm ps)
theorem all_take {ps : List Pt} {i : Nat} {p : Pt} (h : ps[i]? = some p) : (ps.take (i + 1)).all okP = ((ps.take i).all okP && okP p) := by
  obtain ⟨hi, he⟩ := List.getElem?_eq_some_iff.1 h
  rw [List.take_succ_eq_append_getElem hi, List.all_append, he]; simp
theorem few_no {ps : List Pt} {p : Pt} (h : p ∈ ps) (hp : okP p = false) : ps.all okP = false := by
  cases e : ps.all okP with
  | false => rfl
  | true => rw [List.all_eq_true.1 e p h] at hp; cases hp
theorem mem_take {ps : List Pt} {i : Nat} {p q : Pt} (h : ps[i]? = some p) (hq : q ∈ ps.take (i + 1)) : q ∈ ps.take i ∨ q = p := by
  obtain ⟨hi, he⟩ := List.getElem?_eq_some_iff.1 h
  rw [List.take_succ_eq_append_getElem hi, List.mem_append, he] at hq
  simpa using hq

set_option maxRecDepth 100000 in
set_option maxHeartbeats 2000000 in
theorem few_any (v : Value) (nm : ByteArray) (ps : List Pt) (w : World) (h : TRd w v nm ps) :
    Calls Tryz.prog 13 #[v] w fun e w' => (∃ b, e = .returned (.bool b) ∧ FewP nm ps b) ∧ New w w' := by
  obtain ⟨Ap, cp, rfl, hcp1, hcp2, hp⟩ := h
  have hcm : cp ≤ 9223372036854775807 := hcp2
  obtain ⟨np, hnp⟩ : ∃ k, ps.length = k := ⟨_, rfl⟩
  rw [hnp] at hp hcp1 ⊢
  have hnS : New w (w.alloc (.cells #[.string nm, .slice Ap np cp] 25)) := (New.refl w).alloc _
  have B0 := Blk.made w 25 #[.string nm, .slice Ap np cp]
  have b0 := B0.cell' 0 _ rfl
  have b1 := B0.cell' 1 _ rfl
  by_cases h10 : np ≤ 10
  · have t1 : decide ((10 : Int) < (np : Int)) = false := decide_eq_false (by omega)
    by_cases h200 : nm.size ≤ 200
    · have t2 : decide ((200 : Int) < (nm.size : Int)) = false := decide_eq_false (by omega)
      have HP := Lib.hid (hp.new hnS)
      have HN := Lib.hid hnp
      have HF : Hid (fewV nm ps = ps.all okP) := Lib.hid (by rw [fewV, hnp, decide_eq_true h10, decide_eq_true h200]; rfl)
      clear hp hnp
      go_enter Tryz.func13, Tryz.ntmps13
      go_wp2
      have HSN := Lib.hid hnS
      obtain ⟨wS, hwS⟩ : ∃ x, x = w.alloc (.cells #[.string nm, .slice Ap np cp] 25) := ⟨_, rfl⟩
      rw [← hwS] at HP HSN b0 b1 ⊢
      clear hwS B0 hnS
      go_loopw [3] (fun v3 wr => ∃ i : Nat, v3 = .int .i64 i ∧ i ≤ np ∧ wr = wS ∧ Hid (∀ p ∈ ps.take i, p.2.length ≤ 257) ∧ Hid ((∀ p ∈ ps, SzM p.2) → (ps.take i).all okP = true)) (fun v3 _ => np - (intOf v3).toNat)
      case atStart => exact ⟨0, rfl, by omega, rfl, Lib.hid (by simp), Lib.hid (by simp)⟩
      case round =>
        obtain ⟨i, rfl, hi, rfl, HA, HB⟩ := hrel
        by_cases hlt : i < np
        · obtain ⟨bq, oq, vq, p, rfl, hpi, d1, d2, hwp⟩ := HP.out.at hlt
          obtain ⟨Aq, cq, rfl, hq1, hq2, hqr⟩ := id hwp
          have i0 : (0 : Int) ≤ (i : Int) := by omega
          have i1 : (i : Int) < (np : Int) := by omega
          have hsz : (∀ p ∈ ps, SzM p.2) → SzM p.2 := fun h => h p (List.mem_of_getElem? hpi)
          have HI := Lib.hid hpi
          have HSZ := Lib.hid hsz
          clear hsz hpi
          obtain ⟨n, hn⟩ : ∃ n, p.2.length = n := ⟨_, rfl⟩
          by_cases h257 : n = 257
          · have HS := Lib.hid (fun w (h : WRd w (.slice Aq p.2.length cq) p.2) => short_any _ p.2 257 w h (by omega))
            have HW := Lib.hid hwp
            have HNN := Lib.hid hn
            have HOK : Hid (okP p = shortV p.2 257) := Lib.hid (by rw [okP, hn, if_pos h257])
            rw [hn] at HS HW d2 hq1 hqr
            have c1 : ((n : Int) != 257) = false := by rw [h257]; rfl
            have c2 : ((n : Int) == 257) = true := by rw [h257]; rfl
            have H5 := Lib.hid h257
            clear hwp hn h257
            go_wp2_with (go_at_call 16; refine (HS.out _ HW.out).mono ?_; rintro e w' ⟨⟨b, rfl, hb1, hb2⟩, rfl⟩)
            · have hbf : b = false := by simpa using (by assumption : (!b) = true)
              subst hbf
              exact bodyPost_ret (v := .bool false) (by simp [results, Tryz.results13, go_sem]) rfl ⟨⟨false, rfl, (fun h => by cases h), (fun hz => by rw [HF.out, few_no (List.mem_of_getElem? HI.out) (HOK.out.trans (hb2 (HSZ.out hz)).symm)])⟩, HSN.out⟩
            · have hbt : b = true := by simpa using (by assumption : (!b) = false)
              subst hbt
              have hb3 := hb1 rfl
              go_roundw
              case rel =>
                refine ⟨i + 1, by go_num, by omega, trivial, Lib.hid (fun q hq => ?_), Lib.hid (fun hz => ?_)⟩
                · rcases mem_take HI.out hq with h | rfl
                  · exact HA.out q h
                  · rw [HNN.out]; omega
                · rw [all_take HI.out, HB.out hz, HOK.out, ← hb2 (HSZ.out hz)]; rfl
              case measure => simp [intOf]; omega
          · have HS := Lib.hid (fun w (h : WRd w (.slice Aq p.2.length cq) p.2) => short_any _ p.2 60 w h (by omega))
            have HW := Lib.hid hwp
            have HNN := Lib.hid hn
            have HOK : Hid (okP p = shortV p.2 60) := Lib.hid (by rw [okP, hn, if_neg h257])
            rw [hn] at HS HW d2 hq1 hqr
            have c1 : ((n : Int) != 257) = true := bne_iff_ne.2 (by omega)
            have c2 : ((n : Int) == 257) = false := beq_eq_false_iff_ne.2 (by omega)
            have H5 := Lib.hid h257
            clear hwp hn h257
            go_wp2_with (go_at_call 16; refine (HS.out _ HW.out).mono ?_; rintro e w' ⟨⟨b, rfl, hb1, hb2⟩, rfl⟩)
            · have hbt : b = true := by assumption
              subst hbt
              have hb3 := hb1 rfl
              go_roundw
              case rel =>
                refine ⟨i + 1, by go_num, by omega, trivial, Lib.hid (fun q hq => ?_), Lib.hid (fun hz => ?_)⟩
                · rcases mem_take HI.out hq with h | rfl
                  · exact HA.out q h
                  · rw [HNN.out]; omega
                · rw [all_take HI.out, HB.out hz, HOK.out, ← hb2 (HSZ.out hz)]; rfl
              case measure => simp [intOf]; omega
            · have hbf : b = false := by simpa using (by assumption : ¬ b = true)
              subst hbf
              exact bodyPost_ret (v := .bool false) (by simp [results, Tryz.results13, go_sem]) rfl ⟨⟨false, rfl, (fun h => by cases h), (fun hz => by rw [HF.out, few_no (List.mem_of_getElem? HI.out) (HOK.out.trans (hb2 (HSZ.out hz)).symm)])⟩, HSN.out⟩
        · obtain rfl : i = np := by omega
          go_wp2
          refine bodyPost_ret (v := .bool true) (by simp [results, Tryz.results13, go_sem]) rfl ⟨⟨true, rfl, (fun _ => ⟨by rw [HN.out]; exact h10, fun p hp => HA.out p ?_⟩), (fun hz => ?_)⟩, HSN.out⟩
          · have h1 := HN.out
            rw [← h1, List.take_length]; exact hp
          · have h1 := HB.out hz
            have h2 := HN.out
            rw [← h2, List.take_length] at h1
            rw [HF.out, h1]
    · have t2 : decide ((200 : Int) < (nm.size : Int)) = true := decide_eq_true (by omega)
      have HF : Hid (fewV nm ps = false) := Lib.hid (by rw [fewV, decide_eq_false h200, Bool.and_false, Bool.false_and])
      clear hp hnp h200 h10
      go_enter Tryz.func13, Tryz.ntmps13
      go_wp2
      exact bodyPost_ret (v := .bool false) (by simp [results, Tryz.results13, go_sem]) rfl ⟨⟨false, rfl, (fun h => by cases h), (fun _ => HF.out.symm)⟩, hnS⟩
  · have t1 : decide ((10 : Int) < (np : Int)) = true := decide_eq_true (by omega)
    have HF : Hid (fewV nm ps = false) := Lib.hid (by rw [fewV, hnp, decide_eq_false h10, Bool.false_and, Bool.false_and])
    clear hp hnp h10
    go_enter Tryz.func13, Tryz.ntmps13
    go_wp2
    exact bodyPost_ret (v := .bool false) (by simp [results, Tryz.results13, go_sem]) rfl ⟨⟨false, rfl, (fun h => by cases h), (fun _ => HF.out.symm)⟩, hnS⟩
end Go.Proofs.YtpoelhnceebmkaaGreatDoor
