/- licitref35.Short and Few. Conditions: no string is longer than any machine holds. licitref35.count and Word. No conditions but the template's size. licitref35.Check: the walk. Conditions: the template's size; no string is longer than a string can be. licitref35.stands. Conditions: the lists' lengths. -/
import Derived.Test.YtpoelhnceebmkaaGreatDoorGY
import Derived.Deep.QuietTactic
import Derived.BigQuiet

namespace Go.Proofs.YtpoelhnceebmkaaGreatDoor
open Go Go.RowKit Go.Shelf
set_option linter.unusedSimpArgs false
set_option linter.unusedVariables false

def sumS : List ByteArray → Nat
  | [] => 0
  | x :: r => x.size + sumS r
theorem sumS_app : ∀ (a b : List ByteArray), sumS (a ++ b) = sumS a + sumS b
  | [], b => by simp [sumS]
  | p :: a, b => by simp [sumS, sumS_app a b]; omega
theorem sumS_mem : ∀ {a : List ByteArray} {x : ByteArray}, x ∈ a → x.size ≤ sumS a
  | y :: a, x, h => by
    rcases List.mem_cons.1 h with rfl | h
    · simp [sumS]
    · have := sumS_mem h
      simp only [sumS]; omega
theorem sumS_take {ws : List ByteArray} {i : Nat} {x : ByteArray} (h : ws[i]? = some x) : sumS (ws.take (i + 1)) = sumS (ws.take i) + x.size := by
  obtain ⟨hi, he⟩ := List.getElem?_eq_some_iff.1 h
  rw [List.take_succ_eq_append_getElem hi, sumS_app, he]; simp [sumS]
def SzM (ws : List ByteArray) : Prop := ∀ x ∈ ws, x.size ≤ 2000000
theorem sumS_le : ∀ {ws : List ByteArray}, SzM ws → sumS ws ≤ ws.length * 2000000
  | [], _ => by simp [sumS]
  | x :: r, h => by
    have := sumS_le (ws := r) (fun y hy => h y (by simp [hy]))
    have := h x (by simp)
    simp only [sumS, List.length_cons]; omega
def shortV (ws : List ByteArray) (most : Nat) : Bool := decide (ws.length ≤ most) && decide (sumS ws ≤ 2000)

set_option maxRecDepth 100000 in
set_option maxHeartbeats 1000000 in
theorem short_any (v : Value) (ws : List ByteArray) (most : Nat) (w : World) (h : WRd w v ws) (hm : most ≤ 1000) :
    Calls Tryz.prog 16 #[v, .int .i64 (most : Nat)] w fun e w' => (∃ b, e = .returned (.bool b) ∧ (b = true → ws.length ≤ most) ∧ (SzM ws → b = shortV ws most)) ∧ w' = w := by
  obtain ⟨A, c, rfl, hc1, hc2, hr⟩ := h
  have hcm : c ≤ 9223372036854775807 := hc2
  obtain ⟨n, hn⟩ : ∃ n, ws.length = n := ⟨_, rfl⟩
  rw [hn] at hr hc1 ⊢
  by_cases hle : n ≤ most
  · have t1 : decide ((most : Int) < (n : Int)) = false := decide_eq_false (by omega)
    have HV : Hid (SzM ws → shortV ws most = decide (sumS ws ≤ 2000)) := Lib.hid (fun _ => by rw [shortV, hn, decide_eq_true hle, Bool.true_and])
    have HS : Hid (SzM ws → ∀ i, sumS (ws.take i) ≤ 2000000000) := Lib.hid (fun hz i => by
      have h1 := sumS_le hz
      have h2 := sumS_app (ws.take i) (ws.drop i)
      rw [List.take_append_drop] at h2
      rw [hn] at h1
      omega)
    have HN := Lib.hid hn
    clear hn
    go_enter Tryz.func16, Tryz.ntmps16
    go_wp2
    go_loopw [5, 6] (fun v5 v6 wr => ∃ (i : Nat) (s : Int), v5 = .int .i64 s ∧ v6 = .int .i64 i ∧ i ≤ n ∧ Hid (SzM ws → s = sumS (ws.take i)) ∧ wr = w) (fun _ v6 _ => n - (intOf v6).toNat)
    case atStart => exact ⟨0, 0, rfl, rfl, by omega, Lib.hid (fun _ => by simp [sumS]), rfl⟩
    case round =>
      obtain ⟨i, s, rfl, rfl, hi, Hs, rfl⟩ := hrel
      by_cases hlt : i < n
      · obtain ⟨b, o, rfl, _, hc⟩ := hr.2 (by omega)
        have hlt2 : i < ws.length := by rw [HN.out]; exact hlt
        have hx : ws[i]? = some ws[i] := List.getElem?_eq_getElem hlt2
        have d1 : wr.cell? ⟨b, o + i, none⟩ = some (.string ws[i]) := hc i _ (by rw [List.getElem?_map, hx]; rfl)
        have Hs2 : Hid (SzM ws → IntKind.i64.wrap (s + (ws[i].size : Int)) = sumS (ws.take (i + 1))) := Lib.hid (fun hz => by
          have h1 := HS.out hz (i + 1)
          have h2 := sumS_take hx
          rw [Hs.out hz, IntWalk.i64_in _ (by omega)]; omega)
        clear hx hc
        generalize ws[i] = x at *
        obtain ⟨z, hz⟩ : ∃ z, IntKind.i64.wrap (s + (x.size : Int)) = z := ⟨_, rfl⟩
        rw [hz] at Hs2
        have i0 : (0 : Int) ≤ (i : Int) := by omega
        have i1 : (i : Int) < (n : Int) := by omega
        go_wp2
        go_roundw
        case rel => exact ⟨i + 1, z, by go_num, by go_num, by omega, Hs2, trivial⟩
        case measure => simp [intOf]; omega
      · obtain rfl : i = n := by omega
        have HE : Hid (SzM ws → decide (s ≤ 2000) = shortV ws most) := Lib.hid (fun hz => by
          rw [HV.out hz, Hs.out hz]
          have h1 := HN.out
          rw [← h1, List.take_length]
          exact decide_eq_decide.2 (by omega))
        go_wp2
        go_ret
        exact ⟨⟨_, rfl, fun _ => hle, HE.out⟩, rfl⟩
  · have hv : shortV ws most = false := by rw [shortV, hn, decide_eq_false hle, Bool.false_and]
    have t1 : decide ((most : Int) < (n : Int)) = true := decide_eq_true (by omega)
    have t2 : (most : Int) < (n : Int) := by omega
    have HV := Lib.hid hv
    clear hv hn hr hle hc1
    go_enter Tryz.func16, Tryz.ntmps16
    go_wp2
    go_ret
    exact ⟨⟨false, rfl, (fun h => by cases h), (fun _ => HV.out.symm)⟩, rfl⟩

def okP (p : Pt) : Bool := if p.2.length = 257 then shortV p.2 257 else shortV p.2 60
def fewV (nm : ByteArray) (ps : List Pt) : Bool := decide (ps.length ≤ 10) && decide (nm.size ≤ 200) && ps.all okP
def FewP (nm : ByteArray) (ps : List Pt) (b : Bool) : Prop := (b = true → ps.length ≤ 10 ∧ ∀ p ∈ ps, p.2.length ≤ 257) ∧ ((∀ p ∈ ps, SzM p.2) → b = fewV nm ps)
theorem all_take {ps : List Pt} {i : Nat} {p : Pt} (h : ps[i]? = some p) : (ps.take (i + 1)).all okP = ((ps.take i).all okP && okP p) := by
  obtain ⟨hi, he⟩ := List.getElem?_eq_some_iff.1 h
  rw [List.take_succ_eq_append_getElem hi, List.all_append, he]; simp
theorem few_no {ps : List Pt} {p : Pt} (h : p ∈ ps) (hp : okP p = false) : ps.all okP = false := by
  cases e : ps.all okP with
  | false => rfl
  | true => rw [List.all_eq_true.1 e p h] at hp; cases hp
theorem mem_take {ps : List Pt} {i : Nat} {p q : Pt} (h : ps[i]? = some p) (hq : q ∈ ps.take (i + 1)) : q ∈ ps.take i ∨ q = p := by
  obtain ⟨hi, he⟩ := List.getElem?_eq_some_iff.1 h
  rw [List.take_succ_eq_append_getElem hi, List.mem_append, he] at hq
  simpa using hq

set_option maxRecDepth 100000 in
set_option maxHeartbeats 2000000 in
theorem few_any (v : Value) (nm : ByteArray) (ps : List Pt) (w : World) (h : TRd w v nm ps) :
    Calls Tryz.prog 13 #[v] w fun e w' => (∃ b, e = .returned (.bool b) ∧ FewP nm ps b) ∧ New w w' := by
  obtain ⟨Ap, cp, rfl, hcp1, hcp2, hp⟩ := h
  have hcm : cp ≤ 9223372036854775807 := hcp2
  obtain ⟨np, hnp⟩ : ∃ k, ps.length = k := ⟨_, rfl⟩
  rw [hnp] at hp hcp1 ⊢
  have hnS : New w (w.alloc (.cells #[.string nm, .slice Ap np cp] 25)) := (New.refl w).alloc _
  have B0 := Blk.made w 25 #[.string nm, .slice Ap np cp]
  have b0 := B0.cell' 0 _ rfl
  have b1 := B0.cell' 1 _ rfl
  by_cases h10 : np ≤ 10
  · have t1 : decide ((10 : Int) < (np : Int)) = false := decide_eq_false (by omega)
    by_cases h200 : nm.size ≤ 200
    · have t2 : decide ((200 : Int) < (nm.size : Int)) = false := decide_eq_false (by omega)
      have HP := Lib.hid (hp.new hnS)
      have HN := Lib.hid hnp
      have HF : Hid (fewV nm ps = ps.all okP) := Lib.hid (by rw [fewV, hnp, decide_eq_true h10, decide_eq_true h200]; rfl)
      clear hp hnp
      go_enter Tryz.func13, Tryz.ntmps13
      go_wp2
      have HSN := Lib.hid hnS
      obtain ⟨wS, hwS⟩ : ∃ x, x = w.alloc (.cells #[.string nm, .slice Ap np cp] 25) := ⟨_, rfl⟩
      rw [← hwS] at HP HSN b0 b1 ⊢
      clear hwS B0 hnS
      go_loopw [3] (fun v3 wr => ∃ i : Nat, v3 = .int .i64 i ∧ i ≤ np ∧ wr = wS ∧ Hid (∀ p ∈ ps.take i, p.2.length ≤ 257) ∧ Hid ((∀ p ∈ ps, SzM p.2) → (ps.take i).all okP = true)) (fun v3 _ => np - (intOf v3).toNat)
      case atStart => exact ⟨0, rfl, by omega, rfl, Lib.hid (by simp), Lib.hid (by simp)⟩
      case round =>
        obtain ⟨i, rfl, hi, rfl, HA, HB⟩ := hrel
        by_cases hlt : i < np
        · obtain ⟨bq, oq, vq, p, rfl, hpi, d1, d2, hwp⟩ := HP.out.at hlt
          obtain ⟨Aq, cq, rfl, hq1, hq2, hqr⟩ := id hwp
          have i0 : (0 : Int) ≤ (i : Int) := by omega
          have i1 : (i : Int) < (np : Int) := by omega
          have hsz : (∀ p ∈ ps, SzM p.2) → SzM p.2 := fun h => h p (List.mem_of_getElem? hpi)
          have HI := Lib.hid hpi
          have HSZ := Lib.hid hsz
          clear hsz hpi
          obtain ⟨n, hn⟩ : ∃ n, p.2.length = n := ⟨_, rfl⟩
          by_cases h257 : n = 257
          · have HS := Lib.hid (fun w (h : WRd w (.slice Aq p.2.length cq) p.2) => short_any _ p.2 257 w h (by omega))
            have HW := Lib.hid hwp
            have HNN := Lib.hid hn
            have HOK : Hid (okP p = shortV p.2 257) := Lib.hid (by rw [okP, hn, if_pos h257])
            rw [hn] at HS HW d2 hq1 hqr
            have c1 : ((n : Int) != 257) = false := by rw [h257]; rfl
            have c2 : ((n : Int) == 257) = true := by rw [h257]; rfl
            have H5 := Lib.hid h257
            clear hwp hn h257
            go_wp2_with (go_at_call 16; refine (HS.out _ HW.out).mono ?_; rintro e w' ⟨⟨b, rfl, hb1, hb2⟩, rfl⟩)
            · have hbf : b = false := by simpa using (by assumption : (!b) = true)
              subst hbf
              exact bodyPost_ret (v := .bool false) (by simp [results, Tryz.results13, go_sem]) rfl ⟨⟨false, rfl, (fun h => by cases h), (fun hz => by rw [HF.out, few_no (List.mem_of_getElem? HI.out) (HOK.out.trans (hb2 (HSZ.out hz)).symm)])⟩, HSN.out⟩
            · have hbt : b = true := by simpa using (by assumption : (!b) = false)
              subst hbt
              have hb3 := hb1 rfl
              go_roundw
              case rel =>
                refine ⟨i + 1, by go_num, by omega, trivial, Lib.hid (fun q hq => ?_), Lib.hid (fun hz => ?_)⟩
                · rcases mem_take HI.out hq with h | rfl
                  · exact HA.out q h
                  · rw [HNN.out]; omega
                · rw [all_take HI.out, HB.out hz, HOK.out, ← hb2 (HSZ.out hz)]; rfl
              case measure => simp [intOf]; omega
          · have HS := Lib.hid (fun w (h : WRd w (.slice Aq p.2.length cq) p.2) => short_any _ p.2 60 w h (by omega))
            have HW := Lib.hid hwp
            have HNN := Lib.hid hn
            have HOK : Hid (okP p = shortV p.2 60) := Lib.hid (by rw [okP, hn, if_neg h257])
            rw [hn] at HS HW d2 hq1 hqr
            have c1 : ((n : Int) != 257) = true := bne_iff_ne.2 (by omega)
            have c2 : ((n : Int) == 257) = false := beq_eq_false_iff_ne.2 (by omega)
            have H5 := Lib.hid h257
            clear hwp hn h257
            go_wp2_with (go_at_call 16; refine (HS.out _ HW.out).mono ?_; rintro e w' ⟨⟨b, rfl, hb1, hb2⟩, rfl⟩)
            · have hbt : b = true := by assumption
              subst hbt
              have hb3 := hb1 rfl
              go_roundw
              case rel =>
                refine ⟨i + 1, by go_num, by omega, trivial, Lib.hid (fun q hq => ?_), Lib.hid (fun hz => ?_)⟩
                · rcases mem_take HI.out hq with h | rfl
                  · exact HA.out q h
                  · rw [HNN.out]; omega
                · rw [all_take HI.out, HB.out hz, HOK.out, ← hb2 (HSZ.out hz)]; rfl
              case measure => simp [intOf]; omega
            · have hbf : b = false := by simpa using (by assumption : ¬ b = true)
              subst hbf
              exact bodyPost_ret (v := .bool false) (by simp [results, Tryz.results13, go_sem]) rfl ⟨⟨false, rfl, (fun h => by cases h), (fun hz => by rw [HF.out, few_no (List.mem_of_getElem? HI.out) (HOK.out.trans (hb2 (HSZ.out hz)).symm)])⟩, HSN.out⟩
        · obtain rfl : i = np := by omega
          go_wp2
          refine bodyPost_ret (v := .bool true) (by simp [results, Tryz.results13, go_sem]) rfl ⟨⟨true, rfl, (fun _ => ⟨by rw [HN.out]; exact h10, fun p hp => HA.out p ?_⟩), (fun hz => ?_)⟩, HSN.out⟩
          · have h1 := HN.out
            rw [← h1, List.take_length]; exact hp
          · have h1 := HB.out hz
            have h2 := HN.out
            rw [← h2, List.take_length] at h1
            rw [HF.out, h1]
    · have t2 : decide ((200 : Int) < (nm.size : Int)) = true := decide_eq_true (by omega)
      have HF : Hid (fewV nm ps = false) := Lib.hid (by rw [fewV, decide_eq_false h200, Bool.and_false, Bool.false_and])
      clear hp hnp h200 h10
      go_enter Tryz.func13, Tryz.ntmps13
      go_wp2
      exact bodyPost_ret (v := .bool false) (by simp [results, Tryz.results13, go_sem]) rfl ⟨⟨false, rfl, (fun h => by cases h), (fun _ => HF.out.symm)⟩, hnS⟩
  · have t1 : decide ((10 : Int) < (np : Int)) = true := decide_eq_true (by omega)
    have HF : Hid (fewV nm ps = false) := Lib.hid (by rw [fewV, hnp, decide_eq_false h10, Bool.false_and, Bool.false_and])
    clear hp hnp h10
    go_enter Tryz.func13, Tryz.ntmps13
    go_wp2
    exact bodyPost_ret (v := .bool false) (by simp [results, Tryz.results13, go_sem]) rfl ⟨⟨false, rfl, (fun h => by cases h), (fun _ => HF.out.symm)⟩, hnS⟩
end Go.Proofs.YtpoelhnceebmkaaGreatDoor

namespace Go.Proofs.YtpoelhnceebmkaaGreatDoor
open Go Go.RowKit Go.Shelf
set_option linter.unusedSimpArgs false
set_option linter.unusedVariables false

set_option maxRecDepth 100000 in
set_option maxHeartbeats 1000000 in
theorem count_any (v : Value) (nm : ByteArray) (ps : List Pt) (w : World) (h : TRd w v nm ps) (hs : SmT ps) :
    Calls Tryz.prog 42 #[v] w fun e w' => e = .returned (.int .i64 (total ps : Nat)) ∧ New w w' := by
  obtain ⟨A, c, rfl, hc1, hc2, hr⟩ := h
  have hnS : New w (w.alloc (.cells #[.string nm, .slice A ps.length c] 25)) := (New.refl w).alloc _
  obtain ⟨hs1, hs2⟩ := hs
  have HTK : Hid (∀ i, total (ps.take i) ≤ 1000000) := Lib.hid (fun i => by
    have := total_le (ps := ps.take i) (fun p hp => hs2 p (List.mem_of_mem_take hp))
    have h3 : (ps.take i).length ≤ 1000 := by simp; omega
    omega)
  obtain ⟨n, hn0⟩ : ∃ n, ps.length = n := ⟨_, rfl⟩
  rw [hn0] at hr hc1 hs1 hnS ⊢
  have HS2 := Lib.hid hs2
  have HN := Lib.hid hn0
  clear hs2 hn0
  go_enter Tryz.func42, Tryz.ntmps42
  go_wp2
  obtain ⟨wS, hwS⟩ : ∃ x, x = w.alloc (.cells #[.string nm, .slice A n c] 25) := ⟨_, rfl⟩
  rw [← hwS]
  have B0 : Blk wS w.heap.size 25 #[.string nm, .slice A n c] := by rw [hwS]; exact Blk.made w _ _
  rw [← hwS] at hnS
  have k1 := B0.cell' 1 _ rfl
  have HR := Lib.hid (hr.new hnS)
  clear hwS hr
  go_loopw [3, 4] (fun v3 v4 wr => ∃ i : Nat, v4 = .int .i64 i ∧ i ≤ n ∧ v3 = .int .i64 (total (ps.take i) : Nat) ∧ wr = wS) (fun _ v4 _ => n - (intOf v4).toNat)
  case atStart => exact ⟨0, rfl, by omega, by simp [total], rfl⟩
  case round =>
    obtain ⟨i, rfl, hi, rfl, rfl⟩ := hrel
    by_cases hlt : i < n
    · obtain ⟨bk, o, vp, p, rfl, hp, d1, d2, hw⟩ := HR.out.at hlt
      obtain ⟨Aw, cw, rfl, hw1, hw2, _⟩ := hw
      have hpl := HS2.out p (List.mem_of_getElem? hp)
      have htt := total_take hp
      have ht1 := HTK.out (i + 1)
      have u1 : IntKind.i64.wrap ((total (ps.take i) : Int) + (p.2.length : Int)) = (total (ps.take (i + 1)) : Int) := by rw [htt, IntWalk.i64_in _ (by omega)]; omega
      have i0 : (0 : Int) ≤ (i : Int) := by omega
      have i1 : (i : Int) < (n : Int) := by omega
      clear htt
      go_wp2
      go_roundw
      case rel => exact ⟨i + 1, by go_num, by omega, rfl, trivial⟩
      case measure => simp [intOf]; omega
    · obtain rfl : i = n := by omega
      have ht : total (ps.take i) = total ps := by rw [List.take_of_length_le (by rw [HN.out]; exact Nat.le_refl _)]
      rw [ht]
      go_wp2
      go_ret
      exact ⟨rfl, hnS⟩

theorem okC_sm (c : UInt8) : okC c = true ↔ smN c.toNat = c.toNat ∧ smN c.toNat ≠ 0 := by
  have h := UInt8.toNat_lt c
  unfold okC smN
  simp only [Bool.or_eq_true, Bool.and_eq_true, decide_eq_true_eq]
  constructor
  · intro h1
    rw [if_neg (by omega), if_pos (by omega)]; omega
  · intro h1
    split at h1
    · omega
    · split at h1 <;> omega
set_option maxRecDepth 100000 in
set_option maxHeartbeats 2000000 in
theorem word_any (s : ByteArray) (w : World) (hs : s.size ≤ 9223372036854775807) : Calls Tryz.prog 52 #[.string s] w fun e w' => e = .returned (.bool (okW s)) ∧ New w w' := by
  have HS := Lib.hid (fun (n : Nat) (hn : n < 256) W => (small_any n hn W).mono fun e w' (h : e = .returned (.int .u8 (smN n)) ∧ W = w') => (⟨h.1, h.2.symm⟩ : e = .returned (.int .u8 (smN n)) ∧ w' = W))
  go_enter Tryz.func52, Tryz.ntmps52
  go_wp2
  go_loopw [3] (fun v3 wr => ∃ i : Nat, v3 = .int .i64 i ∧ i ≤ s.size ∧ New w wr ∧ Hid ((s.data.toList.take i).all okC = true)) (fun v3 _ => s.size - (intOf v3).toNat)
  case atStart => exact ⟨0, rfl, by omega, New.refl _, Lib.hid (by simp)⟩
  case round =>
    obtain ⟨i, rfl, hi, hn, HA⟩ := hrel
    by_cases hlt : i < s.size
    · have hl2 : i < s.data.toList.length := by rw [← size_eq]; exact hlt
      have htk : (s.data.toList.take (i + 1)).all okC = ((s.data.toList.take i).all okC && okC s[i]) := by
        rw [List.take_succ_eq_append_getElem hl2, List.all_append, ← get_eq s i hlt]; simp
      rw [HA.out, Bool.true_and] at htk
      have hin : s[i] ∈ s.data.toList := by rw [get_eq s i hlt]; exact List.getElem_mem hl2
      have hno : okC s[i] = false → okW s = false := fun h => by
        rw [okW]
        cases e : s.data.toList.all okC with
        | false => simp
        | true => rw [List.all_eq_true.1 e _ hin] at h; cases h
      have hc2 := UInt8.toNat_lt s[i]
      have hok := okC_sm s[i]
      have HT := Lib.hid htk
      have HNO := Lib.hid hno
      have hsl := smN_lt s[i].toNat hc2
      have HSI := Lib.hid (HS.out s[i].toNat hc2)
      clear htk hin hno
      obtain ⟨m, hm⟩ : ∃ m, smN s[i].toNat = m := ⟨_, rfl⟩
      rw [hm] at hok hsl HSI
      clear hm
      by_cases h1 : m = s[i].toNat
      · have c1 : ((m : Int) != (s[i].toNat : Int)) = false := by rw [h1]; simp
        by_cases h2 : m = 0
        · have c2 : ((m : Int) == 0) = true := beq_iff_eq.2 (by omega)
          have hf : okC s[i] = false := by
            cases e : okC s[i] with
            | false => rfl
            | true => exact absurd h2 (hok.1 e).2
          have HF := Lib.hid (HNO.out hf)
          clear hf hok h1 h2
          go_wp2
          go_quiet ((go_at_call 68; exact Calls.quiet_of_same (HSI.out _)))
          go_wp2
          rw [HF.out]
          exact bodyPost_ret (v := .bool false) (by simp [results, Tryz.results52, go_sem]) rfl ⟨rfl, hn.drewN nq⟩
        · have c2 : ((m : Int) == 0) = false := beq_eq_false_iff_ne.2 (by omega)
          have HF := Lib.hid (hok.2 ⟨h1, h2⟩)
          clear hok h1 h2
          go_wp2
          go_quiet ((go_at_call 68; exact Calls.quiet_of_same (HSI.out _)))
          go_wp2
          go_roundw
          case rel => exact ⟨i + 1, by go_num, by omega, hn.drewN nq, Lib.hid (by rw [HT.out]; exact HF.out)⟩
          case measure => simp [intOf]; omega
      · have c1 : ((m : Int) != (s[i].toNat : Int)) = true := bne_iff_ne.2 (by omega)
        have hf : okC s[i] = false := by
          cases e : okC s[i] with
          | false => rfl
          | true => exact absurd (hok.1 e).1 h1
        have HF := Lib.hid (HNO.out hf)
        clear hf hok h1
        go_wp2
        go_quiet ((go_at_call 68; exact Calls.quiet_of_same (HSI.out _)))
        go_wp2
        rw [HF.out]
        exact bodyPost_ret (v := .bool false) (by simp [results, Tryz.results52, go_sem]) rfl ⟨rfl, hn.drewN nq⟩
    · obtain rfl : i = s.size := by omega
      have hall := HA.out
      rw [List.take_of_length_le (by rw [← size_eq]; exact Nat.le_refl _)] at hall
      by_cases h0 : 0 < s.size
      · have hv : okW s = true := by rw [okW, hall, decide_eq_true h0]; rfl
        have hne : s.toList.isEmpty = false := by
          rw [toList_eq]
          cases hq : s.data.toList with
          | nil => rw [size_eq, hq] at h0; simp at h0
          | cons a b => rfl
        have HV := Lib.hid hv
        clear hall hv
        go_wp2
        go_ret
        exact ⟨by rw [HV.out]; rfl, hn⟩
      · have hv : okW s = false := by rw [okW, decide_eq_false h0]; rfl
        have hne : s.toList.isEmpty = true := by
          rw [toList_eq]
          cases hq : s.data.toList with
          | nil => rfl
          | cons a b => rw [size_eq, hq] at h0; simp at h0
        have HV := Lib.hid hv
        clear hall hv
        go_wp2
        go_ret
        exact ⟨by rw [HV.out]; rfl, hn⟩
end Go.Proofs.YtpoelhnceebmkaaGreatDoor

namespace Go.Proofs.YtpoelhnceebmkaaGreatDoor
open Go Go.RowKit Go.Shelf
set_option linter.unusedSimpArgs false
set_option linter.unusedVariables false

def SzX (ws : List ByteArray) : Prop := ∀ x ∈ ws, x.size ≤ 9223372036854775807
theorem allOk_no {ws : List ByteArray} {x : ByteArray} (h : x ∈ ws) (hx : okW x = false) : allOk ws = false := by
  unfold allOk
  cases e : ws.all okW with
  | false => rfl
  | true => rw [List.all_eq_true.1 e x h] at hx; cases hx

set_option maxRecDepth 100000 in
set_option maxHeartbeats 4000000 in
theorem rcheck_any (v : Value) (nm : ByteArray) (ps : List Pt) (w : World) (h : TRd w v nm ps) (hs : SmT ps) (hx : ∀ p ∈ ps, SzX p.2) :
    Calls Tryz.prog 22 #[v] w fun e w' => e = .returned (.int .i64 (checkV ps)) ∧ New w w' := by
  have HC0 := Lib.hid (fun w h => count_any v nm ps w h hs)
  have HTR := Lib.hid h
  obtain ⟨A, c, rfl, hc1, hc2, hr⟩ := h
  have hnS : New w (w.alloc (.cells #[.string nm, .slice A ps.length c] 25)) := (New.refl w).alloc _
  by_cases h0 : ps = []
  · have hv : checkV ps = 1 := if_pos h0
    have HV := Lib.hid hv
    have hl : ps.length = 0 := by rw [h0]; rfl
    rw [hl] at hnS ⊢
    clear hv hr HC0 HTR
    go_enter Tryz.func22, Tryz.ntmps22
    go_wp2
    go_ret
    exact ⟨ret_i HV.out.symm, hnS⟩
  have hv : checkV ps = if 256 < total ps then 10 else chk 0 ps := if_neg h0
  have hlp : 0 < ps.length := List.length_pos_iff.2 h0
  obtain ⟨hs1, hs2⟩ := hs
  have HV := Lib.hid hv
  obtain ⟨n, hn0⟩ : ∃ n, ps.length = n := ⟨_, rfl⟩
  rw [hn0] at hr hc1 hlp hs1 hnS HC0 HTR ⊢
  have HS2 := Lib.hid hs2
  have HX := Lib.hid hx
  have HN := Lib.hid hn0
  have e1 : ((n : Int) == 0) = false := beq_eq_false_iff_ne.2 (by omega)
  have e2 : ¬ (n : Int) = 0 := by omega
  have HTR2 := Lib.hid (HTR.out.new hnS)
  have HR := Lib.hid (hr.new hnS)
  have B0 := Blk.made w 25 #[.string nm, .slice A n c]
  have k0 := B0.cell' 0 _ rfl
  have k1 := B0.cell' 1 _ rfl
  obtain ⟨tt, htt⟩ : ∃ t, total ps = t := ⟨_, rfl⟩
  rw [htt] at HC0 HV
  clear hv h0 hs2 hn0 hx hr htt HTR
  by_cases hbig : 256 < tt
  · have hb1 : decide ((256 : Int) < (tt : Int)) = true := decide_eq_true (by omega)
    have hV2 : checkV ps = 10 := by rw [HV.out, if_pos hbig]
    have HV2 := Lib.hid hV2
    clear hV2 hbig
    go_enter Tryz.func22, Tryz.ntmps22
    go_wp2_with (go_at_call 42; refine (HC0.out _ HTR2.out).mono ?_; rintro e w1 ⟨rfl, hn1⟩)
    go_ret
    exact ⟨ret_i HV2.out.symm, hnS.trans hn1⟩
  · have hb1 : decide ((256 : Int) < (tt : Int)) = false := decide_eq_false (by omega)
    have hV2 : checkV ps = chk 0 ps := by rw [HV.out, if_neg hbig]
    have HV2 := Lib.hid hV2
    clear hV2 hbig
    go_enter Tryz.func22, Tryz.ntmps22
    go_wp2_with (go_at_call 42; refine (HC0.out _ HTR2.out).mono ?_; rintro e w1 ⟨rfl, hn1⟩)
    go_loopw [3] (fun v3 wr => ∃ j : Nat, v3 = .int .i64 j ∧ j ≤ n ∧ New w1 wr ∧ Hid (chk j (ps.drop j) = checkV ps)) (fun v3 _ => n - (intOf v3).toNat)
    case atStart => exact ⟨0, rfl, by omega, New.refl _, Lib.hid (by rw [HV2.out]; rfl)⟩
    case round =>
      obtain ⟨j, rfl, hj, hn2, H⟩ := hrel
      have k1 := ((B0.new hn1).new hn2).cell' 1 _ rfl
      by_cases hlt2 : j < n
      · obtain ⟨bk, o, vp, p, rfl, hp, d1, d2, hw⟩ := ((HR.out.new hn1).new hn2).at hlt2
        obtain ⟨Aw, cw, rfl, hw1, hw2, hwr⟩ := hw
        have hpm := List.mem_of_getElem? hp
        have hpl := HS2.out p hpm
        have HPX := Lib.hid (HX.out p hpm)
        have hca := chk_at hp
        rw [H.out] at hca
        clear hpm hp
        obtain ⟨m, hm⟩ : ∃ m, p.2.length = m := ⟨_, rfl⟩
        rw [hm] at d2 hpl hw1 hwr
        have HM := Lib.hid hm
        have i0 : (0 : Int) ≤ (j : Int) := by omega
        have i1 : (j : Int) < (n : Int) := by omega
        clear hm
        by_cases hj0 : j = 0
        · have q1 : ((j : Int) == 0) = true := beq_iff_eq.2 (by omega)
          have q2 : decide ((0 : Int) < (j : Int)) = false := decide_eq_false (by omega)
          have q3 : ¬ (0 : Int) < (j : Int) := by omega
          by_cases hh : p.1 = 0
          · have hbad : badH j p.1 = false := by simp [badH, hh, hj0]
            have hh1 : (p.1 != 0) = false := by simp [hh]
            rw [if_neg (by rw [hbad]; decide)] at hca
            clear hbad hh hj0
            by_cases hw0 : p.2 = []
            · rw [if_pos hw0] at hca
              have HC := Lib.hid hca
              have hm0 : m = 0 := by rw [← HM.out, hw0]; rfl
              have l1 : ((m : Int) == 0) = true := beq_iff_eq.2 (by omega)
              clear hca hw0
              go_wp2
              go_ret
              exact ⟨ret_i HC.out.symm, ((hnS.trans hn1).trans hn2).alloc _⟩
            · rw [if_neg hw0] at hca
              have hl0 : 0 < m := by rw [← HM.out]; exact List.length_pos_iff.2 hw0
              have l1 : ((m : Int) == 0) = false := beq_eq_false_iff_ne.2 (by omega)
              have l2 : ¬ (m : Int) = 0 := by omega
              have HC := Lib.hid hca
              clear hca hw0
              obtain ⟨wq, rfl⟩ : ∃ x, x = wr := ⟨_, rfl⟩
              have B58 := Blk.made wq 58 #[.int .i64 p.1, .slice Aw m cw]
              go_wp2
              obtain ⟨wo, hwo⟩ : ∃ x, x = wq.alloc (.cells #[.int .i64 p.1, .slice Aw m cw] 58) := ⟨_, rfl⟩
              rw [← hwo] at B58 ⊢
              have hno : New wq wo := by rw [hwo]; exact (New.refl _).alloc _
              have HWR := Lib.hid (hwr.below hno)
              clear hwo hwr d1 d2
              go_loopw [5] (fun v5 wr3 => ∃ k : Nat, v5 = .int .i64 k ∧ k ≤ m ∧ New wo wr3 ∧ Hid ((p.2.take k).all okW = true)) (fun v5 _ => m - (intOf v5).toNat)
              case atStart => exact ⟨0, rfl, by omega, New.refl _, Lib.hid (by simp)⟩
              case round =>
                obtain ⟨k, rfl, hk, hn3, HK⟩ := hrel
                have g1 := (B58.new hn3).cell' 1 _ rfl
                by_cases hlt3 : k < m
                · obtain ⟨bw, ow, rfl, _, hcw⟩ := (HWR.out.below hn3).2 (by omega)
                  have hlt4 : k < p.2.length := by rw [HM.out]; exact hlt3
                  have d3 : wr.cell? ⟨bw, ow + k, none⟩ = some (.string p.2[k]) := hcw k _ (by simp [hlt4])
                  have hxm := List.getElem_mem hlt4
                  have HXS := Lib.hid (HPX.out _ hxm)
                  have HAN := Lib.hid (fun h => allOk_no hxm h)
                  have htk : (p.2.take (k + 1)).all okW = ((p.2.take k).all okW && okW p.2[k]) := by rw [List.take_succ_eq_append_getElem hlt4, List.all_append]; simp
                  rw [HK.out, Bool.true_and] at htk
                  have HT := Lib.hid htk
                  clear htk hxm hcw
                  generalize p.2[k] = x at *
                  have k0 : (0 : Int) ≤ (k : Int) := by omega
                  have k2 : (k : Int) < (m : Int) := by omega
                  have HWD := Lib.hid (fun W => word_any x W HXS.out)
                  cases hok : okW x
                  · rw [hok] at HWD
                    have hC2 := HC.out
                    rw [HAN.out hok, if_neg (by decide)] at hC2
                    have HC3 := Lib.hid hC2
                    clear hok hC2
                    go_wp2_with (go_at_call 52; refine (HWD.out _).mono ?_; rintro e w9 ⟨rfl, hn9⟩)
                    go_ret
                    exact ⟨ret_i HC3.out.symm, ((((hnS.trans hn1).trans hn2).trans hno).trans hn3).trans hn9⟩
                  · rw [hok] at HWD
                    have HOK := Lib.hid hok
                    clear hok
                    go_wp2_with (go_at_call 52; refine (HWD.out _).mono ?_; rintro e w9 ⟨rfl, hn9⟩)
                    go_roundw
                    case rel => exact ⟨k + 1, by go_num, by omega, hn3.trans hn9, Lib.hid (by rw [HT.out]; exact HOK.out)⟩
                    case measure => simp [intOf]; omega
                · obtain rfl : k = m := by omega
                  have hC2 := HC.out
                  have hall : allOk p.2 = true := by
                    have h1 := HK.out
                    have h2 := HM.out
                    rw [← h2, List.take_length] at h1
                    exact h1
                  rw [hall, if_pos rfl] at hC2
                  have HC3 := Lib.hid hC2
                  clear hC2 hall
                  go_wp2
                  go_roundw
                  case rel => exact ⟨j + 1, by go_num, by omega, (hn2.trans hno).trans hn3, Lib.hid HC3.out.symm⟩
                  case measure => simp [intOf]; omega
          · have hbad : badH j p.1 = true := by simp [badH, hh, hj0]
            have hh1 : (p.1 != 0) = true := by simp [hh]
            clear hj0
            rw [if_pos hbad] at hca
            have HC := Lib.hid hca
            clear hca hbad
            go_wp2
            go_ret
            exact ⟨ret_i HC.out.symm, ((hnS.trans hn1).trans hn2).alloc _⟩
        · have j1 : ((j : Int) == 0) = false := beq_eq_false_iff_ne.2 (by omega)
          have j2 : ¬ (j : Int) = 0 := by omega
          have j3 : (0 : Int) < (j : Int) := by omega
          have hbe : badH j p.1 = (decide (p.1 < 1) || decide (99 < p.1)) := if_neg hj0
          clear hj0
          by_cases hh : p.1 < 1
          · have hbad : badH j p.1 = true := by rw [hbe, decide_eq_true hh]; rfl
            clear hbe
            rw [if_pos hbad] at hca
            have HC := Lib.hid hca
            clear hca hbad
            go_wp2
            go_ret
            exact ⟨ret_i HC.out.symm, ((hnS.trans hn1).trans hn2).alloc _⟩
          · by_cases hh2 : 99 < p.1
            · have hbad : badH j p.1 = true := by rw [hbe, decide_eq_true hh2]; simp
              clear hbe
              rw [if_pos hbad] at hca
              have HC := Lib.hid hca
              clear hca hbad
              go_wp2
              go_ret
              exact ⟨ret_i HC.out.symm, ((hnS.trans hn1).trans hn2).alloc _⟩
            · have hbad : badH j p.1 = false := by rw [hbe, decide_eq_false hh, decide_eq_false hh2]; rfl
              clear hbe
              rw [if_neg (by rw [hbad]; decide)] at hca
              clear hbad
              by_cases hw0 : p.2 = []
              · rw [if_pos hw0] at hca
                have HC := Lib.hid hca
                have hm0 : m = 0 := by rw [← HM.out, hw0]; rfl
                have l1 : ((m : Int) == 0) = true := beq_iff_eq.2 (by omega)
                clear hca hw0
                go_wp2
                go_ret
                exact ⟨ret_i HC.out.symm, ((hnS.trans hn1).trans hn2).alloc _⟩
              · rw [if_neg hw0] at hca
                have hl0 : 0 < m := by rw [← HM.out]; exact List.length_pos_iff.2 hw0
                have l1 : ((m : Int) == 0) = false := beq_eq_false_iff_ne.2 (by omega)
                have l2 : ¬ (m : Int) = 0 := by omega
                have HC := Lib.hid hca
                clear hca hw0
                obtain ⟨wq, rfl⟩ : ∃ x, x = wr := ⟨_, rfl⟩
                have B58 := Blk.made wq 58 #[.int .i64 p.1, .slice Aw m cw]
                go_wp2
                obtain ⟨wo, hwo⟩ : ∃ x, x = wq.alloc (.cells #[.int .i64 p.1, .slice Aw m cw] 58) := ⟨_, rfl⟩
                rw [← hwo] at B58 ⊢
                have hno : New wq wo := by rw [hwo]; exact (New.refl _).alloc _
                have HWR := Lib.hid (hwr.below hno)
                clear hwo hwr d1 d2
                go_loopw [5] (fun v5 wr3 => ∃ k : Nat, v5 = .int .i64 k ∧ k ≤ m ∧ New wo wr3 ∧ Hid ((p.2.take k).all okW = true)) (fun v5 _ => m - (intOf v5).toNat)
                case atStart => exact ⟨0, rfl, by omega, New.refl _, Lib.hid (by simp)⟩
                case round =>
                  obtain ⟨k, rfl, hk, hn3, HK⟩ := hrel
                  have g1 := (B58.new hn3).cell' 1 _ rfl
                  by_cases hlt3 : k < m
                  · obtain ⟨bw, ow, rfl, _, hcw⟩ := (HWR.out.below hn3).2 (by omega)
                    have hlt4 : k < p.2.length := by rw [HM.out]; exact hlt3
                    have d3 : wr.cell? ⟨bw, ow + k, none⟩ = some (.string p.2[k]) := hcw k _ (by simp [hlt4])
                    have hxm := List.getElem_mem hlt4
                    have HXS := Lib.hid (HPX.out _ hxm)
                    have HAN := Lib.hid (fun h => allOk_no hxm h)
                    have htk : (p.2.take (k + 1)).all okW = ((p.2.take k).all okW && okW p.2[k]) := by rw [List.take_succ_eq_append_getElem hlt4, List.all_append]; simp
                    rw [HK.out, Bool.true_and] at htk
                    have HT := Lib.hid htk
                    clear htk hxm hcw
                    generalize p.2[k] = x at *
                    have k0 : (0 : Int) ≤ (k : Int) := by omega
                    have k2 : (k : Int) < (m : Int) := by omega
                    have HWD := Lib.hid (fun W => word_any x W HXS.out)
                    cases hok : okW x
                    · rw [hok] at HWD
                      have hC2 := HC.out
                      rw [HAN.out hok, if_neg (by decide)] at hC2
                      have HC3 := Lib.hid hC2
                      clear hok hC2
                      go_wp2_with (go_at_call 52; refine (HWD.out _).mono ?_; rintro e w9 ⟨rfl, hn9⟩)
                      go_ret
                      exact ⟨ret_i HC3.out.symm, ((((hnS.trans hn1).trans hn2).trans hno).trans hn3).trans hn9⟩
                    · rw [hok] at HWD
                      have HOK := Lib.hid hok
                      clear hok
                      go_wp2_with (go_at_call 52; refine (HWD.out _).mono ?_; rintro e w9 ⟨rfl, hn9⟩)
                      go_roundw
                      case rel => exact ⟨k + 1, by go_num, by omega, hn3.trans hn9, Lib.hid (by rw [HT.out]; exact HOK.out)⟩
                      case measure => simp [intOf]; omega
                  · obtain rfl : k = m := by omega
                    have hC2 := HC.out
                    have hall : allOk p.2 = true := by
                      have h1 := HK.out
                      have h2 := HM.out
                      rw [← h2, List.take_length] at h1
                      exact h1
                    rw [hall, if_pos rfl] at hC2
                    have HC3 := Lib.hid hC2
                    clear hC2 hall
                    go_wp2
                    go_roundw
                    case rel => exact ⟨j + 1, by go_num, by omega, (hn2.trans hno).trans hn3, Lib.hid HC3.out.symm⟩
                    case measure => simp [intOf]; omega
      · obtain rfl : j = n := by omega
        have h9 : checkV ps = 0 := by have := H.out; rw [List.drop_of_length_le (by rw [HN.out]; exact Nat.le_refl _)] at this; exact this.symm
        have H9 := Lib.hid h9
        clear h9
        go_wp2
        go_ret
        exact ⟨ret_i H9.out.symm, (hnS.trans hn1).trans hn2⟩
end Go.Proofs.YtpoelhnceebmkaaGreatDoor

namespace Go.Proofs.YtpoelhnceebmkaaGreatDoor
open Go Go.RowKit Go.Shelf
set_option linter.unusedSimpArgs false
set_option linter.unusedVariables false

theorem stands_iff {part words : List ByteArray} {a : Nat} (h : a + part.length ≤ words.length) : standsV part words a = true ↔ ∀ k, k < part.length → words[a + k]? = part[k]? := by
  unfold standsV
  rw [decide_eq_true h, Bool.true_and, decide_eq_true_eq]
  constructor
  · intro e k hk
    have e2 : part[k]? = ((words.drop a).take part.length)[k]? := congrArg (·[k]?) e
    rw [e2, List.getElem?_take_of_lt hk, List.getElem?_drop]
  · intro e
    refine List.ext_getElem? fun k => ?_
    by_cases hk : k < part.length
    · rw [List.getElem?_take_of_lt hk, List.getElem?_drop, e k hk]
    · rw [List.getElem?_eq_none (by omega), List.getElem?_eq_none (by rw [List.length_take]; omega)]

set_option maxRecDepth 100000 in
set_option maxHeartbeats 2000000 in
theorem rstands_any (v v' : Value) (part words : List ByteArray) (a : Nat) (w : World) (h : WRd w v part) (h' : WRd w v' words) (h1 : part.length ≤ 100000) (h2 : words.length ≤ 100000) (h3 : a ≤ 1000000) :
    Calls Tryz.prog 56 #[v, v', .int .i64 a] w fun e w' => e = .returned (.bool (standsV part words a)) ∧ New w w' := by
  obtain ⟨A, c, rfl, hc1, hc2, hr⟩ := h
  obtain ⟨A', c', rfl, hc1', hc2', hr'⟩ := h'
  have u1 : IntKind.i64.wrap ((a : Int) + (part.length : Int)) = (a : Int) + (part.length : Int) := IntWalk.i64_in _ (by omega)
  have HST := Lib.hid (stands_iff (part := part) (words := words) (a := a))
  have HNO : Hid (¬ a + part.length ≤ words.length → standsV part words a = false) := Lib.hid (fun h => by rw [standsV, decide_eq_false h, Bool.false_and])
  obtain ⟨n, hn⟩ : ∃ n, part.length = n := ⟨_, rfl⟩
  obtain ⟨m, hm⟩ : ∃ m, words.length = m := ⟨_, rfl⟩
  rw [hn] at hr hc1 h1 u1 HST HNO ⊢
  rw [hm] at hr' hc1' h2 HST HNO ⊢
  have HN := Lib.hid hn
  have HM := Lib.hid hm
  have HR := Lib.hid hr
  have HR' := Lib.hid hr'
  clear hn hm hr hr'
  generalize standsV part words a = sv at *
  by_cases hle : a + n ≤ m
  · have t1 : decide ((m : Int) < (a : Int) + (n : Int)) = false := decide_eq_false (by omega)
    have t2 : ¬ (m : Int) < (a : Int) + (n : Int) := by omega
    go_enter Tryz.func56, Tryz.ntmps56
    go_wp2
    go_loopw [7] (fun v7 wr => ∃ i : Nat, v7 = .int .i64 i ∧ i ≤ n ∧ New w wr ∧ Hid (∀ k, k < i → words[a + k]? = part[k]?)) (fun v7 _ => n - (intOf v7).toNat)
    case atStart => exact ⟨0, rfl, by omega, New.refl _, Lib.hid (fun k hk => by omega)⟩
    case round =>
      obtain ⟨i, rfl, hi, hnr, HK⟩ := hrel
      by_cases hlt : i < n
      · obtain ⟨b, o, rfl, hb, hc⟩ := (HR.out.below hnr).2 (by omega)
        obtain ⟨b', o', rfl, hb', hc'⟩ := (HR'.out.below hnr).2 (by omega)
        have l1 : i < part.length := by rw [HN.out]; exact hlt
        have l2 : a + i < words.length := by rw [HM.out]; omega
        have d1 : wr.cell? ⟨b, o + i, none⟩ = some (.string part[i]) := hc i _ (by simp [l1])
        have d2 : wr.cell? ⟨b', o' + (a + i), none⟩ = some (.string words[a + i]) := hc' (a + i) _ (by simp [l2])
        have HP1 : Hid (part[i]? = some part[i]) := Lib.hid (List.getElem?_eq_getElem l1)
        have HP2 : Hid (words[a + i]? = some words[a + i]) := Lib.hid (List.getElem?_eq_getElem l2)
        clear hc hc'
        generalize part[i] = x at *
        generalize words[a + i] = y at *
        clear l1 l2
        have u2 : IntKind.i64.wrap ((a : Int) + (i : Int)) = (a : Int) + (i : Int) := IntWalk.i64_in _ (by omega)
        have i0 : (0 : Int) ≤ (i : Int) := by omega
        have i1 : (i : Int) < (n : Int) := by omega
        have i2 : (0 : Int) ≤ (a : Int) + (i : Int) := by omega
        have i3 : (a : Int) + (i : Int) < (m : Int) := by omega
        have i4 : ((a : Int) + (i : Int)).toNat = a + i := by omega
        by_cases hxy : y = x
        · have HXY := Lib.hid hxy
          have c1 : (y.toList == x.toList) = true := by rw [hxy]; exact beq_self_eq_true _
          clear hxy
          go_wp2
          go_quiet (fail)
          go_wp2
          go_roundw
          case rel => exact ⟨i + 1, by go_num, by omega, hnr.drewN nq, Lib.hid (fun k hk => by
            by_cases h : k < i
            · exact HK.out k h
            · obtain rfl : k = i := by omega
              rw [HP1.out, HP2.out, HXY.out])⟩
          case measure => simp [intOf]; omega
        · have c1 : (y.toList != x.toList) = true := bne_iff_ne.2 (fun h => hxy (by rw [toList_eq, toList_eq] at h; exact bytes_ext h))
          have c3 : (y.toList == x.toList) = false := beq_eq_false_iff_ne.2 (fun h => hxy (by rw [toList_eq, toList_eq] at h; exact bytes_ext h))
          have hsv : sv = false := by
            cases e : sv with
            | false => rfl
            | true =>
              have := (HST.out hle).1 e i hlt
              rw [HP1.out, HP2.out] at this
              exact absurd (Option.some.inj this) hxy
          subst hsv
          clear hxy
          go_wp2
          go_quiet (fail)
          go_wp2
          exact bodyPost_ret (v := .bool false) (by simp [results, Tryz.results56, go_sem]) rfl ⟨rfl, hnr.drewN nq⟩
      · obtain rfl : i = n := by omega
        have hsv : sv = true := (HST.out hle).2 (fun k hk => HK.out k hk)
        subst hsv
        go_wp2
        exact bodyPost_ret (v := .bool true) (by simp [results, Tryz.results56, go_sem]) rfl ⟨rfl, hnr⟩
  · have t1 : decide ((m : Int) < (a : Int) + (n : Int)) = true := decide_eq_true (by omega)
    have t2 : (m : Int) < (a : Int) + (n : Int) := by omega
    have hsv := HNO.out hle
    subst hsv
    go_enter Tryz.func56, Tryz.ntmps56
    go_wp2
    exact bodyPost_ret (v := .bool false) (by simp [results, Tryz.results56, go_sem]) rfl ⟨rfl, New.refl _⟩
end Go.Proofs.YtpoelhnceebmkaaGreatDoor

