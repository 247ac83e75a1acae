/- The reference's Common and Few. No conditions but the lengths' own. -/
import Derived.Test.YtlecocmopeainaaDoorN3
namespace Go.Proofs.YtlecocmopeainaaDoor
open Go Go.RowKit Go.Joins Go.Shelf
set_option linter.unusedSimpArgs false

set_option maxRecDepth 100000 in
set_option maxHeartbeats 4000000 in
theorem rcommon_any (v : Value) (p : ByteArray) (ws : List Lz) (i : Int) (v' : Value) (p' : ByteArray) (ws' : List Lz) (j : Int) (w : World) (h : ZText w v p ws) (h' : ZText w v' p' ws') (hf : Fit p ws) (hf' : Fit p' ws') :
    Calls Tryd.prog 19 #[v, .int .i64 i, v', .int .i64 j] w fun e w' => e = .returned (.int .i64 (commonV p ws i p' ws' j)) ∧ New w w' := by
  obtain ⟨A, c, rfl, hc1, hc2, hr⟩ := id h
  obtain ⟨A', c', rfl, hc1', hc2', hr'⟩ := id h'
  have hz : (ws.length : Int) ≤ 9223372036854775807 := by
    have h2 := hc2
    simp only [maxLen] at h2
    omega
  have hz' : (ws'.length : Int) ≤ 9223372036854775807 := by
    have h2 := hc2'
    simp only [maxLen] at h2
    omega
  have hnS : New w ((w.alloc (.cells #[.string p, .slice A ws.length c] 25)).alloc (.cells #[.string p', .slice A' ws'.length c'] 25)) := ((New.refl w).alloc _).alloc _
  cases g5 : validV p ws
  · have hv : commonV p ws i p' ws' j = 0 := if_pos (.inr (.inr (.inr (.inr (.inl g5)))))
    have HV := Lib.hid hv
    have H5 := Lib.hid g5
    clear hv g5
    go_enter Tryd.func19, Tryd.ntmps19
    go_wp2_with (go_at_call 25; refine (rvalid_any _ p ws _ (h.new hnS) hf.words).mono ?_; rw [H5.out]; rintro e w1 ⟨rfl, hn1⟩; have B2 := ((Blk.made _ _ _).new hn1); rw [World.size_alloc] at B2; have B1 := ((Blk.made _ _ _).alloc _).new hn1; have e20 := B2.cell' 0 _ rfl; have e21 := B2.cell' 1 _ rfl)
    go_ret
    exact ⟨ret_i HV.out.symm, hnS.trans hn1⟩
  cases g6 : validV p' ws'
  · have hv : commonV p ws i p' ws' j = 0 := if_pos (.inr (.inr (.inr (.inr (.inr g6)))))
    have HV := Lib.hid hv
    have H5 := Lib.hid g5
    have H6 := Lib.hid g6
    clear hv g5 g6
    go_enter Tryd.func19, Tryd.ntmps19
    go_wp2_with (first | (go_at_call 25; refine (rvalid_any _ p' ws' _ ((h'.new hnS).new hn1) hf'.words).mono ?_; rw [H6.out]; rintro e w2 ⟨rfl, hn2⟩; have B1w := B1.new hn2; have B2w := B2.new hn2; have e20 := B2w.cell' 0 _ rfl; have e21 := B2w.cell' 1 _ rfl; have e10 := B1w.cell' 0 _ rfl; have e11 := B1w.cell' 1 _ rfl) | (go_at_call 25; refine (rvalid_any _ p ws _ (h.new hnS) hf.words).mono ?_; rw [H5.out]; rintro e w1 ⟨rfl, hn1⟩; have B2 := ((Blk.made _ _ _).new hn1); rw [World.size_alloc] at B2; have B1 := ((Blk.made _ _ _).alloc _).new hn1; have e20 := B2.cell' 0 _ rfl; have e21 := B2.cell' 1 _ rfl))
    go_ret
    exact ⟨ret_i HV.out.symm, (hnS.trans hn1).trans hn2⟩
  have H5 := Lib.hid g5
  have H6 := Lib.hid g6
  by_cases g1 : i < 0
  · have hv : commonV p ws i p' ws' j = 0 := if_pos (.inl g1)
    have HV := Lib.hid hv
    clear hv g5 g6
    go_enter Tryd.func19, Tryd.ntmps19
    go_wp2_with (first | (go_at_call 25; refine (rvalid_any _ p' ws' _ ((h'.new hnS).new hn1) hf'.words).mono ?_; rw [H6.out]; rintro e w2 ⟨rfl, hn2⟩; have B1w := B1.new hn2; have B2w := B2.new hn2; have e20 := B2w.cell' 0 _ rfl; have e21 := B2w.cell' 1 _ rfl; have e10 := B1w.cell' 0 _ rfl; have e11 := B1w.cell' 1 _ rfl) | (go_at_call 25; refine (rvalid_any _ p ws _ (h.new hnS) hf.words).mono ?_; rw [H5.out]; rintro e w1 ⟨rfl, hn1⟩; have B2 := ((Blk.made _ _ _).new hn1); rw [World.size_alloc] at B2; have B1 := ((Blk.made _ _ _).alloc _).new hn1; have e20 := B2.cell' 0 _ rfl; have e21 := B2.cell' 1 _ rfl))
    go_ret
    exact ⟨ret_i HV.out.symm, (hnS.trans hn1).trans hn2⟩
  have g1' : 0 ≤ i := by omega
  by_cases g2 : (ws.length : Int) < i
  · have hv : commonV p ws i p' ws' j = 0 := if_pos (.inr (.inl g2))
    have HV := Lib.hid hv
    clear hv g5 g6
    go_enter Tryd.func19, Tryd.ntmps19
    go_wp2_with (first | (go_at_call 25; refine (rvalid_any _ p' ws' _ ((h'.new hnS).new hn1) hf'.words).mono ?_; rw [H6.out]; rintro e w2 ⟨rfl, hn2⟩; have B1w := B1.new hn2; have B2w := B2.new hn2; have e20 := B2w.cell' 0 _ rfl; have e21 := B2w.cell' 1 _ rfl; have e10 := B1w.cell' 0 _ rfl; have e11 := B1w.cell' 1 _ rfl) | (go_at_call 25; refine (rvalid_any _ p ws _ (h.new hnS) hf.words).mono ?_; rw [H5.out]; rintro e w1 ⟨rfl, hn1⟩; have B2 := ((Blk.made _ _ _).new hn1); rw [World.size_alloc] at B2; have B1 := ((Blk.made _ _ _).alloc _).new hn1; have e20 := B2.cell' 0 _ rfl; have e21 := B2.cell' 1 _ rfl))
    go_ret
    exact ⟨ret_i HV.out.symm, (hnS.trans hn1).trans hn2⟩
  by_cases g3 : j < 0
  · have hv : commonV p ws i p' ws' j = 0 := if_pos (.inr (.inr (.inl g3)))
    have HV := Lib.hid hv
    clear hv g5 g6
    go_enter Tryd.func19, Tryd.ntmps19
    go_wp2_with (first | (go_at_call 25; refine (rvalid_any _ p' ws' _ ((h'.new hnS).new hn1) hf'.words).mono ?_; rw [H6.out]; rintro e w2 ⟨rfl, hn2⟩; have B1w := B1.new hn2; have B2w := B2.new hn2; have e20 := B2w.cell' 0 _ rfl; have e21 := B2w.cell' 1 _ rfl; have e10 := B1w.cell' 0 _ rfl; have e11 := B1w.cell' 1 _ rfl) | (go_at_call 25; refine (rvalid_any _ p ws _ (h.new hnS) hf.words).mono ?_; rw [H5.out]; rintro e w1 ⟨rfl, hn1⟩; have B2 := ((Blk.made _ _ _).new hn1); rw [World.size_alloc] at B2; have B1 := ((Blk.made _ _ _).alloc _).new hn1; have e20 := B2.cell' 0 _ rfl; have e21 := B2.cell' 1 _ rfl))
    go_ret
    exact ⟨ret_i HV.out.symm, (hnS.trans hn1).trans hn2⟩
  have g3' : 0 ≤ j := by omega
  by_cases g4 : (ws'.length : Int) < j
  · have hv : commonV p ws i p' ws' j = 0 := if_pos (.inr (.inr (.inr (.inl g4))))
    have HV := Lib.hid hv
    clear hv g5 g6
    go_enter Tryd.func19, Tryd.ntmps19
    go_wp2_with (first | (go_at_call 25; refine (rvalid_any _ p' ws' _ ((h'.new hnS).new hn1) hf'.words).mono ?_; rw [H6.out]; rintro e w2 ⟨rfl, hn2⟩; have B1w := B1.new hn2; have B2w := B2.new hn2; have e20 := B2w.cell' 0 _ rfl; have e21 := B2w.cell' 1 _ rfl; have e10 := B1w.cell' 0 _ rfl; have e11 := B1w.cell' 1 _ rfl) | (go_at_call 25; refine (rvalid_any _ p ws _ (h.new hnS) hf.words).mono ?_; rw [H5.out]; rintro e w1 ⟨rfl, hn1⟩; have B2 := ((Blk.made _ _ _).new hn1); rw [World.size_alloc] at B2; have B1 := ((Blk.made _ _ _).alloc _).new hn1; have e20 := B2.cell' 0 _ rfl; have e21 := B2.cell' 1 _ rfl))
    go_ret
    exact ⟨ret_i HV.out.symm, (hnS.trans hn1).trans hn2⟩
  obtain ⟨k, rfl⟩ : ∃ k : Nat, i = k := ⟨i.toNat, by omega⟩
  obtain ⟨m, rfl⟩ : ∃ m : Nat, j = m := ⟨j.toNat, by omega⟩
  have hv : commonV p ws k p' ws' m = cpre (ws.drop k) (ws'.drop m) := by
    rw [commonV, if_neg]
    · simp
    · rintro (h | h | h | h | h | h)
      · exact g1 h
      · exact g2 h
      · exact g3 h
      · exact g4 h
      · rw [g5] at h; cases h
      · rw [g6] at h; cases h
  have HV := Lib.hid hv
  have hk : k ≤ ws.length := by omega
  have hm : m ≤ ws'.length := by omega
  clear hv g5 g6 g1 g2 g3 g4 g1' g3'
  go_enter Tryd.func19, Tryd.ntmps19
  go_wp2_with (first | (go_at_call 25; refine (rvalid_any _ p' ws' _ ((h'.new hnS).new hn1) hf'.words).mono ?_; rw [H6.out]; rintro e w2 ⟨rfl, hn2⟩; have B1w := B1.new hn2; have B2w := B2.new hn2; have e20 := B2w.cell' 0 _ rfl; have e21 := B2w.cell' 1 _ rfl; have e10 := B1w.cell' 0 _ rfl; have e11 := B1w.cell' 1 _ rfl) | (go_at_call 25; refine (rvalid_any _ p ws _ (h.new hnS) hf.words).mono ?_; rw [H5.out]; rintro e w1 ⟨rfl, hn1⟩; have B2 := ((Blk.made _ _ _).new hn1); rw [World.size_alloc] at B2; have B1 := ((Blk.made _ _ _).alloc _).new hn1; have e20 := B2.cell' 0 _ rfl; have e21 := B2.cell' 1 _ rfl))
  have hw2 : New w w2 := (hnS.trans hn1).trans hn2
  go_loopw [9] (fun v9 wr => ∃ n : Nat, v9 = .int .i64 n ∧ k + n ≤ ws.length ∧ m + n ≤ ws'.length ∧ New w2 wr ∧ Hid (n + cpre ((ws.drop k).drop n) ((ws'.drop m).drop n) = cpre (ws.drop k) (ws'.drop m))) (fun v9 _ => ws.length - (intOf v9).toNat)
  case atStart => exact ⟨0, rfl, by omega, by omega, New.refl w2, Lib.hid (by simp)⟩
  case round =>
    obtain ⟨n, rfl, hn3, hn4, hn5, H⟩ := hrel
    have e11 := (B1w.new hn5).cell' 1 _ rfl
    have e21 := (B2w.new hn5).cell' 1 _ rfl
    have s1 : IntKind.i64.wrap ((k : Int) + (n : Int)) = (k : Int) + (n : Int) := IntWalk.i64_in _ (by omega)
    have s2 : IntKind.i64.wrap ((m : Int) + (n : Int)) = (m : Int) + (n : Int) := IntWalk.i64_in _ (by omega)
    have s3 : (0 : Int) ≤ (k : Int) + (n : Int) := by omega
    have s4 : (0 : Int) ≤ (m : Int) + (n : Int) := by omega
    have s5 : ((k : Int) + (n : Int)).toNat = k + n := by omega
    have s6 : ((m : Int) + (n : Int)).toNat = m + n := by omega
    by_cases l1 : k + n < ws.length
    · have t1 : decide ((k : Int) + (n : Int) < (ws.length : Int)) = true := decide_eq_true (by omega)
      have t1' : (k : Int) + (n : Int) < (ws.length : Int) := by omega
      by_cases l2 : m + n < ws'.length
      · have t2 : decide ((m : Int) + (n : Int) < (ws'.length : Int)) = true := decide_eq_true (by omega)
        have t2' : (m : Int) + (n : Int) < (ws'.length : Int) := by omega
        obtain ⟨bk, o, rfl, hbk, hc⟩ := hr.2 (by omega)
        obtain ⟨bk', o', rfl, hbk', hc'⟩ := hr'.2 (by omega)
        have hxg : (ws.drop k)[n]'(by simp; omega) = ws[k + n] := by simp
        have hyg : (ws'.drop m)[n]'(by simp; omega) = ws'[m + n] := by simp
        have d1 : wr.cell? ⟨bk, o + (k + n) * 2, none⟩ = some (.string ws[k + n].1) := ((hw2.trans hn5).cell (p := ⟨bk, o + (k + n) * 2, none⟩) hbk).trans (hc _ _ (zCells_at ws (k + n) l1).1)
        have d2 : wr.cell? ⟨bk', o' + (m + n) * 2, none⟩ = some (.string ws'[m + n].1) := ((hw2.trans hn5).cell (p := ⟨bk', o' + (m + n) * 2, none⟩) hbk').trans (hc' _ _ (zCells_at ws' (m + n) l2).1)
        clear hc hc'
        by_cases he : ws[k + n].1 = ws'[m + n].1
        · have HN : Hid ((n + 1) + cpre ((ws.drop k).drop (n + 1)) ((ws'.drop m).drop (n + 1)) = cpre (ws.drop k) (ws'.drop m)) := Lib.hid (by
            rw [← H.out, cpre_eq (xs := ws.drop k) (ys := ws'.drop m) (n := n) (by simp; omega) (by simp; omega) (by rw [hxg, hyg]; exact he)]; omega)
          rw [← he] at d2
          clear hxg hyg
          generalize ws[k + n].1 = x at *
          have HE := Lib.hid he
          clear he
          go_wp2_with (fail)
          go_quiet (fail)
          clear s1 s2 s5 s6
          go_wp2
          go_roundw
          case rel => exact ⟨n + 1, by go_num, by omega, by omega, hn5.drewN nq, HN⟩
          case measure => simp [intOf]; omega
        · have HN : Hid ((n : Int) = commonV p ws k p' ws' m) := Lib.hid (by
            rw [HV.out, ← H.out, cpre_ne (xs := ws.drop k) (ys := ws'.drop m) (n := n) (by simp; omega) (by simp; omega) (by rw [hxg, hyg]; exact he)]; rfl)
          have f1 := str_ne he
          clear hxg hyg
          generalize ws[k + n].1 = x at *
          generalize ws'[m + n].1 = y at *
          clear he
          go_wp2_with (fail)
          go_quiet (fail)
          go_wp2
          go_ret
          exact ⟨ret_i HN.out, (hw2.trans hn5).drewN nq⟩
      · have HN : Hid ((n : Int) = commonV p ws k p' ws' m) := Lib.hid (by
          rw [HV.out, ← H.out, cpre_end (xs := ws.drop k) (ys := ws'.drop m) (n := n) (.inr (by simp; omega))]; rfl)
        have t2 : decide ((m : Int) + (n : Int) < (ws'.length : Int)) = false := decide_eq_false (by omega)
        go_wp2_with (fail)
        go_quiet (fail)
        go_wp2
        go_ret
        exact ⟨ret_i HN.out, (hw2.trans hn5).drewN nq⟩
    · have HN : Hid ((n : Int) = commonV p ws k p' ws' m) := Lib.hid (by
        rw [HV.out, ← H.out, cpre_end (xs := ws.drop k) (ys := ws'.drop m) (n := n) (.inl (by simp; omega))]; rfl)
      have t1 : decide ((k : Int) + (n : Int) < (ws.length : Int)) = false := decide_eq_false (by omega)
      go_wp2_with (fail)
      go_quiet (fail)
      go_wp2
      go_ret
      exact ⟨ret_i HN.out, (hw2.trans hn5).drewN nq⟩

/-- Few, at a text that is known. -/
def fewB (p : ByteArray) (ws : List Lz) : Bool := decide (ws.length ≤ 200) && decide (p.size ≤ 200) && ws.all fun x => decide (x.1.size ≤ 100)
set_option maxRecDepth 100000 in
set_option maxHeartbeats 2000000 in
theorem few_any (v : Value) (p : ByteArray) (ws : List Lz) (w : World) (h : ZText w v p ws) :
    Calls Tryd.prog 17 #[v] w fun e w' => e = .returned (.bool (fewB p ws)) ∧ New w w' := by
  obtain ⟨A, c, rfl, hc1, hc2, hr⟩ := h
  by_cases g1 : ws.length ≤ 200
  · by_cases g2 : p.size ≤ 200
    · have hv : fewB p ws = ws.all fun x => decide (x.1.size ≤ 100) := by rw [fewB, decide_eq_true g1, decide_eq_true g2]; rfl
      have HV := Lib.hid hv
      have g1' : ¬ (200 : Int) < (ws.length : Int) := by omega
      have g2' : ¬ (200 : Int) < (p.size : Int) := by omega
      clear hv
      go_enter Tryd.func17, Tryd.ntmps17
      go_wp2
      obtain ⟨wS, hwS⟩ : ∃ q, q = w.alloc (.cells #[.string p, .slice A ws.length c] 25) := ⟨_, rfl⟩
      rw [← hwS]
      have hnS : New w wS := by rw [hwS]; exact (New.refl w).alloc _
      have b0 : Blk wS w.heap.size 25 #[.string p, .slice A ws.length c] := by rw [hwS]; exact Blk.made w _ _
      clear hwS
      go_loopw [3] (fun v3 wr => ∃ i : Nat, v3 = .int .i64 i ∧ i ≤ ws.length ∧ wr = wS ∧ Hid ((ws.take i).all (fun x => decide (x.1.size ≤ 100)) = true)) (fun v3 _ => ws.length - (intOf v3).toNat)
      case atStart => exact ⟨0, rfl, by omega, rfl, Lib.hid (by simp)⟩
      case round =>
        obtain ⟨i, rfl, hi, rfl, HT⟩ := hrel
        have c0 : wr.cell? ⟨w.heap.size, 1, none⟩ = some (.slice A ws.length c) := b0.cell' 1 _ rfl
        by_cases hlt : i < ws.length
        · obtain ⟨bk, o, rfl, _, hc⟩ := (hr.below hnS).2 (by omega)
          obtain ⟨q1, q2⟩ := zCells_at ws i hlt
          have d1 := hc _ _ q1
          have hx : ws[i] ∈ ws := List.getElem_mem hlt
          have ht : (ws.take (i + 1)).all (fun x => decide (x.1.size ≤ 100)) = decide (ws[i].1.size ≤ 100) := by
            rw [List.take_succ_eq_append_getElem hlt, List.all_append, HT.out]; simp
          generalize ws[i] = x at *
          have HX := Lib.hid hx
          clear q1 q2 hc hx
          by_cases hs : x.1.size ≤ 100
          · have hs' : ¬ (100 : Int) < (x.1.size : Int) := by omega
            have HN : Hid ((ws.take (i + 1)).all (fun x => decide (x.1.size ≤ 100)) = true) := Lib.hid (by rw [ht, decide_eq_true hs])
            clear ht
            go_wp2
            go_roundw
            case rel => exact ⟨i + 1, by go_num, by omega, by trivial, HN⟩
            case measure => simp [intOf]; omega
          · have hs' : (100 : Int) < (x.1.size : Int) := by omega
            have HF : Hid (fewB p ws = false) := Lib.hid (by
              rw [HV.out, List.all_eq_false]
              exact ⟨x, HX.out, by rw [decide_eq_false hs]; decide⟩)
            clear ht hs
            go_wp2
            go_ret
            exact ⟨ret_b HF.out.symm, hnS⟩
        · have h0 : i = ws.length := by omega
          subst h0
          have HF : Hid (fewB p ws = true) := Lib.hid (by rw [HV.out, ← HT.out, List.take_length])
          go_wp2
          go_ret
          exact ⟨ret_b HF.out.symm, hnS⟩
    · have hv : fewB p ws = false := by rw [fewB, decide_eq_false g2]; simp
      have HV := Lib.hid hv
      have g1' : ¬ (200 : Int) < (ws.length : Int) := by omega
      have g2' : (200 : Int) < (p.size : Int) := by omega
      clear hv g1 g2
      go_enter Tryd.func17, Tryd.ntmps17
      go_wp2
      go_ret
      exact ⟨ret_b HV.out.symm, (New.refl w).alloc _⟩
  · have hv : fewB p ws = false := by rw [fewB, decide_eq_false g1]; rfl
    have HV := Lib.hid hv
    have g1' : (200 : Int) < (ws.length : Int) := by omega
    clear hv g1
    go_enter Tryd.func17, Tryd.ntmps17
    go_wp2
    go_ret
    exact ⟨ret_b HV.out.symm, (New.refl w).alloc _⟩
theorem few_fit {p : ByteArray} {ws : List Lz} (h : fewB p ws = true) : Fit p ws := by
  simp only [fewB, Bool.and_eq_true, decide_eq_true_eq, List.all_eq_true] at h
  exact ⟨by omega, fun x hx => by have := h.2 x hx; omega⟩
end Go.Proofs.YtlecocmopeainaaDoor
