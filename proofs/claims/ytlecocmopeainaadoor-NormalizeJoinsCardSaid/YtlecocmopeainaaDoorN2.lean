/- The reference's Valid: which texts of words are valid. No conditions but the lengths' own. -/
import Derived.Test.YtlecocmopeainaaDoorN1
namespace Go.Proofs.YtlecocmopeainaaDoor
open Go Go.RowKit Go.Joins Go.Shelf
set_option linter.unusedSimpArgs false

theorem any_next {s : ByteArray} {k : Nat} (h : k < s.size) (ht : (s.data.toList.take k).any blank = false) (hb : blankB s[k].toNat = false) : (s.data.toList.take (k + 1)).any blank = false := by
  have hl : k < s.data.toList.length := by rw [← size_eq]; exact h
  rw [List.take_succ_eq_append_getElem hl, List.any_append, ht, ← get_eq s k h]
  simpa [blank] using hb
theorem any_hit {s : ByteArray} {k : Nat} (h : k < s.size) (hb : blankB s[k].toNat = true) : anyBlank s = true := by
  have hl : k < s.data.toList.length := by rw [← size_eq]; exact h
  rw [anyBlank, List.any_eq_true]
  exact ⟨_, List.getElem_mem hl, by rw [← get_eq s k h]; exact hb⟩
theorem any_none {s : ByteArray} (ht : (s.data.toList.take s.size).any blank = false) : anyBlank s = false := by
  rw [List.take_of_length_le (by rw [← size_eq]; exact Nat.le_refl _)] at ht
  exact ht
theorem okFrom_at {m : Int} {l : List Lz} {i : Nat} {x : Lz} (h : l[i]? = some x) : okFrom m (l.drop i) = (wordOK x.1 && decide (m ≤ x.2) && decide (x.2 < 1024) && okFrom x.2 (l.drop (i + 1))) := by
  obtain ⟨hi, rfl⟩ := List.getElem?_eq_some_iff.1 h
  exact okFrom_drop hi

set_option maxRecDepth 100000 in
set_option maxHeartbeats 2000000 in
theorem rvalid_any (v : Value) (p : ByteArray) (ws : List Lz) (w : World) (h : ZText w v p ws) (hx : ∀ x ∈ ws, x.1.size ≤ 9223372036854775806) :
    Calls Tryd.prog 25 #[v] w fun e w' => e = .returned (.bool (validV p ws)) ∧ New w w' := by
  obtain ⟨A, c, rfl, hc1, hc2, hr⟩ := h
  have hz : (ws.length : Int) ≤ 9223372036854775807 := by
    have h2 := hc2
    simp only [maxLen] at h2
    omega
  cases hpo : pathOK p
  · have hv : validV p ws = false := by rw [validV, hpo]; simp
    have HV := Lib.hid hv
    have HP := Lib.hid hpo
    clear hv hpo
    go_enter Tryd.func25, Tryd.ntmps25
    go_wp2_with (go_at_call 43; refine (rpath_any _ _).mono ?_; rw [HP.out]; rintro e w1 ⟨rfl, rfl⟩)
    go_ret
    exact ⟨ret_b HV.out.symm, (New.refl w).alloc _⟩
  · have HP := Lib.hid hpo
    by_cases hlen : ws.length ≤ 8192
    · have hlen' : ¬ (8192 : Int) < (ws.length : Int) := by omega
      have hv : validV p ws = okFrom 0 ws := by rw [validV, hpo, decide_eq_true hlen]; rfl
      have HV := Lib.hid hv
      have HX := Lib.hid hx
      clear hv hpo hx
      go_enter Tryd.func25, Tryd.ntmps25
      go_wp2_with (go_at_call 43; refine (rpath_any _ _).mono ?_; rw [HP.out]; rintro e w1 ⟨rfl, rfl⟩)
      obtain ⟨wS, hwS⟩ : ∃ x, x = w.alloc (.cells #[.string p, .slice A ws.length c] 25) := ⟨_, rfl⟩
      rw [← hwS]
      have hnS : New w wS := by rw [hwS]; exact (New.refl w).alloc _
      have b0 : Blk wS w.heap.size 25 #[.string p, .slice A ws.length c] := by rw [hwS]; exact Blk.made w _ _
      clear hwS
      go_loopw [3] (fun v3 wr => ∃ (i : Nat) (m : Int), v3 = .int .i64 i ∧ 0 ≤ m ∧ (i = 0 → m = 0) ∧ Hid (0 < i → ∃ y, ws[i - 1]? = some y ∧ y.2 = m) ∧ i ≤ ws.length ∧ New wS wr ∧ Hid (okFrom m (ws.drop i) = okFrom 0 ws)) (fun v3 _ => ws.length - (intOf v3).toNat)
      case atStart => exact ⟨0, 0, rfl, by omega, fun _ => rfl, Lib.hid (fun h => absurd h (by omega)), by omega, New.refl _, Lib.hid rfl⟩
      case round =>
        obtain ⟨i, m, rfl, hm0, hmi, HM, hi, hn, H⟩ := hrel
        have c0 : wr.cell? ⟨w.heap.size, 1, none⟩ = some (.slice A ws.length c) := (b0.new hn).cell' 1 _ rfl
        have hws : w.heap.size < wr.heap.size := (b0.new hn).lt
        by_cases hlt : i < ws.length
        · obtain ⟨bk, o, rfl, hbk, hc⟩ := ((hr.below hnS).below hn).2 (by omega)
          obtain ⟨q1, q2⟩ := zCells_at ws i hlt
          have d1 := hc _ _ q1
          have d2 : wr.cell? ⟨bk, o + i * 2 + 1, none⟩ = some (.int .i64 ws[i].2) := hc _ _ q2
          have hxs := HX.out ws[i] (List.getElem_mem hlt)
          have hg : ws[i]? = some ws[i] := List.getElem?_eq_getElem hlt
          have hd := okFrom_at (m := m) hg
          rw [H.out] at hd
          have HC : Hid (∀ j u, (zCells ws)[j]? = some u → wr.cell? ⟨bk, o + j, none⟩ = some u) := Lib.hid hc
          have i0 : (0 : Int) ≤ (i : Int) := by omega
          have i1 : (i : Int) < (ws.length : Int) := by omega
          generalize ws[i] = x at *
          have HG := Lib.hid hg
          clear q1 q2 hc hg
          by_cases h0 : 0 < x.1.size
          · have hne : (x.1.toList == []) = false := by rw [toList_eq, data_cons h0]; rfl
            have hne2 : x.1.toList.isEmpty = false := by rw [toList_eq, data_cons h0]; rfl
            by_cases hx0 : x.2 < 0
            · have HF : Hid (validV p ws = false) := Lib.hid (by rw [HV.out, hd, decide_eq_false (show ¬ m ≤ x.2 by omega)]; simp)
              have t1 : decide (x.2 < 0) = true := decide_eq_true hx0
              clear hd hmi
              go_wp2_with (fail)
              go_quiet (fail)
              go_wp2
              go_ret
              exact ⟨ret_b HF.out.symm, hnS.trans ((hn.alloc _).drewN nq)⟩
            · have t1 : decide (x.2 < 0) = false := decide_eq_false hx0
              by_cases hx1 : x.2 < 1024
              · have t2 : decide ((1024 : Int) ≤ x.2) = false := decide_eq_false (by omega)
                by_cases hi0 : 0 < i
                · have t3 : decide ((0 : Int) < (i : Int)) = true := decide_eq_true (by omega)
                  obtain ⟨y, hy, rfl⟩ := HM.out hi0
                  have d3 : wr.cell? ⟨bk, o + (i - 1) * 2 + 1, none⟩ = some (.int .i64 y.2) := by
                    obtain ⟨hy1, rfl⟩ := List.getElem?_eq_some_iff.1 hy
                    exact HC.out _ _ (zCells_at ws (i - 1) hy1).2
                  have HY := Lib.hid hy
                  clear hy
                  have k1 : IntKind.i64.wrap ((i : Int) - 1) = (i : Int) - 1 := IntWalk.i64_in _ (by omega)
                  have k2 : (0 : Int) ≤ (i : Int) - 1 := by omega
                  have k3 : ((i : Int) - 1).toNat = i - 1 := by omega
                  have k4 : (i : Int) - 1 < (ws.length : Int) := by omega
                  by_cases hxm : y.2 ≤ x.2
                  · have t4 : decide (x.2 < y.2) = false := decide_eq_false (by omega)
                    have HD : Hid (wordOK x.1 = true → okFrom x.2 (ws.drop (i + 1)) = okFrom 0 ws) := Lib.hid (fun hw => by rw [hd, hw, decide_eq_true (show _ ≤ x.2 by omega), decide_eq_true hx1]; rfl)
                    have HD2 : Hid (wordOK x.1 = false → okFrom 0 ws = false) := Lib.hid (fun hw => by rw [hd, hw]; simp)
                    have hx2 : 0 ≤ x.2 := by omega
                    clear hd hmi hxm hx0 hx1
                    go_wp2_with (fail)
                    go_quiet (fail)
                    go_wp2
                    obtain ⟨wT, hwT⟩ : ∃ q, q = wr.alloc (.cells #[.string x.1, .int .i64 x.2] 33) := ⟨_, rfl⟩
                    rw [← hwT]
                    have hnT : New wr wT := by rw [hwT]; exact (New.refl wr).alloc _
                    have b1 : Blk wT wr.heap.size 33 #[.string x.1, .int .i64 x.2] := by rw [hwT]; exact Blk.made wr _ _
                    clear hwT
                    go_loopw [5] (fun v5 wx => ∃ k : Nat, v5 = .int .i64 k ∧ wx = wT.drewN nq ∧ k ≤ x.1.size ∧ Hid ((x.1.data.toList.take k).any blank = false)) (fun v5 _ => x.1.size - (intOf v5).toNat)
                    case atStart => exact ⟨0, rfl, rfl, by omega, Lib.hid rfl⟩
                    case round =>
                      obtain ⟨k, rfl, rfl, hk, HK⟩ := hrel
                      have e0 : (wT.drewN nq).cell? ⟨wr.heap.size, 0, none⟩ = some (.string x.1) := b1.cell' 0 _ rfl
                      by_cases hkl : k < x.1.size
                      · cases hb : blankB x.1[k].toNat
                        · have HB := Lib.hid hb
                          clear hb
                          go_wp2_with (go_at_call 57; refine (rblank_any _ _).mono ?_; rw [HB.out]; rintro e w' ⟨rfl, rfl⟩)
                          go_roundw
                          case rel => exact ⟨k + 1, by go_num, by trivial, by omega, Lib.hid (any_next hkl HK.out HB.out)⟩
                          case measure => simp [intOf]; omega
                        · have HF : Hid (validV p ws = false) := Lib.hid (by rw [HV.out]; exact HD2.out (by rw [wordOK_eq _ h0, any_hit hkl hb]; rfl))
                          have HB := Lib.hid hb
                          clear hb
                          go_wp2_with (go_at_call 57; refine (rblank_any _ _).mono ?_; rw [HB.out]; rintro e w' ⟨rfl, rfl⟩)
                          go_ret
                          exact ⟨ret_b HF.out.symm, hnS.trans ((hn.trans hnT).drewN nq)⟩
                      · obtain rfl : k = x.1.size := by omega
                        have HE := Lib.hid (HD.out (by rw [wordOK_eq _ h0, any_none HK.out]; rfl))
                        have e1 : (wT.drewN nq).cell? ⟨wr.heap.size, 1, none⟩ = some (.int .i64 x.2) := b1.cell' 1 _ rfl
                        go_wp2
                        go_roundw
                        case rel => exact ⟨i + 1, x.2, by go_num, hx2, fun h => absurd h (by omega), Lib.hid (fun _ => ⟨x, HG.out, rfl⟩), by omega, (hn.trans hnT).drewN nq, HE⟩
                        case measure => simp [intOf]; omega
                  · have t4 : decide (x.2 < y.2) = true := decide_eq_true (by omega)
                    have HF : Hid (validV p ws = false) := Lib.hid (by rw [HV.out, hd, decide_eq_false hxm]; simp)
                    clear hd hmi hxm
                    go_wp2_with (fail)
                    go_quiet (fail)
                    go_wp2
                    go_ret
                    exact ⟨ret_b HF.out.symm, hnS.trans ((hn.alloc _).drewN nq)⟩
                · have t3 : decide (0 < i) = false := decide_eq_false (by omega)
                  have hm00 : m = 0 := hmi (by omega)
                  have HD : Hid (wordOK x.1 = true → okFrom x.2 (ws.drop (i + 1)) = okFrom 0 ws) := Lib.hid (fun hw => by rw [hd, hw, decide_eq_true (show _ ≤ x.2 by omega), decide_eq_true hx1]; rfl)
                  have HD2 : Hid (wordOK x.1 = false → okFrom 0 ws = false) := Lib.hid (fun hw => by rw [hd, hw]; simp)
                  have hx2 : 0 ≤ x.2 := by omega
                  clear hd hmi hi0 hx0 hx1 hm00
                  go_wp2_with (fail)
                  go_quiet (fail)
                  go_wp2
                  obtain ⟨wT, hwT⟩ : ∃ q, q = wr.alloc (.cells #[.string x.1, .int .i64 x.2] 33) := ⟨_, rfl⟩
                  rw [← hwT]
                  have hnT : New wr wT := by rw [hwT]; exact (New.refl wr).alloc _
                  have b1 : Blk wT wr.heap.size 33 #[.string x.1, .int .i64 x.2] := by rw [hwT]; exact Blk.made wr _ _
                  clear hwT
                  go_loopw [5] (fun v5 wx => ∃ k : Nat, v5 = .int .i64 k ∧ wx = wT.drewN nq ∧ k ≤ x.1.size ∧ Hid ((x.1.data.toList.take k).any blank = false)) (fun v5 _ => x.1.size - (intOf v5).toNat)
                  case atStart => exact ⟨0, rfl, rfl, by omega, Lib.hid rfl⟩
                  case round =>
                    obtain ⟨k, rfl, rfl, hk, HK⟩ := hrel
                    have e0 : (wT.drewN nq).cell? ⟨wr.heap.size, 0, none⟩ = some (.string x.1) := b1.cell' 0 _ rfl
                    by_cases hkl : k < x.1.size
                    · cases hb : blankB x.1[k].toNat
                      · have HB := Lib.hid hb
                        clear hb
                        go_wp2_with (go_at_call 57; refine (rblank_any _ _).mono ?_; rw [HB.out]; rintro e w' ⟨rfl, rfl⟩)
                        go_roundw
                        case rel => exact ⟨k + 1, by go_num, by trivial, by omega, Lib.hid (any_next hkl HK.out HB.out)⟩
                        case measure => simp [intOf]; omega
                      · have HF : Hid (validV p ws = false) := Lib.hid (by rw [HV.out]; exact HD2.out (by rw [wordOK_eq _ h0, any_hit hkl hb]; rfl))
                        have HB := Lib.hid hb
                        clear hb
                        go_wp2_with (go_at_call 57; refine (rblank_any _ _).mono ?_; rw [HB.out]; rintro e w' ⟨rfl, rfl⟩)
                        go_ret
                        exact ⟨ret_b HF.out.symm, hnS.trans ((hn.trans hnT).drewN nq)⟩
                    · obtain rfl : k = x.1.size := by omega
                      have HE := Lib.hid (HD.out (by rw [wordOK_eq _ h0, any_none HK.out]; rfl))
                      have e1 : (wT.drewN nq).cell? ⟨wr.heap.size, 1, none⟩ = some (.int .i64 x.2) := b1.cell' 1 _ rfl
                      go_wp2
                      go_roundw
                      case rel => exact ⟨i + 1, x.2, by go_num, hx2, fun h => absurd h (by omega), Lib.hid (fun _ => ⟨x, HG.out, rfl⟩), by omega, (hn.trans hnT).drewN nq, HE⟩
                      case measure => simp [intOf]; omega
              · have t2 : decide ((1024 : Int) ≤ x.2) = true := decide_eq_true (by omega)
                have HF : Hid (validV p ws = false) := Lib.hid (by rw [HV.out, hd, decide_eq_false hx1]; simp)
                clear hd hmi hx1
                go_wp2_with (fail)
                go_quiet (fail)
                go_wp2
                go_ret
                exact ⟨ret_b HF.out.symm, hnS.trans ((hn.alloc _).drewN nq)⟩
          · have hne : x.1.toList = [] := by rw [toList_eq]; exact List.eq_nil_of_length_eq_zero (by rw [← size_eq]; omega)
            have HF : Hid (validV p ws = false) := Lib.hid (by rw [HV.out, hd, wordOK, decide_eq_false h0]; simp)
            clear hd h0 hmi
            go_wp2_with (fail)
            go_quiet (fail)
            go_wp2
            go_ret
            exact ⟨ret_b HF.out.symm, hnS.trans ((hn.alloc _).drewN nq)⟩
        · have h0 : i = ws.length := by omega
          subst h0
          have HF : Hid (validV p ws = true) := Lib.hid (by rw [HV.out, ← H.out, List.drop_eq_nil_of_le (Nat.le_refl _)]; rfl)
          clear hmi
          go_wp2
          go_ret
          exact ⟨ret_b HF.out.symm, hnS.trans hn⟩
    · have hlen' : (8192 : Int) < (ws.length : Int) := by omega
      have hv : validV p ws = false := by rw [validV, decide_eq_false hlen]; rfl
      have HV := Lib.hid hv
      clear hv hlen hpo
      go_enter Tryd.func25, Tryd.ntmps25
      go_wp2_with (go_at_call 43; refine (rpath_any _ _).mono ?_; rw [HP.out]; rintro e w1 ⟨rfl, rfl⟩)
      go_ret
      exact ⟨ret_b HV.out.symm, (New.refl w).alloc _⟩
end Go.Proofs.YtlecocmopeainaaDoor
