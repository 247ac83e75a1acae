/- normalize.Common and the reference's: how many words are the same from two positions on. No conditions but the lengths' own. -/
import Derived.Test.YtlecocmopeainaaDoorN2
namespace Go.Proofs.YtlecocmopeainaaDoor
open Go Go.RowKit Go.Joins Go.Shelf
set_option linter.unusedSimpArgs false

/-- How many words are the same at the beginning of two lists. -/
def cpre : List Lz → List Lz → Nat
  | x :: l, y :: r => if x.1 = y.1 then cpre l r + 1 else 0
  | _, _ => 0
def commonV (p : ByteArray) (a : List Lz) (i : Int) (q : ByteArray) (b : List Lz) (j : Int) : Int :=
  if i < 0 ∨ (a.length : Int) < i ∨ j < 0 ∨ (b.length : Int) < j ∨ validV p a = false ∨ validV q b = false then 0 else cpre (a.drop i.toNat) (b.drop j.toNat)
theorem cpre_le : ∀ a b : List Lz, cpre a b ≤ a.length ∧ cpre a b ≤ b.length
  | [], _ => by simp [cpre]
  | _ :: _, [] => by simp [cpre]
  | x :: l, y :: r => by
    have := cpre_le l r
    rw [cpre]; split <;> simp <;> omega
theorem cpre_eq {xs ys : List Lz} {n : Nat} (h : n < xs.length) (h' : n < ys.length) (he : xs[n].1 = ys[n].1) : cpre (xs.drop n) (ys.drop n) = cpre (xs.drop (n + 1)) (ys.drop (n + 1)) + 1 := by
  rw [List.drop_eq_getElem_cons h, List.drop_eq_getElem_cons h', cpre, if_pos he]
theorem cpre_ne {xs ys : List Lz} {n : Nat} (h : n < xs.length) (h' : n < ys.length) (he : ¬ xs[n].1 = ys[n].1) : cpre (xs.drop n) (ys.drop n) = 0 := by
  rw [List.drop_eq_getElem_cons h, List.drop_eq_getElem_cons h', cpre, if_neg he]
theorem cpre_end {xs ys : List Lz} {n : Nat} (h : xs.length ≤ n ∨ ys.length ≤ n) : cpre (xs.drop n) (ys.drop n) = 0 := by
  rcases h with h | h
  · rw [List.drop_eq_nil_of_le h]; rfl
  · rw [List.drop_eq_nil_of_le h]; cases xs.drop n <;> rfl
theorem zCells_len (l : List Lz) : (zCells l).length = l.length * 2 := by
  induction l with
  | nil => rfl
  | cons x l ih => simp only [zCells, List.flatMap_cons, List.length_append, List.length_cons, List.length_nil] at ih ⊢; omega
theorem zCells_drop : ∀ (l : List Lz) (k : Nat), zCells (l.drop k) = (zCells l).drop (k * 2)
  | l, 0 => by simp
  | [], k + 1 => by simp [zCells]
  | x :: l, k + 1 => by
    have ih := zCells_drop l k
    have e1 : (k + 1) * 2 = k * 2 + 2 := by omega
    have e2 : zCells (x :: l) = .string x.1 :: .int .i64 x.2 :: zCells l := rfl
    rw [e1, e2]
    simpa using ih
theorem ZText.parts {w : World} {v : Value} {p : ByteArray} {ws : List Lz} (h : ZText w v p ws) : ∃ A c, v = .agg #[.string p, .slice A ws.length c] ∧ ws.length ≤ c ∧ c ≤ maxLen ∧ Rd w 2 A ws.length (zCells ws) := h
/-- What the contracts on texts of words ask for. -/
structure Fit (p : ByteArray) (ws : List Lz) : Prop where
  path : p.size < 4294967281
  words : ∀ x ∈ ws, x.1.size ≤ 9223372036854775806

set_option maxRecDepth 100000 in
set_option maxHeartbeats 4000000 in
theorem common_any (v : Value) (p : ByteArray) (ws : List Lz) (i : Int) (v' : Value) (p' : ByteArray) (ws' : List Lz) (j : Int) (w : World) (h : ZText w v p ws) (h' : ZText w v' p' ws') (hf : Fit p ws) (hf' : Fit p' ws') (hE : Env w) :
    Calls Tryd.prog 18 #[v, .int .i64 i, v', .int .i64 j] w fun e w' => e = .returned (.int .i64 (commonV p ws i p' ws' j)) ∧ New w w' := by
  obtain ⟨A, c, rfl, hc1, hc2, hr⟩ := id h
  obtain ⟨A', c', rfl, hc1', hc2', hr'⟩ := id h'
  have hz : (ws.length : Int) ≤ 9223372036854775807 := by
    have h2 := hc2
    simp only [maxLen] at h2
    omega
  have hz' : (ws'.length : Int) ≤ 9223372036854775807 := by
    have h2 := hc2'
    simp only [maxLen] at h2
    omega
  have hnS : New w ((w.alloc (.cells #[.string p, .slice A ws.length c] 25)).alloc (.cells #[.string p', .slice A' ws'.length c'] 25)) := ((New.refl w).alloc _).alloc _
  by_cases g1 : i < 0
  · have hv : commonV p ws i p' ws' j = 0 := if_pos (.inl g1)
    have HV := Lib.hid hv
    clear hv
    go_enter Tryd.func18, Tryd.ntmps18
    go_wp2
    go_ret
    exact ⟨ret_i HV.out.symm, hnS⟩
  have g1' : 0 ≤ i := by omega
  by_cases g2 : (ws.length : Int) < i
  · have hv : commonV p ws i p' ws' j = 0 := if_pos (.inr (.inl g2))
    have HV := Lib.hid hv
    clear hv
    go_enter Tryd.func18, Tryd.ntmps18
    go_wp2
    go_ret
    exact ⟨ret_i HV.out.symm, hnS⟩
  by_cases g3 : j < 0
  · have hv : commonV p ws i p' ws' j = 0 := if_pos (.inr (.inr (.inl g3)))
    have HV := Lib.hid hv
    clear hv
    go_enter Tryd.func18, Tryd.ntmps18
    go_wp2
    go_ret
    exact ⟨ret_i HV.out.symm, hnS⟩
  have g3' : 0 ≤ j := by omega
  by_cases g4 : (ws'.length : Int) < j
  · have hv : commonV p ws i p' ws' j = 0 := if_pos (.inr (.inr (.inr (.inl g4))))
    have HV := Lib.hid hv
    clear hv
    go_enter Tryd.func18, Tryd.ntmps18
    go_wp2
    go_ret
    exact ⟨ret_i HV.out.symm, hnS⟩
  cases g5 : validV p ws
  · have hv : commonV p ws i p' ws' j = 0 := if_pos (.inr (.inr (.inr (.inr (.inl g5)))))
    have HV := Lib.hid hv
    have H5 := Lib.hid g5
    clear hv g5
    go_enter Tryd.func18, Tryd.ntmps18
    go_wp2_with (go_at_call 16; refine (valid_any _ p ws _ (h.new hnS) hf.path (hE.new hnS) hf.words).mono ?_; rw [H5.out]; rintro e w1 ⟨rfl, hn1⟩)
    go_ret
    exact ⟨ret_i HV.out.symm, hnS.trans hn1⟩
  cases g6 : validV p' ws'
  · have hv : commonV p ws i p' ws' j = 0 := if_pos (.inr (.inr (.inr (.inr (.inr g6)))))
    have HV := Lib.hid hv
    have H5 := Lib.hid g5
    have H6 := Lib.hid g6
    clear hv g5 g6
    go_enter Tryd.func18, Tryd.ntmps18
    go_wp2_with (first | (go_at_call 16; refine (valid_any _ p' ws' _ ((h'.new hnS).new hn1) hf'.path ((hE.new hnS).new hn1) hf'.words).mono ?_; rw [H6.out]; rintro e w2 ⟨rfl, hn2⟩) | (go_at_call 16; refine (valid_any _ p ws _ (h.new hnS) hf.path (hE.new hnS) hf.words).mono ?_; rw [H5.out]; rintro e w1 ⟨rfl, hn1⟩; have B2 := ((Blk.made _ _ _).new hn1); rw [World.size_alloc] at B2; have e20 := B2.cell' 0 _ rfl; have e21 := B2.cell' 1 _ rfl))
    go_ret
    exact ⟨ret_i HV.out.symm, (hnS.trans hn1).trans hn2⟩
  obtain ⟨k, rfl⟩ : ∃ k : Nat, i = k := ⟨i.toNat, by omega⟩
  obtain ⟨m, rfl⟩ : ∃ m : Nat, j = m := ⟨j.toNat, by omega⟩
  have hv : commonV p ws k p' ws' m = cpre (ws.drop k) (ws'.drop m) := by
    rw [commonV, if_neg]
    · simp
    · rintro (h | h | h | h | h | h)
      · exact g1 h
      · exact g2 h
      · exact g3 h
      · exact g4 h
      · rw [g5] at h; cases h
      · rw [g6] at h; cases h
  have HV := Lib.hid hv
  have H5 := Lib.hid g5
  have H6 := Lib.hid g6
  have hk : k ≤ ws.length := by omega
  have hm : m ≤ ws'.length := by omega
  clear hv g5 g6 g1 g2 g3 g4 g1' g3'
  by_cases hkl : k < ws.length
  · by_cases hml : m < ws'.length
    · have hck : ¬ c = k := by omega
      have hcm : ¬ c' = m := by omega
      obtain ⟨bk, o, rfl, hbk, hc⟩ := hr.2 (by omega)
      obtain ⟨bk', o', rfl, hbk', hc'⟩ := hr'.2 (by omega)
      have HC := Lib.hid hc
      have HC' := Lib.hid hc'
      clear hc hc'
      go_enter Tryd.func18, Tryd.ntmps18
      go_wp2_with (first | (go_at_call 16; refine (valid_any _ p' ws' _ ((h'.new hnS).new hn1) hf'.path ((hE.new hnS).new hn1) hf'.words).mono ?_; rw [H6.out]; rintro e w2 ⟨rfl, hn2⟩; have B1w := B1.new hn2; have B2w := B2.new hn2; have e20 := B2w.cell' 0 _ rfl; have e21 := B2w.cell' 1 _ rfl; have e10 := B1w.cell' 0 _ rfl; have e11 := B1w.cell' 1 _ rfl) | (go_at_call 16; refine (valid_any _ p ws _ (h.new hnS) hf.path (hE.new hnS) hf.words).mono ?_; rw [H5.out]; rintro e w1 ⟨rfl, hn1⟩; have B2 := ((Blk.made _ _ _).new hn1); rw [World.size_alloc] at B2; have B1 := ((Blk.made _ _ _).alloc _).new hn1; have e20 := B2.cell' 0 _ rfl; have e21 := B2.cell' 1 _ rfl))
      go_quiet (fail)
      go_wp2
      have hw2 : New w w2 := (hnS.trans hn1).trans hn2
      go_loopw [11] (fun v11 wr => ∃ n : Nat, v11 = .int .i64 n ∧ n ≤ ws.length - k ∧ n ≤ ws'.length - m ∧ New w2 wr ∧ Hid (n + cpre ((ws.drop k).drop n) ((ws'.drop m).drop n) = cpre (ws.drop k) (ws'.drop m))) (fun v11 _ => ws.length - (intOf v11).toNat)
      case atStart => exact ⟨0, rfl, by omega, by omega, (New.refl w2).drewN nq, Lib.hid (by simp)⟩
      case round =>
        obtain ⟨n, rfl, hn3, hn4, hn5, H⟩ := hrel
        by_cases l1 : n < ws.length - k
        · by_cases l2 : n < ws'.length - m
          · have hkn : k + n < ws.length := by omega
            have hmn : m + n < ws'.length := by omega
            have hxg : (ws.drop k)[n]'(by simp; omega) = ws[k + n] := by simp
            have hyg : (ws'.drop m)[n]'(by simp; omega) = ws'[m + n] := by simp
            have d1 : wr.cell? ⟨bk, o + k * 2 + n * 2, none⟩ = some (.string ws[k + n].1) := by
              have := (hw2.trans hn5).cell (p := ⟨bk, o + k * 2 + n * 2, none⟩) hbk
              rw [this, show o + k * 2 + n * 2 = o + (k + n) * 2 by omega]
              exact HC.out _ _ (zCells_at ws (k + n) hkn).1
            have d2 : wr.cell? ⟨bk', o' + m * 2 + n * 2, none⟩ = some (.string ws'[m + n].1) := by
              have := (hw2.trans hn5).cell (p := ⟨bk', o' + m * 2 + n * 2, none⟩) hbk'
              rw [this, show o' + m * 2 + n * 2 = o' + (m + n) * 2 by omega]
              exact HC'.out _ _ (zCells_at ws' (m + n) hmn).1
            have i0 : (0 : Int) ≤ (n : Int) := by omega
            have i1 : (n : Int) < ((ws.length - k : Nat) : Int) := by omega
            have i2 : (n : Int) < ((ws'.length - m : Nat) : Int) := by omega
            have t1 : decide (n < ws.length - k) = true := decide_eq_true l1
            have t2 : decide (n < ws'.length - m) = true := decide_eq_true l2
            by_cases he : ws[k + n].1 = ws'[m + n].1
            · have HN : Hid ((n + 1) + cpre ((ws.drop k).drop (n + 1)) ((ws'.drop m).drop (n + 1)) = cpre (ws.drop k) (ws'.drop m)) := Lib.hid (by
                rw [← H.out, cpre_eq (xs := ws.drop k) (ys := ws'.drop m) (n := n) (by simp; omega) (by simp; omega) (by rw [hxg, hyg]; exact he)]; omega)
              rw [← he] at d2
              clear hxg hyg
              generalize ws[k + n].1 = x at *
              have HE := Lib.hid he
              clear he
              go_wp2_with (fail)
              go_quiet (fail)
              go_wp2
              go_roundw
              case rel => exact ⟨n + 1, by go_num, by omega, by omega, hn5.drewN nq, HN⟩
              case measure => simp [intOf]; omega
            · have HN : Hid ((n : Int) = commonV p ws k p' ws' m) := Lib.hid (by
                rw [HV.out, ← H.out, cpre_ne (xs := ws.drop k) (ys := ws'.drop m) (n := n) (by simp; omega) (by simp; omega) (by rw [hxg, hyg]; exact he)]; rfl)
              have f1 := str_ne he
              clear hxg hyg
              generalize ws[k + n].1 = x at *
              generalize ws'[m + n].1 = y at *
              clear he
              go_wp2_with (fail)
              go_quiet (fail)
              go_wp2
              go_ret
              exact ⟨ret_i HN.out, (hw2.trans hn5).drewN nq⟩
          · have HN : Hid ((n : Int) = commonV p ws k p' ws' m) := Lib.hid (by
              rw [HV.out, ← H.out, cpre_end (xs := ws.drop k) (ys := ws'.drop m) (n := n) (.inr (by simp; omega))]; rfl)
            have t1 : decide (n < ws.length - k) = true := decide_eq_true l1
            have t2 : decide (n < ws'.length - m) = false := decide_eq_false l2
            go_wp2_with (fail)
            go_quiet (fail)
            go_wp2
            go_ret
            exact ⟨ret_i HN.out, (hw2.trans hn5).drewN nq⟩
        · have HN : Hid ((n : Int) = commonV p ws k p' ws' m) := Lib.hid (by
            rw [HV.out, ← H.out, cpre_end (xs := ws.drop k) (ys := ws'.drop m) (n := n) (.inl (by simp; omega))]; rfl)
          have t1 : decide (n < ws.length - k) = false := decide_eq_false l1
          go_wp2_with (fail)
          go_quiet (fail)
          go_wp2
          go_ret
          exact ⟨ret_i HN.out, (hw2.trans hn5).drewN nq⟩
    · obtain rfl : m = ws'.length := by omega
      have hck : ¬ c = k := by omega
      have HN : Hid ((0 : Int) = commonV p ws k p' ws' ws'.length) := Lib.hid (by
        have := cpre_end (xs := ws.drop k) (ys := ws'.drop ws'.length) (n := 0) (.inr (by simp))
        simp only [List.drop_zero] at this
        rw [HV.out, this]; rfl)
      have t1 : decide (0 < ws.length - k) = true := decide_eq_true (by omega)
      go_enter Tryd.func18, Tryd.ntmps18
      go_wp2_with (first | (go_at_call 16; refine (valid_any _ p' ws' _ ((h'.new hnS).new hn1) hf'.path ((hE.new hnS).new hn1) hf'.words).mono ?_; rw [H6.out]; rintro e w2 ⟨rfl, hn2⟩; have B1w := B1.new hn2; have B2w := B2.new hn2; have e20 := B2w.cell' 0 _ rfl; have e21 := B2w.cell' 1 _ rfl; have e10 := B1w.cell' 0 _ rfl; have e11 := B1w.cell' 1 _ rfl) | (go_at_call 16; refine (valid_any _ p ws _ (h.new hnS) hf.path (hE.new hnS) hf.words).mono ?_; rw [H5.out]; rintro e w1 ⟨rfl, hn1⟩; have B2 := ((Blk.made _ _ _).new hn1); rw [World.size_alloc] at B2; have B1 := ((Blk.made _ _ _).alloc _).new hn1; have e20 := B2.cell' 0 _ rfl; have e21 := B2.cell' 1 _ rfl))
      go_quiet (fail)
      go_wp2
      all_goals
        go_loopw [11] (fun v11 wr => v11 = .int .i64 0 ∧ wr = w2.drewN nq) (fun v11 _ => 0)
        case atStart => exact ⟨rfl, rfl⟩
        case round =>
          obtain ⟨rfl, rfl⟩ := hrel
          go_wp2_with (fail)
          go_quiet (fail)
          go_wp2
          go_ret
          exact ⟨ret_i HN.out, (((hnS.trans hn1).trans hn2).drewN _).drewN _⟩
  · obtain rfl : k = ws.length := by omega
    have HN : Hid ((0 : Int) = commonV p ws ws.length p' ws' m) := Lib.hid (by
      have := cpre_end (xs := ws.drop ws.length) (ys := ws'.drop m) (n := 0) (.inl (by simp))
      simp only [List.drop_zero] at this
      rw [HV.out, this]; rfl)
    go_enter Tryd.func18, Tryd.ntmps18
    go_wp2_with (first | (go_at_call 16; refine (valid_any _ p' ws' _ ((h'.new hnS).new hn1) hf'.path ((hE.new hnS).new hn1) hf'.words).mono ?_; rw [H6.out]; rintro e w2 ⟨rfl, hn2⟩; have B1w := B1.new hn2; have B2w := B2.new hn2; have e20 := B2w.cell' 0 _ rfl; have e21 := B2w.cell' 1 _ rfl; have e10 := B1w.cell' 0 _ rfl; have e11 := B1w.cell' 1 _ rfl) | (go_at_call 16; refine (valid_any _ p ws _ (h.new hnS) hf.path (hE.new hnS) hf.words).mono ?_; rw [H5.out]; rintro e w1 ⟨rfl, hn1⟩; have B2 := ((Blk.made _ _ _).new hn1); rw [World.size_alloc] at B2; have B1 := ((Blk.made _ _ _).alloc _).new hn1; have e20 := B2.cell' 0 _ rfl; have e21 := B2.cell' 1 _ rfl))
    go_quiet (fail)
    go_wp2
    all_goals
      go_loopw [11] (fun v11 wr => v11 = .int .i64 0 ∧ wr = w2.drewN nq) (fun v11 _ => 0)
      case atStart => exact ⟨rfl, rfl⟩
      case round =>
        obtain ⟨rfl, rfl⟩ := hrel
        go_wp2_with (fail)
        go_quiet (fail)
        go_wp2
        go_ret
        exact ⟨ret_i HN.out, (((hnS.trans hn1).trans hn2).drewN _).drewN _⟩
end Go.Proofs.YtlecocmopeainaaDoor
