/- The law NormalizeMeets, walked. The package-level variables that the library reads hold what the row lists (Env). -/
import Derived.Test.YtlecocmopeainaaDoorM5
namespace Go.Proofs.YtlecocmopeainaaDoor
open Go Go.RowKit Go.Joins Go.Shelf
set_option linter.unusedSimpArgs false

theorem cpre_comm : ∀ a b : List Lz, cpre a b = cpre b a
  | [], [] => rfl
  | [], _ :: _ => rfl
  | _ :: _, [] => rfl
  | x :: l, y :: r => by
    rw [cpre, cpre, cpre_comm l r]
    by_cases h : x.1 = y.1
    · rw [if_pos h, if_pos h.symm]
    · rw [if_neg h, if_neg (fun e => h e.symm)]
theorem commonV_comm (p q : ByteArray) (a b : List Lz) (i j : Int) : commonV q b j p a i = commonV p a i q b j := by
  unfold commonV
  rw [cpre_comm (b.drop j.toNat) (a.drop i.toNat)]
  by_cases h : i < 0 ∨ (a.length : Int) < i ∨ j < 0 ∨ (b.length : Int) < j ∨ validV p a = false ∨ validV q b = false
  · rw [if_pos h, if_pos (by rcases h with h | h | h | h | h | h <;> simp [h])]
  · rw [if_neg h, if_neg (fun h' => h (by rcases h' with h' | h' | h' | h' | h' | h' <;> simp [h']))]
theorem cpre_at : ∀ (a b : List Lz) (t : Nat), t < cpre a b → ∃ x y, a[t]? = some x ∧ b[t]? = some y ∧ x.1 = y.1
  | [], b, t, h => by cases b <;> simp [cpre] at h
  | _ :: _, [], t, h => by simp [cpre] at h
  | x :: l, y :: r, t, h => by
    rw [cpre] at h
    split at h
    · rename_i e
      match t with
      | 0 => exact ⟨x, y, rfl, rfl, e⟩
      | t + 1 => exact cpre_at l r t (by omega)
    · omega
theorem cpre_stop : ∀ (a b : List Lz), cpre a b = a.length ∨ cpre a b = b.length ∨ ∃ x y, a[cpre a b]? = some x ∧ b[cpre a b]? = some y ∧ x.1 ≠ y.1
  | [], b => .inl (by cases b <;> rfl)
  | _ :: _, [] => .inr (.inl rfl)
  | x :: l, y :: r => by
    rw [cpre]
    split
    · rename_i e
      rcases cpre_stop l r with h | h | ⟨u, v, h1, h2, h3⟩
      · exact .inl (by simp [h])
      · exact .inr (.inl (by simp [h]))
      · exact .inr (.inr ⟨u, v, by simpa using h1, by simpa using h2, h3⟩)
    · rename_i e
      exact .inr (.inr ⟨x, y, rfl, rfl, e⟩)
theorem zc_of {ws : List Lz} {k : Nat} {x : Lz} (h : ws[k]? = some x) : (zCells ws)[k * 2]? = some (.string x.1) ∧ (zCells ws)[k * 2 + 1]? = some (.int .i64 x.2) := by
  obtain ⟨hk, rfl⟩ := List.getElem?_eq_some_iff.1 h
  exact zCells_at ws k hk

set_option maxRecDepth 100000 in
set_option maxHeartbeats 8000000 in
theorem law_meets (v : Value) (p : ByteArray) (ws : List Lz) (i : Int) (v' : Value) (p' : ByteArray) (ws' : List Lz) (j : Int) (w : World) (h : ZText w v p ws) (h' : ZText w v' p' ws') (hE : Env w) :
    Calls Tryd.prog 6 #[v, .int .i64 i, v', .int .i64 j] w fun e w' => e = .returned (.bool true) ∧ New w w' := by
  obtain ⟨A, c, rfl, hc1, hc2, hr⟩ := id h
  obtain ⟨A', c', rfl, hc1', hc2', hr'⟩ := id h'
  have hz : (ws.length : Int) ≤ 9223372036854775807 := by
    have h2 := hc2
    simp only [maxLen] at h2
    omega
  have hz' : (ws'.length : Int) ≤ 9223372036854775807 := by
    have h2 := hc2'
    simp only [maxLen] at h2
    omega
  have hnS : New w ((w.alloc (.cells #[.string p, .slice A ws.length c] 25)).alloc (.cells #[.string p', .slice A' ws'.length c'] 25)) := ((New.refl w).alloc _).alloc _
  cases g1 : fewB p ws
  · have G1 := Lib.hid g1
    clear g1
    go_enter Tryd.func6, Tryd.ntmps6
    go_wp2_with (first | (go_at_call 17; refine (few_any _ p ws _ (h.new (hnS.trans hn0))).mono ?_; rw [G1.out]; rintro e1 w1 ⟨rfl, hn1⟩; have B1 := B1.new hn1; have B2 := B2.new hn1; have e10 := B1.cell' 0 _ rfl; have e11 := B1.cell' 1 _ rfl; have e20 := B2.cell' 0 _ rfl; have e21 := B2.cell' 1 _ rfl) | (go_at_call 12; refine (awake_any _ (hE.new hnS)).mono ?_; rintro e0 w0 ⟨rfl, hn0⟩; have B1 := ((Blk.made _ _ _).alloc _).new hn0; have B2 := (Blk.made _ _ _).new hn0; rw [World.size_alloc] at B2; have e10 := B1.cell' 0 _ rfl; have e11 := B1.cell' 1 _ rfl))
    go_ret
    exact ⟨rfl, (hnS.trans hn0).trans hn1⟩
  have G1 := Lib.hid g1
  cases g2 : fewB p' ws'
  · have G2 := Lib.hid g2
    clear g1 g2
    go_enter Tryd.func6, Tryd.ntmps6
    go_wp2_with (first | (go_at_call 17; refine (few_any _ p' ws' _ (h'.new ((hnS.trans hn0).trans hn1))).mono ?_; rw [G2.out]; rintro e2 w2 ⟨rfl, hn2⟩; have B1 := B1.new hn2; have B2 := B2.new hn2; have e10 := B1.cell' 0 _ rfl; have e11 := B1.cell' 1 _ rfl; have e20 := B2.cell' 0 _ rfl; have e21 := B2.cell' 1 _ rfl) | (go_at_call 17; refine (few_any _ p ws _ (h.new (hnS.trans hn0))).mono ?_; rw [G1.out]; rintro e1 w1 ⟨rfl, hn1⟩; have B1 := B1.new hn1; have B2 := B2.new hn1; have e10 := B1.cell' 0 _ rfl; have e11 := B1.cell' 1 _ rfl; have e20 := B2.cell' 0 _ rfl; have e21 := B2.cell' 1 _ rfl) | (go_at_call 12; refine (awake_any _ (hE.new hnS)).mono ?_; rintro e0 w0 ⟨rfl, hn0⟩; have B1 := ((Blk.made _ _ _).alloc _).new hn0; have B2 := (Blk.made _ _ _).new hn0; rw [World.size_alloc] at B2; have e10 := B1.cell' 0 _ rfl; have e11 := B1.cell' 1 _ rfl))
    go_ret
    exact ⟨rfl, ((hnS.trans hn0).trans hn1).trans hn2⟩
  have G2 := Lib.hid g2
  have F1 := few_fit g1
  have F2 := few_fit g2
  clear g1 g2
  cases g5 : validV p ws
  · have hv : commonV p ws i p' ws' j = 0 := if_pos (.inr (.inr (.inr (.inr (.inl g5)))))
    have HV := Lib.hid hv
    have HV2 := Lib.hid ((commonV_comm p p' ws ws' i j).trans hv)
    have H5 := Lib.hid g5
    clear hv g5
    go_enter Tryd.func6, Tryd.ntmps6
    go_wp2_with (first | (go_at_call 16; refine (valid_any _ p ws _ (h.new (((((hnS.trans hn0).trans hn1).trans hn2).trans hn3).trans hn4)) F1.path (hE.new (((((hnS.trans hn0).trans hn1).trans hn2).trans hn3).trans hn4)) F1.words).mono ?_; rw [H5.out]; rintro e5 w5 ⟨rfl, hn5⟩; have B1 := B1.new hn5; have B2 := B2.new hn5; have e10 := B1.cell' 0 _ rfl; have e11 := B1.cell' 1 _ rfl; have e20 := B2.cell' 0 _ rfl; have e21 := B2.cell' 1 _ rfl) | (go_at_call 18; refine (common_any _ p' ws' _ _ p ws _ _ (h'.new ((((hnS.trans hn0).trans hn1).trans hn2).trans hn3)) (h.new ((((hnS.trans hn0).trans hn1).trans hn2).trans hn3)) F2 F1 (hE.new ((((hnS.trans hn0).trans hn1).trans hn2).trans hn3))).mono ?_; rw [HV2.out]; rintro e4 w4 ⟨rfl, hn4⟩; have B1 := B1.new hn4; have B2 := B2.new hn4; have e10 := B1.cell' 0 _ rfl; have e11 := B1.cell' 1 _ rfl; have e20 := B2.cell' 0 _ rfl; have e21 := B2.cell' 1 _ rfl) | (go_at_call 18; refine (common_any _ p ws _ _ p' ws' _ _ (h.new (((hnS.trans hn0).trans hn1).trans hn2)) (h'.new (((hnS.trans hn0).trans hn1).trans hn2)) F1 F2 (hE.new (((hnS.trans hn0).trans hn1).trans hn2))).mono ?_; rw [HV.out]; rintro e3 w3 ⟨rfl, hn3⟩; have B1 := B1.new hn3; have B2 := B2.new hn3; have e10 := B1.cell' 0 _ rfl; have e11 := B1.cell' 1 _ rfl; have e20 := B2.cell' 0 _ rfl; have e21 := B2.cell' 1 _ rfl) | (go_at_call 17; refine (few_any _ p' ws' _ (h'.new ((hnS.trans hn0).trans hn1))).mono ?_; rw [G2.out]; rintro e2 w2 ⟨rfl, hn2⟩; have B1 := B1.new hn2; have B2 := B2.new hn2; have e10 := B1.cell' 0 _ rfl; have e11 := B1.cell' 1 _ rfl; have e20 := B2.cell' 0 _ rfl; have e21 := B2.cell' 1 _ rfl) | (go_at_call 17; refine (few_any _ p ws _ (h.new (hnS.trans hn0))).mono ?_; rw [G1.out]; rintro e1 w1 ⟨rfl, hn1⟩; have B1 := B1.new hn1; have B2 := B2.new hn1; have e10 := B1.cell' 0 _ rfl; have e11 := B1.cell' 1 _ rfl; have e20 := B2.cell' 0 _ rfl; have e21 := B2.cell' 1 _ rfl) | (go_at_call 12; refine (awake_any _ (hE.new hnS)).mono ?_; rintro e0 w0 ⟨rfl, hn0⟩; have B1 := ((Blk.made _ _ _).alloc _).new hn0; have B2 := (Blk.made _ _ _).new hn0; rw [World.size_alloc] at B2; have e10 := B1.cell' 0 _ rfl; have e11 := B1.cell' 1 _ rfl))
    go_ret
    exact ⟨rfl, ((((hnS.trans hn0).trans hn1).trans hn2).trans hn3).trans (hn4.trans hn5)⟩
  have H5 := Lib.hid g5
  cases g6 : validV p' ws'
  · have hv : commonV p ws i p' ws' j = 0 := if_pos (.inr (.inr (.inr (.inr (.inr g6)))))
    have HV := Lib.hid hv
    have HV2 := Lib.hid ((commonV_comm p p' ws ws' i j).trans hv)
    have H6 := Lib.hid g6
    clear hv g5 g6
    go_enter Tryd.func6, Tryd.ntmps6
    go_wp2_with (first | (go_at_call 16; refine (valid_any _ p' ws' _ (h'.new ((((((hnS.trans hn0).trans hn1).trans hn2).trans hn3).trans hn4).trans hn5)) F2.path (hE.new ((((((hnS.trans hn0).trans hn1).trans hn2).trans hn3).trans hn4).trans hn5)) F2.words).mono ?_; rw [H6.out]; rintro e6 w6 ⟨rfl, hn6⟩; have B1 := B1.new hn6; have B2 := B2.new hn6; have e10 := B1.cell' 0 _ rfl; have e11 := B1.cell' 1 _ rfl; have e20 := B2.cell' 0 _ rfl; have e21 := B2.cell' 1 _ rfl) | (go_at_call 16; refine (valid_any _ p ws _ (h.new (((((hnS.trans hn0).trans hn1).trans hn2).trans hn3).trans hn4)) F1.path (hE.new (((((hnS.trans hn0).trans hn1).trans hn2).trans hn3).trans hn4)) F1.words).mono ?_; rw [H5.out]; rintro e5 w5 ⟨rfl, hn5⟩; have B1 := B1.new hn5; have B2 := B2.new hn5; have e10 := B1.cell' 0 _ rfl; have e11 := B1.cell' 1 _ rfl; have e20 := B2.cell' 0 _ rfl; have e21 := B2.cell' 1 _ rfl) | (go_at_call 18; refine (common_any _ p' ws' _ _ p ws _ _ (h'.new ((((hnS.trans hn0).trans hn1).trans hn2).trans hn3)) (h.new ((((hnS.trans hn0).trans hn1).trans hn2).trans hn3)) F2 F1 (hE.new ((((hnS.trans hn0).trans hn1).trans hn2).trans hn3))).mono ?_; rw [HV2.out]; rintro e4 w4 ⟨rfl, hn4⟩; have B1 := B1.new hn4; have B2 := B2.new hn4; have e10 := B1.cell' 0 _ rfl; have e11 := B1.cell' 1 _ rfl; have e20 := B2.cell' 0 _ rfl; have e21 := B2.cell' 1 _ rfl) | (go_at_call 18; refine (common_any _ p ws _ _ p' ws' _ _ (h.new (((hnS.trans hn0).trans hn1).trans hn2)) (h'.new (((hnS.trans hn0).trans hn1).trans hn2)) F1 F2 (hE.new (((hnS.trans hn0).trans hn1).trans hn2))).mono ?_; rw [HV.out]; rintro e3 w3 ⟨rfl, hn3⟩; have B1 := B1.new hn3; have B2 := B2.new hn3; have e10 := B1.cell' 0 _ rfl; have e11 := B1.cell' 1 _ rfl; have e20 := B2.cell' 0 _ rfl; have e21 := B2.cell' 1 _ rfl) | (go_at_call 17; refine (few_any _ p' ws' _ (h'.new ((hnS.trans hn0).trans hn1))).mono ?_; rw [G2.out]; rintro e2 w2 ⟨rfl, hn2⟩; have B1 := B1.new hn2; have B2 := B2.new hn2; have e10 := B1.cell' 0 _ rfl; have e11 := B1.cell' 1 _ rfl; have e20 := B2.cell' 0 _ rfl; have e21 := B2.cell' 1 _ rfl) | (go_at_call 17; refine (few_any _ p ws _ (h.new (hnS.trans hn0))).mono ?_; rw [G1.out]; rintro e1 w1 ⟨rfl, hn1⟩; have B1 := B1.new hn1; have B2 := B2.new hn1; have e10 := B1.cell' 0 _ rfl; have e11 := B1.cell' 1 _ rfl; have e20 := B2.cell' 0 _ rfl; have e21 := B2.cell' 1 _ rfl) | (go_at_call 12; refine (awake_any _ (hE.new hnS)).mono ?_; rintro e0 w0 ⟨rfl, hn0⟩; have B1 := ((Blk.made _ _ _).alloc _).new hn0; have B2 := (Blk.made _ _ _).new hn0; rw [World.size_alloc] at B2; have e10 := B1.cell' 0 _ rfl; have e11 := B1.cell' 1 _ rfl))
    go_ret
    exact ⟨rfl, ((((hnS.trans hn0).trans hn1).trans hn2).trans hn3).trans ((hn4.trans hn5).trans hn6)⟩
  have H6 := Lib.hid g6
  by_cases i1 : i < 0
  · have hv : commonV p ws i p' ws' j = 0 := if_pos (.inl i1)
    have HV := Lib.hid hv
    have HV2 := Lib.hid ((commonV_comm p p' ws ws' i j).trans hv)
    clear hv g5 g6
    go_enter Tryd.func6, Tryd.ntmps6
    go_wp2_with (first | (go_at_call 16; refine (valid_any _ p' ws' _ (h'.new ((((((hnS.trans hn0).trans hn1).trans hn2).trans hn3).trans hn4).trans hn5)) F2.path (hE.new ((((((hnS.trans hn0).trans hn1).trans hn2).trans hn3).trans hn4).trans hn5)) F2.words).mono ?_; rw [H6.out]; rintro e6 w6 ⟨rfl, hn6⟩; have B1 := B1.new hn6; have B2 := B2.new hn6; have e10 := B1.cell' 0 _ rfl; have e11 := B1.cell' 1 _ rfl; have e20 := B2.cell' 0 _ rfl; have e21 := B2.cell' 1 _ rfl) | (go_at_call 16; refine (valid_any _ p ws _ (h.new (((((hnS.trans hn0).trans hn1).trans hn2).trans hn3).trans hn4)) F1.path (hE.new (((((hnS.trans hn0).trans hn1).trans hn2).trans hn3).trans hn4)) F1.words).mono ?_; rw [H5.out]; rintro e5 w5 ⟨rfl, hn5⟩; have B1 := B1.new hn5; have B2 := B2.new hn5; have e10 := B1.cell' 0 _ rfl; have e11 := B1.cell' 1 _ rfl; have e20 := B2.cell' 0 _ rfl; have e21 := B2.cell' 1 _ rfl) | (go_at_call 18; refine (common_any _ p' ws' _ _ p ws _ _ (h'.new ((((hnS.trans hn0).trans hn1).trans hn2).trans hn3)) (h.new ((((hnS.trans hn0).trans hn1).trans hn2).trans hn3)) F2 F1 (hE.new ((((hnS.trans hn0).trans hn1).trans hn2).trans hn3))).mono ?_; rw [HV2.out]; rintro e4 w4 ⟨rfl, hn4⟩; have B1 := B1.new hn4; have B2 := B2.new hn4; have e10 := B1.cell' 0 _ rfl; have e11 := B1.cell' 1 _ rfl; have e20 := B2.cell' 0 _ rfl; have e21 := B2.cell' 1 _ rfl) | (go_at_call 18; refine (common_any _ p ws _ _ p' ws' _ _ (h.new (((hnS.trans hn0).trans hn1).trans hn2)) (h'.new (((hnS.trans hn0).trans hn1).trans hn2)) F1 F2 (hE.new (((hnS.trans hn0).trans hn1).trans hn2))).mono ?_; rw [HV.out]; rintro e3 w3 ⟨rfl, hn3⟩; have B1 := B1.new hn3; have B2 := B2.new hn3; have e10 := B1.cell' 0 _ rfl; have e11 := B1.cell' 1 _ rfl; have e20 := B2.cell' 0 _ rfl; have e21 := B2.cell' 1 _ rfl) | (go_at_call 17; refine (few_any _ p' ws' _ (h'.new ((hnS.trans hn0).trans hn1))).mono ?_; rw [G2.out]; rintro e2 w2 ⟨rfl, hn2⟩; have B1 := B1.new hn2; have B2 := B2.new hn2; have e10 := B1.cell' 0 _ rfl; have e11 := B1.cell' 1 _ rfl; have e20 := B2.cell' 0 _ rfl; have e21 := B2.cell' 1 _ rfl) | (go_at_call 17; refine (few_any _ p ws _ (h.new (hnS.trans hn0))).mono ?_; rw [G1.out]; rintro e1 w1 ⟨rfl, hn1⟩; have B1 := B1.new hn1; have B2 := B2.new hn1; have e10 := B1.cell' 0 _ rfl; have e11 := B1.cell' 1 _ rfl; have e20 := B2.cell' 0 _ rfl; have e21 := B2.cell' 1 _ rfl) | (go_at_call 12; refine (awake_any _ (hE.new hnS)).mono ?_; rintro e0 w0 ⟨rfl, hn0⟩; have B1 := ((Blk.made _ _ _).alloc _).new hn0; have B2 := (Blk.made _ _ _).new hn0; rw [World.size_alloc] at B2; have e10 := B1.cell' 0 _ rfl; have e11 := B1.cell' 1 _ rfl))
    go_ret
    exact ⟨rfl, ((((hnS.trans hn0).trans hn1).trans hn2).trans hn3).trans ((hn4.trans hn5).trans hn6)⟩
  have i1' : 0 ≤ i := by omega
  by_cases i3 : j < 0
  · have hv : commonV p ws i p' ws' j = 0 := if_pos (.inr (.inr (.inl i3)))
    have HV := Lib.hid hv
    have HV2 := Lib.hid ((commonV_comm p p' ws ws' i j).trans hv)
    clear hv g5 g6
    go_enter Tryd.func6, Tryd.ntmps6
    go_wp2_with (first | (go_at_call 16; refine (valid_any _ p' ws' _ (h'.new ((((((hnS.trans hn0).trans hn1).trans hn2).trans hn3).trans hn4).trans hn5)) F2.path (hE.new ((((((hnS.trans hn0).trans hn1).trans hn2).trans hn3).trans hn4).trans hn5)) F2.words).mono ?_; rw [H6.out]; rintro e6 w6 ⟨rfl, hn6⟩; have B1 := B1.new hn6; have B2 := B2.new hn6; have e10 := B1.cell' 0 _ rfl; have e11 := B1.cell' 1 _ rfl; have e20 := B2.cell' 0 _ rfl; have e21 := B2.cell' 1 _ rfl) | (go_at_call 16; refine (valid_any _ p ws _ (h.new (((((hnS.trans hn0).trans hn1).trans hn2).trans hn3).trans hn4)) F1.path (hE.new (((((hnS.trans hn0).trans hn1).trans hn2).trans hn3).trans hn4)) F1.words).mono ?_; rw [H5.out]; rintro e5 w5 ⟨rfl, hn5⟩; have B1 := B1.new hn5; have B2 := B2.new hn5; have e10 := B1.cell' 0 _ rfl; have e11 := B1.cell' 1 _ rfl; have e20 := B2.cell' 0 _ rfl; have e21 := B2.cell' 1 _ rfl) | (go_at_call 18; refine (common_any _ p' ws' _ _ p ws _ _ (h'.new ((((hnS.trans hn0).trans hn1).trans hn2).trans hn3)) (h.new ((((hnS.trans hn0).trans hn1).trans hn2).trans hn3)) F2 F1 (hE.new ((((hnS.trans hn0).trans hn1).trans hn2).trans hn3))).mono ?_; rw [HV2.out]; rintro e4 w4 ⟨rfl, hn4⟩; have B1 := B1.new hn4; have B2 := B2.new hn4; have e10 := B1.cell' 0 _ rfl; have e11 := B1.cell' 1 _ rfl; have e20 := B2.cell' 0 _ rfl; have e21 := B2.cell' 1 _ rfl) | (go_at_call 18; refine (common_any _ p ws _ _ p' ws' _ _ (h.new (((hnS.trans hn0).trans hn1).trans hn2)) (h'.new (((hnS.trans hn0).trans hn1).trans hn2)) F1 F2 (hE.new (((hnS.trans hn0).trans hn1).trans hn2))).mono ?_; rw [HV.out]; rintro e3 w3 ⟨rfl, hn3⟩; have B1 := B1.new hn3; have B2 := B2.new hn3; have e10 := B1.cell' 0 _ rfl; have e11 := B1.cell' 1 _ rfl; have e20 := B2.cell' 0 _ rfl; have e21 := B2.cell' 1 _ rfl) | (go_at_call 17; refine (few_any _ p' ws' _ (h'.new ((hnS.trans hn0).trans hn1))).mono ?_; rw [G2.out]; rintro e2 w2 ⟨rfl, hn2⟩; have B1 := B1.new hn2; have B2 := B2.new hn2; have e10 := B1.cell' 0 _ rfl; have e11 := B1.cell' 1 _ rfl; have e20 := B2.cell' 0 _ rfl; have e21 := B2.cell' 1 _ rfl) | (go_at_call 17; refine (few_any _ p ws _ (h.new (hnS.trans hn0))).mono ?_; rw [G1.out]; rintro e1 w1 ⟨rfl, hn1⟩; have B1 := B1.new hn1; have B2 := B2.new hn1; have e10 := B1.cell' 0 _ rfl; have e11 := B1.cell' 1 _ rfl; have e20 := B2.cell' 0 _ rfl; have e21 := B2.cell' 1 _ rfl) | (go_at_call 12; refine (awake_any _ (hE.new hnS)).mono ?_; rintro e0 w0 ⟨rfl, hn0⟩; have B1 := ((Blk.made _ _ _).alloc _).new hn0; have B2 := (Blk.made _ _ _).new hn0; rw [World.size_alloc] at B2; have e10 := B1.cell' 0 _ rfl; have e11 := B1.cell' 1 _ rfl))
    go_ret
    exact ⟨rfl, ((((hnS.trans hn0).trans hn1).trans hn2).trans hn3).trans ((hn4.trans hn5).trans hn6)⟩
  have i3' : 0 ≤ j := by omega
  by_cases i2 : (ws.length : Int) < i
  · have hv : commonV p ws i p' ws' j = 0 := if_pos (.inr (.inl i2))
    have HV := Lib.hid hv
    have HV2 := Lib.hid ((commonV_comm p p' ws ws' i j).trans hv)
    clear hv g5 g6
    go_enter Tryd.func6, Tryd.ntmps6
    go_wp2_with (first | (go_at_call 16; refine (valid_any _ p' ws' _ (h'.new ((((((hnS.trans hn0).trans hn1).trans hn2).trans hn3).trans hn4).trans hn5)) F2.path (hE.new ((((((hnS.trans hn0).trans hn1).trans hn2).trans hn3).trans hn4).trans hn5)) F2.words).mono ?_; rw [H6.out]; rintro e6 w6 ⟨rfl, hn6⟩; have B1 := B1.new hn6; have B2 := B2.new hn6; have e10 := B1.cell' 0 _ rfl; have e11 := B1.cell' 1 _ rfl; have e20 := B2.cell' 0 _ rfl; have e21 := B2.cell' 1 _ rfl) | (go_at_call 16; refine (valid_any _ p ws _ (h.new (((((hnS.trans hn0).trans hn1).trans hn2).trans hn3).trans hn4)) F1.path (hE.new (((((hnS.trans hn0).trans hn1).trans hn2).trans hn3).trans hn4)) F1.words).mono ?_; rw [H5.out]; rintro e5 w5 ⟨rfl, hn5⟩; have B1 := B1.new hn5; have B2 := B2.new hn5; have e10 := B1.cell' 0 _ rfl; have e11 := B1.cell' 1 _ rfl; have e20 := B2.cell' 0 _ rfl; have e21 := B2.cell' 1 _ rfl) | (go_at_call 18; refine (common_any _ p' ws' _ _ p ws _ _ (h'.new ((((hnS.trans hn0).trans hn1).trans hn2).trans hn3)) (h.new ((((hnS.trans hn0).trans hn1).trans hn2).trans hn3)) F2 F1 (hE.new ((((hnS.trans hn0).trans hn1).trans hn2).trans hn3))).mono ?_; rw [HV2.out]; rintro e4 w4 ⟨rfl, hn4⟩; have B1 := B1.new hn4; have B2 := B2.new hn4; have e10 := B1.cell' 0 _ rfl; have e11 := B1.cell' 1 _ rfl; have e20 := B2.cell' 0 _ rfl; have e21 := B2.cell' 1 _ rfl) | (go_at_call 18; refine (common_any _ p ws _ _ p' ws' _ _ (h.new (((hnS.trans hn0).trans hn1).trans hn2)) (h'.new (((hnS.trans hn0).trans hn1).trans hn2)) F1 F2 (hE.new (((hnS.trans hn0).trans hn1).trans hn2))).mono ?_; rw [HV.out]; rintro e3 w3 ⟨rfl, hn3⟩; have B1 := B1.new hn3; have B2 := B2.new hn3; have e10 := B1.cell' 0 _ rfl; have e11 := B1.cell' 1 _ rfl; have e20 := B2.cell' 0 _ rfl; have e21 := B2.cell' 1 _ rfl) | (go_at_call 17; refine (few_any _ p' ws' _ (h'.new ((hnS.trans hn0).trans hn1))).mono ?_; rw [G2.out]; rintro e2 w2 ⟨rfl, hn2⟩; have B1 := B1.new hn2; have B2 := B2.new hn2; have e10 := B1.cell' 0 _ rfl; have e11 := B1.cell' 1 _ rfl; have e20 := B2.cell' 0 _ rfl; have e21 := B2.cell' 1 _ rfl) | (go_at_call 17; refine (few_any _ p ws _ (h.new (hnS.trans hn0))).mono ?_; rw [G1.out]; rintro e1 w1 ⟨rfl, hn1⟩; have B1 := B1.new hn1; have B2 := B2.new hn1; have e10 := B1.cell' 0 _ rfl; have e11 := B1.cell' 1 _ rfl; have e20 := B2.cell' 0 _ rfl; have e21 := B2.cell' 1 _ rfl) | (go_at_call 12; refine (awake_any _ (hE.new hnS)).mono ?_; rintro e0 w0 ⟨rfl, hn0⟩; have B1 := ((Blk.made _ _ _).alloc _).new hn0; have B2 := (Blk.made _ _ _).new hn0; rw [World.size_alloc] at B2; have e10 := B1.cell' 0 _ rfl; have e11 := B1.cell' 1 _ rfl))
    go_ret
    exact ⟨rfl, ((((hnS.trans hn0).trans hn1).trans hn2).trans hn3).trans ((hn4.trans hn5).trans hn6)⟩
  by_cases i4 : (ws'.length : Int) < j
  · have hv : commonV p ws i p' ws' j = 0 := if_pos (.inr (.inr (.inr (.inl i4))))
    have HV := Lib.hid hv
    have HV2 := Lib.hid ((commonV_comm p p' ws ws' i j).trans hv)
    clear hv g5 g6
    go_enter Tryd.func6, Tryd.ntmps6
    go_wp2_with (first | (go_at_call 16; refine (valid_any _ p' ws' _ (h'.new ((((((hnS.trans hn0).trans hn1).trans hn2).trans hn3).trans hn4).trans hn5)) F2.path (hE.new ((((((hnS.trans hn0).trans hn1).trans hn2).trans hn3).trans hn4).trans hn5)) F2.words).mono ?_; rw [H6.out]; rintro e6 w6 ⟨rfl, hn6⟩; have B1 := B1.new hn6; have B2 := B2.new hn6; have e10 := B1.cell' 0 _ rfl; have e11 := B1.cell' 1 _ rfl; have e20 := B2.cell' 0 _ rfl; have e21 := B2.cell' 1 _ rfl) | (go_at_call 16; refine (valid_any _ p ws _ (h.new (((((hnS.trans hn0).trans hn1).trans hn2).trans hn3).trans hn4)) F1.path (hE.new (((((hnS.trans hn0).trans hn1).trans hn2).trans hn3).trans hn4)) F1.words).mono ?_; rw [H5.out]; rintro e5 w5 ⟨rfl, hn5⟩; have B1 := B1.new hn5; have B2 := B2.new hn5; have e10 := B1.cell' 0 _ rfl; have e11 := B1.cell' 1 _ rfl; have e20 := B2.cell' 0 _ rfl; have e21 := B2.cell' 1 _ rfl) | (go_at_call 18; refine (common_any _ p' ws' _ _ p ws _ _ (h'.new ((((hnS.trans hn0).trans hn1).trans hn2).trans hn3)) (h.new ((((hnS.trans hn0).trans hn1).trans hn2).trans hn3)) F2 F1 (hE.new ((((hnS.trans hn0).trans hn1).trans hn2).trans hn3))).mono ?_; rw [HV2.out]; rintro e4 w4 ⟨rfl, hn4⟩; have B1 := B1.new hn4; have B2 := B2.new hn4; have e10 := B1.cell' 0 _ rfl; have e11 := B1.cell' 1 _ rfl; have e20 := B2.cell' 0 _ rfl; have e21 := B2.cell' 1 _ rfl) | (go_at_call 18; refine (common_any _ p ws _ _ p' ws' _ _ (h.new (((hnS.trans hn0).trans hn1).trans hn2)) (h'.new (((hnS.trans hn0).trans hn1).trans hn2)) F1 F2 (hE.new (((hnS.trans hn0).trans hn1).trans hn2))).mono ?_; rw [HV.out]; rintro e3 w3 ⟨rfl, hn3⟩; have B1 := B1.new hn3; have B2 := B2.new hn3; have e10 := B1.cell' 0 _ rfl; have e11 := B1.cell' 1 _ rfl; have e20 := B2.cell' 0 _ rfl; have e21 := B2.cell' 1 _ rfl) | (go_at_call 17; refine (few_any _ p' ws' _ (h'.new ((hnS.trans hn0).trans hn1))).mono ?_; rw [G2.out]; rintro e2 w2 ⟨rfl, hn2⟩; have B1 := B1.new hn2; have B2 := B2.new hn2; have e10 := B1.cell' 0 _ rfl; have e11 := B1.cell' 1 _ rfl; have e20 := B2.cell' 0 _ rfl; have e21 := B2.cell' 1 _ rfl) | (go_at_call 17; refine (few_any _ p ws _ (h.new (hnS.trans hn0))).mono ?_; rw [G1.out]; rintro e1 w1 ⟨rfl, hn1⟩; have B1 := B1.new hn1; have B2 := B2.new hn1; have e10 := B1.cell' 0 _ rfl; have e11 := B1.cell' 1 _ rfl; have e20 := B2.cell' 0 _ rfl; have e21 := B2.cell' 1 _ rfl) | (go_at_call 12; refine (awake_any _ (hE.new hnS)).mono ?_; rintro e0 w0 ⟨rfl, hn0⟩; have B1 := ((Blk.made _ _ _).alloc _).new hn0; have B2 := (Blk.made _ _ _).new hn0; rw [World.size_alloc] at B2; have e10 := B1.cell' 0 _ rfl; have e11 := B1.cell' 1 _ rfl))
    go_ret
    exact ⟨rfl, ((((hnS.trans hn0).trans hn1).trans hn2).trans hn3).trans ((hn4.trans hn5).trans hn6)⟩
  obtain ⟨k, rfl⟩ : ∃ k : Nat, i = k := ⟨i.toNat, by omega⟩
  obtain ⟨m, rfl⟩ : ∃ m : Nat, j = m := ⟨j.toNat, by omega⟩
  have hv : commonV p ws k p' ws' m = cpre (ws.drop k) (ws'.drop m) := by
    rw [commonV, if_neg]
    · simp
    · rintro (h | h | h | h | h | h)
      · exact i1 h
      · exact i2 h
      · exact i3 h
      · exact i4 h
      · rw [g5] at h; cases h
      · rw [g6] at h; cases h
  have hk : k ≤ ws.length := by omega
  have hm : m ≤ ws'.length := by omega
  have hle := cpre_le (ws.drop k) (ws'.drop m)
  have hat := cpre_at (ws.drop k) (ws'.drop m)
  have hst := cpre_stop (ws.drop k) (ws'.drop m)
  generalize cpre (ws.drop k) (ws'.drop m) = n at *
  rw [List.length_drop, List.length_drop] at hle hst
  obtain ⟨hle1, hle2⟩ := hle
  have HAT : Hid (∀ t, t < n → ∃ x y, ws[k + t]? = some x ∧ ws'[m + t]? = some y ∧ x.1 = y.1) := Lib.hid (fun t ht => by
    obtain ⟨x, y, h1, h2, h3⟩ := hat t ht
    rw [List.getElem?_drop] at h1 h2
    exact ⟨x, y, h1, h2, h3⟩)
  have HST : Hid (k + n = ws.length ∨ m + n = ws'.length ∨ ∃ x y, ws[k + n]? = some x ∧ ws'[m + n]? = some y ∧ x.1 ≠ y.1) := Lib.hid (by
    rcases hst with h | h | ⟨x, y, h1, h2, h3⟩
    · exact .inl (by omega)
    · exact .inr (.inl (by omega))
    · rw [List.getElem?_drop] at h1 h2
      exact .inr (.inr ⟨x, y, h1, h2, h3⟩))
  clear hat hst
  have HV := Lib.hid hv
  have HV2 := Lib.hid ((commonV_comm p p' ws ws' k m).trans hv)
  clear hv g5 g6 i1 i2 i3 i4 i1' i3'
  have q1 : ¬ ((ws.length : Int) - (k : Int) < (n : Int)) := by omega
  have q2 : ¬ ((ws'.length : Int) - (m : Int) < (n : Int)) := by omega
  go_enter Tryd.func6, Tryd.ntmps6
  go_wp2_with (first | (go_at_call 16; refine (valid_any _ p' ws' _ (h'.new ((((((hnS.trans hn0).trans hn1).trans hn2).trans hn3).trans hn4).trans hn5)) F2.path (hE.new ((((((hnS.trans hn0).trans hn1).trans hn2).trans hn3).trans hn4).trans hn5)) F2.words).mono ?_; rw [H6.out]; rintro e6 w6 ⟨rfl, hn6⟩; have B1 := B1.new hn6; have B2 := B2.new hn6; have e10 := B1.cell' 0 _ rfl; have e11 := B1.cell' 1 _ rfl; have e20 := B2.cell' 0 _ rfl; have e21 := B2.cell' 1 _ rfl) | (go_at_call 16; refine (valid_any _ p ws _ (h.new (((((hnS.trans hn0).trans hn1).trans hn2).trans hn3).trans hn4)) F1.path (hE.new (((((hnS.trans hn0).trans hn1).trans hn2).trans hn3).trans hn4)) F1.words).mono ?_; rw [H5.out]; rintro e5 w5 ⟨rfl, hn5⟩; have B1 := B1.new hn5; have B2 := B2.new hn5; have e10 := B1.cell' 0 _ rfl; have e11 := B1.cell' 1 _ rfl; have e20 := B2.cell' 0 _ rfl; have e21 := B2.cell' 1 _ rfl) | (go_at_call 18; refine (common_any _ p' ws' _ _ p ws _ _ (h'.new ((((hnS.trans hn0).trans hn1).trans hn2).trans hn3)) (h.new ((((hnS.trans hn0).trans hn1).trans hn2).trans hn3)) F2 F1 (hE.new ((((hnS.trans hn0).trans hn1).trans hn2).trans hn3))).mono ?_; rw [HV2.out]; rintro e4 w4 ⟨rfl, hn4⟩; have B1 := B1.new hn4; have B2 := B2.new hn4; have e10 := B1.cell' 0 _ rfl; have e11 := B1.cell' 1 _ rfl; have e20 := B2.cell' 0 _ rfl; have e21 := B2.cell' 1 _ rfl) | (go_at_call 18; refine (common_any _ p ws _ _ p' ws' _ _ (h.new (((hnS.trans hn0).trans hn1).trans hn2)) (h'.new (((hnS.trans hn0).trans hn1).trans hn2)) F1 F2 (hE.new (((hnS.trans hn0).trans hn1).trans hn2))).mono ?_; rw [HV.out]; rintro e3 w3 ⟨rfl, hn3⟩; have B1 := B1.new hn3; have B2 := B2.new hn3; have e10 := B1.cell' 0 _ rfl; have e11 := B1.cell' 1 _ rfl; have e20 := B2.cell' 0 _ rfl; have e21 := B2.cell' 1 _ rfl) | (go_at_call 17; refine (few_any _ p' ws' _ (h'.new ((hnS.trans hn0).trans hn1))).mono ?_; rw [G2.out]; rintro e2 w2 ⟨rfl, hn2⟩; have B1 := B1.new hn2; have B2 := B2.new hn2; have e10 := B1.cell' 0 _ rfl; have e11 := B1.cell' 1 _ rfl; have e20 := B2.cell' 0 _ rfl; have e21 := B2.cell' 1 _ rfl) | (go_at_call 17; refine (few_any _ p ws _ (h.new (hnS.trans hn0))).mono ?_; rw [G1.out]; rintro e1 w1 ⟨rfl, hn1⟩; have B1 := B1.new hn1; have B2 := B2.new hn1; have e10 := B1.cell' 0 _ rfl; have e11 := B1.cell' 1 _ rfl; have e20 := B2.cell' 0 _ rfl; have e21 := B2.cell' 1 _ rfl) | (go_at_call 12; refine (awake_any _ (hE.new hnS)).mono ?_; rintro e0 w0 ⟨rfl, hn0⟩; have B1 := ((Blk.made _ _ _).alloc _).new hn0; have B2 := (Blk.made _ _ _).new hn0; rw [World.size_alloc] at B2; have e10 := B1.cell' 0 _ rfl; have e11 := B1.cell' 1 _ rfl))
  have hw6 : New w w6 := ((((hnS.trans hn0).trans hn1).trans hn2).trans hn3).trans ((hn4.trans hn5).trans hn6)
  go_loopw [86] (fun v86 wr => ∃ t : Nat, v86 = .int .i64 t ∧ t ≤ n ∧ New w6 wr) (fun v86 _ => n - (intOf v86).toNat)
  case atStart => exact ⟨0, rfl, by omega, New.refl w6⟩
  case round =>
    obtain ⟨t, rfl, ht, hnr⟩ := hrel
    have e11 := (B1.new hnr).cell' 1 _ rfl
    have e21 := (B2.new hnr).cell' 1 _ rfl
    by_cases hlt : t < n
    · obtain ⟨x, y, hx, hy, hxy⟩ := HAT.out t hlt
      obtain ⟨bk, o, rfl, hbk, hc⟩ := hr.2 (by omega)
      obtain ⟨bk', o', rfl, hbk', hc'⟩ := hr'.2 (by omega)
      have d1 : wr.cell? ⟨bk, o + (k + t) * 2, none⟩ = some (.string x.1) := ((hw6.trans hnr).cell (p := ⟨bk, o + (k + t) * 2, none⟩) hbk).trans (hc _ _ (zc_of hx).1)
      have d2 : wr.cell? ⟨bk', o' + (m + t) * 2, none⟩ = some (.string y.1) := ((hw6.trans hnr).cell (p := ⟨bk', o' + (m + t) * 2, none⟩) hbk').trans (hc' _ _ (zc_of hy).1)
      rw [← hxy] at d2
      clear hc hc' hx hy hxy
      generalize x.1 = x1 at *
      have s1 : IntKind.i64.wrap ((k : Int) + (t : Int)) = (k : Int) + (t : Int) := IntWalk.i64_in _ (by omega)
      have s2 : IntKind.i64.wrap ((m : Int) + (t : Int)) = (m : Int) + (t : Int) := IntWalk.i64_in _ (by omega)
      have s3 : (0 : Int) ≤ (k : Int) + (t : Int) := by omega
      have s4 : (0 : Int) ≤ (m : Int) + (t : Int) := by omega
      have s5 : ((k : Int) + (t : Int)).toNat = k + t := by omega
      have s6 : ((m : Int) + (t : Int)).toNat = m + t := by omega
      have t1' : (k : Int) + (t : Int) < (ws.length : Int) := by omega
      have t2' : (m : Int) + (t : Int) < (ws'.length : Int) := by omega
      go_wp2_with (fail)
      go_quiet (fail)
      clear s1 s2 s5 s6
      go_wp2
      go_roundw
      case rel => exact ⟨t + 1, by go_num, by omega, hnr.drewN nq⟩
      case measure => simp [intOf]; omega
    · obtain rfl : t = n := by omega
      have s1 : IntKind.i64.wrap ((k : Int) + (t : Int)) = (k : Int) + (t : Int) := IntWalk.i64_in _ (by omega)
      have s2 : IntKind.i64.wrap ((m : Int) + (t : Int)) = (m : Int) + (t : Int) := IntWalk.i64_in _ (by omega)
      have s3 : (0 : Int) ≤ (k : Int) + (t : Int) := by omega
      have s4 : (0 : Int) ≤ (m : Int) + (t : Int) := by omega
      have s5 : ((k : Int) + (t : Int)).toNat = k + t := by omega
      have s6 : ((m : Int) + (t : Int)).toNat = m + t := by omega
      by_cases f1 : k + t = ws.length
      · have f1' : ((k : Int) + (t : Int) == (ws.length : Int)) = true := beq_iff_eq.2 (by omega)
        clear f1
        go_wp2_with (fail)
        go_quiet (fail)
        go_wp2
        go_ret
        exact ⟨rfl, (hw6.trans hnr).drewN nq⟩
      have f1' : ((k : Int) + (t : Int) == (ws.length : Int)) = false := beq_eq_false_iff_ne.2 (by omega)
      by_cases f2 : m + t = ws'.length
      · have f2' : ((m : Int) + (t : Int) == (ws'.length : Int)) = true := beq_iff_eq.2 (by omega)
        clear f1 f2
        go_wp2_with (fail)
        go_quiet (fail)
        go_wp2
        go_ret
        exact ⟨rfl, (hw6.trans hnr).drewN nq⟩
      have f2' : ((m : Int) + (t : Int) == (ws'.length : Int)) = false := beq_eq_false_iff_ne.2 (by omega)
      obtain ⟨x, y, hx, hy, hxy⟩ := (HST.out.resolve_left f1).resolve_left f2
      obtain ⟨bk, o, rfl, hbk, hc⟩ := hr.2 (by omega)
      obtain ⟨bk', o', rfl, hbk', hc'⟩ := hr'.2 (by omega)
      have d1 : wr.cell? ⟨bk, o + (k + t) * 2, none⟩ = some (.string x.1) := ((hw6.trans hnr).cell (p := ⟨bk, o + (k + t) * 2, none⟩) hbk).trans (hc _ _ (zc_of hx).1)
      have d2 : wr.cell? ⟨bk', o' + (m + t) * 2, none⟩ = some (.string y.1) := ((hw6.trans hnr).cell (p := ⟨bk', o' + (m + t) * 2, none⟩) hbk').trans (hc' _ _ (zc_of hy).1)
      have t1' : (k : Int) + (t : Int) < (ws.length : Int) := by omega
      have t2' : (m : Int) + (t : Int) < (ws'.length : Int) := by omega
      have f3 := str_ne hxy
      clear hc hc' hx hy hxy f1 f2
      generalize x.1 = x1 at *
      generalize y.1 = y1 at *
      go_wp2_with (fail)
      go_quiet (fail)
      go_wp2
      go_ret
      exact ⟨by simp, (hw6.trans hnr).drewN nq⟩
end Go.Proofs.YtlecocmopeainaaDoor
