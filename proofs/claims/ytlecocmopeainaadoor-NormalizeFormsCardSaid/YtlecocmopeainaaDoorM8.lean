/- The law NormalizeForms, walked. The package-level variables that the library reads hold what the row lists (Env). -/
import Derived.Test.YtlecocmopeainaaDoorS2
import Derived.Test.YtlecocmopeainaaDoorS4
import Derived.Test.YtlecocmopeainaaDoorM11
namespace Go.Proofs.YtlecocmopeainaaDoor
open Go Go.RowKit Go.Joins Go.Shelf
set_option linter.unusedSimpArgs false
set_option linter.unusedVariables false

theorem linesR_len (p : ByteArray) (ws : List Lz) (i j : Int) : (linesR p ws i j).2.length ≤ ws.length := by
  unfold linesR; split
  · simp
  · split
    · simp
    · refine Nat.le_trans (linesV_len _) ?_
      simp; omega
theorem few_small {p : ByteArray} {ws : List Lz} (h : fewB p ws = true) : Small ws := by
  simp only [fewB, Bool.and_eq_true, decide_eq_true_eq, List.all_eq_true] at h
  exact ⟨h.1.1, fun x hx => h.2 x hx⟩

set_option maxRecDepth 100000 in
set_option maxHeartbeats 8000000 in
theorem law_forms (v : Value) (p : ByteArray) (ws : List Lz) (i j : Int) (w : World) (h : ZText w v p ws) (hE : Env w) :
    Calls Tryd.prog 8 #[v, .int .i64 i, .int .i64 j] w fun e w' => e = .returned (.bool true) ∧ New w w' := by
  obtain ⟨A, c, rfl, hc1, hc2, hr⟩ := id h
  have hnS : New w (w.alloc (.cells #[.string p, .slice A ws.length c] 25)) := (New.refl w).alloc _
  cases g1 : fewB p ws
  · have G1 := Lib.hid g1
    clear g1
    go_enter Tryd.func8, Tryd.ntmps8
    go_wp2_with (first | (go_at_call 17; refine (few_any _ p ws _ (h.new (hnS.trans hn0))).mono ?_; rw [G1.out]; rintro e1 w1 ⟨rfl, hn1⟩) | (go_at_call 12; refine (awake_any _ (hE.new hnS)).mono ?_; rintro e0 w0 ⟨rfl, hn0⟩; have B1 := (Blk.made _ _ _).new hn0; have e10 := B1.cell' 0 _ rfl; have e11 := B1.cell' 1 _ rfl))
    go_ret
    exact ⟨rfl, (hnS.trans hn0).trans hn1⟩
  have G1 := Lib.hid g1
  have F1 := few_fit g1
  have S1 := few_small g1
  have hll := linesR_len p ws i j
  have HPR := Lib.hid (fun w (h : ZText w (.agg #[.string p, .slice A ws.length c]) p ws) (hE : Env w) => print_any _ p ws w h F1 S1 hE)
  have HRP := Lib.hid (fun w (h : ZText w (.agg #[.string p, .slice A ws.length c]) p ws) => rprint_any _ p ws w h F1 S1)
  have HLI := Lib.hid (fun w (h : ZText w (.agg #[.string p, .slice A ws.length c]) p ws) (hE : Env w) => lines_any _ p ws i j w h F1 hE)
  have HRL := Lib.hid (fun w (h : ZText w (.agg #[.string p, .slice A ws.length c]) p ws) => rlines_any _ p ws i j w h F1)
  have hl2 : ws.length ≤ 200 := S1.1
  obtain ⟨R, hR⟩ : ∃ R, linesR p ws i j = R := ⟨_, rfl⟩
  obtain ⟨T, hT⟩ : ∃ T, printV p ws = T := ⟨_, rfl⟩
  obtain ⟨V, hV⟩ : ∃ V, validV p ws = V := ⟨_, rfl⟩
  rw [hR] at hll HLI HRL
  rw [hT] at HPR HRP
  obtain ⟨er, sp⟩ := R
  obtain ⟨st, ep⟩ := T
  have HV := Lib.hid hV
  simp only at hll HPR HRP
  obtain ⟨n, hn⟩ : ∃ n, sp.length = n := ⟨_, rfl⟩
  have HN := Lib.hid hn
  have hn2 : n ≤ 200 := by omega
  have HLI2 : Hid (∀ w, ZText w (.agg #[.string p, .slice A ws.length c]) p ws → Env w → Calls Tryd.prog 23 #[.agg #[.string p, .slice A ws.length c], .int .i64 i, .int .i64 j] w fun e w' => ∃ A c, e = .returned (.tuple #[.slice A n c, .int .i64 er]) ∧ Rd w' 3 A n (spCells p sp) ∧ New w w') := Lib.hid (fun w h hE => (HLI.out w h hE).mono (by rintro e w' ⟨A, c, he, hr, _, _, hn⟩; simp only at he hr; rw [HN.out] at he hr; exact ⟨A, c, he, hr, hn⟩))
  have HRL2 : Hid (∀ w, ZText w (.agg #[.string p, .slice A ws.length c]) p ws → Calls Tryd.prog 24 #[.agg #[.string p, .slice A ws.length c], .int .i64 i, .int .i64 j] w fun e w' => ∃ A c, e = .returned (.tuple #[.slice A n c, .int .i64 er]) ∧ Rd w' 3 A n (spCells p sp) ∧ New w w') := Lib.hid (fun w h => (HRL.out w h).mono (by rintro e w' ⟨A, c, he, hr, _, _, hn⟩; simp only at he hr; rw [HN.out] at he hr; exact ⟨A, c, he, hr, hn⟩))
  clear g1 hR hT hV hn hll HLI HRL
  have f1 : (st.toList == st.toList) = true := beq_self_eq_true _
  have f2 : (V == V) = true := beq_self_eq_true _
  go_enter Tryd.func8, Tryd.ntmps8
  go_wp2_with (first
    | (go_at_call 24; refine (HRL2.out _ (h.new (hw3.trans hn5))).mono ?_; rintro e6 w6 ⟨A6, c6, rfl, hr6, hn6⟩; have B6 := B5.new hn6; have e10 := B6.cell' 0 _ rfl; have e11 := B6.cell' 1 _ rfl)
    | (go_at_call 23; refine (HLI2.out _ (h.new (hw3)) (hE.new hw3)).mono ?_; rintro e5 w5 ⟨A5, c5, rfl, hr5, hn5⟩; have B5 := B3.new hn5; have e10 := B5.cell' 0 _ rfl; have e11 := B5.cell' 1 _ rfl)
    | (go_at_call 22; refine (HRP.out _ (h.new ((hw1).trans hn2'))).mono ?_; rintro e3 w3 ⟨rfl, hn3⟩; have hw3 := (hw1.trans hn2').trans hn3; have B3 := B2.new hn3; have e10 := B3.cell' 0 _ rfl; have e11 := B3.cell' 1 _ rfl)
    | (go_at_call 21; refine (HPR.out _ (h.new hw1) (hE.new hw1)).mono ?_; rintro e2 w2 ⟨rfl, hn2'⟩; have B2 := B1.new hn2'; have e10 := B2.cell' 0 _ rfl; have e11 := B2.cell' 1 _ rfl)
    | (go_at_call 17; refine (few_any _ p ws _ (h.new (hnS.trans hn0))).mono ?_; rw [G1.out]; rintro e1 w1 ⟨rfl, hn1⟩; have hw1 := (hnS.trans hn0).trans hn1; have B1 := B0.new hn1; have e10 := B1.cell' 0 _ rfl; have e11 := B1.cell' 1 _ rfl)
    | (go_at_call 12; refine (awake_any _ (hE.new hnS)).mono ?_; rintro e0 w0 ⟨rfl, hn0⟩; have B0 := (Blk.made _ _ _).new hn0; have e10 := B0.cell' 0 _ rfl; have e11 := B0.cell' 1 _ rfl))
  have hw6 : New w w6 := (hw3.trans hn5).trans hn6
  have hS : Pair w6 w.heap.size (.string p) (.slice A ws.length c) w6 := ⟨B6.cell' 0 _ rfl, B6.cell' 1 _ rfl, New.refl _⟩
  have HW := Lib.hid hw6
  have R5 := Lib.hid (hr5.below hn6)
  have R6 := Lib.hid hr6
  clear hw6 hw3 hw1 hr5 hr6
  go_region_held3 (fun W => Pair w6 w.heap.size (.string p) (.slice A ws.length c) W) (first | exact hS | exact Pair.new ‹_› ‹_› | exact Pair.drew ‹_›)
    (first | (go_at_call 26; refine (eqSp_same _ _ _ _ n p sp HN.out _ (R5.out.below (((New.refl _).drew.trans hn7).trans hn8)) (R6.out.below (((New.refl _).drew.trans hn7).trans hn8)) (by omega)).mono ?_; rintro e9 w9 ⟨rfl, hn9⟩) | (go_at_call 16; refine (valid_any _ p ws _ (h.new (HW.out.trans (by first | exact (New.refl _).drew | exact (New.refl _).drew.trans hn8))) F1.path (hE.new (HW.out.trans (by first | exact (New.refl _).drew | exact (New.refl _).drew.trans hn8))) F1.words).mono ?_; rw [HV.out]; rintro e7 w7 ⟨rfl, hn7⟩) | (go_at_call 25; refine (rvalid_any _ p ws _ (h.new (HW.out.trans (by first | exact (New.refl _).drew | exact (New.refl _).drew.trans hn7))) F1.words).mono ?_; rw [HV.out]; rintro e8 w8 ⟨rfl, hn8⟩))
  go_wp2
  go_ret
  exact ⟨rfl, HW.out.trans (((((New.refl _).drew.trans hn7).trans hn8)).trans hn9)⟩
end Go.Proofs.YtlecocmopeainaaDoor
