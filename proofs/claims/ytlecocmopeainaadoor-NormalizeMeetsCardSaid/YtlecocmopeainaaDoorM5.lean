/- The law NormalizeCommons, walked. The package-level variables that the library reads hold what the row lists (Env). -/
import Derived.Test.YtlecocmopeainaaDoorM
import Derived.Test.YtlecocmopeainaaDoorN4
import Derived.Deep.RegionHeld3
namespace Go.Proofs.YtlecocmopeainaaDoor
open Go Go.RowKit Go.Joins Go.Shelf
set_option linter.unusedSimpArgs false

/-- Two boxes of two cells, in a world that has grown. -/
abbrev Two (wB : World) (g h : Nat) (a b c d : Value) (W : World) : Prop :=
  W.cell? ⟨g, 0, none⟩ = some a ∧ W.cell? ⟨g, 1, none⟩ = some b ∧ W.cell? ⟨h, 0, none⟩ = some c ∧ W.cell? ⟨h, 1, none⟩ = some d ∧ New wB W
theorem Two.new {wB W W' : World} {g h : Nat} {a b c d : Value} (s : Two wB g h a b c d W) (hn : New W W') : Two wB g h a b c d W' :=
  ⟨(hn.cell (p := ⟨g, 0, none⟩) (cell_lt s.1)).trans s.1, (hn.cell (p := ⟨g, 1, none⟩) (cell_lt s.2.1)).trans s.2.1, (hn.cell (p := ⟨h, 0, none⟩) (cell_lt s.2.2.1)).trans s.2.2.1, (hn.cell (p := ⟨h, 1, none⟩) (cell_lt s.2.2.2.1)).trans s.2.2.2.1, s.2.2.2.2.trans hn⟩
theorem Two.drew {wB W : World} {g h : Nat} {a b c d : Value} (s : Two wB g h a b c d W) : Two wB g h a b c d W.drew := ⟨s.1, s.2.1, s.2.2.1, s.2.2.2.1, s.2.2.2.2.drew⟩

set_option maxRecDepth 100000 in
set_option maxHeartbeats 4000000 in
theorem law_commons (v : Value) (p : ByteArray) (ws : List Lz) (i : Int) (v' : Value) (p' : ByteArray) (ws' : List Lz) (j : Int) (w : World) (h : ZText w v p ws) (h' : ZText w v' p' ws') (hE : Env w) :
    Calls Tryd.prog 5 #[v, .int .i64 i, v', .int .i64 j] w fun e w' => e = .returned (.bool true) ∧ New w w' := by
  obtain ⟨A, c, rfl, hc1, hc2, hr⟩ := id h
  obtain ⟨A', c', rfl, hc1', hc2', hr'⟩ := id h'
  have hnS : New w ((w.alloc (.cells #[.string p, .slice A ws.length c] 25)).alloc (.cells #[.string p', .slice A' ws'.length c'] 25)) := ((New.refl w).alloc _).alloc _
  cases g1 : fewB p ws
  · have G1 := Lib.hid g1
    clear g1
    go_enter Tryd.func5, Tryd.ntmps5
    go_wp2_with (first | (go_at_call 17; refine (few_any _ p ws _ (h.new (hnS.trans hn0))).mono ?_; rw [G1.out]; rintro e1 w1 ⟨rfl, hn1⟩; have B1 := B1.new hn1; have B2 := B2.new hn1; have e20 := B2.cell' 0 _ rfl; have e21 := B2.cell' 1 _ rfl) | (go_at_call 12; refine (awake_any _ (hE.new hnS)).mono ?_; rintro e0 w0 ⟨rfl, hn0⟩; have B1 := ((Blk.made _ _ _).alloc _).new hn0; have B2 := (Blk.made _ _ _).new hn0; rw [World.size_alloc] at B2; have e10 := B1.cell' 0 _ rfl; have e11 := B1.cell' 1 _ rfl))
    go_ret
    exact ⟨rfl, (hnS.trans hn0).trans hn1⟩
  have G1 := Lib.hid g1
  cases g2 : fewB p' ws'
  · have G2 := Lib.hid g2
    clear g1 g2
    go_enter Tryd.func5, Tryd.ntmps5
    go_wp2_with (first | (go_at_call 17; refine (few_any _ p' ws' _ (h'.new ((hnS.trans hn0).trans hn1))).mono ?_; rw [G2.out]; rintro e2 w2 ⟨rfl, hn2⟩) | (go_at_call 17; refine (few_any _ p ws _ (h.new (hnS.trans hn0))).mono ?_; rw [G1.out]; rintro e1 w1 ⟨rfl, hn1⟩; have B1 := B1.new hn1; have B2 := B2.new hn1; have e20 := B2.cell' 0 _ rfl; have e21 := B2.cell' 1 _ rfl) | (go_at_call 12; refine (awake_any _ (hE.new hnS)).mono ?_; rintro e0 w0 ⟨rfl, hn0⟩; have B1 := ((Blk.made _ _ _).alloc _).new hn0; have B2 := (Blk.made _ _ _).new hn0; rw [World.size_alloc] at B2; have e10 := B1.cell' 0 _ rfl; have e11 := B1.cell' 1 _ rfl))
    go_ret
    exact ⟨rfl, ((hnS.trans hn0).trans hn1).trans hn2⟩
  have G2 := Lib.hid g2
  have F1 := few_fit g1
  have F2 := few_fit g2
  clear g1 g2
  go_enter Tryd.func5, Tryd.ntmps5
  go_wp2_with (first | (go_at_call 17; refine (few_any _ p' ws' _ (h'.new ((hnS.trans hn0).trans hn1))).mono ?_; rw [G2.out]; rintro e2 w2 ⟨rfl, hn2⟩) | (go_at_call 17; refine (few_any _ p ws _ (h.new (hnS.trans hn0))).mono ?_; rw [G1.out]; rintro e1 w1 ⟨rfl, hn1⟩; have B1 := B1.new hn1; have B2 := B2.new hn1; have e20 := B2.cell' 0 _ rfl; have e21 := B2.cell' 1 _ rfl) | (go_at_call 12; refine (awake_any _ (hE.new hnS)).mono ?_; rintro e0 w0 ⟨rfl, hn0⟩; have B1 := ((Blk.made _ _ _).alloc _).new hn0; have B2 := (Blk.made _ _ _).new hn0; rw [World.size_alloc] at B2; have e10 := B1.cell' 0 _ rfl; have e11 := B1.cell' 1 _ rfl))
  have hw2 : New w w2 := ((hnS.trans hn0).trans hn1).trans hn2
  have hS : Two w2 w.heap.size (w.heap.size + 1) (.string p) (.slice A ws.length c) (.string p') (.slice A' ws'.length c') w2 := ⟨(B1.new hn2).cell' 0 _ rfl, (B1.new hn2).cell' 1 _ rfl, (B2.new hn2).cell' 0 _ rfl, (B2.new hn2).cell' 1 _ rfl, New.refl _⟩
  have HW := Lib.hid hw2
  clear hw2
  go_region_held3 (fun W => Two w2 w.heap.size (w.heap.size + 1) (.string p) (.slice A ws.length c) (.string p') (.slice A' ws'.length c') W) (first | exact hS | exact Two.new ‹_› ‹_› | exact Two.drew ‹_›)
    (first | (go_at_call 18; refine (common_any _ p ws i _ p' ws' j _ (h.new (HW.out.trans (by first | exact (New.refl _).drew | exact (New.refl _).drew.trans hn3))) (h'.new (HW.out.trans (by first | exact (New.refl _).drew | exact (New.refl _).drew.trans hn3))) F1 F2 (hE.new (HW.out.trans (by first | exact (New.refl _).drew | exact (New.refl _).drew.trans hn3)))).mono ?_; rintro e w' ⟨rfl, hn3⟩) | (go_at_call 19; refine (rcommon_any _ p ws i _ p' ws' j _ (h.new (HW.out.trans (by first | exact (New.refl _).drew | exact (New.refl _).drew.trans hn3))) (h'.new (HW.out.trans (by first | exact (New.refl _).drew | exact (New.refl _).drew.trans hn3))) F1 F2).mono ?_; rintro e w' ⟨rfl, hn4⟩))
  go_wp2
  go_ret
  exact ⟨rfl, HW.out.trans ((New.refl _).drew.trans (hn3.trans hn4))⟩
end Go.Proofs.YtlecocmopeainaaDoor
