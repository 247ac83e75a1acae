/- The law NormalizeWords, walked: true at every path, text and choice of classes. The package-level variables that the library reads hold what the row lists (Env). -/
import Derived.Test.YtlecocmopeainaaDoorL
namespace Go.Proofs.YtlecocmopeainaaDoor
open Go Go.RowKit Go.Joins Go.Shelf
set_option linter.unusedSimpArgs false

theorem same_self (v v' : Value) (p : ByteArray) (ws : List Lx) (w : World) (h : RText w v p ws) (h' : RText w v' p ws) :
    Calls Tryd.prog 15 #[v, v'] w fun e w' => e = .returned (.bool true) ∧ New w w' := by
  refine (same_any v v' p p ws ws w h h').mono ?_
  rintro e w' ⟨rfl, hn⟩
  exact ⟨by simp [sameB], hn⟩

set_option maxRecDepth 100000 in
set_option maxHeartbeats 4000000 in
theorem law_words (path data : ByteArray) (a b : Bool) (w : World) (hE : Env w) :
    Calls Tryd.prog 3 #[.string path, .string data, .bool a, .bool b] w fun e w' => e = .returned (.bool true) ∧ New w w' := by
  by_cases hp : path.size ≤ 200
  · have hp' : ¬ (200 : Int) < (path.size : Int) := by omega
    by_cases hd : data.size ≤ 2000
    · have hd' : ¬ (2000 : Int) < (data.size : Int) := by omega
      obtain ⟨r, hr⟩ : ∃ r, wordsV a b path data = r := ⟨_, rfl⟩
      have C1 := fun w hE => words_any path data a b w (by omega) hE
      have C2 := fun w => rwords_any path data a b w (by omega)
      unfold WPost at C1 C2
      rw [hr] at C1 C2
      obtain ⟨e, ws⟩ := r
      simp only at C1 C2
      generalize (if e = 0 then path else ⟨#[]⟩) = p at *
      have D1 := Lib.hid C1
      have D2 := Lib.hid C2
      clear C1 C2 hr hp hd
      go_enter Tryd.func3, Tryd.ntmps3
      go_wp2_with (first
        | (go_at_call 15; refine (same_self _ _ p ws _ ((hR1.new hw2).new ((New.refl _).alloc (.cells #[.string p, .slice A2 ws.length c2] 25))) (hR2.new ((New.refl _).alloc _))).mono ?_; rintro e3 w3 ⟨rfl, hw3⟩)
        | (go_at_call 14; refine (D2.out _).mono ?_; rintro e2 w2 ⟨v2, rfl, hR2, hw2⟩; obtain ⟨A2, c2, rfl, hc5, hc6, hr2⟩ := id hR2; have B1 := ((Blk.made w1 25 #[.string p, .slice A1 ws.length c1]).new hw2).alloc (.cells #[.string p, .slice A2 ws.length c2] 25); have e10 := B1.cell' 0 _ rfl; have e11 := B1.cell' 1 _ rfl)
        | (go_at_call 13; refine (D1.out _ hE0).mono ?_; rintro e1 w1 ⟨v1, rfl, hR1, hw1⟩; obtain ⟨A1, c1, rfl, hc3, hc4, hr1⟩ := id hR1; have hR1 := hR1.new ((New.refl _).alloc (.cells #[.string p, .slice A1 ws.length c1] 25)))
        | (go_at_call 12; refine (awake_any _ hE).mono ?_; rintro e0 w0 ⟨rfl, hw0⟩; have hE0 := hE.new hw0))
      go_ret
      exact ⟨rfl, ((((hw0.trans hw1).alloc _).trans hw2).alloc _).trans hw3⟩
    · have hd' : (2000 : Int) < (data.size : Int) := by omega
      clear hd
      go_enter Tryd.func3, Tryd.ntmps3
      go_wp2_with (go_at_call 12; refine (awake_any _ hE).mono ?_; rintro e0 w0 ⟨rfl, hw0⟩)
      go_ret
      exact ⟨rfl, hw0⟩
  · have hp' : (200 : Int) < (path.size : Int) := by omega
    clear hp
    go_enter Tryd.func3, Tryd.ntmps3
    go_wp2_with (go_at_call 12; refine (awake_any _ hE).mono ?_; rintro e0 w0 ⟨rfl, hw0⟩)
    go_ret
    exact ⟨rfl, hw0⟩
end Go.Proofs.YtlecocmopeainaaDoor
