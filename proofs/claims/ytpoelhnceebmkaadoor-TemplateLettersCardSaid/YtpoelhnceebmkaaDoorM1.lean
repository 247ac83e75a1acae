/- The law TemplateWords, walked: true at every text. No conditions. -/
import Derived.Test.YtpoelhnceebmkaaDoorY
namespace Go.Proofs.YtpoelhnceebmkaaDoor
open Go Go.RowKit Go.Shelf
set_option linter.unusedSimpArgs false
set_option linter.unusedVariables false

theorem wordsA (s : ByteArray) (l : List Tw) (n : Nat) (hl : wordsT s = l) (hn : l.length = n) (hs : s.size ≤ 100000) (w : World) :
    Calls Tryd.prog 7 #[.string s] w fun e w' => ∃ A c, e = .returned (.slice A n c) ∧ Rd w' 2 A n (twCells l) ∧ New w w' := by
  subst hl hn
  refine (words_any s w hs).mono ?_
  rintro e w' ⟨v, rfl, h, hn⟩
  obtain ⟨A, c, rfl, _, _, hr⟩ := own_form h
  exact ⟨A, c, rfl, hr, hn⟩
theorem wordsR (s : ByteArray) (l : List Tw) (n : Nat) (hl : wordsT s = l) (hn : l.length = n) (hs : s.size ≤ 100000) (w : World) :
    Calls Tryd.prog 8 #[.string s] w fun e w' => ∃ A c, e = .returned (.slice A n c) ∧ Rd w' 2 A n (twCells l) ∧ New w w' := by
  subst hl hn
  refine (rwords_any s w hs).mono ?_
  rintro e w' ⟨v, rfl, h, hn⟩
  obtain ⟨A, c, rfl, _, _, hr⟩ := own_form h
  exact ⟨A, c, rfl, hr, hn⟩
theorem wordsT_len (s : ByteArray) : (wordsT s).length ≤ s.size := by rw [wordsT, List.length_map]; exact spans_len s

set_option maxRecDepth 100000 in
set_option maxHeartbeats 1000000 in
theorem law_words (s : ByteArray) (w : World) : Calls Tryd.prog 3 #[.string s] w fun e w' => e = .returned (.bool true) ∧ New w w' := by
  have HA := Lib.hid awake_any
  by_cases hs : s.size ≤ 5000
  · have t1 : decide ((5000 : Int) < (s.size : Int)) = false := decide_eq_false (by omega)
    have hwl := wordsT_len s
    obtain ⟨l, hl⟩ : ∃ l, wordsT s = l := ⟨_, rfl⟩
    obtain ⟨n, hn⟩ : ∃ n, l.length = n := ⟨_, rfl⟩
    have C1 := Lib.hid (wordsA s l n hl hn (by omega))
    have C2 := Lib.hid (wordsR s l n hl hn (by omega))
    rw [hl, hn] at hwl
    have HN := Lib.hid hn
    clear hl hn
    go_enter Tryd.func3, Tryd.ntmps3
    go_wp2_with (first
      | (go_at_call 6; refine (eqTw_same A1 A2 c1 c2 n l HN.out _ (r1.below h2) r2 (by omega)).mono ?_; rintro e w3 ⟨rfl, h3⟩)
      | (go_at_call 8; refine (C2.out _).mono ?_; rintro e w2 ⟨A2, c2, rfl, r2, h2⟩)
      | (go_at_call 7; refine (C1.out _).mono ?_; rintro e w1 ⟨A1, c1, rfl, r1, h1⟩)
      | (go_at_call 5; refine (HA.out _).mono ?_; rintro e w0 ⟨rfl, h0⟩))
    go_ret
    exact ⟨rfl, ((h0.trans h1).trans h2).trans h3⟩
  · have t1 : decide ((5000 : Int) < (s.size : Int)) = true := decide_eq_true (by omega)
    go_enter Tryd.func3, Tryd.ntmps3
    go_wp2_with (go_at_call 5; refine (HA.out _).mono ?_; rintro e w0 ⟨rfl, h0⟩)
    go_ret
    exact ⟨rfl, h0⟩
end Go.Proofs.YtpoelhnceebmkaaDoor
