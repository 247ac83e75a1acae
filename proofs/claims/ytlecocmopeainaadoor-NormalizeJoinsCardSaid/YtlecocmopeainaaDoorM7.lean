/- The law NormalizeLayout, walked. The package-level variables that the library reads hold what the row lists (Env). -/
import Derived.Test.YtlecocmopeainaaDoorM4
import Derived.Test.YtlecocmopeainaaDoorT
namespace Go.Proofs.YtlecocmopeainaaDoor
open Go Go.RowKit Go.Joins Go.Shelf
set_option linter.unusedSimpArgs false
set_option linter.unusedVariables false

theorem countB_le (s : ByteArray) (c : UInt8) : Lib.countB s ⟨#[c]⟩ ≤ s.size := by
  have h1 := countB_one c s
  have h2 := parts_length c s
  have h3 := List.count_le_length (a := c) (l := s.data.toList)
  rw [size_eq]; omega
/-- strings.ReplaceAll at one byte. -/
theorem rep_any (s new : ByteArray) (c : UInt8) (w : World) (hE : Env w) (hs : s.size ≤ 1000000) (hn : new.size ≤ 10) (hne : [c] ≠ new.data.toList) :
    Calls Tryd.prog 20 #[.string s, .string ⟨#[c]⟩, .string new] w fun e w' => ∃ r : ByteArray, e = .returned (.string r) ∧ Hid (r.data.toList = rep1 c new.data.toList s.data.toList) ∧ New w w' := by
  obtain ⟨m, hm⟩ := hE.maxlen
  have hc := countB_le s c
  have hmul : Lib.countB s ⟨#[c]⟩ * new.size ≤ 1000000 * 10 := Nat.mul_le_mul (by omega) hn
  have h := Tryd.strings_ReplaceAll s ⟨#[c]⟩ new m w (by omega) hm (by simp [ByteArray.size]) (by omega)
  rw [replaceAll_one c new.data.toList s.data.toList hne] at h
  exact h.mono fun e w' ⟨he, hn⟩ => ⟨_, he, Lib.hid rfl, hn⟩
theorem same_n (A A' : Option Addr) (c c' n : Nat) (q : ByteArray) (ws : List Lx) (w : World) (hl : ws.length = n) (hr : Rd w 2 A n (lxCells ws)) (h1 : n ≤ c) (h2 : c ≤ maxLen) (hr' : Rd w 2 A' n (lxCells ws)) (h1' : n ≤ c') (h2' : c' ≤ maxLen) :
    Calls Tryd.prog 15 #[.agg #[.string q, .slice A n c], .agg #[.string q, .slice A' n c']] w fun e w' => e = .returned (.bool true) ∧ New w w' := by
  subst hl
  exact same_self _ _ q ws w ⟨A, c, rfl, h1, h2, hr⟩ ⟨A', c', rfl, h1', h2', hr'⟩
theorem wide_size {d x : ByteArray} (h : x.data.toList = widen d.data.toList) (hd : d.size ≤ 2000) : x.size ≤ 65536 := by
  rw [size_eq, h, widen]
  have h1 := rep1_len 32 [9, 32, 13] 3 (by decide) (by decide) d.data.toList
  have h2 := rep1_len 10 [32, 32, 10, 127, 11] 5 (by decide) (by decide) (rep1 32 [9, 32, 13] d.data.toList)
  have h3 : d.data.toList.length ≤ 2000 := by rw [← size_eq]; exact hd
  simp only [List.length_append, List.length_cons, List.length_nil]
  omega
theorem wide_words (a b : Bool) {d x : ByteArray} (h : x.data.toList = widen d.data.toList) (hd : d.size ≤ 2000) : wordsV a b lA x = wordsV a b lA d := by
  refine wordsV_same a b lA (wide_size h hd) (by omega) ?_
  rw [lw_tx, lw_tx, h, tx_widen]

set_option maxRecDepth 100000 in
set_option maxHeartbeats 4000000 in
theorem law_layout (data : ByteArray) (a b : Bool) (w : World) (hE : Env w) :
    Calls Tryd.prog 7 #[.string data, .bool a, .bool b] w fun e w' => e = .returned (.bool true) ∧ New w w' := by
  by_cases hd : data.size ≤ 2000
  · have hd' : ¬ (2000 : Int) < (data.size : Int) := by omega
    obtain ⟨r, hr⟩ : ∃ r, wordsV a b lA data = r := ⟨_, rfl⟩
    obtain ⟨e, ws⟩ := r
    obtain ⟨n, hn⟩ : ∃ n, ws.length = n := ⟨_, rfl⟩
    obtain ⟨q, hq⟩ : ∃ q, (if e = 0 then lA else ⟨#[]⟩) = q := ⟨_, rfl⟩
    have C1 : ∀ w, Env w → Calls Tryd.prog 13 #[.string ⟨#[97]⟩, .string data, .bool a, .bool b] w fun e' w' => ∃ A c, e' = .returned (.tuple #[.agg #[.string q, .slice A n c], .int .i64 e]) ∧ Rd w' 2 A n (lxCells ws) ∧ n ≤ c ∧ c ≤ maxLen ∧ New w w' := fun w h => words_n lA data q a b ws n e w hr hn hq (by decide) h
    have C2 : ∀ x w, Env w → x.data.toList = widen data.data.toList → Calls Tryd.prog 13 #[.string ⟨#[97]⟩, .string x, .bool a, .bool b] w fun e' w' => ∃ A c, e' = .returned (.tuple #[.agg #[.string q, .slice A n c], .int .i64 e]) ∧ Rd w' 2 A n (lxCells ws) ∧ n ≤ c ∧ c ≤ maxLen ∧ New w w' := fun x w h hx => words_n lA x q a b ws n e w ((wide_words a b hx hd).trans hr) hn hq (by decide) h
    have hl3 : data.data.toList.length ≤ 2000 := by rw [← size_eq]; exact hd
    have R1 : ∀ w, Env w → Calls Tryd.prog 20 #[.string data, .string ⟨#[32]⟩, .string ⟨#[9, 32, 13]⟩] w fun e w' => ∃ r : ByteArray, e = .returned (.string r) ∧ Hid (r.data.toList = rep1 32 [9, 32, 13] data.data.toList) ∧ r.size ≤ 6000 ∧ New w w' := fun w h => (rep_any data ⟨#[9, 32, 13]⟩ 32 w h (by omega) (by decide) (by decide)).mono fun e w' ⟨r, he, hr, hn⟩ => ⟨r, he, hr, (by
      have h1 := rep1_len 32 [9, 32, 13] 3 (by decide) (by decide) data.data.toList
      have h2 := hr.out
      rw [size_eq, h2]
      show (rep1 32 [9, 32, 13] data.data.toList).length ≤ _
      omega), hn⟩
    have R2 : ∀ (s : ByteArray) w, Env w → s.size ≤ 6000 → Calls Tryd.prog 20 #[.string s, .string ⟨#[10]⟩, .string ⟨#[32, 32, 10, 127, 11]⟩] w fun e w' => ∃ r : ByteArray, e = .returned (.string r) ∧ Hid (r.data.toList = rep1 10 [32, 32, 10, 127, 11] s.data.toList) ∧ r.size ≤ 30000 ∧ New w w' := fun s w h hs => (rep_any s ⟨#[32, 32, 10, 127, 11]⟩ 10 w h (by omega) (by decide) (by decide)).mono fun e w' ⟨r, he, hr, hn⟩ => ⟨r, he, hr, (by
      have h1 := rep1_len 10 [32, 32, 10, 127, 11] 5 (by decide) (by decide) s.data.toList
      have h2 := hr.out
      have h3 : s.data.toList.length ≤ 6000 := by rw [← size_eq]; exact hs
      rw [size_eq, h2]
      show (rep1 10 [32, 32, 10, 127, 11] s.data.toList).length ≤ _
      omega), hn⟩
    have D1 := Lib.hid C1
    have D2 := Lib.hid C2
    have E1 := Lib.hid R1
    have E2 := Lib.hid R2
    have HN := Lib.hid hn
    clear C1 C2 R1 R2 hr hn hq hd hl3
    go_enter Tryd.func7, Tryd.ntmps7
    go_wp2_with (first
      | (go_at_call 15; refine (same_n _ _ _ _ n q ws _ HN.out hr1w hc3 hc4 hr2w hc5 hc6).mono ?_; rintro e5 w5 ⟨rfl, hw5⟩)
      | (go_at_call 13; refine (D2.out _ _ hE3 (by rw [widen, ← hx1.out, ← hx2.out]; simp)).mono ?_; rintro e4 w4 ⟨A2, c2, rfl, hr2, hc5, hc6, hw4⟩; have B1 := (((B1.new hw2).new hw3).new hw4).alloc (.cells #[.string q, .slice A2 n c2] 25); have e10 := B1.cell' 0 _ rfl; have e11 := B1.cell' 1 _ rfl; have hr1w := ((((hr1.alloc (.cells #[.string q, .slice A1 n c1] 25)).below hw2).below hw3).below hw4).alloc (.cells #[.string q, .slice A2 n c2] 25); have hr2w := hr2.alloc (.cells #[.string q, .slice A2 n c2] 25))
      | (go_at_call 20; refine (E2.out x1 _ hE2 hs1).mono ?_; rintro e3 w3 ⟨x2, rfl, hx2, hs2, hw3⟩; have k1 : ¬ (9223372036854775807 < 2 + x2.size + 1) := (by omega); have k2 : ¬ (9223372036854775807 < 2 + x2.size) := (by omega); have hE3 := hE2.new hw3)
      | (go_at_call 20; refine (E1.out _ hE1).mono ?_; rintro e2 w2 ⟨x1, rfl, hx1, hs1, hw2⟩; have hE2 := hE1.new hw2)
      | (go_at_call 13; refine (D1.out _ hE0).mono ?_; rintro e1 w1 ⟨A1, c1, rfl, hr1, hc3, hc4, hw1⟩; have hE1 := (hE0.new hw1).new ((New.refl _).alloc (.cells #[.string q, .slice A1 n c1] 25)); have B1 := Blk.made w1 25 #[.string q, .slice A1 n c1])
      | (go_at_call 12; refine (awake_any _ hE).mono ?_; rintro e0 w0 ⟨rfl, hw0⟩; have hE0 := hE.new hw0))
    go_ret
    exact ⟨rfl, (((((((hw0.trans hw1).alloc _).trans hw2).trans hw3).trans hw4).alloc _).trans hw5)⟩
  · have hd' : (2000 : Int) < (data.size : Int) := by omega
    clear hd
    go_enter Tryd.func7, Tryd.ntmps7
    go_wp2_with (go_at_call 12; refine (awake_any _ hE).mono ?_; rintro e0 w0 ⟨rfl, hw0⟩)
    go_ret
    exact ⟨rfl, hw0⟩
end Go.Proofs.YtlecocmopeainaaDoor
