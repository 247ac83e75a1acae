/- The law NormalizeRenames, walked. The package-level variables that the library reads hold what the row lists (Env). -/
import Derived.Test.YtlecocmopeainaaDoorM7
import Derived.Test.YtlecocmopeainaaDoorT2
namespace Go.Proofs.YtlecocmopeainaaDoor
open Go Go.RowKit Go.Joins Go.Shelf
set_option linter.unusedSimpArgs false
set_option linter.unusedVariables false

theorem rep1_map (c d : UInt8) (l : List UInt8) : rep1 c [d] l = l.map fun b => if b = c then d else b := by
  induction l with
  | nil => rfl
  | cons b l ih => rw [rep1_cons, ih]; split <;> simp [*]
theorem ren_three (l : List UInt8) : rep1 95 [90] (rep1 55 [51] (rep1 120 [121] l)) = l.map ren := by
  rw [rep1_map, rep1_map, rep1_map, List.map_map, List.map_map]
  refine List.map_congr_left fun c _ => ?_
  simp only [Function.comp, ren]
  by_cases h1 : c = 120
  · subst h1; decide
  · by_cases h2 : c = 55
    · subst h2; decide
    · by_cases h3 : c = 95
      · subst h3; decide
      · simp [h1, h2, h3]
theorem contains_any' (s sub : ByteArray) (bb : Bool) (w : World) (hE : Env w) (hs : s.size < 4294967281) (hb : Lib.contains s.data.toList sub.data.toList = bb) :
    Calls Tryd.prog 27 #[.string s, .string sub] w fun e w' => e = .returned (.bool bb) ∧ w = w' := by
  obtain ⟨m, hm⟩ := hE.maxlen
  subst hb
  exact (Tryd.strings_Contains s sub m w hs hm).mono fun e w' ⟨he, hw⟩ => ⟨he, hw.symm⟩

set_option maxRecDepth 100000 in
set_option maxHeartbeats 4000000 in
theorem law_renames (data : ByteArray) (w : World) (hE : Env w) :
    Calls Tryd.prog 9 #[.string data] w fun e w' => e = .returned (.bool true) ∧ New w w' := by
  by_cases hd : data.size ≤ 2000
  · have hd' : ¬ (2000 : Int) < (data.size : Int) := by omega
    cases hc : Lib.contains data.data.toList noteL
    · obtain ⟨r, hr⟩ : ∃ r, wordsV true true lA data = r := ⟨_, rfl⟩
      obtain ⟨e, ws⟩ := r
      obtain ⟨n, hn⟩ : ∃ n, ws.length = n := ⟨_, rfl⟩
      obtain ⟨q, hq⟩ : ∃ q, (if e = 0 then lA else ⟨#[]⟩) = q := ⟨_, rfl⟩
      have C0 : ∀ w, Env w → Calls Tryd.prog 27 #[.string data, .string ⟨#[110, 111, 116, 101]⟩] w fun e w' => e = .returned (.bool false) ∧ w = w' := fun w h => contains_any' data ⟨#[110, 111, 116, 101]⟩ false w h (by omega) hc
      have C1 : ∀ w, Env w → Calls Tryd.prog 13 #[.string ⟨#[97]⟩, .string data, .bool true, .bool true] w fun e' w' => ∃ A c, e' = .returned (.tuple #[.agg #[.string q, .slice A n c], .int .i64 e]) ∧ Rd w' 2 A n (lxCells ws) ∧ n ≤ c ∧ c ≤ maxLen ∧ New w w' := fun w h => words_n lA data q true true ws n e w hr hn hq (by decide) h
      have C2 : ∀ x w, Env w → x.data.toList = data.data.toList.map ren → Calls Tryd.prog 13 #[.string ⟨#[97]⟩, .string x, .bool true, .bool true] w fun e' w' => ∃ A c, e' = .returned (.tuple #[.agg #[.string q, .slice A n c], .int .i64 e]) ∧ Rd w' 2 A n (lxCells ws) ∧ n ≤ c ∧ c ≤ maxLen ∧ New w w' := fun x w h hx => words_n lA x q true true ws n e w ((wordsV_ren hc hx).trans hr) hn hq (by decide) h
      have R : ∀ (s : ByteArray) (c d : UInt8) w, Env w → s.size ≤ 2000 → c ≠ d → Calls Tryd.prog 20 #[.string s, .string ⟨#[c]⟩, .string ⟨#[d]⟩] w fun e w' => ∃ r : ByteArray, e = .returned (.string r) ∧ Hid (r.data.toList = rep1 c [d] s.data.toList) ∧ r.size ≤ 2000 ∧ New w w' := fun s c d w h hs hcd => (rep_any s ⟨#[d]⟩ c w h (by omega) (by simp [ByteArray.size]) (by simpa using hcd)).mono fun e w' ⟨r, he, hr, hn⟩ => ⟨r, he, hr, (by
        have h2 := hr.out
        have h3 : s.data.toList.length ≤ 2000 := by rw [← size_eq]; exact hs
        rw [size_eq, h2]
        show (rep1 c [d] s.data.toList).length ≤ _
        rw [rep1_map, List.length_map]; exact h3), hn⟩
      have D0 := Lib.hid C0
      have D1 := Lib.hid C1
      have D2 := Lib.hid C2
      have E := Lib.hid R
      have HN := Lib.hid hn
      clear C0 C1 C2 R hr hn hq hc
      go_enter Tryd.func9, Tryd.ntmps9
      go_wp2_with (first
        | (go_at_call 15; refine (same_n _ _ _ _ n q ws _ HN.out hr1w hc3 hc4 hr2w hc5 hc6).mono ?_; rintro e6 w6 ⟨rfl, hw6⟩)
        | (go_at_call 13; refine (D2.out x3 _ hE4 (by rw [hx3.out, hx2.out, hx1.out, ren_three])).mono ?_; rintro e5 w5 ⟨A2, c2, rfl, hr2, hc5, hc6, hw5⟩; have B1 := ((((B1.new hw2).new hw3).new hw4).new hw5).alloc (.cells #[.string q, .slice A2 n c2] 25); have e10 := B1.cell' 0 _ rfl; have e11 := B1.cell' 1 _ rfl; have hr1w := (((((hr1.alloc (.cells #[.string q, .slice A1 n c1] 25)).below hw2).below hw3).below hw4).below hw5).alloc (.cells #[.string q, .slice A2 n c2] 25); have hr2w := hr2.alloc (.cells #[.string q, .slice A2 n c2] 25))
        | (go_at_call 20; refine (E.out x2 95 90 _ hE3 hs2 (by decide)).mono ?_; rintro e4 w4 ⟨x3, rfl, hx3, hs3, hw4⟩; have hE4 := hE3.new hw4)
        | (go_at_call 20; refine (E.out x1 55 51 _ hE2 hs1 (by decide)).mono ?_; rintro e3 w3 ⟨x2, rfl, hx2, hs2, hw3⟩; have hE3 := hE2.new hw3)
        | (go_at_call 20; refine (E.out data 120 121 _ hE1 hd (by decide)).mono ?_; rintro e2 w2 ⟨x1, rfl, hx1, hs1, hw2⟩; have hE2 := hE1.new hw2)
        | (go_at_call 13; refine (D1.out _ hE0).mono ?_; rintro e1 w1 ⟨A1, c1, rfl, hr1, hc3, hc4, hw1⟩; have hE1 := (hE0.new hw1).new ((New.refl _).alloc (.cells #[.string q, .slice A1 n c1] 25)); have B1 := Blk.made w1 25 #[.string q, .slice A1 n c1])
        | (go_at_call 27; refine (D0.out _ hE0).mono ?_; rintro e9 w9 ⟨rfl, rfl⟩)
        | (go_at_call 12; refine (awake_any _ hE).mono ?_; rintro e0 w0 ⟨rfl, hw0⟩; have hE0 := hE.new hw0))
      go_ret
      exact ⟨rfl, ((((((((hw0.trans hw1).alloc _).trans hw2).trans hw3).trans hw4).trans hw5).alloc _).trans hw6)⟩
    · have C0 : ∀ w, Env w → Calls Tryd.prog 27 #[.string data, .string ⟨#[110, 111, 116, 101]⟩] w fun e w' => e = .returned (.bool true) ∧ w = w' := fun w h => contains_any' data ⟨#[110, 111, 116, 101]⟩ true w h (by omega) hc
      have D0 := Lib.hid C0
      clear C0 hc
      go_enter Tryd.func9, Tryd.ntmps9
      go_wp2_with (first
        | (go_at_call 27; refine (D0.out _ hE0).mono ?_; rintro e9 w9 ⟨rfl, rfl⟩)
        | (go_at_call 12; refine (awake_any _ hE).mono ?_; rintro e0 w0 ⟨rfl, hw0⟩; have hE0 := hE.new hw0))
      go_ret
      exact ⟨rfl, hw0⟩
  · have hd' : (2000 : Int) < (data.size : Int) := by omega
    clear hd
    go_enter Tryd.func9, Tryd.ntmps9
    go_wp2_with (go_at_call 12; refine (awake_any _ hE).mono ?_; rintro e0 w0 ⟨rfl, hw0⟩)
    go_ret
    exact ⟨rfl, hw0⟩
end Go.Proofs.YtlecocmopeainaaDoor
