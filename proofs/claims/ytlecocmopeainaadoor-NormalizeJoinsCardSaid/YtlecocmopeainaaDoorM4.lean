/- The law NormalizeClasses, walked. The package-level variables that the library reads hold what the row lists (Env). -/
import Derived.Test.YtlecocmopeainaaDoorM
import Derived.Test.YtlecocmopeainaaDoorQ
import Derived.Deep.RegionHeld3
namespace Go.Proofs.YtlecocmopeainaaDoor
open Go Go.RowKit Go.Joins Go.Shelf
set_option linter.unusedSimpArgs false
set_option linter.unusedVariables false

theorem cls_dig (a : Bool) {s : ByteArray} (h : 0 < s.size) (h1 : (48 : Int) ≤ s[0].toNat) (h2 : (s[0].toNat : Int) ≤ 57) : cls a true s = ⟨#[36, 48]⟩ ∧ cls a false s = s := by
  have e : digitB s[0].toNat = true := by simp [digitB]; omega
  rw [cls_eq a true h, cls_eq a false h, e]
  exact ⟨rfl, by simp⟩
theorem cls_let (b : Bool) {s : ByteArray} (h : 0 < s.size) (hd : ¬ ((48 : Int) ≤ s[0].toNat ∧ (s[0].toNat : Int) ≤ 57)) (hp : partB s[0].toNat = true) : cls true b s = ⟨#[36, 110]⟩ ∧ cls false b s = s := by
  have e : digitB s[0].toNat = false := by simp only [digitB, Bool.and_eq_false_iff, decide_eq_false_iff_not]; omega
  rw [cls_eq true b h, cls_eq false b h, e, hp]
  exact ⟨rfl, by simp⟩
theorem cls_no (a b : Bool) {s : ByteArray} (h : 0 < s.size) (hp : partB s[0].toNat = false) : cls a b s = s := by
  have e : digitB s[0].toNat = false := by
    cases hd : digitB s[0].toNat with
    | false => rfl
    | true => simp [partB, hd] at hp
  rw [cls_eq a b h, e, hp]; simp

/-- Words, where the outcome is known, all ways: the path, the error and the length as they are named. -/
theorem words_n (path data q : ByteArray) (a b : Bool) (ws : List Lx) (n : Nat) (k : Int) (w : World) (hV : wordsV a b path data = (k, ws)) (hl : ws.length = n) (hq : (if k = 0 then path else ⟨#[]⟩) = q) (hp : path.size < 4294967281) (hE : Env w) :
    Calls Tryd.prog 13 #[.string path, .string data, .bool a, .bool b] w fun e w' => ∃ A c, e = .returned (.tuple #[.agg #[.string q, .slice A n c], .int .i64 k]) ∧ Rd w' 2 A n (lxCells ws) ∧ n ≤ c ∧ c ≤ maxLen ∧ New w w' := by
  subst hl hq
  refine (words_any path data a b w hp hE).mono ?_
  rintro e w' ⟨v, rfl, h, hn⟩
  rw [hV] at h ⊢
  obtain ⟨A, c, rfl, h1, h2, hr⟩ := h
  exact ⟨A, c, rfl, hr, h1, h2, hn⟩
theorem ztext_of {w : World} {A : Option Addr} {c n : Nat} {q : ByteArray} {ws : List Lx} (hl : ws.length = n) (hr : Rd w 2 A n (lxCells ws)) (h1 : n ≤ c) (h2 : c ≤ maxLen) : ZText w (.agg #[.string q, .slice A n c]) q (toZ ws) := by
  subst hl
  exact RText.z ⟨A, c, rfl, h1, h2, hr⟩

set_option maxRecDepth 100000 in
set_option maxHeartbeats 16000000 in
theorem law_classes (data : ByteArray) (a b : Bool) (w : World) (hE : Env w) :
    Calls Tryd.prog 4 #[.string data, .bool a, .bool b] w fun e w' => e = .returned (.bool true) ∧ New w w' := by
  by_cases hd : data.size ≤ 2000
  · have hd' : ¬ (2000 : Int) < (data.size : Int) := by omega
    have hmap := wordsV_map a b lA data
    have hg1 := wordsV_good false false (d := data) pathA
    have hg2 := wordsV_good a b (d := data) pathA
    obtain ⟨r, hr⟩ : ∃ r, wordsV false false lA data = r := ⟨_, rfl⟩
    rw [hr] at hmap
    rw [hr] at hg1
    rw [hmap] at hg2
    obtain ⟨e, ws⟩ := r
    simp only at hmap hg1 hg2
    obtain ⟨ws2, hws2⟩ : ∃ ws2, ws.map (gcls a b) = ws2 := ⟨_, rfl⟩
    rw [hws2] at hg2 hmap
    obtain ⟨n, hn⟩ : ∃ n, ws.length = n := ⟨_, rfl⟩
    have hlen : ws2.length = n := by rw [← hws2, List.length_map, hn]
    have HWS := Lib.hid hws2
    obtain ⟨q, hq⟩ : ∃ q, (if e = 0 then lA else ⟨#[]⟩) = q := ⟨_, rfl⟩
    have C1 : ∀ w, Env w → Calls Tryd.prog 13 #[.string ⟨#[97]⟩, .string data, .bool false, .bool false] w fun e' w' => ∃ A c, e' = .returned (.tuple #[.agg #[.string q, .slice A n c], .int .i64 e]) ∧ Rd w' 2 A n (lxCells ws) ∧ n ≤ c ∧ c ≤ maxLen ∧ New w w' := fun w h => words_n lA data q false false ws n e w hr hn hq (by decide) h
    have C2 : ∀ w, Env w → Calls Tryd.prog 13 #[.string ⟨#[97]⟩, .string data, .bool a, .bool b] w fun e' w' => ∃ A c, e' = .returned (.tuple #[.agg #[.string q, .slice A n c], .int .i64 e]) ∧ Rd w' 2 A n (lxCells ws2) ∧ n ≤ c ∧ c ≤ maxLen ∧ New w w' := fun w h => words_n lA data q a b ws2 n e w hmap hlen hq (by decide) h
    have D1 := Lib.hid C1
    have D2 := Lib.hid C2
    have HN := Lib.hid hn
    have HN2 := Lib.hid hlen
    have HQ := Lib.hid hq
    clear C1 C2 hmap hr hws2 hlen hn hq
    rcases hg1 with ⟨rfl, rfl⟩ | ⟨rfl, hv1, hw1, hnn⟩
    · obtain rfl : n = 0 := HN.out.symm
      clear hd hg2
      go_enter Tryd.func4, Tryd.ntmps4
      go_wp2_with (first
        | (go_at_call 13; refine (D2.out _ hE1).mono ?_; rintro e2 w2 ⟨A2, c2, rfl, hr2, hc5, hc6, hw2⟩; have B1 := (((Blk.made w1 25 #[.string q, .slice A1 0 c1]).new hw2).alloc (.cells #[.string q, .slice A2 0 c2] 25)); have e10 := B1.cell' 0 _ rfl; have e11 := B1.cell' 1 _ rfl; have hE2 := (hE1.new hw2).new ((New.refl _).alloc (.cells #[.string q, .slice A2 0 c2] 25)); have B2 := Blk.made w2 25 #[.string q, .slice A2 0 c2]; have hz2 := hw2.size; rw [World.size_alloc] at hz2; have hr1w := (((hr1.alloc (.cells #[.string q, .slice A1 0 c1] 25)).below hw2).alloc (.cells #[.string q, .slice A2 0 c2] 25)); have hr2w := hr2.alloc (.cells #[.string q, .slice A2 0 c2] 25))
        | (go_at_call 13; refine (D1.out _ hE0).mono ?_; rintro e1 w1 ⟨A1, c1, rfl, hr1, hc3, hc4, hw1⟩; have hE1 := (hE0.new hw1).new ((New.refl _).alloc (.cells #[.string q, .slice A1 0 c1] 25)))
        | (go_at_call 12; refine (awake_any _ hE).mono ?_; rintro e0 w0 ⟨rfl, hw0⟩; have hE0 := hE.new hw0))
      go_loopw [63] (fun v63 wr => v63 = .int .i64 0 ∧ New w wr) (fun v63 _ => 0)
      case atStart => exact ⟨rfl, ((((hw0.trans hw1).alloc _).trans hw2).alloc _)⟩
      case round =>
        obtain ⟨rfl, hnr⟩ := hrel
        go_wp2
        go_ret
        exact ⟨rfl, hnr⟩
    · rcases hg2 with ⟨h, _⟩ | ⟨_, hv2, hw2', _⟩
      · exact absurd h (by decide)
      obtain rfl : lA = q := by have := HQ.out; simpa using this
      have F1 : Fit lA (toZ ws) := ⟨by decide, fun x hx => by
        obtain ⟨y, hy, rfl⟩ := List.mem_map.1 hx
        have := hw1 y hy
        show y.1.size ≤ _
        omega⟩
      have F2 : Fit lA (toZ ws2) := ⟨by decide, fun x hx => by
        obtain ⟨y, hy, rfl⟩ := List.mem_map.1 hx
        have := hw2' y hy
        show y.1.size ≤ _
        omega⟩
      have hnz : n ≤ 2000 := by have := HN.out; omega
      have HAT : Hid (∀ i, i < n → ∃ x : Lx, ws[i]? = some x ∧ 0 < x.1.size ∧ ws2[i]? = some (cls a b x.1, x.2)) := Lib.hid (fun i hi => by
        have hi' : i < ws.length := by rw [HN.out]; exact hi
        refine ⟨ws[i], List.getElem?_eq_getElem hi', (hw1 _ (List.getElem_mem hi')).1, ?_⟩
        rw [← HWS.out, List.getElem?_map, List.getElem?_eq_getElem hi']; rfl)
      have V1 := Lib.hid hv1
      have V2 := Lib.hid hv2
      clear hd hv1 hv2 hw1 hw2' hnn
      go_enter Tryd.func4, Tryd.ntmps4
      go_wp2_with (first
        | (go_at_call 16; refine (valid_any _ lA (toZ ws2) _ (ztext_of HN2.out (hr2w.below hn3) hc5 hc6) F2.path (hE2.new hn3) F2.words).mono ?_; rw [V2.out]; rintro e4 w4 ⟨rfl, hn4⟩; have BF1 := B1.new hn4; have BF2 := B2.new hn4; have e10 := BF1.cell' 0 _ rfl; have e11 := BF1.cell' 1 _ rfl; have e20 := BF2.cell' 0 _ rfl; have e21 := BF2.cell' 1 _ rfl)
        | (go_at_call 16; refine (valid_any _ lA (toZ ws) _ (ztext_of HN.out hr1w hc3 hc4) F1.path hE2 F1.words).mono ?_; rw [V1.out]; rintro e3 w3 ⟨rfl, hn3⟩; have B1 := B1.new hn3; have B2 := B2.new hn3; have e10 := B1.cell' 0 _ rfl; have e11 := B1.cell' 1 _ rfl; have e20 := B2.cell' 0 _ rfl; have e21 := B2.cell' 1 _ rfl)
        | (go_at_call 13; refine (D2.out _ hE1).mono ?_; rintro e2 w2 ⟨A2, c2, rfl, hr2, hc5, hc6, hw2⟩; have B1 := (((Blk.made w1 25 #[.string lA, .slice A1 n c1]).new hw2).alloc (.cells #[.string lA, .slice A2 n c2] 25)); have e10 := B1.cell' 0 _ rfl; have e11 := B1.cell' 1 _ rfl; have hE2 := (hE1.new hw2).new ((New.refl _).alloc (.cells #[.string lA, .slice A2 n c2] 25)); have B2 := Blk.made w2 25 #[.string lA, .slice A2 n c2]; have hz2 := hw2.size; rw [World.size_alloc] at hz2; have hr1w := (((hr1.alloc (.cells #[.string lA, .slice A1 n c1] 25)).below hw2).alloc (.cells #[.string lA, .slice A2 n c2] 25)); have hr2w := hr2.alloc (.cells #[.string lA, .slice A2 n c2] 25))
        | (go_at_call 13; refine (D1.out _ hE0).mono ?_; rintro e1 w1 ⟨A1, c1, rfl, hr1, hc3, hc4, hw1⟩; have hE1 := (hE0.new hw1).new ((New.refl _).alloc (.cells #[.string lA, .slice A1 n c1] 25)))
        | (go_at_call 12; refine (awake_any _ hE).mono ?_; rintro e0 w0 ⟨rfl, hw0⟩; have hE0 := hE.new hw0))
      have hww : New w w4 := (((((hw0.trans hw1).alloc _).trans hw2).alloc _).trans hn3).trans hn4
      have hg14 : w1.heap.size < w4.heap.size := BF1.lt
      have hg24 : w2.heap.size < w4.heap.size := BF2.lt
      have r1 := (hr1w.below hn3).below hn4
      have r2 := (hr2w.below hn3).below hn4
      go_loopw [63] (fun v63 wr => ∃ i : Nat, v63 = .int .i64 i ∧ i ≤ n ∧ New w4 wr) (fun v63 _ => n - (intOf v63).toNat)
      case atStart => exact ⟨0, rfl, by omega, New.refl _⟩
      case round =>
        obtain ⟨i, rfl, hi, hnr⟩ := hrel
        by_cases hlt : i < n
        · obtain ⟨x, hx, hx0, hy⟩ := HAT.out i hlt
          obtain ⟨bk, o, rfl, hbk, hc⟩ := (r1.below hnr).2 (by omega)
          obtain ⟨bk', o', rfl, hbk', hc'⟩ := (r2.below hnr).2 (by omega)
          obtain ⟨hx1, rfl⟩ := List.getElem?_eq_some_iff.1 hx
          obtain ⟨hy1, hy2⟩ := List.getElem?_eq_some_iff.1 hy
          obtain ⟨q1, q2⟩ := lxCells_at ws i hx1
          obtain ⟨q3, q4⟩ := lxCells_at ws2 i hy1
          rw [hy2] at q3 q4
          have d1 := hc _ _ q1
          have d2 : wr.cell? ⟨bk, o + i * 2 + 1, none⟩ = some (.int .i64 ws[i].2) := hc _ _ q2
          have d3 := hc' _ _ q3
          have d4 : wr.cell? ⟨bk', o' + i * 2 + 1, none⟩ = some (.int .i64 ws[i].2) := hc' _ _ q4
          have e11 := (BF1.new hnr).cell' 1 _ rfl
          have e21 := (BF2.new hnr).cell' 1 _ rfl
          have g1 : w1.heap.size < wr.heap.size := by have := hnr.size; omega
          have g2 : w2.heap.size < wr.heap.size := by have := hnr.size; omega
          have i0 : (0 : Int) ≤ (i : Int) := by omega
          have i1 : (i : Int) < (n : Int) := by omega
          clear q1 q2 q3 q4 hc hc' hx hy hy2
          generalize ws[i] = x at *
          have hne : x.1.toList.isEmpty = false := by rw [toList_eq, data_cons hx0]; rfl
          have hne2 : (x.1.toList == []) = false := by rw [toList_eq, data_cons hx0]; rfl
          by_cases c1 : (48 : Int) ≤ x.1[0].toNat
          · by_cases c2 : (x.1[0].toNat : Int) ≤ 57
            · have c3 : ¬ (97 : Int) ≤ x.1[0].toNat := by omega
              have c5 : ¬ (65 : Int) ≤ x.1[0].toNat := by omega
              have c7 : ((x.1[0].toNat : Int) == 95) = false := beq_eq_false_iff_ne.2 (by omega)
              cases b
              · rw [(cls_dig a hx0 c1 c2).2] at d3
                go_wp2_with (fail)
                go_quiet (fail)
                go_wp2
                go_roundw
                case rel => exact ⟨i + 1, by go_num, by omega, ((hnr.alloc _).alloc _).drewN _⟩
                case measure => simp [intOf]; omega
              · rw [(cls_dig a hx0 c1 c2).1] at d3
                go_wp2_with (fail)
                go_quiet (fail)
                go_wp2
                go_roundw
                case rel => exact ⟨i + 1, by go_num, by omega, ((hnr.alloc _).alloc _).drewN _⟩
                case measure => simp [intOf]; omega
            · by_cases c5 : (65 : Int) ≤ x.1[0].toNat
              · by_cases c6 : (x.1[0].toNat : Int) ≤ 90
                · have c3 : ¬ (97 : Int) ≤ x.1[0].toNat := by omega
                  have hp : partB x.1[0].toNat = true := by simp only [partB, Bool.or_eq_true, Bool.and_eq_true, decide_eq_true_eq, beq_iff_eq]; omega
                  cases a
                  · rw [(cls_let b hx0 (by omega) hp).2] at d3
                    clear hp
                    go_wp2_with (fail)
                    go_quiet (fail)
                    go_wp2
                    go_roundw
                    case rel => exact ⟨i + 1, by go_num, by omega, ((hnr.alloc _).alloc _).drewN _⟩
                    case measure => simp [intOf]; omega
                  · rw [(cls_let b hx0 (by omega) hp).1] at d3
                    clear hp
                    go_wp2_with (fail)
                    go_quiet (fail)
                    go_wp2
                    go_roundw
                    case rel => exact ⟨i + 1, by go_num, by omega, ((hnr.alloc _).alloc _).drewN _⟩
                    case measure => simp [intOf]; omega
                · by_cases c3 : (97 : Int) ≤ x.1[0].toNat
                  · by_cases c4 : (x.1[0].toNat : Int) ≤ 122
                    · have hp : partB x.1[0].toNat = true := by simp only [partB, Bool.or_eq_true, Bool.and_eq_true, decide_eq_true_eq, beq_iff_eq]; omega
                      cases a
                      · rw [(cls_let b hx0 (by omega) hp).2] at d3
                        clear hp
                        go_wp2_with (fail)
                        go_quiet (fail)
                        go_wp2
                        go_roundw
                        case rel => exact ⟨i + 1, by go_num, by omega, ((hnr.alloc _).alloc _).drewN _⟩
                        case measure => simp [intOf]; omega
                      · rw [(cls_let b hx0 (by omega) hp).1] at d3
                        clear hp
                        go_wp2_with (fail)
                        go_quiet (fail)
                        go_wp2
                        go_roundw
                        case rel => exact ⟨i + 1, by go_num, by omega, ((hnr.alloc _).alloc _).drewN _⟩
                        case measure => simp [intOf]; omega
                    · have c7 : ((x.1[0].toNat : Int) == 95) = false := beq_eq_false_iff_ne.2 (by omega)
                      have hp : partB x.1[0].toNat = false := by
                        simp only [beq_eq_false_iff_ne] at c7
                        simp only [partB, digitB, Bool.or_eq_false_iff, Bool.and_eq_false_iff, decide_eq_false_iff_not, beq_eq_false_iff_ne]; omega
                      rw [cls_no a b hx0 hp] at d3
                      clear hp
                      go_wp2_with (fail)
                      go_quiet (fail)
                      go_wp2
                      go_roundw
                      case rel => exact ⟨i + 1, by go_num, by omega, ((hnr.alloc _).alloc _).drewN _⟩
                      case measure => simp [intOf]; omega
                  · by_cases c8 : (x.1[0].toNat : Int) = 95
                    · have c7 : ((x.1[0].toNat : Int) == 95) = true := beq_iff_eq.2 c8
                      have hp : partB x.1[0].toNat = true := by simp only [partB, Bool.or_eq_true, Bool.and_eq_true, decide_eq_true_eq, beq_iff_eq]; omega
                      cases a
                      · rw [(cls_let b hx0 (by omega) hp).2] at d3
                        clear hp
                        go_wp2_with (fail)
                        go_quiet (fail)
                        go_wp2
                        go_roundw
                        case rel => exact ⟨i + 1, by go_num, by omega, ((hnr.alloc _).alloc _).drewN _⟩
                        case measure => simp [intOf]; omega
                      · rw [(cls_let b hx0 (by omega) hp).1] at d3
                        clear hp
                        go_wp2_with (fail)
                        go_quiet (fail)
                        go_wp2
                        go_roundw
                        case rel => exact ⟨i + 1, by go_num, by omega, ((hnr.alloc _).alloc _).drewN _⟩
                        case measure => simp [intOf]; omega
                    · have c7 : ((x.1[0].toNat : Int) == 95) = false := beq_eq_false_iff_ne.2 c8
                      have hp : partB x.1[0].toNat = false := by
                        simp only [beq_eq_false_iff_ne] at c7
                        simp only [partB, digitB, Bool.or_eq_false_iff, Bool.and_eq_false_iff, decide_eq_false_iff_not, beq_eq_false_iff_ne]; omega
                      rw [cls_no a b hx0 hp] at d3
                      clear hp
                      go_wp2_with (fail)
                      go_quiet (fail)
                      go_wp2
                      go_roundw
                      case rel => exact ⟨i + 1, by go_num, by omega, ((hnr.alloc _).alloc _).drewN _⟩
                      case measure => simp [intOf]; omega
              · have c3 : ¬ (97 : Int) ≤ x.1[0].toNat := by omega
                have c7 : ((x.1[0].toNat : Int) == 95) = false := beq_eq_false_iff_ne.2 (by omega)
                have hp : partB x.1[0].toNat = false := by
                  simp only [beq_eq_false_iff_ne] at c7
                  simp only [partB, digitB, Bool.or_eq_false_iff, Bool.and_eq_false_iff, decide_eq_false_iff_not, beq_eq_false_iff_ne]; omega
                rw [cls_no a b hx0 hp] at d3
                clear hp
                go_wp2_with (fail)
                go_quiet (fail)
                go_wp2
                go_roundw
                case rel => exact ⟨i + 1, by go_num, by omega, ((hnr.alloc _).alloc _).drewN _⟩
                case measure => simp [intOf]; omega
          · have c3 : ¬ (97 : Int) ≤ x.1[0].toNat := by omega
            have c5 : ¬ (65 : Int) ≤ x.1[0].toNat := by omega
            have c7 : ((x.1[0].toNat : Int) == 95) = false := beq_eq_false_iff_ne.2 (by omega)
            have hp : partB x.1[0].toNat = false := by
              simp only [beq_eq_false_iff_ne] at c7
              simp only [partB, digitB, Bool.or_eq_false_iff, Bool.and_eq_false_iff, decide_eq_false_iff_not, beq_eq_false_iff_ne]; omega
            rw [cls_no a b hx0 hp] at d3
            clear hp
            go_wp2_with (fail)
            go_quiet (fail)
            go_wp2
            go_roundw
            case rel => exact ⟨i + 1, by go_num, by omega, ((hnr.alloc _).alloc _).drewN _⟩
            case measure => simp [intOf]; omega
        · obtain rfl : i = n := by omega
          go_wp2
          go_ret
          exact ⟨rfl, hww.trans hnr⟩
  · have hd' : (2000 : Int) < (data.size : Int) := by omega
    clear hd
    go_enter Tryd.func4, Tryd.ntmps4
    go_wp2_with (go_at_call 12; refine (awake_any _ hE).mono ?_; rintro e0 w0 ⟨rfl, hw0⟩)
    go_ret
    exact ⟨rfl, hw0⟩
end Go.Proofs.YtlecocmopeainaaDoor
