/- The reader of the reference: Count, fail, Number, Text, Close, count. Conditions: sizes. -/
import Derived.Test.YtnknmpcgbfmfjaaGreatDoorGY1

namespace Go.Proofs.YtnknmpcgbfmfjaaGreatDoor
open Go Go.RowKit Go.Joins
set_option linter.unusedSimpArgs false
set_option linter.unusedVariables false

def RCntP (most : Nat) (c : UInt8) (l : List UInt8) (e : Ending) : Prop := match cntGo most c l 0 0 with
  | some (n, k) => ∃ i : Nat, k = i + 1 ∧ e = .returned (.tuple #[.int .i64 (n : Nat), .int .i64 (i : Nat), .bool false])
  | none => ∃ x : Bool, e = .returned (.tuple #[.int .i64 0, .int .i64 (-1), .bool x])
theorem rcntP_no {most : Nat} {c : UInt8} {l : List UInt8} {e : Ending} {x : Bool} (h : none = cntGo most c l 0 0) (he : e = .returned (.tuple #[.int .i64 0, .int .i64 (-1), .bool x])) : RCntP most c l e := by
  unfold RCntP
  rw [← h]
  exact ⟨x, he⟩
theorem rcntP_yes {most n k : Nat} {c : UInt8} {l : List UInt8} {e : Ending} (h : some (n, k + 1) = cntGo most c l 0 0) (he : e = .returned (.tuple #[.int .i64 (n : Nat), .int .i64 (k : Nat), .bool false])) : RCntP most c l e := by
  unfold RCntP
  rw [← h]
  exact ⟨k, rfl, he⟩
set_option maxRecDepth 100000 in
set_option maxHeartbeats 8000000 in
theorem rcount_any (s : ByteArray) (most : Nat) (c : UInt8) (w : World) (hs : s.size ≤ 1000000) (hm : most ≤ 281474976710656) (hc : digB c = false) :
    Calls Tryz.prog 111 #[.string s, .int .i64 most, .int .u8 c.toNat] w fun e w' => RCntP most c s.data.toList e ∧ w' = w := by
  have hcd : ¬ (48 ≤ c.toNat ∧ c.toNat ≤ 57) := by rw [← digB_iff, hc]; decide
  obtain ⟨cn, hcn⟩ : ∃ cn : Int, (c.toNat : Int) = cn := ⟨_, rfl⟩
  rw [hcn]
  have HCN := Lib.hid hcn
  have HCD := Lib.hid hcd
  have HNO := Lib.hid (fun (x : Bool) (e : Ending) (h : none = cntGo most c s.data.toList 0 0) he => rcntP_no (most := most) (c := c) (l := s.data.toList) (e := e) (x := x) h he)
  have HYES := Lib.hid (fun (n k : Nat) (e : Ending) (h : some (n, k + 1) = cntGo most c s.data.toList 0 0) he => rcntP_yes (most := most) (n := n) (k := k) (c := c) (l := s.data.toList) (e := e) h he)
  obtain ⟨X, hX⟩ : ∃ X, cntGo most c s.data.toList 0 0 = X := ⟨_, rfl⟩
  rw [hX] at HNO HYES
  generalize RCntP most c s.data.toList = PP at *
  have H0 : Hid (cntGo most c (s.data.toList.drop 0) 0 0 = X) := Lib.hid hX
  clear hcn hcd hc hX
  go_enter Tryz.func111, Tryz.ntmps111
  go_wp2
  go_loopw [9, 10] (fun v9 v10 wr => ∃ (i n : Nat), v9 = .int .i64 n ∧ v10 = .int .i64 i ∧ i ≤ s.size ∧ n ≤ most ∧ (2 ≤ i → 0 < n) ∧ wr = w ∧ Hid (cntGo most c (s.data.toList.drop i) i n = X)) (fun _ v10 _ => s.size - (intOf v10).toNat)
  case atStart => exact ⟨0, 0, rfl, rfl, by omega, by omega, by omega, rfl, H0⟩
  case round =>
    clear H0
    obtain ⟨i, n, rfl, rfl, hi, hn, hin, rfl, H⟩ := hrel
    by_cases hlt : i < s.size
    · have HC := Lib.hid (cnt_at (most := most) (e := c) (n := n) hlt)
      have hc2 := UInt8.toNat_lt s[i]
      have HI := Lib.hid hin
      have i0 : (0 : Int) ≤ (i : Int) := by omega
      have i1 : (i : Int) < (s.size : Int) := by omega
      have i2 : ((i : Int) == (s.size : Int)) = false := beq_eq_false_iff_ne.2 (by omega)
      clear hin
      by_cases hce : s[i] = c
      · have y0 : ((s[i].toNat : Int) == cn) = true := by rw [← HCN.out, hce]; simp
        by_cases z0 : 0 < i
        · have z1 : decide (0 < i) = true := decide_eq_true (by omega)
          have HX : Hid (some (n, i + 1) = X) := Lib.hid (by rw [← H.out, HC.out, if_pos ⟨hce, z0⟩])
          have u1 : IntKind.i64.wrap ((i : Int) + 1) = ((i + 1 : Nat) : Int) := by rw [IntWalk.i64_in _ (by omega)]; omega
          clear hce
          go_wp2
          (try rw [Exit.noGoto_ret]); exact bodyPost_ret (v := .tuple #[.int .i64 (n : Nat), .int .i64 (i : Nat), .bool false]) (by simp [results, Tryz.results111, go_sem]) rfl ⟨HYES.out n i _ HX.out rfl, rfl⟩
        · have z1 : decide (0 < i) = false := decide_eq_false (by omega)
          have hd : ¬ (48 ≤ s[i].toNat ∧ s[i].toNat ≤ 57) := by rw [hce]; exact HCD.out
          have HX : Hid (none = X) := Lib.hid (by rw [← H.out, HC.out, if_neg (fun h => z0 h.2), if_pos (by omega)])
          clear hce
          by_cases q1 : s[i].toNat < 48
          · have y1 : decide ((s[i].toNat : Int) < 48) = true := decide_eq_true (by omega)
            go_wp2
            (try rw [Exit.noGoto_ret]); exact bodyPost_ret (v := .tuple #[.int .i64 0, .int .i64 (-1), .bool false]) (by simp [results, Tryz.results111, go_sem]) rfl ⟨HNO.out false _ HX.out rfl, rfl⟩
          · have q2' : 57 < s[i].toNat := by omega
            have y1 : decide ((s[i].toNat : Int) < 48) = false := decide_eq_false (by omega)
            have y2 : decide ((57 : Int) < (s[i].toNat : Int)) = true := decide_eq_true (by omega)
            go_wp2
            (try rw [Exit.noGoto_ret]); exact bodyPost_ret (v := .tuple #[.int .i64 0, .int .i64 (-1), .bool false]) (by simp [results, Tryz.results111, go_sem]) rfl ⟨HNO.out false _ HX.out rfl, rfl⟩
      · have y0 : ((s[i].toNat : Int) == cn) = false := by
          rw [← HCN.out]
          exact beq_eq_false_iff_ne.2 (fun h => hce (UInt8.toNat_inj.1 (by omega)))
        have HCE : Hid (¬ (s[i] = c ∧ 0 < i)) := Lib.hid (fun h => hce h.1)
        clear hce
        by_cases q1 : s[i].toNat < 48
        · have HX : Hid (none = X) := Lib.hid (by rw [← H.out, HC.out, if_neg HCE.out, if_pos (by omega)])
          have y1 : decide ((s[i].toNat : Int) < 48) = true := decide_eq_true (by omega)
          go_wp2
          (try rw [Exit.noGoto_ret]); exact bodyPost_ret (v := .tuple #[.int .i64 0, .int .i64 (-1), .bool false]) (by simp [results, Tryz.results111, go_sem]) rfl ⟨HNO.out false _ HX.out rfl, rfl⟩
        · by_cases q2' : 57 < s[i].toNat
          · have HX : Hid (none = X) := Lib.hid (by rw [← H.out, HC.out, if_neg HCE.out, if_pos (by omega)])
            have y1 : decide ((s[i].toNat : Int) < 48) = false := decide_eq_false (by omega)
            have y2 : decide ((57 : Int) < (s[i].toNat : Int)) = true := decide_eq_true (by omega)
            go_wp2
            (try rw [Exit.noGoto_ret]); exact bodyPost_ret (v := .tuple #[.int .i64 0, .int .i64 (-1), .bool false]) (by simp [results, Tryz.results111, go_sem]) rfl ⟨HNO.out false _ HX.out rfl, rfl⟩
          · have y1 : decide ((s[i].toNat : Int) < 48) = false := decide_eq_false (by omega)
            have y2 : decide ((57 : Int) < (s[i].toNat : Int)) = false := decide_eq_false (by omega)
            by_cases q3 : 0 < i ∧ n = 0
            · have HX : Hid (none = X) := Lib.hid (by rw [← H.out, HC.out, if_neg HCE.out, if_pos (by omega)])
              have y3 : decide (0 < i) = true := decide_eq_true (by omega)
              have y4 : ((n : Int) == 0) = true := beq_iff_eq.2 (by omega)
              clear q3
              go_wp2
              (try rw [Exit.noGoto_ret]); exact bodyPost_ret (v := .tuple #[.int .i64 0, .int .i64 (-1), .bool false]) (by simp [results, Tryz.results111, go_sem]) rfl ⟨HNO.out false _ HX.out rfl, rfl⟩
            · have HX := Lib.hid (H.out.symm.trans (by rw [HC.out, if_neg HCE.out, if_neg (by have := HI.out; omega)]))
              have y3 : (decide (0 < i) = true ∧ ((n : Int) == 0) = false) ∨ decide (0 < i) = false := by
                by_cases h : 0 < i
                · exact Or.inl ⟨decide_eq_true (by omega), beq_eq_false_iff_ne.2 (by omega)⟩
                · exact Or.inr (decide_eq_false (by omega))
              obtain ⟨d, hd⟩ : ∃ d : Nat, s[i].toNat - 48 = d := ⟨_, rfl⟩
              have u1 : IntKind.u8.wrap ((s[i].toNat : Int) - 48) = (d : Int) := by rw [IntWalk.u8_in _ (by omega)]; omega
              have u2 : IntKind.i64.wrap (10 * (n : Int)) = 10 * (n : Int) := IntWalk.i64_in _ (by omega)
              have u3 : IntKind.i64.wrap (10 * (n : Int) + (d : Int)) = ((10 * n + d : Nat) : Int) := by rw [IntWalk.i64_in _ (by omega)]; omega
              have u4 : IntKind.i64.wrap (d : Int) = (d : Int) := IntWalk.i64_in _ (by omega)
              rw [hd] at HX
              have HN0 : Hid (2 ≤ i + 1 → 0 < 10 * n + d) := Lib.hid (fun h => by have := HI.out; omega)
              clear q3
              by_cases q4 : most < 10 * n + d
              · have y5 : (most : Int) < ((10 * n + d : Nat) : Int) := by omega
                have HX2 : Hid (none = X) := Lib.hid (by rw [HX.out, if_pos q4])
                clear q4
                rcases y3 with ⟨y3, y4⟩ | y3
                all_goals
                  go_wp2
                  (try rw [Exit.noGoto_ret]); exact bodyPost_ret (v := .tuple #[.int .i64 0, .int .i64 (-1), .bool false]) (by simp [results, Tryz.results111, go_sem]) rfl ⟨HNO.out false _ HX2.out rfl, rfl⟩
              · have y5 : ¬ (most : Int) < ((10 * n + d : Nat) : Int) := by omega
                have HX2 := Lib.hid (HX.out.trans (if_neg q4))
                have HQ := Lib.hid q4
                clear q4
                rcases y3 with ⟨y3, y4⟩ | y3
                all_goals
                  go_wp2
                  go_roundw
                  case rel =>
                    exact ⟨i + 1, 10 * n + d, by go_num, by go_num, by omega, by have := HQ.out; omega, HN0.out, trivial, Lib.hid HX2.out.symm⟩
                  case measure => simp [intOf]; omega
    · obtain rfl : i = s.size := by omega
      have HX : Hid (none = X) := Lib.hid (by rw [← H.out, List.drop_of_length_le (by rw [← size_eq]; exact Nat.le_refl _), cntGo])
      go_wp2
      (try rw [Exit.noGoto_ret]); exact bodyPost_ret (v := .tuple #[.int .i64 0, .int .i64 (-1), .bool true]) (by simp [results, Tryz.results111, go_sem]) rfl ⟨HNO.out true _ HX.out rfl, rfl⟩

def RdrQ (w : World) (g : Nat) (s : RS) : Prop := match s with
  | some l => Blk w g 120 #[.string (S l), .int .i64 0]
  | none => ∃ x : Int, x ≠ 0 ∧ Blk w g 120 #[.string ⟨#[]⟩, .int .i64 x]
theorem RdrQ.far {w w' : World} {g : Nat} {s : RS} {row : Option Nat} (h : RdrQ w g s) (hg : w.grownBy w' row) (hr : some g ≠ row) : RdrQ w' g s := by
  cases s with
  | some l => exact Blk.grown h hg hr
  | none => obtain ⟨x, hx, hb⟩ := h; exact ⟨x, hx, hb.grown hg hr⟩
theorem RdrQ.new {w w' : World} {g : Nat} {s : RS} (h : RdrQ w g s) (hg : New w w') : RdrQ w' g s := by
  cases s with
  | some l => exact Blk.new h hg
  | none => obtain ⟨x, hx, hb⟩ := h; exact ⟨x, hx, hb.new hg⟩
theorem RdrQ.lt {w : World} {g : Nat} {s : RS} (h : RdrQ w g s) : g < w.heap.size := by
  cases s with
  | some l => exact Blk.lt h
  | none => obtain ⟨x, hx, hb⟩ := h; exact hb.lt
theorem RdrQ.cell {w : World} {g : Nat} {s : RS} (h : RdrQ w g s) : ∃ x : Int, w.cell? ⟨g, 1, none⟩ = some (.int .i64 x) ∧ (x == 0) = s.isSome := by
  cases s with
  | some l => exact ⟨0, Blk.cell' h 1 _ rfl, rfl⟩
  | none => obtain ⟨x, hx, hb⟩ := h; exact ⟨x, hb.cell' 1 _ rfl, by rw [beq_eq_false_iff_ne.2 hx]; rfl⟩
theorem RdrQ.set {w : World} {g b : Nat} {s : RS} (h : RdrQ w g s) (hb : g ≠ b) (i : Nat) (v : Value) : RdrQ (w.setCell ⟨b, i, none⟩ v) g s := by
  cases s with
  | some l => exact Blk.far h hb v
  | none => obtain ⟨x, hx, h⟩ := h; exact ⟨x, hx, h.far hb v⟩
set_option maxHeartbeats 2000000 in
theorem rdclose_any (g : Nat) (s : RS) (w : World) (h : RdrQ w g s) : Calls Tryz.prog 72 #[.pointer (some ⟨g, 0, none⟩)] w fun e w' => (∃ x : Int, e = .returned (.int .i64 x) ∧ (x == 0) = decide (s = some [])) ∧ w' = w := by
  cases s with
  | some l =>
    have hb0 := Blk.cell' h 0 _ rfl
    have hb1 := Blk.cell' h 1 _ rfl
    cases l with
    | nil =>
      have t0 : ((S []).toList == ([] : List UInt8)) = true := by rw [toList_eq]; rfl
      clear h
      go_enter Tryz.func72, Tryz.ntmps72
      go_wp2
      exact bodyPost_ret (v := .int .i64 0) (by simp [results, Tryz.results72, go_sem]) rfl ⟨⟨0, rfl, by simp⟩, rfl⟩
    | cons c r =>
      have t0 : ((S (c :: r)).toList == ([] : List UInt8)) = false := toList_ne (by rw [data_S]; simp)
      clear h
      generalize S (c :: r) = t at *
      go_enter Tryz.func72, Tryz.ntmps72
      go_wp2
      exact bodyPost_ret (v := .int .i64 17) (by simp [results, Tryz.results72, go_sem]) rfl ⟨⟨17, rfl, by simp⟩, rfl⟩
  | none =>
    obtain ⟨x, hx, hb⟩ := h
    have hb0 := hb.cell' 0 _ rfl
    have hb1 := hb.cell' 1 _ rfl
    have HX := Lib.hid hx
    have t1 : (x == 0) = false := beq_eq_false_iff_ne.2 hx
    clear hx hb
    go_enter Tryz.func72, Tryz.ntmps72
    go_wp2
    exact bodyPost_ret (v := .int .i64 x) (by simp [results, Tryz.results72, go_sem]) rfl ⟨⟨x, rfl, by rw [beq_eq_false_iff_ne.2 HX.out]; simp⟩, rfl⟩
set_option maxHeartbeats 2000000 in
theorem rdfail_any (g : Nat) (t : ByteArray) (x : Int) (w : World) (h : Blk w g 120 #[.string t, .int .i64 0]) (hx : x ≠ 0) : Calls Tryz.prog 112 #[.pointer (some ⟨g, 0, none⟩), .int .i64 x] w fun e w' => e = .returned (.tuple #[]) ∧ RdrQ w' g none ∧ w.grownBy w' (some g) := by
  have hb0 := h.cell' 0 _ rfl
  have hb1 := h.cell' 1 _ rfl
  have hf0 := h.free 0
  have hf1 := h.free 1
  have hB1 := h.put 0 (.string ⟨#[]⟩)
  have c0 := hB1.cell' 1 _ rfl
  have d0 := hB1.free 1
  have hB2 := hB1.put 1 (.int .i64 x)
  have HX := Lib.hid hx
  have HB := Lib.hid hB2
  have HG := Lib.hid ((grown_set w g 0 (.string ⟨#[]⟩)).trans (grown_set _ g 1 (.int .i64 x)))
  clear hx h hB1 hB2
  go_enter Tryz.func112, Tryz.ntmps112
  go_wp2
  go_end0
  exact ⟨rfl, ⟨x, HX.out, HB.out⟩, HG.out⟩
set_option maxRecDepth 100000 in
set_option maxHeartbeats 4000000 in
theorem rdnum_any (g hi : Nat) (s : RS) (w : World) (h : RdrQ w g s) (hz : RSz s) (hhi : hi ≤ 281474976710656) :
    Calls Tryz.prog 70 #[.pointer (some ⟨g, 0, none⟩), .int .i64 0, .int .i64 hi] w fun e w' => e = .returned (.int .i64 ((numS hi s).1 : Nat)) ∧ RdrQ w' g (numS hi s).2 ∧ w.grownBy w' (some g) := by
  cases s with
  | none =>
    obtain ⟨x, hx, hb⟩ := h
    have hb1 := hb.cell' 1 _ rfl
    have t1 : (x == 0) = false := beq_eq_false_iff_ne.2 hx
    have HR : Hid (RdrQ w g none) := Lib.hid ⟨x, hx, hb⟩
    clear hx hb
    go_enter Tryz.func70, Tryz.ntmps70
    go_wp2
    exact bodyPost_ret (v := .int .i64 0) (by simp [results, Tryz.results70, go_sem]) rfl ⟨rfl, HR.out, World.grownBy.refl _ _⟩
  | some l =>
    have hb : Blk w g 120 #[.string (S l), .int .i64 0] := h
    have hb0 := hb.cell' 0 _ rfl
    have hb1 := hb.cell' 1 _ rfl
    have hf0 := hb.free 0
    have hsz : l.length ≤ 1000000 := hz
    have HC := Lib.hid (show Calls Tryz.prog 111 #[.string (S l), .int .i64 281474976710656, .int .u8 59] w _ from rcount_any (S l) 281474976710656 59 w (by rw [size_S]; exact hsz) (Nat.le_refl _) (by decide))
    rw [data_S] at HC
    have HF := Lib.hid (fun x hx => rdfail_any g (S l) x w hb hx)
    have HS : Hid (numS hi (some l) = (match rdNum hi l with | some (n, r) => (n, some r) | none => (0, none))) := Lib.hid rfl
    generalize numS hi (some l) = Z at *
    cases hc : cntGo 281474976710656 59 l 0 0 with
    | none =>
      have hr : rdNum hi l = none := by unfold rdNum; rw [hc]
      rw [hr] at HS
      simp only at HS
      have hZ := HS.out
      subst hZ
      have HC2 := Lib.hid (HC.out.mono (R' := fun e w' => (∃ x : Bool, e = .returned (.tuple #[.int .i64 0, .int .i64 (-1), .bool x])) ∧ w' = w) (fun e w' q => by unfold RCntP at q; rw [hc] at q; exact q))
      clear HC HS hr hc
      go_enter Tryz.func70, Tryz.ntmps70
      go_wp2_with (go_at_call 111; (with_reducible refine HC2.out.mono ?_); rintro e w1 ⟨⟨x, rfl⟩, rfl⟩; cases x)
      · go_wp2_with (go_at_call 112; (with_reducible refine (HF.out 17 (by decide)).mono ?_); rintro e w1 ⟨rfl, k1, k2⟩)
        exact bodyPost_ret (v := .int .i64 0) (by simp [results, Tryz.results70, go_sem]) rfl ⟨rfl, k1, k2⟩
      · go_wp2_with (go_at_call 112; (with_reducible refine (HF.out 13 (by decide)).mono ?_); rintro e w1 ⟨rfl, k1, k2⟩)
        exact bodyPost_ret (v := .int .i64 0) (by simp [results, Tryz.results70, go_sem]) rfl ⟨rfl, k1, k2⟩
    | some p =>
      obtain ⟨n, k1⟩ := p
      obtain ⟨k, rfl⟩ : ∃ k, k1 = k + 1 := by obtain ⟨_, _, q, _⟩ := cnt_some hc; exact ⟨_, q⟩
      obtain ⟨c1, c2⟩ := cnt_len hc
      have v0 : decide ((k : Int) < 0) = false := decide_eq_false (by omega)
      have v1 : IntKind.i64.wrap ((k : Int) + 1) = ((k + 1 : Nat) : Int) := by have : l.length ≤ 1000000 := hsz; rw [IntWalk.i64_in _ (by omega)]; omega
      have HC2 := Lib.hid (HC.out.mono (R' := fun e w' => (e = .returned (.tuple #[.int .i64 (n : Nat), .int .i64 (k : Nat), .bool false])) ∧ w' = w) (fun e w' q => by
        unfold RCntP at q; rw [hc] at q; obtain ⟨⟨i, qi, qe⟩, qw⟩ := q; obtain rfl : k = i := by omega
        exact ⟨qe, qw⟩))
      have hD := drop_S l (k + 1)
      have hSz := size_S l
      have b1 : ((k + 1 : Nat) : Int) ≤ ((S l).size : Int) := by omega
      have b0 : k + 1 ≤ (S l).size := by omega
      have n0 : ¬ ((n : Int) < 0) := by omega
      by_cases hle : n ≤ hi
      · have hr : rdNum hi l = some (n, l.drop (k + 1)) := by unfold rdNum; rw [hc]; simp only [if_pos hle]
        rw [hr] at HS
        simp only at HS
        have hZ := HS.out
        subst hZ
        have hB2 : Blk (w.setCell ⟨g, 0, none⟩ (.string ((S l).extract (k + 1) (S l).size))) g 120 #[.string (S (l.drop (k + 1))), .int .i64 0] := by
          have := hb.put 0 (.string ((S l).extract (k + 1) (S l).size))
          rw [hD] at this ⊢
          exact this
        have HB := Lib.hid hB2
        have HG := Lib.hid (grown_set w g 0 (.string ((S l).extract (k + 1) (S l).size)))
        have t2 : ¬ ((hi : Int) < (n : Int)) := by omega
        have hts : (S l).size ≤ 1000000 := by omega
        clear HC HS hr hc hB2 hD HF hb h hz hsz hSz c1
        generalize S l = t at *
        go_enter Tryz.func70, Tryz.ntmps70
        go_wp2_with (go_at_call 111; (with_reducible refine HC2.out.mono ?_); rintro e w1 ⟨rfl, rfl⟩)
        exact bodyPost_ret (v := .int .i64 (n : Nat)) (by simp [results, Tryz.results70, go_sem]) rfl ⟨rfl, HB.out, HG.out⟩
      · have hr : rdNum hi l = none := by unfold rdNum; rw [hc]; simp only [if_neg hle]
        rw [hr] at HS
        simp only at HS
        have hZ := HS.out
        subst hZ
        have t2 : (hi : Int) < (n : Int) := by omega
        clear HC HS hr hc
        go_enter Tryz.func70, Tryz.ntmps70
        go_wp2_with (first | (go_at_call 112; (with_reducible refine (HF.out 3 (by decide)).mono ?_); rintro e w1 ⟨rfl, k1, k2⟩) | (go_at_call 111; (with_reducible refine HC2.out.mono ?_); rintro e w1 ⟨rfl, rfl⟩))
        exact bodyPost_ret (v := .int .i64 0) (by simp [results, Tryz.results70, go_sem]) rfl ⟨rfl, k1, k2⟩
set_option maxRecDepth 100000 in
set_option maxHeartbeats 4000000 in
theorem rdtxt_any (g most : Nat) (s : RS) (w : World) (h : RdrQ w g s) (hz : RSz s) (hmo : most ≤ 281474976710656) :
    Calls Tryz.prog 69 #[.pointer (some ⟨g, 0, none⟩), .int .i64 most] w fun e w' => e = .returned (.string (txtS most s).1) ∧ RdrQ w' g (txtS most s).2 ∧ w.grownBy w' (some g) := by
  cases s with
  | none =>
    obtain ⟨x, hx, hb⟩ := h
    have hb1 := hb.cell' 1 _ rfl
    have t1 : (x == 0) = false := beq_eq_false_iff_ne.2 hx
    have HR : Hid (RdrQ w g none) := Lib.hid ⟨x, hx, hb⟩
    clear hx hb
    go_enter Tryz.func69, Tryz.ntmps69
    go_wp2
    exact bodyPost_ret (v := .string ⟨#[]⟩) (by simp [results, Tryz.results69, go_sem]) rfl ⟨rfl, HR.out, World.grownBy.refl _ _⟩
  | some l =>
    have hb : Blk w g 120 #[.string (S l), .int .i64 0] := h
    have hb0 := hb.cell' 0 _ rfl
    have hb1 := hb.cell' 1 _ rfl
    have hf0 := hb.free 0
    have hsz : l.length ≤ 1000000 := hz
    have HC := Lib.hid (show Calls Tryz.prog 111 #[.string (S l), .int .i64 65536, .int .u8 58] w _ from rcount_any (S l) 65536 58 w (by rw [size_S]; exact hsz) (by decide) (by decide))
    rw [data_S] at HC
    have HF := Lib.hid (fun x hx => rdfail_any g (S l) x w hb hx)
    have HS : Hid (txtS most (some l) = (match rdTxt most l with | some (t, r) => (S t, some r) | none => (⟨#[]⟩, none))) := Lib.hid rfl
    generalize txtS most (some l) = Z at *
    cases hc : cntGo 65536 58 l 0 0 with
    | none =>
      have hr : rdTxt most l = none := by unfold rdTxt; rw [hc]
      rw [hr] at HS
      simp only at HS
      have hZ := HS.out
      subst hZ
      have HC2 := Lib.hid (HC.out.mono (R' := fun e w' => (∃ x : Bool, e = .returned (.tuple #[.int .i64 0, .int .i64 (-1), .bool x])) ∧ w' = w) (fun e w' q => by unfold RCntP at q; rw [hc] at q; exact q))
      clear HC HS hr hc
      go_enter Tryz.func69, Tryz.ntmps69
      go_wp2_with (go_at_call 111; (with_reducible refine HC2.out.mono ?_); rintro e w1 ⟨⟨x, rfl⟩, rfl⟩; cases x)
      · go_wp2_with (go_at_call 112; (with_reducible refine (HF.out 17 (by decide)).mono ?_); rintro e w1 ⟨rfl, k1, k2⟩)
        exact bodyPost_ret (v := .string ⟨#[]⟩) (by simp [results, Tryz.results69, go_sem]) rfl ⟨rfl, k1, k2⟩
      · go_wp2_with (go_at_call 112; (with_reducible refine (HF.out 13 (by decide)).mono ?_); rintro e w1 ⟨rfl, k1, k2⟩)
        exact bodyPost_ret (v := .string ⟨#[]⟩) (by simp [results, Tryz.results69, go_sem]) rfl ⟨rfl, k1, k2⟩
    | some p =>
      obtain ⟨n, k1⟩ := p
      obtain ⟨k, rfl⟩ : ∃ k, k1 = k + 1 := by obtain ⟨_, _, q, _⟩ := cnt_some hc; exact ⟨_, q⟩
      obtain ⟨c1, c2⟩ := cnt_len hc
      have v0 : decide ((k : Int) < 0) = false := decide_eq_false (by omega)
      have v1 : IntKind.i64.wrap ((k : Int) + 1) = ((k + 1 : Nat) : Int) := by rw [IntWalk.i64_in _ (by omega)]; omega
      have HC2 := Lib.hid (HC.out.mono (R' := fun e w' => (e = .returned (.tuple #[.int .i64 (n : Nat), .int .i64 (k : Nat), .bool false])) ∧ w' = w) (fun e w' q => by
        unfold RCntP at q; rw [hc] at q; obtain ⟨⟨i, qi, qe⟩, qw⟩ := q; obtain rfl : k = i := by omega
        exact ⟨qe, qw⟩))
      have hSz := size_S l
      have hD := drop_S l (k + 1)
      have b0 : k + 1 ≤ (S l).size := by omega
      have b1 : ((k + 1 : Nat) : Int) ≤ ((S l).size : Int) := by omega
      have hlen : (l.drop (k + 1)).length = l.length - (k + 1) := List.length_drop
      have HR : Hid (rdTxt most l = if k + 1 + n < l.length ∧ l[k + 1 + n]? = some 44 ∧ n ≤ most then some ((l.drop (k + 1)).take n, l.drop (k + 1 + n + 1)) else none) := Lib.hid (by unfold rdTxt; rw [hc])
      have e1 : l[k + 1 + n]? = (l.drop (k + 1))[n]? := by rw [List.getElem?_drop]
      have e2 : l.drop (k + 1 + n + 1) = (l.drop (k + 1)).drop (n + 1) := by rw [List.drop_drop]; congr 1
      rw [e1, e2] at HR
      clear HC e1 e2
      have hm1 : (l.drop (k + 1)).length ≤ 1000000 := by omega
      have hm2 : Hid (k + 1 + n < l.length ↔ n < (l.drop (k + 1)).length) := Lib.hid (by omega)
      simp only [hm2.out] at HR
      generalize l.drop (k + 1) = d at *
      clear hm2 hlen
      have hSd := size_S d
      have HB := Lib.hid (fun u => show Blk (w.setCell ⟨g, 0, none⟩ (.string (S u))) g 120 #[.string (S u), .int .i64 0] from hb.put 0 (.string (S u)))
      have HG := Lib.hid (fun u => grown_set w g 0 (.string (S u)))
      have hts : (S l).size ≤ 1000000 := by omega
      by_cases h1 : n < d.length
      · have g1 : ¬ (((S d).size : Int) ≤ (n : Int)) := by omega
        have g2 : n < (S d).size := by omega
        have hge : (S d)[n] = d[n] := by rw [get_eq _ _ g2]; rfl
        have hc2 := UInt8.toNat_lt (S d)[n]
        by_cases h2 : d[n] = 44
        · have y1 : (((S d)[n].toNat : Int) == 44) = true := by rw [hge, h2]; rfl
          by_cases h3 : n ≤ most
          · have g3 : ¬ ((most : Int) < (n : Int)) := by omega
            rw [if_pos ⟨h1, by rw [List.getElem?_eq_getElem h1]; exact congrArg some h2, h3⟩] at HR
            rw [HR.out] at HS
            simp only at HS
            have hZ := HS.out
            subst hZ
            have HB2 := Lib.hid (HB.out (d.drop (n + 1)))
            have HG2 := Lib.hid (HG.out (d.drop (n + 1)))
            have hD2 := drop_S d (n + 1)
            have hT : (S d).extract 0 n = S (d.take n) := by rw [extract_S, data_S, List.drop_zero, Nat.sub_zero]
            have u2 : IntKind.i64.wrap ((n : Int) + 1) = ((n + 1 : Nat) : Int) := by rw [IntWalk.i64_in _ (by omega)]; omega
            have b3 : ((n + 1 : Nat) : Int) ≤ ((S d).size : Int) := by omega
            have b4 : n + 1 ≤ (S d).size := by omega
            have b5 : (n : Int) ≤ ((S d).size : Int) := by omega
            have b6 : n ≤ (S d).size := by omega
            have hx2 : ((S d)[n].toNat : Int) = 44 := by rw [hge, h2]; rfl
            clear HF HS HR hge h2 h1 h3 hc h hz hsz hb hSz hSd c1 HB HG
            generalize S d = t1 at *
            generalize S l = t at *
            go_enter Tryz.func69, Tryz.ntmps69
            go_wp2_with (go_at_call 111; (with_reducible refine HC2.out.mono ?_); rintro e w1 ⟨rfl, rfl⟩)
            exact bodyPost_ret (v := .string (S (d.take n))) (by simp [results, Tryz.results69, go_sem]) rfl ⟨rfl, HB2.out, HG2.out⟩
          · have g3 : (most : Int) < (n : Int) := by omega
            rw [if_neg (fun q => h3 q.2.2)] at HR
            rw [HR.out] at HS
            simp only at HS
            have hZ := HS.out
            subst hZ
            clear HS HR h2 hge hc h hz hsz hb h1 h3 HB HG hSz hSd
            generalize S d = t1 at *
            generalize S l = t at *
            go_enter Tryz.func69, Tryz.ntmps69
            go_wp2_with (first | (go_at_call 112; (with_reducible refine (HF.out 10 (by decide)).mono ?_); rintro e w1 ⟨rfl, k1, k2⟩) | (go_at_call 111; (with_reducible refine HC2.out.mono ?_); rintro e w1 ⟨rfl, rfl⟩))
            exact bodyPost_ret (v := .string ⟨#[]⟩) (by simp [results, Tryz.results69, go_sem]) rfl ⟨rfl, k1, k2⟩
        · have y1 : (((S d)[n].toNat : Int) == 44) = false := by
            rw [hge]
            exact beq_eq_false_iff_ne.2 (fun q => h2 (UInt8.toNat_inj.1 (show d[n].toNat = 44 by omega)))
          rw [if_neg (fun q => h2 (by rw [List.getElem?_eq_getElem h1] at q; exact Option.some.inj q.2.1))] at HR
          rw [HR.out] at HS
          simp only at HS
          have hZ := HS.out
          subst hZ
          clear HS HR h2 hge hc h hz hsz hb h1 HB HG hSz hSd
          generalize S d = t1 at *
          generalize S l = t at *
          go_enter Tryz.func69, Tryz.ntmps69
          go_wp2_with (first | (go_at_call 112; (with_reducible refine (HF.out 17 (by decide)).mono ?_); rintro e w1 ⟨rfl, k1, k2⟩) | (go_at_call 111; (with_reducible refine HC2.out.mono ?_); rintro e w1 ⟨rfl, rfl⟩))
          exact bodyPost_ret (v := .string ⟨#[]⟩) (by simp [results, Tryz.results69, go_sem]) rfl ⟨rfl, k1, k2⟩
      · have g1 : ((S d).size : Int) ≤ (n : Int) := by omega
        rw [if_neg (fun q => h1 q.1)] at HR
        rw [HR.out] at HS
        simp only at HS
        have hZ := HS.out
        subst hZ
        clear HS HR hc h hz hsz hb h1 HB HG hSz hSd
        generalize S d = t1 at *
        generalize S l = t at *
        go_enter Tryz.func69, Tryz.ntmps69
        go_wp2_with (first | (go_at_call 112; (with_reducible refine (HF.out 13 (by decide)).mono ?_); rintro e w1 ⟨rfl, k1, k2⟩) | (go_at_call 111; (with_reducible refine HC2.out.mono ?_); rintro e w1 ⟨rfl, rfl⟩))
        exact bodyPost_ret (v := .string ⟨#[]⟩) (by simp [results, Tryz.results69, go_sem]) rfl ⟨rfl, k1, k2⟩
set_option maxHeartbeats 1000000 in
theorem rcnt_any (g : Nat) (s : RS) (w : World) (h : RdrQ w g s) (hz : RSz s) : Calls Tryz.prog 71 #[.pointer (some ⟨g, 0, none⟩)] w fun e w' => e = .returned (.int .i64 ((numS 65536 s).1 : Nat)) ∧ RdrQ w' g (numS 65536 s).2 ∧ w.grownBy w' (some g) := by
  have HC := Lib.hid (show Calls Tryz.prog 70 #[.pointer (some ⟨g, 0, none⟩), .int .i64 0, .int .i64 65536] w _ from rdnum_any g 65536 s w h hz (by decide))
  clear h hz
  obtain ⟨⟨n, s'⟩, hn⟩ : ∃ x, numS 65536 s = x := ⟨_, rfl⟩
  rw [hn] at HC ⊢
  simp only at HC ⊢
  go_enter Tryz.func71, Tryz.ntmps71
  go_wp2_with (go_at_call 70; (with_reducible refine HC.out.mono ?_); rintro e w1 ⟨rfl, k1, k2⟩)
  go_ret
  exact ⟨rfl, k1, k2⟩
end Go.Proofs.YtnknmpcgbfmfjaaGreatDoor

