/- Equality of rows: places, strings. No conditions. (Printed by mk-w9.py.) Equality of rows of strings. No conditions. (Printed by mk-w10.py.) The reference's Same of patches that are equal. Conditions: sizes. (Printed by mk-w11.py.) The reference's Few: what is let through is small. Conditions: none but the model's own sizes. -/
import Derived.Test.YtfeknjpinboknaaGreatDoorGBase
import Derived.Test.YtfeknjpinboknaaGreatDoorGW8

namespace Go.Proofs.YtfeknjpinboknaaGreatDoor
open Go Go.RowKit Go.Joins Go.Shelf
set_option linter.unusedSimpArgs false
set_option linter.unusedVariables false

theorem take_eq_next {α : Type} {P Q : List α} {k : Nat} {x : α} (h : P.take k = Q.take k) (hx : P[k]? = some x) (hy : Q[k]? = some x) : P.take (k + 1) = Q.take (k + 1) := by
  rw [List.take_add_one, List.take_add_one, h, hx, hy]
set_option maxHeartbeats 8000000 in
theorem eqPl_any (A B : Option Addr) (n m c d : Nat) (P Q : List (Int × Int)) (w : World) (hP : P.length = n) (hQ : Q.length = m) (rP : Rd w 2 A n (P.flatMap plC)) (rQ : Rd w 2 B m (Q.flatMap plC)) (hn : n ≤ 1000000) (hm : m ≤ 1000000) :
    Calls Tryz.prog 27 #[.slice A n c, .slice B m d] w fun e w' => e = .returned (.bool (decide (P = Q))) ∧ New w w' := by
  have HP := Lib.hid hP
  have HQ := Lib.hid hQ
  have RP := Lib.hid rP
  have RQ := Lib.hid rQ
  obtain ⟨R, hR⟩ : ∃ R, decide (P = Q) = R := ⟨_, rfl⟩
  have HRR := Lib.hid hR
  rw [hR]
  clear hR
  by_cases hnm : n = m
  · subst hnm
    clear hP hQ rP rQ
    go_enter Tryz.func27, Tryz.ntmps27
    go_wp2
    go_loopw [13] (fun v13 wr => ∃ k : Nat, v13 = .int .i64 (k : Int) ∧ k ≤ n ∧ New w wr ∧ P.take k = Q.take k) (fun v13 _ => n - (intOf v13).toNat)
    case atStart => exact ⟨0, rfl, Nat.zero_le _, New.refl _, rfl⟩
    case round =>
      obtain ⟨k, rfl, hk, hnr, htk⟩ := hrel
      by_cases hlt : k < n
      · obtain ⟨b1, o1, rfl, _, p, hp, hc1⟩ := rd_row (f := plC) (k := 2) (fun _ => rfl) HP.out (RP.out.below hnr) hlt
        obtain ⟨b2, o2, rfl, _, q, hq, hc2⟩ := rd_row (f := plC) (k := 2) (fun _ => rfl) HQ.out (RQ.out.below hnr) hlt
        obtain ⟨p1, p2⟩ := p
        obtain ⟨q1, q2⟩ := q
        have z0 := hc1 0 (.int .i64 p1) (by omega) rfl
        have z1 := hc1 1 (.int .i64 p2) (by omega) rfl
        have y0 := hc2 0 (.int .i64 q1) (by omega) rfl
        have y1 := hc2 1 (.int .i64 q2) (by omega) rfl
        simp only [Nat.add_zero] at z0 y0
        rw [← Nat.add_assoc] at z1 y1
        have i0' : (0 : Int) ≤ (k : Int) := by omega
        have i1' : (k : Int) < (n : Int) := by omega
        have HTK := Lib.hid htk
        have HC1 := Lib.hid hp
        have HC2 := Lib.hid hq
        clear hc1 hc2 hp hq htk
        by_cases e1 : p1 = q1
        · by_cases e2 : p2 = q2
          · subst e1 e2
            go_wp2_with (fail)
            refine wp_region_held_drew (S := (New _)) (by kernel_rfl) ((New.refl _).drew) (fun hS => ?_)
            refine tkT 0 (v := ?v1) hS (fun wq hSq => ?y1) ?_; (case y1 => clear hSq; go_simp; (try with_reducible rfl)); simp only [Act.put, gqD, gqE, gqF]
            refine tkT 1 (v := ?v2) hS (fun wq hSq => ?y2) ?_; (case y2 => clear hSq; go_simp; (try with_reducible rfl)); simp only [Act.put, gqD, gqE, gqF]
            refine tkT 2 (v := ?v3) hS (fun wq hSq => ?y3) ?_; (case y3 => clear hSq; go_simp; (try with_reducible rfl)); simp only [Act.put, gqD, gqE, gqF]
            refine tkT 3 (v := ?v4) hS (fun wq hSq => ?y4) ?_; (case y4 => have hf0 := cell_new hSq z0; have hf1 := cell_new hSq z1; have hf2 := cell_new hSq y0; have hf3 := cell_new hSq y1; clear hSq; go_simp; (try with_reducible rfl)); simp only [Act.put, gqD, gqE, gqF]
            refine tkT 4 (v := ?v5) hS (fun wq hSq => ?y5) ?_; (case y5 => clear hSq; go_simp; (try with_reducible rfl)); simp only [Act.put, gqD, gqE, gqF]
            refine tkT 5 (v := ?v6) hS (fun wq hSq => ?y6) ?_; (case y6 => clear hSq; go_simp; (try with_reducible rfl)); simp only [Act.put, gqD, gqE, gqF]
            refine tkT 6 (v := ?v7) hS (fun wq hSq => ?y7) ?_; (case y7 => clear hSq; go_simp; (try with_reducible rfl)); simp only [Act.put, gqD, gqE, gqF]
            refine tkT 7 (v := ?v8) hS (fun wq hSq => ?y8) ?_; (case y8 => have hf0 := cell_new hSq z0; have hf1 := cell_new hSq z1; have hf2 := cell_new hSq y0; have hf3 := cell_new hSq y1; clear hSq; go_simp; (try with_reducible rfl)); simp only [Act.put, gqD, gqE, gqF]
            refine tkT 8 (v := ?v9) hS (fun wq hSq => ?y9) ?_; (case y9 => clear hSq; go_simp; (try with_reducible rfl)); simp only [Act.put, gqD, gqE, gqF]
            refine wpAnyH_done (by kernel_rfl) ?_ _
            go_wp2
            go_roundw
            case rel => exact ⟨k + 1, by go_num, by omega, hnr.trans (by assumption), take_eq_next HTK.out HC1.out HC2.out⟩
            case measure => simp [intOf]; omega
          · have f1 : (p2 == q2) = false := by simpa using e2
            have hne : decide (P = Q) = false := decide_eq_false fun e => by
              have h1 := HC1.out
              rw [e, HC2.out] at h1
              injection h1 with h1
              injection h1 with h1 h2
              exact e2 h2.symm
            obtain rfl : R = false := by rw [← HRR.out]; exact hne
            subst e1
            go_wp2_with (fail)
            refine wp_region_held_drew (S := (New _)) (by kernel_rfl) ((New.refl _).drew) (fun hS => ?_)
            refine tkT 0 (v := ?v10) hS (fun wq hSq => ?y10) ?_; (case y10 => clear hSq; go_simp; (try with_reducible rfl)); simp only [Act.put, gqD, gqE, gqF]
            refine tkT 1 (v := ?v11) hS (fun wq hSq => ?y11) ?_; (case y11 => clear hSq; go_simp; (try with_reducible rfl)); simp only [Act.put, gqD, gqE, gqF]
            refine tkT 2 (v := ?v12) hS (fun wq hSq => ?y12) ?_; (case y12 => clear hSq; go_simp; (try with_reducible rfl)); simp only [Act.put, gqD, gqE, gqF]
            refine tkT 3 (v := ?v13) hS (fun wq hSq => ?y13) ?_; (case y13 => have hf0 := cell_new hSq z0; have hf1 := cell_new hSq z1; have hf2 := cell_new hSq y0; have hf3 := cell_new hSq y1; clear hSq; go_simp; (try with_reducible rfl)); simp only [Act.put, gqD, gqE, gqF]
            refine tkT 4 (v := ?v14) hS (fun wq hSq => ?y14) ?_; (case y14 => clear hSq; go_simp; (try with_reducible rfl)); simp only [Act.put, gqD, gqE, gqF]
            refine tkT 5 (v := ?v15) hS (fun wq hSq => ?y15) ?_; (case y15 => clear hSq; go_simp; (try with_reducible rfl)); simp only [Act.put, gqD, gqE, gqF]
            refine tkT 6 (v := ?v16) hS (fun wq hSq => ?y16) ?_; (case y16 => clear hSq; go_simp; (try with_reducible rfl)); simp only [Act.put, gqD, gqE, gqF]
            refine tkT 7 (v := ?v17) hS (fun wq hSq => ?y17) ?_; (case y17 => have hf0 := cell_new hSq z0; have hf1 := cell_new hSq z1; have hf2 := cell_new hSq y0; have hf3 := cell_new hSq y1; clear hSq; go_simp; (try with_reducible rfl)); simp only [Act.put, gqD, gqE, gqF]
            refine tkT 8 (v := ?v18) hS (fun wq hSq => ?y18) ?_; (case y18 => clear hSq; go_simp; (try with_reducible rfl)); simp only [Act.put, gqD, gqE, gqF]
            refine wpAnyH_done (by kernel_rfl) ?_ _
            go_wp2
            go_ret
            exact ⟨rfl, hnr.trans (by assumption)⟩
        · have f1 : (p1 == q1) = false := by simpa using e1
          have hne : decide (P = Q) = false := decide_eq_false fun e => by
            have h1 := HC1.out
            rw [e, HC2.out] at h1
            injection h1 with h1
            injection h1 with h1 h2
            exact e1 h1.symm
          obtain rfl : R = false := by rw [← HRR.out]; exact hne
          go_wp2_with (fail)
          refine wp_region_held_drew (S := (New _)) (by kernel_rfl) ((New.refl _).drew) (fun hS => ?_)
          refine tkT 0 (v := ?v19) hS (fun wq hSq => ?y19) ?_; (case y19 => clear hSq; go_simp; (try with_reducible rfl)); simp only [Act.put, gqD, gqE, gqF]
          refine tkT 1 (v := ?v20) hS (fun wq hSq => ?y20) ?_; (case y20 => clear hSq; go_simp; (try with_reducible rfl)); simp only [Act.put, gqD, gqE, gqF]
          refine tkT 2 (v := ?v21) hS (fun wq hSq => ?y21) ?_; (case y21 => clear hSq; go_simp; (try with_reducible rfl)); simp only [Act.put, gqD, gqE, gqF]
          refine tkT 3 (v := ?v22) hS (fun wq hSq => ?y22) ?_; (case y22 => have hf0 := cell_new hSq z0; have hf1 := cell_new hSq z1; have hf2 := cell_new hSq y0; have hf3 := cell_new hSq y1; clear hSq; go_simp; (try with_reducible rfl)); simp only [Act.put, gqD, gqE, gqF]
          refine tkT 4 (v := ?v23) hS (fun wq hSq => ?y23) ?_; (case y23 => clear hSq; go_simp; (try with_reducible rfl)); simp only [Act.put, gqD, gqE, gqF]
          refine tkT 5 (v := ?v24) hS (fun wq hSq => ?y24) ?_; (case y24 => clear hSq; go_simp; (try with_reducible rfl)); simp only [Act.put, gqD, gqE, gqF]
          refine tkT 6 (v := ?v25) hS (fun wq hSq => ?y25) ?_; (case y25 => clear hSq; go_simp; (try with_reducible rfl)); simp only [Act.put, gqD, gqE, gqF]
          refine tkT 7 (v := ?v26) hS (fun wq hSq => ?y26) ?_; (case y26 => have hf0 := cell_new hSq z0; have hf1 := cell_new hSq z1; have hf2 := cell_new hSq y0; have hf3 := cell_new hSq y1; clear hSq; go_simp; (try with_reducible rfl)); simp only [Act.put, gqD, gqE, gqF]
          refine tkT 8 (v := ?v27) hS (fun wq hSq => ?y27) ?_; (case y27 => clear hSq; go_simp; (try with_reducible rfl)); simp only [Act.put, gqD, gqE, gqF]
          refine wpAnyH_done (by kernel_rfl) ?_ _
          go_wp2
          go_ret
          exact ⟨rfl, hnr.trans (by assumption)⟩
      · obtain rfl : k = n := by omega
        have hpq : P = Q := by
          rw [List.take_of_length_le (by rw [HP.out]; exact Nat.le_refl _), List.take_of_length_le (by rw [HQ.out]; exact Nat.le_refl _)] at htk
          exact htk
        obtain rfl : R = true := by rw [← HRR.out]; exact decide_eq_true hpq
        clear htk hpq
        go_wp2
        go_ret
        exact ⟨rfl, hnr⟩
  · have hne : decide (P = Q) = false := decide_eq_false fun e => hnm (by rw [← hP, ← hQ, e])
    obtain rfl : R = false := by rw [← HRR.out]; exact hne
    have f1 : ((n : Int) == (m : Int)) = false := by simp; omega
    have f2 : ((n : Int) != (m : Int)) = true := by simp; omega
    clear hP hQ rP rQ
    go_enter Tryz.func27, Tryz.ntmps27
    go_wp2
    go_ret
    exact ⟨rfl, New.refl _⟩
end Go.Proofs.YtfeknjpinboknaaGreatDoor

namespace Go.Proofs.YtfeknjpinboknaaGreatDoor
open Go Go.RowKit Go.Joins Go.Shelf
set_option linter.unusedSimpArgs false
set_option linter.unusedVariables false

theorem str_ne {a b : ByteArray} (h : a ≠ b) : (a.toList == b.toList) = false := by
  have : a.toList ≠ b.toList := fun e => h (by
    rw [toList_eq, toList_eq] at e
    exact ByteArray.ext (Array.toList_inj.1 e))
  simpa using this
theorem rd_str {w : World} {A : Option Addr} {n : Nat} {ws : List ByteArray} (hl : ws.length = n) (h : Rd w 1 A n (sCells ws)) {k : Nat} (hk : k < n) : ∃ b o s, A = some ⟨b, o, none⟩ ∧ ws[k]? = some s ∧ w.cell? ⟨b, o + k, none⟩ = some (.string s) := by
  obtain ⟨b, o, rfl, _, hc⟩ := h.2 (by omega)
  have hi : k < ws.length := by omega
  exact ⟨b, o, ws[k], rfl, List.getElem?_eq_getElem hi, hc k _ (by rw [sCells, List.getElem?_map, List.getElem?_eq_getElem hi]; rfl)⟩
set_option maxHeartbeats 8000000 in
theorem same_any (A B : Option Addr) (n m c d : Nat) (P Q : List ByteArray) (w : World) (hP : P.length = n) (hQ : Q.length = m) (rP : Rd w 1 A n (sCells P)) (rQ : Rd w 1 B m (sCells Q)) (hn : n ≤ 9223372036854775807) (hm : m ≤ 9223372036854775807) :
    Calls Tryz.prog 48 #[.slice A n c, .slice B m d] w fun e w' => e = .returned (.bool (decide (P = Q))) ∧ New w w' := by
  have HP := Lib.hid hP
  have HQ := Lib.hid hQ
  have RP := Lib.hid rP
  have RQ := Lib.hid rQ
  obtain ⟨R, hR⟩ : ∃ R, decide (P = Q) = R := ⟨_, rfl⟩
  have HRR := Lib.hid hR
  rw [hR]
  clear hR
  by_cases hnm : n = m
  · subst hnm
    clear hP hQ rP rQ
    go_enter Tryz.func48, Tryz.ntmps48
    go_wp2
    go_loopw [13] (fun v13 wr => ∃ k : Nat, v13 = .int .i64 (k : Int) ∧ k ≤ n ∧ New w wr ∧ P.take k = Q.take k) (fun v13 _ => n - (intOf v13).toNat)
    case atStart => exact ⟨0, rfl, Nat.zero_le _, New.refl _, rfl⟩
    case round =>
      obtain ⟨k, rfl, hk, hnr, htk⟩ := hrel
      by_cases hlt : k < n
      · obtain ⟨b1, o1, p, rfl, hp, z0⟩ := rd_str HP.out (RP.out.below hnr) hlt
        obtain ⟨b2, o2, q, rfl, hq, y0⟩ := rd_str HQ.out (RQ.out.below hnr) hlt
        have i0' : (0 : Int) ≤ (k : Int) := by omega
        have i1' : (k : Int) < (n : Int) := by omega
        have HTK := Lib.hid htk
        have HC1 := Lib.hid hp
        have HC2 := Lib.hid hq
        clear hp hq htk
        by_cases e1 : p = q
        · subst e1
          go_wp2_with (fail)
          refine wp_region_held_drew (S := (New _)) (by kernel_rfl) ((New.refl _).drew) (fun hS => ?_)
          refine tkT 0 (v := ?v1) hS (fun wq hSq => ?y1) ?_; (case y1 => clear hSq; go_simp; (try with_reducible rfl)); simp only [Act.put, gqD, gqE, gqF]
          refine tkT 1 (v := ?v2) hS (fun wq hSq => ?y2) ?_; (case y2 => clear hSq; go_simp; (try with_reducible rfl)); simp only [Act.put, gqD, gqE, gqF]
          refine tkT 2 (v := ?v3) hS (fun wq hSq => ?y3) ?_; (case y3 => clear hSq; go_simp; (try with_reducible rfl)); simp only [Act.put, gqD, gqE, gqF]
          refine tkT 3 (v := ?v4) hS (fun wq hSq => ?y4) ?_; (case y4 => have hf0 := cell_new hSq z0; have hf1 := cell_new hSq y0; clear hSq; go_simp; (try with_reducible rfl)); simp only [Act.put, gqD, gqE, gqF]
          refine tkT 4 (v := ?v5) hS (fun wq hSq => ?y5) ?_; (case y5 => clear hSq; go_simp; (try with_reducible rfl)); simp only [Act.put, gqD, gqE, gqF]
          refine tkT 5 (v := ?v6) hS (fun wq hSq => ?y6) ?_; (case y6 => clear hSq; go_simp; (try with_reducible rfl)); simp only [Act.put, gqD, gqE, gqF]
          refine tkT 6 (v := ?v7) hS (fun wq hSq => ?y7) ?_; (case y7 => clear hSq; go_simp; (try with_reducible rfl)); simp only [Act.put, gqD, gqE, gqF]
          refine tkT 7 (v := ?v8) hS (fun wq hSq => ?y8) ?_; (case y8 => have hf0 := cell_new hSq z0; have hf1 := cell_new hSq y0; clear hSq; go_simp; (try with_reducible rfl)); simp only [Act.put, gqD, gqE, gqF]
          refine tkT 8 (v := ?v9) hS (fun wq hSq => ?y9) ?_; (case y9 => clear hSq; go_simp; (try with_reducible rfl)); simp only [Act.put, gqD, gqE, gqF]
          refine wpAnyH_done (by kernel_rfl) ?_ _
          go_wp2
          go_roundw
          case rel => exact ⟨k + 1, by go_num, by omega, hnr.trans (by assumption), take_eq_next HTK.out HC1.out HC2.out⟩
          case measure => simp [intOf]; omega
        · have f1 := str_ne e1
          have hne : decide (P = Q) = false := decide_eq_false fun e => by
            have h1 := HC1.out
            rw [e, HC2.out] at h1
            injection h1 with h1
            exact e1 h1.symm
          obtain rfl : R = false := by rw [← HRR.out]; exact hne
          clear e1
          go_wp2_with (fail)
          refine wp_region_held_drew (S := (New _)) (by kernel_rfl) ((New.refl _).drew) (fun hS => ?_)
          refine tkT 0 (v := ?v10) hS (fun wq hSq => ?y10) ?_; (case y10 => clear hSq; go_simp; (try with_reducible rfl)); simp only [Act.put, gqD, gqE, gqF]
          refine tkT 1 (v := ?v11) hS (fun wq hSq => ?y11) ?_; (case y11 => clear hSq; go_simp; (try with_reducible rfl)); simp only [Act.put, gqD, gqE, gqF]
          refine tkT 2 (v := ?v12) hS (fun wq hSq => ?y12) ?_; (case y12 => clear hSq; go_simp; (try with_reducible rfl)); simp only [Act.put, gqD, gqE, gqF]
          refine tkT 3 (v := ?v13) hS (fun wq hSq => ?y13) ?_; (case y13 => have hf0 := cell_new hSq z0; have hf1 := cell_new hSq y0; clear hSq; go_simp; (try with_reducible rfl)); simp only [Act.put, gqD, gqE, gqF]
          refine tkT 4 (v := ?v14) hS (fun wq hSq => ?y14) ?_; (case y14 => clear hSq; go_simp; (try with_reducible rfl)); simp only [Act.put, gqD, gqE, gqF]
          refine tkT 5 (v := ?v15) hS (fun wq hSq => ?y15) ?_; (case y15 => clear hSq; go_simp; (try with_reducible rfl)); simp only [Act.put, gqD, gqE, gqF]
          refine tkT 6 (v := ?v16) hS (fun wq hSq => ?y16) ?_; (case y16 => clear hSq; go_simp; (try with_reducible rfl)); simp only [Act.put, gqD, gqE, gqF]
          refine tkT 7 (v := ?v17) hS (fun wq hSq => ?y17) ?_; (case y17 => have hf0 := cell_new hSq z0; have hf1 := cell_new hSq y0; clear hSq; go_simp; (try with_reducible rfl)); simp only [Act.put, gqD, gqE, gqF]
          refine tkT 8 (v := ?v18) hS (fun wq hSq => ?y18) ?_; (case y18 => clear hSq; go_simp; (try with_reducible rfl)); simp only [Act.put, gqD, gqE, gqF]
          refine wpAnyH_done (by kernel_rfl) ?_ _
          go_wp2
          go_ret
          exact ⟨rfl, hnr.trans (by assumption)⟩
      · obtain rfl : k = n := by omega
        have hpq : P = Q := by
          rw [List.take_of_length_le (by rw [HP.out]; exact Nat.le_refl _), List.take_of_length_le (by rw [HQ.out]; exact Nat.le_refl _)] at htk
          exact htk
        obtain rfl : R = true := by rw [← HRR.out]; exact decide_eq_true hpq
        clear htk hpq
        go_wp2
        go_ret
        exact ⟨rfl, hnr⟩
  · have hne : decide (P = Q) = false := decide_eq_false fun e => hnm (by rw [← hP, ← hQ, e])
    obtain rfl : R = false := by rw [← HRR.out]; exact hne
    have f1 : ((n : Int) == (m : Int)) = false := by simp; omega
    have f2 : ((n : Int) != (m : Int)) = true := by simp; omega
    clear hP hQ rP rQ
    go_enter Tryz.func48, Tryz.ntmps48
    go_wp2
    go_ret
    exact ⟨rfl, New.refl _⟩
end Go.Proofs.YtfeknjpinboknaaGreatDoor

namespace Go.Proofs.YtfeknjpinboknaaGreatDoor
open Go Go.RowKit Go.Joins Go.Shelf
set_option linter.unusedSimpArgs false
set_option linter.unusedVariables false

theorem map_at {hA hB : List Hm} (h : hA.map Hm.d = hB.map Hm.d) {k : Nat} {p : Hm} (hp : hA[k]? = some p) {q : Hm} (hq : hB[k]? = some q) : p.kind = q.kind ∧ p.n = q.n ∧ p.lines = q.lines := by
  have := congrArg (fun l => l[k]?) h
  simp only [List.getElem?_map, hp, hq, Option.map_some] at this
  injection this with this
  exact ⟨congrArg Hk.kind this, congrArg Hk.n this, congrArg Hk.lines this⟩
set_option maxRecDepth 100000 in
set_option maxHeartbeats 16000000 in
theorem samep_any (base : ByteArray) (A B : Option Addr) (n c d : Nat) (hA hB : List Hm) (w : World) (hr : PRd w A n hA) (hq : PRd w B n hB) (hz : SzH hA) (he : hA.map Hm.d = hB.map Hm.d) :
    Calls Tryz.prog 19 #[.agg #[.string base, .slice A n c], .agg #[.string base, .slice B n d]] w fun e w' => e = .returned (.bool true) ∧ New w w' := by
  have HR := Lib.hid hr
  have HQ := Lib.hid hq
  have HL := Lib.hid hr.len
  have HM := Lib.hid hq.len
  have HE := Lib.hid he
  have HZ := Lib.hid hz
  have hnl : n ≤ 100000 := by have := hz.l; have := hr.len; omega
  have n1 := (New.refl w).alloc (.cells #[.string base, .slice A n c] 24)
  have n2 := n1.alloc (.cells #[.string base, .slice B n d] 24)
  have A1 := (Blk.made w 24 #[.string base, .slice A n c]).alloc (.cells #[.string base, .slice B n d] 24)
  have B1 := Blk.made (w.alloc (.cells #[.string base, .slice A n c] 24)) 24 #[.string base, .slice B n d]
  rw [World.size_alloc] at B1
  clear hr hq he hz
  have a0 := A1.cell' 0 _ rfl
  have a1 := A1.cell' 1 _ rfl
  have b0 := B1.cell' 0 _ rfl
  have b1 := B1.cell' 1 _ rfl
  go_enter Tryz.func19, Tryz.ntmps19
  go_wp2
  clear a0 a1 b0 b1
  go_loopw [24] (fun v24 wr => ∃ k : Nat, v24 = .int .i64 (k : Int) ∧ k ≤ n ∧ New w wr ∧ Blk wr (w.heap.size + 1) 24 #[.string base, .slice B n d]) (fun v24 _ => n - (intOf v24).toNat)
  case atStart => exact ⟨0, rfl, Nat.zero_le _, n2, B1⟩
  case round =>
    obtain ⟨k, rfl, hk, hnr, BB⟩ := hrel
    by_cases hlt : k < n
    · obtain ⟨b1, o1, rfl, _, p, hp, hc1⟩ := rd_row (f := hmC) (k := 3) (fun _ => rfl) HL.out (HR.out.new hnr).rd hlt
      obtain ⟨b2, o2, rfl, _, q, hq, hc2⟩ := rd_row (f := hmC) (k := 3) (fun _ => rfl) HM.out (HQ.out.new hnr).rd hlt
      obtain ⟨m1, m2, m3⟩ := map_at HE.out hp hq
      have lp := (HR.out.new hnr).ln p (List.mem_of_getElem? hp)
      have lq := (HQ.out.new hnr).ln q (List.mem_of_getElem? hq)
      have hzz := HZ.out.ll p (List.mem_of_getElem? hp)
      obtain ⟨pk, pn, pl, pa, pc⟩ := p
      obtain ⟨qk, qn, ql, qa, qc⟩ := q
      simp only at m1 m2 m3 lp lq hzz
      subst m1 m2 m3
      have z0 := hc1 0 (.int .i64 pk) (by omega) rfl
      have z1 := hc1 1 (.int .i64 pn) (by omega) rfl
      have z2 := hc1 2 (.slice pa pl.length pc) (by omega) rfl
      have y0 := cell_new ((New.refl wr).alloc (.cells #[.int .i64 pk, .int .i64 pn, .slice pa pl.length pc] 55)) (hc2 0 (.int .i64 pk) (by omega) rfl)
      have y1 := cell_new ((New.refl wr).alloc (.cells #[.int .i64 pk, .int .i64 pn, .slice pa pl.length pc] 55)) (hc2 1 (.int .i64 pn) (by omega) rfl)
      have y2 := cell_new ((New.refl wr).alloc (.cells #[.int .i64 pk, .int .i64 pn, .slice pa pl.length pc] 55)) (hc2 2 (.slice qa pl.length qc) (by omega) rfl)
      simp only [Nat.add_zero] at z0 y0
      rw [← Nat.add_assoc] at z1 y1 z2 y2
      have HSM := Lib.hid (fun W (hN : New wr W) => show Calls Tryz.prog 48 #[.slice pa pl.length pc, .slice qa pl.length qc] W (fun e w' => e = .returned (.bool true) ∧ New W w') from (same_any pa qa pl.length pl.length pc qc pl pl W rfl rfl (lp.1.below hN) (lq.1.below hN) (by omega) (by omega)).mono fun e w' h => ⟨by rw [h.1, decide_eq_true rfl], h.2⟩)
      have BH := Blk.made wr 55 #[.int .i64 pk, .int .i64 pn, .slice pa pl.length pc]
      have h0 := BH.cell' 0 _ rfl
      have h1 := BH.cell' 1 _ rfl
      have h2 := BH.cell' 2 _ rfl
      have BB2 := BB.alloc (.cells #[.int .i64 pk, .int .i64 pn, .slice pa pl.length pc] 55)
      have g1 := BB2.cell' 1 _ rfl
      have hnr1 := (New.refl wr).alloc (.cells #[.int .i64 pk, .int .i64 pn, .slice pa pl.length pc] 55)
      have i0' : (0 : Int) ≤ (k : Int) := by omega
      have i1' : (k : Int) < (n : Int) := by omega
      generalize pl.length = nl at *
      clear hc1 hc2 hp hq lp lq hzz
      go_wp2_with (fail)
      refine wp_region_held_drew (S := (New _)) (by kernel_rfl) ((New.refl _).drew) (fun hS => ?_)
      refine tkT 0 (v := ?v1) hS (fun wq hSq => ?y1) ?_; (case y1 => clear hSq; go_simp; (try with_reducible rfl)); simp only [Act.put, gqD, gqE, gqF]
      refine tkT 1 (v := ?v2) hS (fun wq hSq => ?y2) ?_; (case y2 => have hf0 := cell_new hSq h0; have hf1 := cell_new hSq h1; have hf2 := cell_new hSq h2; have hf3 := cell_new hSq g1; have hf4 := cell_new hSq y0; have hf5 := cell_new hSq y1; have hf6 := cell_new hSq y2; clear hSq; go_simp; (try with_reducible rfl)); simp only [Act.put, gqD, gqE, gqF]
      refine tkT 2 (v := ?v3) hS (fun wq hSq => ?y3) ?_; (case y3 => clear hSq; go_simp; (try with_reducible rfl)); simp only [Act.put, gqD, gqE, gqF]
      refine tkT 3 (v := ?v4) hS (fun wq hSq => ?y4) ?_; (case y4 => have hf0 := cell_new hSq h0; have hf1 := cell_new hSq h1; have hf2 := cell_new hSq h2; have hf3 := cell_new hSq g1; have hf4 := cell_new hSq y0; have hf5 := cell_new hSq y1; have hf6 := cell_new hSq y2; clear hSq; go_simp; (try with_reducible rfl)); simp only [Act.put, gqD, gqE, gqF]
      refine tkT 4 (v := ?v5) hS (fun wq hSq => ?y5) ?_; (case y5 => clear hSq; go_simp; (try with_reducible rfl)); simp only [Act.put, gqD, gqE, gqF]
      refine tkT 5 (v := ?v6) hS (fun wq hSq => ?y6) ?_; (case y6 => clear hSq; go_simp; (try with_reducible rfl)); simp only [Act.put, gqD, gqE, gqF]
      refine tkT 6 (v := ?v7) hS (fun wq hSq => ?y7) ?_; (case y7 => clear hSq; go_simp; (try with_reducible rfl)); simp only [Act.put, gqD, gqE, gqF]
      refine tkT 7 (v := ?v8) hS (fun wq hSq => ?y8) ?_; (case y8 => have hf0 := cell_new hSq h0; have hf1 := cell_new hSq h1; have hf2 := cell_new hSq h2; have hf3 := cell_new hSq g1; have hf4 := cell_new hSq y0; have hf5 := cell_new hSq y1; have hf6 := cell_new hSq y2; clear hSq; go_simp; (try with_reducible rfl)); simp only [Act.put, gqD, gqE, gqF]
      refine tkT 8 (v := ?v9) hS (fun wq hSq => ?y9) ?_; (case y9 => clear hSq; go_simp; (try with_reducible rfl)); simp only [Act.put, gqD, gqE, gqF]
      refine tkT 9 (v := ?v10) hS (fun wq hSq => ?y10) ?_; (case y10 => clear hSq; go_simp; (try with_reducible rfl)); simp only [Act.put, gqD, gqE, gqF]
      refine tkT 10 (v := ?v11) hS (fun wq hSq => ?y11) ?_; (case y11 => clear hSq; go_simp; (try with_reducible rfl)); simp only [Act.put, gqD, gqE, gqF]
      refine tkT 11 (v := ?v12) hS (fun wq hSq => ?y12) ?_; (case y12 => have hf0 := cell_new hSq h0; have hf1 := cell_new hSq h1; have hf2 := cell_new hSq h2; have hf3 := cell_new hSq g1; have hf4 := cell_new hSq y0; have hf5 := cell_new hSq y1; have hf6 := cell_new hSq y2; clear hSq; go_simp; (try with_reducible rfl)); simp only [Act.put, gqD, gqE, gqF]
      refine tkT 12 (v := ?v13) hS (fun wq hSq => ?y13) ?_; (case y13 => clear hSq; go_simp; (try with_reducible rfl)); simp only [Act.put, gqD, gqE, gqF]
      refine tkT 13 (v := ?v14) hS (fun wq hSq => ?y14) ?_; (case y14 => have hf0 := cell_new hSq h0; have hf1 := cell_new hSq h1; have hf2 := cell_new hSq h2; have hf3 := cell_new hSq g1; have hf4 := cell_new hSq y0; have hf5 := cell_new hSq y1; have hf6 := cell_new hSq y2; clear hSq; go_simp; (try with_reducible rfl)); simp only [Act.put, gqD, gqE, gqF]
      refine tkT 14 (v := ?v15) hS (fun wq hSq => ?y15) ?_; (case y15 => clear hSq; go_simp; (try with_reducible rfl)); simp only [Act.put, gqD, gqE, gqF]
      refine tkT 15 (v := ?v16) hS (fun wq hSq => ?y16) ?_; (case y16 => clear hSq; go_simp; (try with_reducible rfl)); simp only [Act.put, gqD, gqE, gqF]
      refine tkT 16 (v := ?v17) hS (fun wq hSq => ?y17) ?_; (case y17 => clear hSq; go_simp; (try with_reducible rfl)); simp only [Act.put, gqD, gqE, gqF]
      refine tkT 17 (v := ?v18) hS (fun wq hSq => ?y18) ?_; (case y18 => have hf0 := cell_new hSq h0; have hf1 := cell_new hSq h1; have hf2 := cell_new hSq h2; have hf3 := cell_new hSq g1; have hf4 := cell_new hSq y0; have hf5 := cell_new hSq y1; have hf6 := cell_new hSq y2; clear hSq; go_simp; (try with_reducible rfl)); simp only [Act.put, gqD, gqE, gqF]
      refine tkT 18 (v := ?v19) hS (fun wq hSq => ?y19) ?_; (case y19 => clear hSq; go_simp; (try with_reducible rfl)); simp only [Act.put, gqD, gqE, gqF]
      refine tkT 19 (v := ?v20) hS (fun wq hSq => ?y20) ?_; (case y20 => clear hSq; go_simp; (try with_reducible rfl)); simp only [Act.put, gqD, gqE, gqF]
      refine tkT 20 (v := ?v21) hS (fun wq hSq => ?y21) ?_; (case y21 => clear hSq; go_simp; (try with_reducible rfl)); simp only [Act.put, gqD, gqE, gqF]
      refine tkT 21 (v := ?v22) hS (fun wq hSq => ?y22) ?_; (case y22 => clear hSq; go_simp; (try with_reducible rfl)); simp only [Act.put, gqD, gqE, gqF]
      refine tkT 22 (v := ?v23) hS (fun wq hSq => ?y23) ?_; (case y23 => have hf0 := cell_new hSq h0; have hf1 := cell_new hSq h1; have hf2 := cell_new hSq h2; have hf3 := cell_new hSq g1; have hf4 := cell_new hSq y0; have hf5 := cell_new hSq y1; have hf6 := cell_new hSq y2; clear hSq; go_simp; (try with_reducible rfl)); simp only [Act.put, gqD, gqE, gqF]
      refine tkT 23 (v := ?v24) hS (fun wq hSq => ?y24) ?_; (case y24 => clear hSq; go_simp; (try with_reducible rfl)); simp only [Act.put, gqD, gqE, gqF]
      refine tkT 24 (v := ?v25) hS (fun wq hSq => ?y25) ?_; (case y25 => have hf0 := cell_new hSq h0; have hf1 := cell_new hSq h1; have hf2 := cell_new hSq h2; have hf3 := cell_new hSq g1; have hf4 := cell_new hSq y0; have hf5 := cell_new hSq y1; have hf6 := cell_new hSq y2; clear hSq; go_simp; (try with_reducible rfl)); simp only [Act.put, gqD, gqE, gqF]
      refine tkT 25 (v := ?v26) hS (fun wq hSq => ?y26) ?_; (case y26 => clear hSq; go_simp; (try with_reducible rfl)); simp only [Act.put, gqD, gqE, gqF]
      refine tkT 26 (v := ?v27) hS (fun wq hSq => ?y27) ?_; (case y27 => clear hSq; go_simp; (try with_reducible rfl)); simp only [Act.put, gqD, gqE, gqF]
      refine tkT 27 (v := ?v28) hS (fun wq hSq => ?y28) ?_; (case y28 => clear hSq; go_simp; (try with_reducible rfl)); simp only [Act.put, gqD, gqE, gqF]
      refine tkT 28 (v := ?v29) hS (fun wq hSq => ?y29) ?_; (case y29 => have hf0 := cell_new hSq h0; have hf1 := cell_new hSq h1; have hf2 := cell_new hSq h2; have hf3 := cell_new hSq g1; have hf4 := cell_new hSq y0; have hf5 := cell_new hSq y1; have hf6 := cell_new hSq y2; clear hSq; go_simp; (try with_reducible rfl)); simp only [Act.put, gqD, gqE, gqF]
      refine wpAnyH_ready (rs := [29]) (by kernel_rfl) (by simp) ?_
      refine AllReadyH.cons (o := ?oi30) ?hi30 (fun K hK => ?_) AllReadyH.nil
      case hi30 => (simp only [gqA, gqB, gqC]; rfl)
      go_simp
      with_reducible refine (HSM.out _ (hnr1.trans hS)).mono ?_
      rintro e w5 ⟨rfl, n5⟩
      refine hK.out _ _ (hS.trans n5) (fun hS => ?_)
      clear hK K
      refine tkT 30 (v := ?v31) hS (fun wq hSq => ?y31) ?_; (case y31 => clear hSq; go_simp; (try with_reducible rfl)); simp only [Act.put, gqD, gqE, gqF]
      refine tkT 31 (v := ?v32) hS (fun wq hSq => ?y32) ?_; (case y32 => clear hSq; go_simp; (try with_reducible rfl)); simp only [Act.put, gqD, gqE, gqF]
      refine wpAnyH_done (by kernel_rfl) ?_ _
      go_wp2
      go_roundw
      case rel => exact ⟨k + 1, by go_num, by omega, (hnr.trans hnr1).trans (by assumption), BB2.new (by assumption)⟩
      case measure => simp [intOf]; omega
    · obtain rfl : k = n := by omega
      go_wp2
      go_ret
      exact ⟨rfl, hnr⟩
end Go.Proofs.YtfeknjpinboknaaGreatDoor

namespace Go.Proofs.YtfeknjpinboknaaGreatDoor
open Go Go.RowKit Go.Joins Go.Shelf
set_option linter.unusedSimpArgs false
set_option linter.unusedVariables false

structure SmallP (base : ByteArray) (hs : List Hm) : Prop where
  b : base.size ≤ 100
  l : hs.length ≤ 40
  s : ∀ h ∈ hs, ∀ s ∈ h.lines, s.size ≤ 100
  n : (∀ h ∈ hs, h.lines.length ≤ 60) ∨ ∃ h ∈ hs, 1024 < h.lines.length
theorem SmallP.szh {base : ByteArray} {hs : List Hm} (h : SmallP base hs) (hn : ∀ h ∈ hs, h.lines.length ≤ maxLen) : SzH hs := ⟨by have := h.l; omega, fun x hx => by have := hn x hx; simpa only [maxLen] using this, fun x hx s hs => by have := h.s x hx s hs; omega⟩
def FewP (base : ByteArray) (hs : List Hm) (w : World) (e : Ending) (w' : World) : Prop := New w w' ∧ ∃ b, e = .returned (.bool b) ∧ (b = true → SmallP base hs)
set_option maxRecDepth 100000 in
set_option maxHeartbeats 16000000 in
theorem few_any (base : ByteArray) (A : Option Addr) (n c : Nat) (hs : List Hm) (w : World) (hr : PRd w A n hs) (hn : n ≤ maxLen) (hll : ∀ h ∈ hs, h.lines.length ≤ maxLen) :
    Calls Tryz.prog 12 #[.agg #[.string base, .slice A n c]] w (FewP base hs w) := by
  have HR := Lib.hid hr
  have HL := Lib.hid hr.len
  have HLL := Lib.hid hll
  have hn' : n ≤ 9223372036854775807 := by simp only [maxLen] at hn; omega
  have n1 := (New.refl w).alloc (.cells #[.string base, .slice A n c] 24)
  have B1 := Blk.made w 24 #[.string base, .slice A n c]
  have HN : Hid (∀ w', New w w' → FewP base hs w (.returned (.bool false)) w') := Lib.hid (fun w' h => ⟨h, false, rfl, fun h => by cases h⟩)
  have a1 := B1.cell' 1 _ rfl
  clear hr hll hn
  go_enter Tryz.func12, Tryz.ntmps12
  go_wp2
  clear a1
  go_loopw [3, 11] (fun v3 v11 wr => ∃ (t : Int) (k : Nat), v3 = .int .i64 t ∧ v11 = .int .i64 (k : Int) ∧ k ≤ n ∧ New w wr ∧ Blk wr w.heap.size 24 #[.string base, .slice A n c] ∧ Hid (∀ h ∈ hs.take k, ∀ s ∈ h.lines, s.size ≤ 100) ∧ Hid ((0 ≤ t ∧ t ≤ 60 ∧ ∀ h ∈ hs.take k, h.lines.length ≤ 60) ∨ ∃ h ∈ hs, 1024 < h.lines.length)) (fun _ v11 _ => n - (intOf v11).toNat)
  case atStart => exact ⟨0, 0, rfl, rfl, Nat.zero_le _, n1, B1, Lib.hid (fun h hh => by simp at hh), Lib.hid (Or.inl ⟨by omega, by omega, fun h hh => by simp at hh⟩)⟩
  case round =>
    obtain ⟨t, k, rfl, rfl, hk, hnr, BB, HS, HT⟩ := hrel
    by_cases hlt : k < n
    · obtain ⟨b1, o1, rfl, _, p, hp, hc1⟩ := rd_row (f := hmC) (k := 3) (fun _ => rfl) HL.out (HR.out.new hnr).rd hlt
      have lp := (HR.out.new hnr).ln p (List.mem_of_getElem? hp)
      have hzz := HLL.out p (List.mem_of_getElem? hp)
      have HMEM := Lib.hid (List.mem_of_getElem? hp)
      have HTK : Hid (hs.take (k + 1) = hs.take k ++ [p]) := Lib.hid (by rw [List.take_add_one, hp]; rfl)
      obtain ⟨pk, pn, pl, pa, pc⟩ := p
      simp only at lp hzz
      simp only [maxLen] at hzz
      have z0 := hc1 0 (.int .i64 pk) (by omega) rfl
      have z1 := hc1 1 (.int .i64 pn) (by omega) rfl
      have z2 := hc1 2 (.slice pa pl.length pc) (by omega) rfl
      simp only [Nat.add_zero] at z0
      rw [← Nat.add_assoc] at z1 z2
      have BH := Blk.made wr 55 #[.int .i64 pk, .int .i64 pn, .slice pa pl.length pc]
      have h2 := BH.cell' 2 _ rfl
      have BB2 := BB.alloc (.cells #[.int .i64 pk, .int .i64 pn, .slice pa pl.length pc] 55)
      have hnr1 := hnr.alloc (.cells #[.int .i64 pk, .int .i64 pn, .slice pa pl.length pc] 55)
      have i0' : (0 : Int) ≤ (k : Int) := by omega
      have i1' : (k : Int) < (n : Int) := by omega
      have HRD := Lib.hid (lp.1.below ((New.refl wr).alloc (.cells #[.int .i64 pk, .int .i64 pn, .slice pa pl.length pc] 55)))
      obtain ⟨nl, hnl⟩ : ∃ nl, pl.length = nl := ⟨_, rfl⟩
      have HNL := Lib.hid hnl
      rw [hnl] at hzz z2 BH h2 BB2 hnr1 HRD
      obtain ⟨tx, x1⟩ : ∃ tx, IntKind.i64.wrap (t + (nl : Int)) = tx := ⟨_, rfl⟩
      have HTX : Hid (tx ≤ 60 → ((0 ≤ tx ∧ tx ≤ 60 ∧ (∀ h ∈ hs.take (k + 1), h.lines.length ≤ 60)) ∨ ∃ h ∈ hs, 1024 < h.lines.length)) := Lib.hid (fun h60 => by
        rcases HT.out with ⟨g1, g2, g3⟩ | g
        · by_cases hb : 1024 < nl
          · exact Or.inr ⟨_, HMEM.out, by show 1024 < pl.length; omega⟩
          · have e : tx = t + (nl : Int) := by rw [← x1]; exact IntWalk.i64_in _ (by omega)
            refine Or.inl ⟨by omega, h60, fun h hh => ?_⟩
            rw [HTK.out] at hh
            rcases List.mem_append.1 hh with hh | hh
            · exact g3 h hh
            · rw [List.mem_singleton] at hh
              subst hh
              show pl.length ≤ 60
              omega
        · exact Or.inr g)
      clear hc1 hp lp hnl
      obtain ⟨wo, rfl⟩ : ∃ wo : World, wo = wr := ⟨_, rfl⟩
      by_cases x2 : (60 : Int) < tx
      · skip
        go_wp2
        go_ret
        exact HN.out _ hnr1
      · have HTY := Lib.hid (HTX.out (by omega))
        go_wp2
        go_loopw [7, 25] (fun v7 v25 wq => ∃ j : Nat, v25 = .int .i64 (j : Int) ∧ j ≤ nl ∧ wq = wo.alloc (.cells #[.int .i64 pk, .int .i64 pn, .slice pa nl pc] 55) ∧ Hid (∀ s ∈ pl.take j, s.size ≤ 100)) (fun _ v25 _ => nl - (intOf v25).toNat)
        case atStart => exact ⟨0, rfl, Nat.zero_le _, rfl, Lib.hid (fun s hs => by simp at hs)⟩
        case round =>
          obtain ⟨j, rfl, hj, rfl, HJ⟩ := hrel
          by_cases hlt2 : j < nl
          · obtain ⟨b2, o2, s, rfl, hs1, y0⟩ := rd_str HNL.out HRD.out hlt2
            have HTJ : Hid (pl.take (j + 1) = pl.take j ++ [s]) := Lib.hid (by rw [List.take_add_one, hs1]; rfl)
            have j0' : (0 : Int) ≤ (j : Int) := by omega
            have j1' : (j : Int) < (nl : Int) := by omega
            clear hs1
            by_cases hs2 : 100 < s.size
            · have x3 : (100 : Int) < (s.size : Int) := by omega
              go_wp2
              go_ret
              exact HN.out _ hnr1
            · have x3 : ¬ (100 : Int) < (s.size : Int) := by omega
              have HS2 : Hid (∀ u ∈ pl.take (j + 1), u.size ≤ 100) := Lib.hid (fun u hu => by
                rw [HTJ.out] at hu
                rcases List.mem_append.1 hu with hu | hu
                · exact HJ.out u hu
                · rw [List.mem_singleton] at hu; subst hu; omega)
              go_wp2
              go_roundw
              case rel => exact ⟨j + 1, by go_num, by omega, by first | rfl | trivial, HS2⟩
              case measure => simp [intOf]; omega
          · obtain rfl : j = nl := by omega
            go_wp2
            go_roundw
            case rel => exact ⟨tx, k + 1, by first | rfl | trivial, by go_num, by omega, hnr1, BB2, Lib.hid (fun h hh => by
              rw [HTK.out] at hh
              rcases List.mem_append.1 hh with hh | hh
              · exact HS.out h hh
              · rw [List.mem_singleton] at hh
                subst hh
                intro s hs
                have := HJ.out
                rw [List.take_of_length_le (by rw [HNL.out]; exact Nat.le_refl _)] at this
                exact this s hs), HTY⟩
            case measure => simp [intOf]; omega
    · obtain rfl : k = n := by omega
      have HS3 := HS.out
      rw [List.take_of_length_le (by rw [HL.out]; exact Nat.le_refl _)] at HS3
      have HS4 := Lib.hid HS3
      have HT4 : Hid ((∀ h ∈ hs, h.lines.length ≤ 60) ∨ ∃ h ∈ hs, 1024 < h.lines.length) := Lib.hid (by
        rcases HT.out with ⟨_, _, g⟩ | g
        · rw [List.take_of_length_le (by rw [HL.out]; exact Nat.le_refl _)] at g
          exact Or.inl g
        · exact Or.inr g)
      have HY : Hid (∀ w', k ≤ 40 → base.size ≤ 100 → New w w' → FewP base hs w (.returned (.bool true)) w') := Lib.hid (fun w' h1 h2 h3 => ⟨h3, true, rfl, fun _ => ⟨h2, by rw [HL.out]; exact h1, HS4.out, HT4.out⟩⟩)
      have c0 := BB.cell' 0 _ rfl
      have c1 := BB.cell' 1 _ rfl
      clear HS3
      by_cases h40 : k ≤ 40
      · have x1 : (k : Int) ≤ 40 := by omega
        by_cases h100 : base.size ≤ 100
        · have x2 : (base.size : Int) ≤ 100 := by omega
          go_wp2
          go_ret
          exact HY.out _ h40 h100 hnr
        · have x2 : ¬ (base.size : Int) ≤ 100 := by omega
          go_wp2
          go_ret
          exact HN.out _ hnr
      · have x1 : ¬ (k : Int) ≤ 40 := by omega
        go_wp2
        go_ret
        exact HN.out _ hnr
end Go.Proofs.YtfeknjpinboknaaGreatDoor

