/- The step functions unary and binary (regions that draw their order). Conditions: sizes. (Printed by mk-t12.py.) The table of instructions. No conditions. (Printed by mk-t13.py.) -/
import Derived.Test.YtnjampfhkojbnaaGreatDoorGBase
import Derived.Test.YtnjampfhkojbnaaGreatDoorGT11

namespace Go.Proofs.YtnjampfhkojbnaaGreatDoor
open Go Go.RowKit
set_option linter.unusedSimpArgs false
set_option linter.unusedVariables false

theorem un_cell (w : World) (k : Nat) (hk : k < 3) : (w.alloc (.cells #[.string ⟨#[45]⟩, .string ⟨#[126]⟩, .string ⟨#[33]⟩] 9)).cell? ⟨w.heap.size, k, none⟩ = some (.string (unS k)) := by
  rw [cell_of_row _ w.heap.size k _ 9 (0, 0) (heap_alloc_new w _)]
  match k, hk with
  | 0, _ => rfl
  | 1, _ => rfl
  | 2, _ => rfl
theorem bin_cell (w : World) (k : Nat) (hk : k < 18) : (w.alloc (.cells #[.string ⟨#[124, 124]⟩, .string ⟨#[38, 38]⟩, .string ⟨#[124]⟩, .string ⟨#[94]⟩, .string ⟨#[38]⟩, .string ⟨#[61, 61]⟩, .string ⟨#[33, 61]⟩, .string ⟨#[60]⟩, .string ⟨#[60, 61]⟩, .string ⟨#[62]⟩, .string ⟨#[62, 61]⟩, .string ⟨#[60, 60]⟩, .string ⟨#[62, 62]⟩, .string ⟨#[43]⟩, .string ⟨#[45]⟩, .string ⟨#[42]⟩, .string ⟨#[47]⟩, .string ⟨#[37]⟩] 9)).cell? ⟨w.heap.size, k, none⟩ = some (.string (binS k)) := by
  rw [cell_of_row _ w.heap.size k _ 9 (0, 0) (heap_alloc_new w _)]
  match k, hk with
  | 0, _ => rfl
  | 1, _ => rfl
  | 2, _ => rfl
  | 3, _ => rfl
  | 4, _ => rfl
  | 5, _ => rfl
  | 6, _ => rfl
  | 7, _ => rfl
  | 8, _ => rfl
  | 9, _ => rfl
  | 10, _ => rfl
  | 11, _ => rfl
  | 12, _ => rfl
  | 13, _ => rfl
  | 14, _ => rfl
  | 15, _ => rfl
  | 16, _ => rfl
  | 17, _ => rfl
  | n + 18, h => exact absurd h (by omega)
section
variable {w0 w : World} {m g mc r : Nat} {PL : Value} {s : Mc} {qs : List Nat} {q C : Nat} {VA V FV OV : Value} {n : Int} {val : Nat}
theorem ne_some {a b : Nat} (h : a < b) : (some b : Option Nat) ≠ some a := fun e => by injection e with e; omega
set_option maxRecDepth 100000 in
set_option maxHeartbeats 16000000 in
theorem rununary_any (x : Nat) (h : RM w0 w m g mc r PL s qs q C VA V FV OV n val) (hd : s.low.length ≤ 1000) (hs : stkN s ≤ 100000) (ht : 1 ≤ s.top.vals.length) (hb : ∀ x ∈ s.top.vals, x < 4294967296) (hx : x < 3) :
    Calls Tryz.prog 95 #[.pointer (some ⟨r, 0, none⟩), .int .u32 (x : Int)] w (DoP w0 m g mc r PL n (execV 8 x s)) := by
  obtain ⟨vs, y, hv, hvl, e1, e2⟩ := last_val (k := 0) (l := s.top.vals) (by omega)
  have hy : y < 4294967296 := hb y (by rw [hv]; simp)
  have hq : qs.length ≤ 1000 := by rw [h.ly.len]; exact hd
  have hvs : vs.length ≤ 100000 := by have h9 := hs; unfold stkN at h9; omega
  have hs2 : stkN (s.put vs) ≤ 100000 := by have h9 := stk_put s vs; omega
  have HT := Lib.hid (fun (W : World) (V2 : Value) (hR : RM w0 W m g mc r PL s qs q C VA V2 FV OV n val) => top_any hR hq)
  have HO := Lib.hid (fun (W : World) (V2 : Value) (hR : RM w0 W m g mc r PL s qs q C VA V2 FV OV n val) => pop_far hR hv hvs)
  have e0 : execV 8 x s = pushV (unV x y) (s.put vs) := by simp only [execV, e1, e2]
  rw [e0]
  have HU := Lib.hid (fun (W : World) => unary_any x y W hx hy)
  have HP := Lib.hid (fun (W : World) (V2 : Value) (hR : RM w0 W m g mc r PL (s.put vs) qs q C VA V2 FV OV n val) => push_any (unV x y) hR hd hs2)
  generalize unV x y = u at *
  generalize pushV u (s.put vs) = O at *
  have RC0 := Lib.hid h
  have k1 : (x : Int) < 3 := by omega
  have k2 : (0 : Int) ≤ (x : Int) := by omega
  clear h hv e1 e2 e0 hb hs hs2 hvs hvl hq hd ht hy
  go_enter Tryz.func95, Tryz.ntmps95
  go_wp2_with (fail)
  refine wp_region_held_drew (S := fun _ => True) (by kernel_rfl) trivial (fun hS => ?_)
  have RC := Lib.hid RC0.out.drew
  generalize w.drew = wC at *
  clear RC0
  refine tkT 1 (v := ?v1) hS (fun wq hSq => ?y1) ?_; (case y1 => clear hSq; go_simp; (try with_reducible rfl)); simp only [Act.put, gqD, gqE, gqF]
  refine tkT 4 (v := ?v2) hS (fun wq hSq => ?y2) ?_; (case y2 => clear hSq; go_simp; (try with_reducible rfl)); simp only [Act.put, gqD, gqE, gqF]
  refine wpAnyH_ready (rs := [0, 5]) (by kernel_rfl) (by simp) ?_
  refine AllReadyH.cons (o := ?oi3) ?hi3 (fun K hK => ?_) (AllReadyH.cons (o := ?oi4) ?hi4 (fun K hK => ?_) AllReadyH.nil)
  case hi3 => (simp only [gqA, gqB, gqC]; rfl)
  case hi4 => (simp only [gqA, gqB, gqC]; rfl)
  · go_simp
    refine hK.out _ _ (trivial) (fun hS => ?_)
    clear hK K
    have hqP := RC.out.lo.2.2
    have RC := Lib.hid (RC.out.new ((New.refl _).alloc (.cells #[.string ⟨#[45]⟩, .string ⟨#[126]⟩, .string ⟨#[33]⟩] 9)))
    have NB9 := un_cell wC x hx
    generalize wC.alloc (.cells #[.string ⟨#[45]⟩, .string ⟨#[126]⟩, .string ⟨#[33]⟩] 9) = wA at *
    generalize wC.heap.size = P at *
    have hPq := ne_some hqP
    clear hqP
    have NB := Lib.hid NB9
    clear NB9
    refine wpAnyH_strong (S' := fun W => W.cell? ⟨P, x, none⟩ = some (.string (unS x))) (fun _ _ => trivial) _ ?_
    have hS := NB.out
    obtain ⟨wC, rfl⟩ : ∃ wC : World, wC = wA := ⟨_, rfl⟩
    refine tkT 2 (v := ?v5) hS (fun wq hSq => ?y5) ?_; (case y5 => clear hSq; go_simp; (try with_reducible rfl)); simp only [Act.put, gqD, gqE, gqF]
    refine tkT 3 (v := ?v6) hS (fun wq hSq => ?y6) ?_; (case y6 => have hf0 := hSq; clear hSq; go_simp; (try with_reducible rfl)); simp only [Act.put, gqD, gqE, gqF]
    refine wpAnyH_ready (rs := [5]) (by kernel_rfl) (by simp) ?_
    refine AllReadyH.cons (o := ?oi7) ?hi7 (fun K hK => ?_) AllReadyH.nil
    case hi7 => (simp only [gqA, gqB, gqC]; rfl)
    go_simp
    with_reducible refine (HT.out _ _ RC.out).mono ?_
    rintro e wC ⟨rfl, nD⟩
    have RC := Lib.hid (RC.out.new nD)
    have NB := Lib.hid (cellN nD NB.out)
    refine hK.out _ _ (NB.out) (fun hS => ?_)
    clear hK K
    refine wpAnyH_ready (rs := [6]) (by kernel_rfl) (by simp) ?_
    refine AllReadyH.cons (o := ?oi8) ?hi8 (fun K hK => ?_) AllReadyH.nil
    case hi8 => (simp only [gqA, gqB, gqC]; rfl)
    go_simp
    with_reducible refine (HO.out _ _ RC.out).mono ?_
    rintro e wC ⟨rfl, ⟨V2, RP⟩, gE⟩
    have RC := Lib.hid RP
    clear RP
    have NB := Lib.hid (gE.cell NB.out hPq)
    refine hK.out _ _ (NB.out) (fun hS => ?_)
    clear hK K
    refine wpAnyH_ready (rs := [7]) (by kernel_rfl) (by simp) ?_
    refine AllReadyH.cons (o := ?oi9) ?hi9 (fun K hK => ?_) AllReadyH.nil
    case hi9 => (simp only [gqA, gqB, gqC]; rfl)
    go_simp
    with_reducible refine (HU.out _).mono ?_
    rintro e wD ⟨rfl, hw⟩
    rw [hw]
    clear hw
    refine hK.out _ _ (NB.out) (fun hS => ?_)
    clear hK K
    refine tkT 8 (v := ?v10) hS (fun wq hSq => ?y10) ?_; (case y10 => clear hSq; go_simp; (try with_reducible rfl)); simp only [Act.put, gqD, gqE, gqF]
    refine tkT 9 (v := ?v11) hS (fun wq hSq => ?y11) ?_; (case y11 => clear hSq; go_simp; (try with_reducible rfl)); simp only [Act.put, gqD, gqE, gqF]
    refine tkT 10 (v := ?v12) hS (fun wq hSq => ?y12) ?_; (case y12 => clear hSq; go_simp; (try with_reducible rfl)); simp only [Act.put, gqD, gqE, gqF]
    refine tkT 11 (v := ?v13) hS (fun wq hSq => ?y13) ?_; (case y13 => clear hSq; go_simp; (try with_reducible rfl)); simp only [Act.put, gqD, gqE, gqF]
    refine tkT 12 (v := ?v14) hS (fun wq hSq => ?y14) ?_; (case y14 => clear hSq; go_simp; (try with_reducible rfl)); simp only [Act.put, gqD, gqE, gqF]
    refine wpAnyH_done (by kernel_rfl) ?_ _
    go_wp2_with (go_at_call 123; (with_reducible refine (HP.out _ _ RC.out).mono ?_); rintro e w9 hO; obtain ⟨cc, rfl, hO⟩ := hO.ret)
    go_ret
    exact hO
  · go_simp
    with_reducible refine (HT.out _ _ RC.out).mono ?_
    rintro e wC ⟨rfl, nD⟩
    have RC := Lib.hid (RC.out.new nD)
    refine hK.out _ _ (trivial) (fun hS => ?_)
    clear hK K
    refine wpAnyH_ready (rs := [0, 6]) (by kernel_rfl) (by simp) ?_
    refine AllReadyH.cons (o := ?oi15) ?hi15 (fun K hK => ?_) (AllReadyH.cons (o := ?oi16) ?hi16 (fun K hK => ?_) AllReadyH.nil)
    case hi15 => (simp only [gqA, gqB, gqC]; rfl)
    case hi16 => (simp only [gqA, gqB, gqC]; rfl)
    · go_simp
      refine hK.out _ _ (trivial) (fun hS => ?_)
      clear hK K
      have hqP := RC.out.lo.2.2
      have RC := Lib.hid (RC.out.new ((New.refl _).alloc (.cells #[.string ⟨#[45]⟩, .string ⟨#[126]⟩, .string ⟨#[33]⟩] 9)))
      have NB9 := un_cell wC x hx
      generalize wC.alloc (.cells #[.string ⟨#[45]⟩, .string ⟨#[126]⟩, .string ⟨#[33]⟩] 9) = wA at *
      generalize wC.heap.size = P at *
      have hPq := ne_some hqP
      clear hqP
      have NB := Lib.hid NB9
      clear NB9
      refine wpAnyH_strong (S' := fun W => W.cell? ⟨P, x, none⟩ = some (.string (unS x))) (fun _ _ => trivial) _ ?_
      have hS := NB.out
      obtain ⟨wC, rfl⟩ : ∃ wC : World, wC = wA := ⟨_, rfl⟩
      refine tkT 2 (v := ?v17) hS (fun wq hSq => ?y17) ?_; (case y17 => clear hSq; go_simp; (try with_reducible rfl)); simp only [Act.put, gqD, gqE, gqF]
      refine tkT 3 (v := ?v18) hS (fun wq hSq => ?y18) ?_; (case y18 => have hf0 := hSq; clear hSq; go_simp; (try with_reducible rfl)); simp only [Act.put, gqD, gqE, gqF]
      refine wpAnyH_ready (rs := [6]) (by kernel_rfl) (by simp) ?_
      refine AllReadyH.cons (o := ?oi19) ?hi19 (fun K hK => ?_) AllReadyH.nil
      case hi19 => (simp only [gqA, gqB, gqC]; rfl)
      go_simp
      with_reducible refine (HO.out _ _ RC.out).mono ?_
      rintro e wC ⟨rfl, ⟨V2, RP⟩, gE⟩
      have RC := Lib.hid RP
      clear RP
      have NB := Lib.hid (gE.cell NB.out hPq)
      refine hK.out _ _ (NB.out) (fun hS => ?_)
      clear hK K
      refine wpAnyH_ready (rs := [7]) (by kernel_rfl) (by simp) ?_
      refine AllReadyH.cons (o := ?oi20) ?hi20 (fun K hK => ?_) AllReadyH.nil
      case hi20 => (simp only [gqA, gqB, gqC]; rfl)
      go_simp
      with_reducible refine (HU.out _).mono ?_
      rintro e wD ⟨rfl, hw⟩
      rw [hw]
      clear hw
      refine hK.out _ _ (NB.out) (fun hS => ?_)
      clear hK K
      refine tkT 8 (v := ?v21) hS (fun wq hSq => ?y21) ?_; (case y21 => clear hSq; go_simp; (try with_reducible rfl)); simp only [Act.put, gqD, gqE, gqF]
      refine tkT 9 (v := ?v22) hS (fun wq hSq => ?y22) ?_; (case y22 => clear hSq; go_simp; (try with_reducible rfl)); simp only [Act.put, gqD, gqE, gqF]
      refine tkT 10 (v := ?v23) hS (fun wq hSq => ?y23) ?_; (case y23 => clear hSq; go_simp; (try with_reducible rfl)); simp only [Act.put, gqD, gqE, gqF]
      refine tkT 11 (v := ?v24) hS (fun wq hSq => ?y24) ?_; (case y24 => clear hSq; go_simp; (try with_reducible rfl)); simp only [Act.put, gqD, gqE, gqF]
      refine tkT 12 (v := ?v25) hS (fun wq hSq => ?y25) ?_; (case y25 => clear hSq; go_simp; (try with_reducible rfl)); simp only [Act.put, gqD, gqE, gqF]
      refine wpAnyH_done (by kernel_rfl) ?_ _
      go_wp2_with (go_at_call 123; (with_reducible refine (HP.out _ _ RC.out).mono ?_); rintro e w9 hO; obtain ⟨cc, rfl, hO⟩ := hO.ret)
      go_ret
      exact hO
    · go_simp
      with_reducible refine (HO.out _ _ RC.out).mono ?_
      rintro e wC ⟨rfl, ⟨V2, RP⟩, gE⟩
      have RC := Lib.hid RP
      clear RP
      refine hK.out _ _ (trivial) (fun hS => ?_)
      clear hK K
      refine wpAnyH_ready (rs := [0]) (by kernel_rfl) (by simp) ?_
      refine AllReadyH.cons (o := ?oi26) ?hi26 (fun K hK => ?_) AllReadyH.nil
      case hi26 => (simp only [gqA, gqB, gqC]; rfl)
      go_simp
      refine hK.out _ _ (trivial) (fun hS => ?_)
      clear hK K
      have hqP := RC.out.lo.2.2
      have RC := Lib.hid (RC.out.new ((New.refl _).alloc (.cells #[.string ⟨#[45]⟩, .string ⟨#[126]⟩, .string ⟨#[33]⟩] 9)))
      have NB9 := un_cell wC x hx
      generalize wC.alloc (.cells #[.string ⟨#[45]⟩, .string ⟨#[126]⟩, .string ⟨#[33]⟩] 9) = wA at *
      generalize wC.heap.size = P at *
      have hPq := ne_some hqP
      clear hqP
      have NB := Lib.hid NB9
      clear NB9
      refine wpAnyH_strong (S' := fun W => W.cell? ⟨P, x, none⟩ = some (.string (unS x))) (fun _ _ => trivial) _ ?_
      have hS := NB.out
      obtain ⟨wC, rfl⟩ : ∃ wC : World, wC = wA := ⟨_, rfl⟩
      refine tkT 2 (v := ?v27) hS (fun wq hSq => ?y27) ?_; (case y27 => clear hSq; go_simp; (try with_reducible rfl)); simp only [Act.put, gqD, gqE, gqF]
      refine tkT 3 (v := ?v28) hS (fun wq hSq => ?y28) ?_; (case y28 => have hf0 := hSq; clear hSq; go_simp; (try with_reducible rfl)); simp only [Act.put, gqD, gqE, gqF]
      refine wpAnyH_ready (rs := [7]) (by kernel_rfl) (by simp) ?_
      refine AllReadyH.cons (o := ?oi29) ?hi29 (fun K hK => ?_) AllReadyH.nil
      case hi29 => (simp only [gqA, gqB, gqC]; rfl)
      go_simp
      with_reducible refine (HU.out _).mono ?_
      rintro e wD ⟨rfl, hw⟩
      rw [hw]
      clear hw
      refine hK.out _ _ (NB.out) (fun hS => ?_)
      clear hK K
      refine tkT 8 (v := ?v30) hS (fun wq hSq => ?y30) ?_; (case y30 => clear hSq; go_simp; (try with_reducible rfl)); simp only [Act.put, gqD, gqE, gqF]
      refine tkT 9 (v := ?v31) hS (fun wq hSq => ?y31) ?_; (case y31 => clear hSq; go_simp; (try with_reducible rfl)); simp only [Act.put, gqD, gqE, gqF]
      refine tkT 10 (v := ?v32) hS (fun wq hSq => ?y32) ?_; (case y32 => clear hSq; go_simp; (try with_reducible rfl)); simp only [Act.put, gqD, gqE, gqF]
      refine tkT 11 (v := ?v33) hS (fun wq hSq => ?y33) ?_; (case y33 => clear hSq; go_simp; (try with_reducible rfl)); simp only [Act.put, gqD, gqE, gqF]
      refine tkT 12 (v := ?v34) hS (fun wq hSq => ?y34) ?_; (case y34 => clear hSq; go_simp; (try with_reducible rfl)); simp only [Act.put, gqD, gqE, gqF]
      refine wpAnyH_done (by kernel_rfl) ?_ _
      go_wp2_with (go_at_call 123; (with_reducible refine (HP.out _ _ RC.out).mono ?_); rintro e w9 hO; obtain ⟨cc, rfl, hO⟩ := hO.ret)
      go_ret
      exact hO
set_option maxRecDepth 100000 in
set_option maxHeartbeats 16000000 in
theorem runbinary_any (x : Nat) (h : RM w0 w m g mc r PL s qs q C VA V FV OV n val) (hd : s.low.length ≤ 1000) (hs : stkN s ≤ 100000) (ht : 2 ≤ s.top.vals.length) (hb : ∀ x ∈ s.top.vals, x < 4294967296) (hx : x < 18) :
    Calls Tryz.prog 96 #[.pointer (some ⟨r, 0, none⟩), .int .u32 (x : Int)] w (DoP w0 m g mc r PL n (execV 9 x s)) := by
  obtain ⟨vs, y, z, hv, hvl, e1, e2, e3⟩ := last_two ht
  have hy : y < 4294967296 := hb y (by rw [hv]; simp)
  have hz : z < 4294967296 := hb z (by rw [hv]; simp)
  have hq : qs.length ≤ 1000 := by rw [h.ly.len]; exact hd
  have hvs : vs.length + 1 ≤ 100000 := by have h9 := hs; unfold stkN at h9; omega
  have hs2 : stkN (s.put vs) ≤ 100000 := by have h9 := stk_put s vs; omega
  have HT1 := Lib.hid (top_any h hq)
  have HO1 := Lib.hid (fun (W : World) (hn : New w W) => pop_any (h.new hn) hv (by simp; omega))
  have HT := Lib.hid (fun (W : World) (V2 : Value) (hR : RM w0 W m g mc r PL (s.put (vs ++ [y])) qs q C VA V2 FV OV n val) => top_any hR hq)
  have HO := Lib.hid (fun (W : World) (V2 : Value) (hR : RM w0 W m g mc r PL (s.put (vs ++ [y])) qs q C VA V2 FV OV n val) => pop_far (vs := vs) (x := y) hR rfl (by omega))
  have e0 : execV 9 x s = pushV (binV x y z) (s.put vs) := by simp only [execV, e1, e2, e3]
  rw [e0]
  have HU := Lib.hid (fun (W : World) => binary_any x y z W hx hy hz)
  have HP := Lib.hid (fun (W : World) (V2 : Value) (hR : RM w0 W m g mc r PL (s.put vs) qs q C VA V2 FV OV n val) => push_any (binV x y z) hR hd hs2)
  generalize binV x y z = u at *
  generalize pushV u (s.put vs) = O at *
  have RC0 := Lib.hid h
  have k1 : (x : Int) < 18 := by omega
  have k2 : (0 : Int) ≤ (x : Int) := by omega
  clear h hv e1 e2 e3 e0 hb hs hs2 hvs hvl hq hd ht hy hz
  go_enter Tryz.func96, Tryz.ntmps96
  go_wp2_with (first
    | (go_at_call 124; (with_reducible refine (HO1.out _ n1).mono ?_); rintro e w2 ⟨rfl, V2, R2⟩)
    | (go_at_call 58; (with_reducible refine HT1.out.mono ?_); rintro e w1 ⟨rfl, n1⟩))
  refine wp_region_held_drew (S := fun _ => True) (by kernel_rfl) trivial (fun hS => ?_)
  have RC := Lib.hid R2.drew
  generalize w2.drew = wC at *
  clear RC0 R2
  refine tkT 1 (v := ?v1) hS (fun wq hSq => ?y1) ?_; (case y1 => clear hSq; go_simp; (try with_reducible rfl)); simp only [Act.put, gqD, gqE, gqF]
  refine tkT 4 (v := ?v2) hS (fun wq hSq => ?y2) ?_; (case y2 => clear hSq; go_simp; (try with_reducible rfl)); simp only [Act.put, gqD, gqE, gqF]
  refine tkT 7 (v := ?v3) hS (fun wq hSq => ?y3) ?_; (case y3 => clear hSq; go_simp; (try with_reducible rfl)); simp only [Act.put, gqD, gqE, gqF]
  refine wpAnyH_ready (rs := [0, 5]) (by kernel_rfl) (by simp) ?_
  refine AllReadyH.cons (o := ?oi4) ?hi4 (fun K hK => ?_) (AllReadyH.cons (o := ?oi5) ?hi5 (fun K hK => ?_) AllReadyH.nil)
  case hi4 => (simp only [gqA, gqB, gqC]; rfl)
  case hi5 => (simp only [gqA, gqB, gqC]; rfl)
  · go_simp
    refine hK.out _ _ (trivial) (fun hS => ?_)
    clear hK K
    have hqP := RC.out.lo.2.2
    have RC := Lib.hid (RC.out.new ((New.refl _).alloc (.cells #[.string ⟨#[124, 124]⟩, .string ⟨#[38, 38]⟩, .string ⟨#[124]⟩, .string ⟨#[94]⟩, .string ⟨#[38]⟩, .string ⟨#[61, 61]⟩, .string ⟨#[33, 61]⟩, .string ⟨#[60]⟩, .string ⟨#[60, 61]⟩, .string ⟨#[62]⟩, .string ⟨#[62, 61]⟩, .string ⟨#[60, 60]⟩, .string ⟨#[62, 62]⟩, .string ⟨#[43]⟩, .string ⟨#[45]⟩, .string ⟨#[42]⟩, .string ⟨#[47]⟩, .string ⟨#[37]⟩] 9)))
    have NB9 := bin_cell wC x hx
    generalize wC.alloc (.cells #[.string ⟨#[124, 124]⟩, .string ⟨#[38, 38]⟩, .string ⟨#[124]⟩, .string ⟨#[94]⟩, .string ⟨#[38]⟩, .string ⟨#[61, 61]⟩, .string ⟨#[33, 61]⟩, .string ⟨#[60]⟩, .string ⟨#[60, 61]⟩, .string ⟨#[62]⟩, .string ⟨#[62, 61]⟩, .string ⟨#[60, 60]⟩, .string ⟨#[62, 62]⟩, .string ⟨#[43]⟩, .string ⟨#[45]⟩, .string ⟨#[42]⟩, .string ⟨#[47]⟩, .string ⟨#[37]⟩] 9) = wA at *
    generalize wC.heap.size = P at *
    have hPq := ne_some hqP
    clear hqP
    have NB := Lib.hid NB9
    clear NB9
    refine wpAnyH_strong (S' := fun W => W.cell? ⟨P, x, none⟩ = some (.string (binS x))) (fun _ _ => trivial) _ ?_
    have hS := NB.out
    obtain ⟨wC, rfl⟩ : ∃ wC : World, wC = wA := ⟨_, rfl⟩
    refine tkT 2 (v := ?v6) hS (fun wq hSq => ?y6) ?_; (case y6 => clear hSq; go_simp; (try with_reducible rfl)); simp only [Act.put, gqD, gqE, gqF]
    refine tkT 3 (v := ?v7) hS (fun wq hSq => ?y7) ?_; (case y7 => have hf0 := hSq; clear hSq; go_simp; (try with_reducible rfl)); simp only [Act.put, gqD, gqE, gqF]
    refine wpAnyH_ready (rs := [5]) (by kernel_rfl) (by simp) ?_
    refine AllReadyH.cons (o := ?oi8) ?hi8 (fun K hK => ?_) AllReadyH.nil
    case hi8 => (simp only [gqA, gqB, gqC]; rfl)
    go_simp
    with_reducible refine (HT.out _ _ RC.out).mono ?_
    rintro e wC ⟨rfl, nD⟩
    have RC := Lib.hid (RC.out.new nD)
    have NB := Lib.hid (cellN nD NB.out)
    refine hK.out _ _ (NB.out) (fun hS => ?_)
    clear hK K
    refine wpAnyH_ready (rs := [6]) (by kernel_rfl) (by simp) ?_
    refine AllReadyH.cons (o := ?oi9) ?hi9 (fun K hK => ?_) AllReadyH.nil
    case hi9 => (simp only [gqA, gqB, gqC]; rfl)
    go_simp
    with_reducible refine (HO.out _ _ RC.out).mono ?_
    rintro e wC ⟨rfl, ⟨V2, RP⟩, gE⟩
    have RC := Lib.hid RP
    clear RP
    have NB := Lib.hid (gE.cell NB.out hPq)
    refine hK.out _ _ (NB.out) (fun hS => ?_)
    clear hK K
    refine wpAnyH_ready (rs := [8]) (by kernel_rfl) (by simp) ?_
    refine AllReadyH.cons (o := ?oi10) ?hi10 (fun K hK => ?_) AllReadyH.nil
    case hi10 => (simp only [gqA, gqB, gqC]; rfl)
    go_simp
    with_reducible refine (HU.out _).mono ?_
    rintro e wD ⟨rfl, hw⟩
    rw [hw]
    clear hw
    refine hK.out _ _ (NB.out) (fun hS => ?_)
    clear hK K
    refine tkT 9 (v := ?v11) hS (fun wq hSq => ?y11) ?_; (case y11 => clear hSq; go_simp; (try with_reducible rfl)); simp only [Act.put, gqD, gqE, gqF]
    refine tkT 10 (v := ?v12) hS (fun wq hSq => ?y12) ?_; (case y12 => clear hSq; go_simp; (try with_reducible rfl)); simp only [Act.put, gqD, gqE, gqF]
    refine tkT 11 (v := ?v13) hS (fun wq hSq => ?y13) ?_; (case y13 => clear hSq; go_simp; (try with_reducible rfl)); simp only [Act.put, gqD, gqE, gqF]
    refine tkT 12 (v := ?v14) hS (fun wq hSq => ?y14) ?_; (case y14 => clear hSq; go_simp; (try with_reducible rfl)); simp only [Act.put, gqD, gqE, gqF]
    refine tkT 13 (v := ?v15) hS (fun wq hSq => ?y15) ?_; (case y15 => clear hSq; go_simp; (try with_reducible rfl)); simp only [Act.put, gqD, gqE, gqF]
    refine wpAnyH_done (by kernel_rfl) ?_ _
    go_wp2_with (go_at_call 123; (with_reducible refine (HP.out _ _ RC.out).mono ?_); rintro e w9 hO; obtain ⟨cc, rfl, hO⟩ := hO.ret)
    go_ret
    exact hO
  · go_simp
    with_reducible refine (HT.out _ _ RC.out).mono ?_
    rintro e wC ⟨rfl, nD⟩
    have RC := Lib.hid (RC.out.new nD)
    refine hK.out _ _ (trivial) (fun hS => ?_)
    clear hK K
    refine wpAnyH_ready (rs := [0, 6]) (by kernel_rfl) (by simp) ?_
    refine AllReadyH.cons (o := ?oi16) ?hi16 (fun K hK => ?_) (AllReadyH.cons (o := ?oi17) ?hi17 (fun K hK => ?_) AllReadyH.nil)
    case hi16 => (simp only [gqA, gqB, gqC]; rfl)
    case hi17 => (simp only [gqA, gqB, gqC]; rfl)
    · go_simp
      refine hK.out _ _ (trivial) (fun hS => ?_)
      clear hK K
      have hqP := RC.out.lo.2.2
      have RC := Lib.hid (RC.out.new ((New.refl _).alloc (.cells #[.string ⟨#[124, 124]⟩, .string ⟨#[38, 38]⟩, .string ⟨#[124]⟩, .string ⟨#[94]⟩, .string ⟨#[38]⟩, .string ⟨#[61, 61]⟩, .string ⟨#[33, 61]⟩, .string ⟨#[60]⟩, .string ⟨#[60, 61]⟩, .string ⟨#[62]⟩, .string ⟨#[62, 61]⟩, .string ⟨#[60, 60]⟩, .string ⟨#[62, 62]⟩, .string ⟨#[43]⟩, .string ⟨#[45]⟩, .string ⟨#[42]⟩, .string ⟨#[47]⟩, .string ⟨#[37]⟩] 9)))
      have NB9 := bin_cell wC x hx
      generalize wC.alloc (.cells #[.string ⟨#[124, 124]⟩, .string ⟨#[38, 38]⟩, .string ⟨#[124]⟩, .string ⟨#[94]⟩, .string ⟨#[38]⟩, .string ⟨#[61, 61]⟩, .string ⟨#[33, 61]⟩, .string ⟨#[60]⟩, .string ⟨#[60, 61]⟩, .string ⟨#[62]⟩, .string ⟨#[62, 61]⟩, .string ⟨#[60, 60]⟩, .string ⟨#[62, 62]⟩, .string ⟨#[43]⟩, .string ⟨#[45]⟩, .string ⟨#[42]⟩, .string ⟨#[47]⟩, .string ⟨#[37]⟩] 9) = wA at *
      generalize wC.heap.size = P at *
      have hPq := ne_some hqP
      clear hqP
      have NB := Lib.hid NB9
      clear NB9
      refine wpAnyH_strong (S' := fun W => W.cell? ⟨P, x, none⟩ = some (.string (binS x))) (fun _ _ => trivial) _ ?_
      have hS := NB.out
      obtain ⟨wC, rfl⟩ : ∃ wC : World, wC = wA := ⟨_, rfl⟩
      refine tkT 2 (v := ?v18) hS (fun wq hSq => ?y18) ?_; (case y18 => clear hSq; go_simp; (try with_reducible rfl)); simp only [Act.put, gqD, gqE, gqF]
      refine tkT 3 (v := ?v19) hS (fun wq hSq => ?y19) ?_; (case y19 => have hf0 := hSq; clear hSq; go_simp; (try with_reducible rfl)); simp only [Act.put, gqD, gqE, gqF]
      refine wpAnyH_ready (rs := [6]) (by kernel_rfl) (by simp) ?_
      refine AllReadyH.cons (o := ?oi20) ?hi20 (fun K hK => ?_) AllReadyH.nil
      case hi20 => (simp only [gqA, gqB, gqC]; rfl)
      go_simp
      with_reducible refine (HO.out _ _ RC.out).mono ?_
      rintro e wC ⟨rfl, ⟨V2, RP⟩, gE⟩
      have RC := Lib.hid RP
      clear RP
      have NB := Lib.hid (gE.cell NB.out hPq)
      refine hK.out _ _ (NB.out) (fun hS => ?_)
      clear hK K
      refine wpAnyH_ready (rs := [8]) (by kernel_rfl) (by simp) ?_
      refine AllReadyH.cons (o := ?oi21) ?hi21 (fun K hK => ?_) AllReadyH.nil
      case hi21 => (simp only [gqA, gqB, gqC]; rfl)
      go_simp
      with_reducible refine (HU.out _).mono ?_
      rintro e wD ⟨rfl, hw⟩
      rw [hw]
      clear hw
      refine hK.out _ _ (NB.out) (fun hS => ?_)
      clear hK K
      refine tkT 9 (v := ?v22) hS (fun wq hSq => ?y22) ?_; (case y22 => clear hSq; go_simp; (try with_reducible rfl)); simp only [Act.put, gqD, gqE, gqF]
      refine tkT 10 (v := ?v23) hS (fun wq hSq => ?y23) ?_; (case y23 => clear hSq; go_simp; (try with_reducible rfl)); simp only [Act.put, gqD, gqE, gqF]
      refine tkT 11 (v := ?v24) hS (fun wq hSq => ?y24) ?_; (case y24 => clear hSq; go_simp; (try with_reducible rfl)); simp only [Act.put, gqD, gqE, gqF]
      refine tkT 12 (v := ?v25) hS (fun wq hSq => ?y25) ?_; (case y25 => clear hSq; go_simp; (try with_reducible rfl)); simp only [Act.put, gqD, gqE, gqF]
      refine tkT 13 (v := ?v26) hS (fun wq hSq => ?y26) ?_; (case y26 => clear hSq; go_simp; (try with_reducible rfl)); simp only [Act.put, gqD, gqE, gqF]
      refine wpAnyH_done (by kernel_rfl) ?_ _
      go_wp2_with (go_at_call 123; (with_reducible refine (HP.out _ _ RC.out).mono ?_); rintro e w9 hO; obtain ⟨cc, rfl, hO⟩ := hO.ret)
      go_ret
      exact hO
    · go_simp
      with_reducible refine (HO.out _ _ RC.out).mono ?_
      rintro e wC ⟨rfl, ⟨V2, RP⟩, gE⟩
      have RC := Lib.hid RP
      clear RP
      refine hK.out _ _ (trivial) (fun hS => ?_)
      clear hK K
      refine wpAnyH_ready (rs := [0]) (by kernel_rfl) (by simp) ?_
      refine AllReadyH.cons (o := ?oi27) ?hi27 (fun K hK => ?_) AllReadyH.nil
      case hi27 => (simp only [gqA, gqB, gqC]; rfl)
      go_simp
      refine hK.out _ _ (trivial) (fun hS => ?_)
      clear hK K
      have hqP := RC.out.lo.2.2
      have RC := Lib.hid (RC.out.new ((New.refl _).alloc (.cells #[.string ⟨#[124, 124]⟩, .string ⟨#[38, 38]⟩, .string ⟨#[124]⟩, .string ⟨#[94]⟩, .string ⟨#[38]⟩, .string ⟨#[61, 61]⟩, .string ⟨#[33, 61]⟩, .string ⟨#[60]⟩, .string ⟨#[60, 61]⟩, .string ⟨#[62]⟩, .string ⟨#[62, 61]⟩, .string ⟨#[60, 60]⟩, .string ⟨#[62, 62]⟩, .string ⟨#[43]⟩, .string ⟨#[45]⟩, .string ⟨#[42]⟩, .string ⟨#[47]⟩, .string ⟨#[37]⟩] 9)))
      have NB9 := bin_cell wC x hx
      generalize wC.alloc (.cells #[.string ⟨#[124, 124]⟩, .string ⟨#[38, 38]⟩, .string ⟨#[124]⟩, .string ⟨#[94]⟩, .string ⟨#[38]⟩, .string ⟨#[61, 61]⟩, .string ⟨#[33, 61]⟩, .string ⟨#[60]⟩, .string ⟨#[60, 61]⟩, .string ⟨#[62]⟩, .string ⟨#[62, 61]⟩, .string ⟨#[60, 60]⟩, .string ⟨#[62, 62]⟩, .string ⟨#[43]⟩, .string ⟨#[45]⟩, .string ⟨#[42]⟩, .string ⟨#[47]⟩, .string ⟨#[37]⟩] 9) = wA at *
      generalize wC.heap.size = P at *
      have hPq := ne_some hqP
      clear hqP
      have NB := Lib.hid NB9
      clear NB9
      refine wpAnyH_strong (S' := fun W => W.cell? ⟨P, x, none⟩ = some (.string (binS x))) (fun _ _ => trivial) _ ?_
      have hS := NB.out
      obtain ⟨wC, rfl⟩ : ∃ wC : World, wC = wA := ⟨_, rfl⟩
      refine tkT 2 (v := ?v28) hS (fun wq hSq => ?y28) ?_; (case y28 => clear hSq; go_simp; (try with_reducible rfl)); simp only [Act.put, gqD, gqE, gqF]
      refine tkT 3 (v := ?v29) hS (fun wq hSq => ?y29) ?_; (case y29 => have hf0 := hSq; clear hSq; go_simp; (try with_reducible rfl)); simp only [Act.put, gqD, gqE, gqF]
      refine wpAnyH_ready (rs := [8]) (by kernel_rfl) (by simp) ?_
      refine AllReadyH.cons (o := ?oi30) ?hi30 (fun K hK => ?_) AllReadyH.nil
      case hi30 => (simp only [gqA, gqB, gqC]; rfl)
      go_simp
      with_reducible refine (HU.out _).mono ?_
      rintro e wD ⟨rfl, hw⟩
      rw [hw]
      clear hw
      refine hK.out _ _ (NB.out) (fun hS => ?_)
      clear hK K
      refine tkT 9 (v := ?v31) hS (fun wq hSq => ?y31) ?_; (case y31 => clear hSq; go_simp; (try with_reducible rfl)); simp only [Act.put, gqD, gqE, gqF]
      refine tkT 10 (v := ?v32) hS (fun wq hSq => ?y32) ?_; (case y32 => clear hSq; go_simp; (try with_reducible rfl)); simp only [Act.put, gqD, gqE, gqF]
      refine tkT 11 (v := ?v33) hS (fun wq hSq => ?y33) ?_; (case y33 => clear hSq; go_simp; (try with_reducible rfl)); simp only [Act.put, gqD, gqE, gqF]
      refine tkT 12 (v := ?v34) hS (fun wq hSq => ?y34) ?_; (case y34 => clear hSq; go_simp; (try with_reducible rfl)); simp only [Act.put, gqD, gqE, gqF]
      refine tkT 13 (v := ?v35) hS (fun wq hSq => ?y35) ?_; (case y35 => clear hSq; go_simp; (try with_reducible rfl)); simp only [Act.put, gqD, gqE, gqF]
      refine wpAnyH_done (by kernel_rfl) ?_ _
      go_wp2_with (go_at_call 123; (with_reducible refine (HP.out _ _ RC.out).mono ?_); rintro e w9 hO; obtain ⟨cc, rfl, hO⟩ := hO.ret)
      go_ret
      exact hO
end
end Go.Proofs.YtnjampfhkojbnaaGreatDoor

namespace Go.Proofs.YtnjampfhkojbnaaGreatDoor
open Go Go.RowKit
set_option linter.unusedSimpArgs false
set_option linter.unusedVariables false

def insI (k v : Nat) : Nat := if k = 2 ∨ k = 3 then v else if k = 8 then 3 else if k = 9 then 18 else 0
def insT0 (k : Nat) : Nat := if k = 5 ∨ k = 9 then 2 else if k = 12 ∨ k = 3 ∨ k = 4 ∨ k = 7 ∨ k = 8 ∨ k = 11 ∨ k = 13 ∨ k = 14 then 1 else 0
abbrev insC (v : Nat) : Array Value := #[.int .i64 0, .int .i64 0, .int .i64 0, .nilFunc, .int .i64 5, .int .i64 0, .int .i64 0, .func (.func 88) #[] #[], .int .i64 2, .int .i64 0, .int .i64 (v : Int), .func (.func 89) #[] #[], .int .i64 2, .int .i64 1, .int .i64 (v : Int), .func (.func 90) #[] #[], .int .i64 1, .int .i64 1, .int .i64 0, .func (.func 91) #[] #[], .int .i64 1, .int .i64 2, .int .i64 0, .func (.func 92) #[] #[], .int .i64 1, .int .i64 0, .int .i64 0, .func (.func 93) #[] #[], .int .i64 1, .int .i64 1, .int .i64 0, .func (.func 94) #[] #[], .int .i64 2, .int .i64 1, .int .i64 3, .func (.func 95) #[] #[], .int .i64 2, .int .i64 2, .int .i64 18, .func (.func 96) #[] #[], .int .i64 5, .int .i64 0, .int .i64 0, .func (.func 97) #[] #[], .int .i64 5, .int .i64 1, .int .i64 0, .func (.func 98) #[] #[], .int .i64 2, .int .i64 1, .int .i64 0, .func (.func 99) #[] #[], .int .i64 1, .int .i64 1, .int .i64 0, .func (.func 100) #[] #[], .int .i64 1, .int .i64 1, .int .i64 0, .func (.func 101) #[] #[]]
structure InsR (w : World) (P k v : Nat) : Prop where
  c0 : w.cell? ⟨P, k * 4, none⟩ = some (.int .i64 (insB k : Int))
  c1 : w.cell? ⟨P, k * 4 + 1, none⟩ = some (.int .i64 (insT0 k : Int))
  c2 : w.cell? ⟨P, k * 4 + 2, none⟩ = some (.int .i64 (insI k v : Int))
  c3 : w.cell? ⟨P, k * 4 + 3, none⟩ = some (.func (.func (87 + k)) #[] #[])
theorem insC_at (w : World) (v k : Nat) (h1 : 1 ≤ k) (h2 : k < 15) : InsR (w.alloc (.cells (insC v) 135)) w.heap.size k v := by
  have key : ∀ j u, (insC v)[j]? = some u → (w.alloc (.cells (insC v) 135)).cell? ⟨w.heap.size, j, none⟩ = some u := fun j u h => by
    rw [cell_of_row _ w.heap.size j _ 135 (0, 0) (heap_alloc_new w _)]; exact h
  match k, h1, h2 with
  | 1, _, _ => exact ⟨key _ _ rfl, key _ _ rfl, key _ _ rfl, key _ _ rfl⟩
  | 2, _, _ => exact ⟨key _ _ rfl, key _ _ rfl, key _ _ rfl, key _ _ rfl⟩
  | 3, _, _ => exact ⟨key _ _ rfl, key _ _ rfl, key _ _ rfl, key _ _ rfl⟩
  | 4, _, _ => exact ⟨key _ _ rfl, key _ _ rfl, key _ _ rfl, key _ _ rfl⟩
  | 5, _, _ => exact ⟨key _ _ rfl, key _ _ rfl, key _ _ rfl, key _ _ rfl⟩
  | 6, _, _ => exact ⟨key _ _ rfl, key _ _ rfl, key _ _ rfl, key _ _ rfl⟩
  | 7, _, _ => exact ⟨key _ _ rfl, key _ _ rfl, key _ _ rfl, key _ _ rfl⟩
  | 8, _, _ => exact ⟨key _ _ rfl, key _ _ rfl, key _ _ rfl, key _ _ rfl⟩
  | 9, _, _ => exact ⟨key _ _ rfl, key _ _ rfl, key _ _ rfl, key _ _ rfl⟩
  | 10, _, _ => exact ⟨key _ _ rfl, key _ _ rfl, key _ _ rfl, key _ _ rfl⟩
  | 11, _, _ => exact ⟨key _ _ rfl, key _ _ rfl, key _ _ rfl, key _ _ rfl⟩
  | 12, _, _ => exact ⟨key _ _ rfl, key _ _ rfl, key _ _ rfl, key _ _ rfl⟩
  | 13, _, _ => exact ⟨key _ _ rfl, key _ _ rfl, key _ _ rfl, key _ _ rfl⟩
  | 14, _, _ => exact ⟨key _ _ rfl, key _ _ rfl, key _ _ rfl, key _ _ rfl⟩
  | n + 15, _, h => exact absurd h (by omega)
set_option maxRecDepth 100000 in
set_option maxHeartbeats 4000000 in
theorem ins_any (v : Nat) (w : World) : Calls Tryz.prog 59 #[.int .i64 (v : Int)] w fun e w' => ∃ P, e = .returned (.slice (some ⟨P, 0, none⟩) 15 15) ∧ New w w' ∧ ∀ k, 1 ≤ k → k < 15 → InsR w' P k v := by
  go_enter Tryz.func59, Tryz.ntmps59
  go_wp2
  go_ret
  exact ⟨_, rfl, (New.refl w).alloc _, fun k h1 h2 => insC_at w v k h1 h2⟩
end Go.Proofs.YtnjampfhkojbnaaGreatDoor

