/- The reference's Lines, and slices.Equal at two equal lists of spans. No conditions but the lengths' own. -/
import Derived.Test.YtlecocmopeainaaDoorS1
namespace Go.Proofs.YtlecocmopeainaaDoor
open Go Go.RowKit Go.Joins Go.Shelf
set_option linter.unusedSimpArgs false
set_option linter.unusedVariables false

/-- slices.Equal at spans that are equal. -/
theorem spCells_get (p : ByteArray) (l : List (Int × Int)) (k : Nat) (h : k < l.length) : (spCells p l)[k * 3]? = some (.string p) ∧ (spCells p l)[k * 3 + 1]? = some (.int .i64 l[k].1) ∧ (spCells p l)[k * 3 + 2]? = some (.int .i64 l[k].2) :=
  spCells_at p l k l[k] (List.getElem?_eq_getElem h)
set_option maxRecDepth 100000 in
set_option maxHeartbeats 2000000 in
theorem eqSp_same (A A' : Option Addr) (c c' n : Nat) (p : ByteArray) (l : List (Int × Int)) (hl : l.length = n) (w : World) (hr : Rd w 3 A n (spCells p l)) (hr' : Rd w 3 A' n (spCells p l)) (hz : n ≤ 4294967295) :
    Calls Tryd.prog 26 #[.slice A n c, .slice A' n c'] w fun e w' => e = .returned (.bool true) ∧ New w w' := by
  have HL := Lib.hid hl
  clear hl
  go_enter Tryd.func26, Tryd.ntmps26
  go_wp2
  go_loopw [13] (fun v5 wr => ∃ i : Nat, v5 = .int .i64 i ∧ i ≤ n ∧ New w wr) (fun v5 _ => n - (intOf v5).toNat)
  case atStart => exact ⟨0, rfl, by omega, New.refl _⟩
  case round =>
    obtain ⟨i, rfl, hi, hn⟩ := hrel
    by_cases hlt : i < n
    · obtain ⟨bk, o, rfl, _, hc⟩ := (hr.below hn).2 (by omega)
      obtain ⟨bk', o', rfl, _, hc'⟩ := (hr'.below hn).2 (by omega)
      obtain ⟨q1, q2, q3⟩ := spCells_get p l i (by rw [HL.out]; exact hlt)
      have d1 := hc _ _ q1
      have d2 : wr.cell? ⟨bk, o + i * 3 + 1, none⟩ = some (.int .i64 (l[i]'(by rw [HL.out]; exact hlt)).1) := hc _ _ q2
      have d3 : wr.cell? ⟨bk, o + i * 3 + 2, none⟩ = some (.int .i64 (l[i]'(by rw [HL.out]; exact hlt)).2) := hc _ _ q3
      have d4 := hc' _ _ q1
      have d5 : wr.cell? ⟨bk', o' + i * 3 + 1, none⟩ = some (.int .i64 (l[i]'(by rw [HL.out]; exact hlt)).1) := hc' _ _ q2
      have d6 : wr.cell? ⟨bk', o' + i * 3 + 2, none⟩ = some (.int .i64 (l[i]'(by rw [HL.out]; exact hlt)).2) := hc' _ _ q3
      have i0 : (0 : Int) ≤ (i : Int) := by omega
      have i1 : (i : Int) < (n : Int) := by omega
      clear q1 q2 q3 hc hc'
      generalize l[i]'(by rw [HL.out]; exact hlt) = x at *
      have f1 : (p.toList == p.toList) = true := beq_self_eq_true _
      go_wp2_with (fail)
      go_quiet (fail)
      go_wp2
      go_roundw
      case rel => exact ⟨i + 1, by go_num, by omega, hn.drewN nq⟩
      case measure => simp [intOf]; omega
    · obtain rfl : i = n := by omega
      go_wp2
      go_ret
      exact ⟨rfl, hn⟩

/-! ### the reference's Lines -/
/-- The lines of the words from k on, to i. -/
def lns (ws : List Lz) (k i : Nat) : List Int := ((ws.drop k).take (i - k)).map Prod.snd
theorem lns_next {ws : List Lz} {k i : Nat} {x : Lz} (hk : k ≤ i) (h : ws[i]? = some x) : lns ws k (i + 1) = lns ws k i ++ [x.2] := by
  have h2 : (ws.drop k)[i - k]? = some x := by rw [List.getElem?_drop, show k + (i - k) = i by omega]; exact h
  obtain ⟨hi, he⟩ := List.getElem?_eq_some_iff.1 h2
  rw [lns, show i + 1 - k = (i - k) + 1 by omega, List.take_succ_eq_append_getElem hi, List.map_append, he]
  rfl
theorem lns_len (ws : List Lz) (k i : Nat) (h : i ≤ ws.length) : (lns ws k i).length = i - k := by
  rw [lns, List.length_map, List.length_take, List.length_drop]; omega
theorem lns_start (ws : List Lz) (k : Nat) : lns ws k k = [] := by simp [lns]
theorem inFile_snoc (p : ByteArray) (l : List Int) (x : Int) : zCells (inFile p (l ++ [x])) = zCells (inFile p l) ++ [.string p, .int .i64 x] := by
  simp [inFile, zCells]
theorem cell_two_new' (w : World) (a b : Value) (t : TypeId) : ∀ j u, [a, b][j]? = some u → (w.alloc (.cells #[a, b] t)).cell? ((⟨w.heap.size, 0, none⟩ : Addr).add j) = some u := by
  intro j u hu
  have e : (⟨w.heap.size, 0, none⟩ : Addr).add j = ⟨w.heap.size, j, none⟩ := by unfold Addr.add; split <;> simp_all
  rw [e, cell_of_row _ w.heap.size j #[a, b] t (0, 0) (heap_alloc_new w _)]
  simpa using hu
theorem Tryd.info59 : (Tryd.prog.info? 59).map (fun i => (i.zero, i.size, i.bytes)) = some (some (.agg #[.string ⟨#[]⟩, .int .i64 0]), 2, 24) := by kernel_rfl

set_option maxRecDepth 100000 in
set_option maxHeartbeats 8000000 in
theorem rlines_any (v : Value) (p : ByteArray) (ws : List Lz) (i j : Int) (w : World) (h : ZText w v p ws) (hf : Fit p ws) :
    Calls Tryd.prog 24 #[v, .int .i64 i, .int .i64 j] w (LPost p (linesR p ws i j) w) := by
  obtain ⟨A, c, rfl, hc1, hc2, hr⟩ := id h
  have hz : (ws.length : Int) ≤ 9223372036854775807 := by
    have h2 := hc2
    simp only [maxLen] at h2
    omega
  have hnS : New w (w.alloc (.cells #[.string p, .slice A ws.length c] 25)) := (New.refl w).alloc _
  have hlow : ∀ k e w', (e = .returned (.tuple #[.slice none 0 0, .int .i64 k]) ∧ New w w') → linesR p ws i j = (k, []) → LPost p (linesR p ws i j) w e w' := by
    rintro k e w' ⟨rfl, hn⟩ e2
    rw [e2]
    exact ⟨none, 0, rfl, Rd.none_ none, Nat.le_refl _, by simp [maxLen], hn⟩
  cases g5 : validV p ws
  · have hv : linesR p ws i j = (1, []) := if_pos g5
    refine Calls.mono ?_ (fun e w' he => hlow 1 e w' he hv)
    have H5 := Lib.hid g5
    clear hv g5 hlow
    go_enter Tryd.func24, Tryd.ntmps24
    go_wp2_with (go_at_call 25; refine (rvalid_any _ p ws _ (h.new hnS) hf.words).mono ?_; rw [H5.out]; rintro e w1 ⟨rfl, hn1⟩; have B1 := (Blk.made _ _ _).new hn1; have e10 := B1.cell' 0 _ rfl; have e11 := B1.cell' 1 _ rfl)
    go_ret2
    exact ⟨rfl, hnS.trans hn1⟩
  have H5 := Lib.hid g5
  by_cases g1 : i < 0 ∨ j < i ∨ (ws.length : Int) < j
  · have hv : linesR p ws i j = (3, []) := by rw [linesR, if_neg (by rw [g5]; decide), if_pos g1]
    refine Calls.mono ?_ (fun e w' he => hlow 3 e w' he hv)
    clear hv g5 hlow
    by_cases g2 : i < 0
    · clear g1
      go_enter Tryd.func24, Tryd.ntmps24
      go_wp2_with (go_at_call 25; refine (rvalid_any _ p ws _ (h.new hnS) hf.words).mono ?_; rw [H5.out]; rintro e w1 ⟨rfl, hn1⟩; have B1 := (Blk.made _ _ _).new hn1; have e10 := B1.cell' 0 _ rfl; have e11 := B1.cell' 1 _ rfl)
      go_ret2
      exact ⟨rfl, hnS.trans hn1⟩
    · by_cases g3 : j < i
      · clear g1
        go_enter Tryd.func24, Tryd.ntmps24
        go_wp2_with (go_at_call 25; refine (rvalid_any _ p ws _ (h.new hnS) hf.words).mono ?_; rw [H5.out]; rintro e w1 ⟨rfl, hn1⟩; have B1 := (Blk.made _ _ _).new hn1; have e10 := B1.cell' 0 _ rfl; have e11 := B1.cell' 1 _ rfl)
        go_ret2
        exact ⟨rfl, hnS.trans hn1⟩
      · have g4 : (ws.length : Int) < j := (g1.resolve_left g2).resolve_left g3
        clear g1
        go_enter Tryd.func24, Tryd.ntmps24
        go_wp2_with (go_at_call 25; refine (rvalid_any _ p ws _ (h.new hnS) hf.words).mono ?_; rw [H5.out]; rintro e w1 ⟨rfl, hn1⟩; have B1 := (Blk.made _ _ _).new hn1; have e10 := B1.cell' 0 _ rfl; have e11 := B1.cell' 1 _ rfl)
        go_ret2
        exact ⟨rfl, hnS.trans hn1⟩
  obtain ⟨k, rfl⟩ : ∃ k : Nat, i = k := ⟨i.toNat, by omega⟩
  obtain ⟨m, rfl⟩ : ∃ m : Nat, j = m := ⟨j.toNat, by omega⟩
  have hkm : k ≤ m := by omega
  have hml : m ≤ ws.length := by omega
  have hv : linesR p ws k m = (0, rlinesV (lns ws k m)) := by
    rw [linesR, if_neg (by rw [g5]; decide), if_neg g1, lns, run_up g5]; simp
  have g2 : ¬ ((k : Int) < 0) := by omega
  have g3 : ¬ ((m : Int) < (k : Int)) := by omega
  have g4 : ¬ ((ws.length : Int) < (m : Int)) := by omega
  clear g1 hlow
  obtain ⟨R, hR⟩ : ∃ R, rlinesV (lns ws k m) = R := ⟨_, rfl⟩
  rw [hR] at hv
  have hp : ∀ e w', (∃ A c, e = .returned (.tuple #[.slice A R.length c, .int .i64 0]) ∧ Rd w' 3 A R.length (spCells p R) ∧ R.length ≤ c ∧ c ≤ maxLen ∧ New w w') → LPost p (linesR p ws k m) w e w' := by
    rintro e w' h
    rw [hv]; exact h
  refine Calls.mono ?_ hp
  clear hp hv
  have hsm : ∀ x ∈ lns ws k m, x < 1024 ∧ 0 ≤ x := fun x hx => by
    rw [lns] at hx
    obtain ⟨y, hy, rfl⟩ := List.mem_map.1 hx
    exact valid_lines g5 y (List.mem_of_mem_drop (List.mem_of_mem_take hy))
  have h8 : ws.length ≤ 8192 := by
    have h2 := g5
    rw [validV, Bool.and_eq_true, Bool.and_eq_true] at h2
    simpa using h2.1.1
  have HP := Lib.hid (fun (A : Option Addr) (c : Nat) (w : World) hr => pack_any A c (m - k) p (lns ws k m) (lns_len ws k m hml) w hr hsm (by omega))
  rw [hR] at HP
  clear g5 hsm hR
  obtain ⟨i0, hinf, hz0, hz1, hz2⟩ := info_parts Tryd.info59
  go_enter Tryd.func24, Tryd.ntmps24
  go_wp2_with (go_at_call 25; refine (rvalid_any _ p ws _ (h.new hnS) hf.words).mono ?_; rw [H5.out]; rintro e w1 ⟨rfl, hn1⟩; have B1 := (Blk.made _ _ _).new hn1; have e10 := B1.cell' 0 _ rfl; have e11 := B1.cell' 1 _ rfl)
  have hw1 : New w w1 := hnS.trans hn1
  have z1 : decide ((k : Int) < 0) = false := decide_eq_false (by omega)
  have z2 : decide (m < k) = false := decide_eq_false (by omega)
  have z3 : decide (ws.length < m) = false := decide_eq_false (by omega)
  simp only [z1, z2, z3, Bool.or_false]
  go_loopw [8, 9] (fun v8 v9 wr => ∃ i : Nat, v9 = .int .i64 i ∧ k ≤ i ∧ i ≤ m ∧ wr.ownsRow w1.heap.size 59 2 v8 (i - k) (zCells (inFile p (lns ws k i))) ∧ New w1 wr) (fun _ v9 _ => m - (intOf v9).toNat)
  case atStart => exact ⟨k, rfl, by omega, hkm, by rw [lns_start, Nat.sub_self]; exact World.ownsRow_lit w1 #[] 0 (Nat.le_refl _) (by simp [maxLen]) rfl, (New.refl _).alloc _⟩
  case round =>
    obtain ⟨i, rfl, hki, him, own, hn⟩ := hrel
    have hzr := hn.size
    by_cases hlt : i < m
    · obtain ⟨bk, o, rfl, hbk, hc⟩ := hr.2 (by omega)
      have hil : i < ws.length := by omega
      have hx : ws[i]? = some ws[i] := List.getElem?_eq_getElem hil
      have hnx := lns_next hki hx
      obtain ⟨q1, q2⟩ := zCells_at ws i hil
      have d2 : wr.cell? ⟨bk, o + i * 2 + 1, none⟩ = some (.int .i64 ws[i].2) := ((hw1.trans hn).cell (p := ⟨bk, o + i * 2 + 1, none⟩) hbk).trans (hc _ _ q2)
      have c0 := (B1.new hn).cell' 0 _ rfl
      have c1 := (B1.new hn).cell' 1 _ rfl
      have hws : w.heap.size < wr.heap.size := (B1.new hn).lt
      have i0' : (0 : Int) ≤ (i : Int) := by omega
      have i1' : (i : Int) < (ws.length : Int) := by omega
      clear q1 q2 hx hc
      generalize ws[i] = x at *
      have HN := Lib.hid hnx
      clear hnx
      obtain ⟨d, hd⟩ : ∃ d, i - k = d := ⟨_, rfl⟩
      rw [hd] at own
      have HD := Lib.hid hd
      have hd8 : d ≤ 8192 := by omega
      clear hd
      have hw1z : w.heap.size < w1.heap.size := B1.lt
      have hne0 := own_ne own hw1z
      obtain ⟨A3, c3, rfl, h31, h32, hr3⟩ := own_form own
      clear hr3
      go_wp2_with (fail)
      have hne := own_ne own (show bk < w1.heap.size by have := hw1.size; omega)
      go_region_held3 (fun W => W.cell? ⟨w.heap.size, 0, none⟩ = some (.string p) ∧ W.cell? ⟨w.heap.size, 1, none⟩ = some (.slice (some ⟨bk, o, none⟩) ws.length c) ∧ W.cell? ⟨bk, o + i * 2 + 1, none⟩ = some (.int .i64 x.2)) (first | go_keep | (go_split_ands; exact ⟨hgrow.cell (by assumption) (Ne.symm hne0), hgrow.cell (by assumption) (Ne.symm hne0), hgrow.cell (by assumption) (Ne.symm hne)⟩)) ((refine step_append_lies _ (by rfl) _ _ _ (by rfl) w1.heap.size 59 i0 _ 2 24 Tryd.underlying88 hinf hz0 hz1 hz2 rfl (by omega) _ _ _ (by rfl) ((own.alloc _).drew) ⟨wr.heap.size, 0, none⟩ 1 1 [.string p, .int .i64 x.2] (by rfl) (by rfl) (World.news_of_block (cs := #[.string p, .int .i64 x.2]) (t := 59) (fr := (0, 0)) (heap_alloc_new _ _)) (by simp [Value.oneCell']) (by omega) (by simp [maxLen]; try omega) (by omega) (by simp; omega) (wr.heap.size + 1) (by simp) ?_; intro gg cap2 w2 hown2 hgrow hat hlt2))
      go_wp2
      go_roundw
      case rel => exact ⟨i + 1, by go_num, by omega, by omega, own_len hown2 (by have := HD.out; omega) (by have := HN.out; rw [this, inFile_snoc]), Below.grown (hn.drew.alloc _) hgrow (by simp; omega) (fun q hq => (own.lt q hq).1)⟩
      case measure => simp [intOf]; omega
    · obtain rfl : i = m := by omega
      obtain ⟨A3, c3, rfl, h31, h32, hr3⟩ := own_form own
      go_wp2_with (go_at_call 56; refine (HP.out _ _ _ hr3).mono ?_; rintro e w2 ⟨A4, c4, rfl, hr4, h41, h42, hn4⟩)
      go_ret2
      exact ⟨A4, c4, rfl, hr4, h41, h42, (hw1.trans hn).trans hn4⟩
end Go.Proofs.YtlecocmopeainaaDoor
