/- Comparing: the reference's Same, slices.Equal at words and at strings; texts. No conditions but the lengths' own. -/
import Derived.Test.YtlecocmopeainaaDoorJ
namespace Go.Proofs.YtlecocmopeainaaDoor
open Go Go.RowKit Go.Joins Go.Shelf
set_option linter.unusedSimpArgs false

theorem lx_ne {a b : Lx} (h : a ≠ b) : a.1 ≠ b.1 ∨ a.1 = b.1 ∧ a.2 ≠ b.2 := by
  by_cases h1 : a.1 = b.1
  · exact .inr ⟨h1, fun h2 => h (Prod.ext h1 h2)⟩
  · exact .inl h1
theorem str_ne {a b : ByteArray} (h : a ≠ b) : (a.toList == b.toList) = false := by rw [str_eq]; exact decide_eq_false h
theorem str_same {a b : ByteArray} (h : a = b) : a.toList = b.toList := by rw [h]
theorem num_ne {a b : Nat} (h : a ≠ b) : ((a : Int) == (b : Int)) = false := beq_eq_false_iff_ne.2 (by omega)
theorem num_same {a b : Nat} (h : a = b) : ((a : Int) == (b : Int)) = true := beq_iff_eq.2 (by omega)

/-- Whether two texts are the same. -/
def sameB (p p' : ByteArray) (ws ws' : List Lx) : Bool := decide (p = p' ∧ ws = ws')
theorem sameB_path {p p' : ByteArray} {ws ws' : List Lx} (h : p ≠ p') : sameB p p' ws ws' = false := decide_eq_false fun h' => h h'.1
theorem sameB_len {p p' : ByteArray} {ws ws' : List Lx} (h : ws.length ≠ ws'.length) : sameB p p' ws ws' = false := decide_eq_false fun h' => h (by rw [h'.2])
theorem take_next {α : Type} {l l' : List α} {i : Nat} (h : i < l.length) (h' : i < l'.length) (ht : l.take i = l'.take i) (he : l[i] = l'[i]) : l.take (i + 1) = l'.take (i + 1) := by
  rw [List.take_succ_eq_append_getElem h, List.take_succ_eq_append_getElem h', ht, he]

set_option maxRecDepth 100000 in
set_option maxHeartbeats 2000000 in
theorem same_any (v v' : Value) (p p' : ByteArray) (ws ws' : List Lx) (w : World) (h : RText w v p ws) (h' : RText w v' p' ws') :
    Calls Tryd.prog 15 #[v, v'] w fun e w' => e = .returned (.bool (sameB p p' ws ws')) ∧ New w w' := by
  obtain ⟨A, c, rfl, hc1, hc2, hr⟩ := h
  obtain ⟨A', c', rfl, hc1', hc2', hr'⟩ := h'
  have hz : (ws.length : Int) ≤ 9223372036854775807 := by
    have h2 := hc2
    simp only [maxLen] at h2
    omega
  by_cases hp : p = p'
  · by_cases hl : ws.length = ws'.length
    · have hs : sameB p p' ws ws' = decide (ws = ws') := by rw [sameB]; simp [hp]
      have HS := Lib.hid hs; clear hs
      have hp1 := str_same hp
      have hl1 := num_same hl
      have HL := Lib.hid hl
      clear hp hl
      go_enter Tryd.func15, Tryd.ntmps15
      go_wp2
      obtain ⟨wS, hwS⟩ : ∃ x, x = (w.alloc (.cells #[.string p, .slice A ws.length c] 25)).alloc (.cells #[.string p', .slice A' ws'.length c'] 25) := ⟨_, rfl⟩
      rw [← hwS]
      have hnS : New w wS := by rw [hwS]; exact ((New.refl w).alloc _).alloc _
      have b0 : Blk wS w.heap.size 25 #[.string p, .slice A ws.length c] := by rw [hwS]; exact (Blk.made w _ _).alloc _
      have b1 : Blk wS (w.heap.size + 1) 25 #[.string p', .slice A' ws'.length c'] := by
        rw [hwS]; have := Blk.made (w.alloc (.cells #[.string p, .slice A ws.length c] 25)) 25 #[.string p', .slice A' ws'.length c']; rw [World.size_alloc] at this; exact this
      clear hwS
      go_loopw [5] (fun v5 wr => ∃ i : Nat, v5 = .int .i64 i ∧ i ≤ ws.length ∧ New wS wr ∧ Hid (ws.take i = ws'.take i)) (fun v5 _ => ws.length - (intOf v5).toNat)
      case atStart => exact ⟨0, rfl, by omega, New.refl _, Lib.hid (by simp)⟩
      case round =>
        obtain ⟨i, rfl, hi, hn, HT⟩ := hrel
        have c0 : wr.cell? ⟨w.heap.size, 1, none⟩ = some (.slice A ws.length c) := (b0.new hn).cell' 1 _ rfl
        have c1 : wr.cell? ⟨w.heap.size + 1, 1, none⟩ = some (.slice A' ws'.length c') := (b1.new hn).cell' 1 _ rfl
        by_cases hlt : i < ws.length
        · have hlt' : i < ws'.length := by rw [← HL.out]; exact hlt
          obtain ⟨bk, o, rfl, _, hc⟩ := ((hr.below hnS).below hn).2 (by omega)
          obtain ⟨bk', o', rfl, _, hc'⟩ := ((hr'.below hnS).below hn).2 (by omega)
          obtain ⟨q1, q2⟩ := lxCells_at ws i hlt
          obtain ⟨q3, q4⟩ := lxCells_at ws' i hlt'
          have d1 := hc _ _ q1
          have d2 : wr.cell? ⟨bk, o + i * 2 + 1, none⟩ = some (.int .i64 ws[i].2) := hc _ _ q2
          have d3 := hc' _ _ q3
          have d4 : wr.cell? ⟨bk', o' + i * 2 + 1, none⟩ = some (.int .i64 ws'[i].2) := hc' _ _ q4
          have i0 : (0 : Int) ≤ (i : Int) := by omega
          have i1 : (i : Int) < (ws.length : Int) := by omega
          have i2 : (i : Int) < (ws'.length : Int) := by omega
          clear q1 q2 q3 q4 hc hc'
          by_cases he : ws[i] = ws'[i]
          · have HN := Lib.hid (take_next hlt hlt' HT.out he)
            generalize hx : ws[i] = x at *
            generalize hy : ws'[i] = y at *
            clear hx hy
            subst he
            have f1 : (x.1.toList == x.1.toList) = true := beq_self_eq_true _
            go_wp2_with (fail)
            go_quiet (fail)
            go_wp2
            go_roundw
            case rel => exact ⟨i + 1, by go_num, by omega, hn.drewN nq, HN⟩
            case measure => simp [intOf]; omega
          · have HN : Hid (sameB p p' ws ws' = false) := Lib.hid (by
              rw [HS.out]; exact decide_eq_false fun h => he (by simp only [h]))
            have hq := lx_ne he
            generalize hx : ws[i] = x at *
            generalize hy : ws'[i] = y at *
            clear hx hy he
            rcases hq with hq | ⟨hq, hq2⟩
            · have f1 := str_ne hq
              clear hq
              go_wp2_with (fail)
              go_quiet (fail)
              go_wp2
              go_ret
              exact ⟨ret_b HN.out.symm, hnS.trans (hn.drewN nq)⟩
            · have f1 := str_same hq
              have f2 := num_ne hq2
              clear hq hq2
              go_wp2_with (fail)
              go_quiet (fail)
              go_wp2
              go_ret
              exact ⟨ret_b HN.out.symm, hnS.trans (hn.drewN nq)⟩
        · have h0 : i = ws.length := by omega
          have HN : Hid (sameB p p' ws ws' = true) := Lib.hid (by
            rw [HS.out]
            have := HT.out
            have hl := HL.out
            rw [List.take_of_length_le (by omega), List.take_of_length_le (by omega)] at this
            exact decide_eq_true this)
          subst h0
          go_wp2
          go_ret
          exact ⟨ret_b HN.out.symm, hnS.trans hn⟩
    · have HS := Lib.hid (sameB_len (p := p) (p' := p') hl)
      have hp1 := str_same hp
      have hl1 := num_ne hl
      clear hp hl
      go_enter Tryd.func15, Tryd.ntmps15
      go_wp2
      go_ret
      exact ⟨ret_b HS.out.symm, ((New.refl w).alloc _).alloc _⟩
  · have HS := Lib.hid (sameB_path (ws := ws) (ws' := ws') hp)
    have hp1 := str_ne hp
    clear hp
    go_enter Tryd.func15, Tryd.ntmps15
    go_wp2
    go_ret
    exact ⟨ret_b HS.out.symm, ((New.refl w).alloc _).alloc _⟩

set_option maxRecDepth 100000 in
set_option maxHeartbeats 2000000 in
/-- slices.Equal at words. -/
theorem eqLx_any (A A' : Option Addr) (c c' : Nat) (ws ws' : List Lx) (w : World) (hr : Rd w 2 A ws.length (lxCells ws)) (hr' : Rd w 2 A' ws'.length (lxCells ws')) (hz : ws.length ≤ 4294967295) :
    Calls Tryd.prog 30 #[.slice A ws.length c, .slice A' ws'.length c'] w fun e w' => e = .returned (.bool (decide (ws = ws'))) ∧ New w w' := by
  by_cases hl : ws.length = ws'.length
  · have hl1 := num_same hl
    have HL := Lib.hid hl
    clear hl
    go_enter Tryd.func30, Tryd.ntmps30
    go_wp2
    go_loopw [13] (fun v5 wr => ∃ i : Nat, v5 = .int .i64 i ∧ i ≤ ws.length ∧ New w wr ∧ Hid (ws.take i = ws'.take i)) (fun v5 _ => ws.length - (intOf v5).toNat)
    case atStart => exact ⟨0, rfl, by omega, New.refl _, Lib.hid (by simp)⟩
    case round =>
      obtain ⟨i, rfl, hi, hn, HT⟩ := hrel
      by_cases hlt : i < ws.length
      · have hlt' : i < ws'.length := by rw [← HL.out]; exact hlt
        obtain ⟨bk, o, rfl, _, hc⟩ := (hr.below hn).2 (by omega)
        obtain ⟨bk', o', rfl, _, hc'⟩ := (hr'.below hn).2 (by omega)
        obtain ⟨q1, q2⟩ := lxCells_at ws i hlt
        obtain ⟨q3, q4⟩ := lxCells_at ws' i hlt'
        have d1 := hc _ _ q1
        have d2 : wr.cell? ⟨bk, o + i * 2 + 1, none⟩ = some (.int .i64 ws[i].2) := hc _ _ q2
        have d3 := hc' _ _ q3
        have d4 : wr.cell? ⟨bk', o' + i * 2 + 1, none⟩ = some (.int .i64 ws'[i].2) := hc' _ _ q4
        have i0 : (0 : Int) ≤ (i : Int) := by omega
        have i1 : (i : Int) < (ws.length : Int) := by omega
        have i2 : (i : Int) < (ws'.length : Int) := by omega
        clear q1 q2 q3 q4 hc hc'
        by_cases he : ws[i] = ws'[i]
        · have HN := Lib.hid (take_next hlt hlt' HT.out he)
          generalize hx : ws[i] = x at *
          generalize hy : ws'[i] = y at *
          clear hx hy
          subst he
          go_wp2_with (fail)
          go_quiet (fail)
          go_wp2
          go_roundw
          case rel => exact ⟨i + 1, by go_num, by omega, hn.drewN nq, HN⟩
          case measure => simp [intOf]; omega
        · have HN : Hid (decide (ws = ws') = false) := Lib.hid (decide_eq_false fun h => he (by simp only [h]))
          have hq := lx_ne he
          generalize hx : ws[i] = x at *
          generalize hy : ws'[i] = y at *
          clear hx hy he
          rcases hq with hq | ⟨hq, hq2⟩
          · have f1 := str_ne hq
            clear hq
            go_wp2_with (fail)
            go_quiet (fail)
            go_wp2
            go_ret
            exact ⟨ret_b HN.out.symm, hn.drewN nq⟩
          · have f1 := str_same hq
            have f2 := num_ne hq2
            clear hq hq2
            go_wp2_with (fail)
            go_quiet (fail)
            go_wp2
            go_ret
            exact ⟨ret_b HN.out.symm, hn.drewN nq⟩
      · have h0 : i = ws.length := by omega
        have HN : Hid (decide (ws = ws') = true) := Lib.hid (by
          have := HT.out
          have hl := HL.out
          rw [List.take_of_length_le (by omega), List.take_of_length_le (by omega)] at this
          exact decide_eq_true this)
        subst h0
        go_wp2
        go_ret
        exact ⟨ret_b HN.out.symm, hn⟩
  · have HN : Hid (decide (ws = ws') = false) := Lib.hid (decide_eq_false fun h => hl (by rw [h]))
    have hl1 := num_ne hl
    clear hl
    go_enter Tryd.func30, Tryd.ntmps30
    go_wp2
    go_ret
    exact ⟨ret_b HN.out.symm, New.refl _⟩

set_option maxRecDepth 100000 in
set_option maxHeartbeats 2000000 in
/-- slices.Equal at strings. -/
theorem eqStr_any (A A' : Option Addr) (c c' : Nat) (ws ws' : List ByteArray) (w : World) (hr : Rd w 1 A ws.length (ws.map Value.string)) (hr' : Rd w 1 A' ws'.length (ws'.map Value.string)) (hz : ws.length ≤ 4294967295) :
    Calls Tryd.prog 36 #[.slice A ws.length c, .slice A' ws'.length c'] w fun e w' => e = .returned (.bool (decide (ws = ws'))) ∧ New w w' := by
  by_cases hl : ws.length = ws'.length
  · have hl1 := num_same hl
    have HL := Lib.hid hl
    clear hl
    go_enter Tryd.func36, Tryd.ntmps36
    go_wp2
    go_loopw [13] (fun v5 wr => ∃ i : Nat, v5 = .int .i64 i ∧ i ≤ ws.length ∧ New w wr ∧ Hid (ws.take i = ws'.take i)) (fun v5 _ => ws.length - (intOf v5).toNat)
    case atStart => exact ⟨0, rfl, by omega, New.refl _, Lib.hid (by simp)⟩
    case round =>
      obtain ⟨i, rfl, hi, hn, HT⟩ := hrel
      by_cases hlt : i < ws.length
      · have hlt' : i < ws'.length := by rw [← HL.out]; exact hlt
        obtain ⟨bk, o, rfl, _, hc⟩ := (hr.below hn).2 (by omega)
        obtain ⟨bk', o', rfl, _, hc'⟩ := (hr'.below hn).2 (by omega)
        have d1 : wr.cell? ⟨bk, o + i, none⟩ = some (.string ws[i]) := hc i _ (by simp [hlt])
        have d2 : wr.cell? ⟨bk', o' + i, none⟩ = some (.string ws'[i]) := hc' i _ (by simp [hlt'])
        have i0 : (0 : Int) ≤ (i : Int) := by omega
        have i1 : (i : Int) < (ws.length : Int) := by omega
        have i2 : (i : Int) < (ws'.length : Int) := by omega
        clear hc hc'
        by_cases he : ws[i] = ws'[i]
        · have HN := Lib.hid (take_next hlt hlt' HT.out he)
          generalize hx : ws[i] = x at *
          generalize hy : ws'[i] = y at *
          clear hx hy
          subst he
          go_wp2_with (fail)
          go_quiet (fail)
          go_wp2
          go_roundw
          case rel => exact ⟨i + 1, by go_num, by omega, hn.drewN nq, HN⟩
          case measure => simp [intOf]; omega
        · have HN : Hid (decide (ws = ws') = false) := Lib.hid (decide_eq_false fun h => he (by simp only [h]))
          generalize hx : ws[i] = x at *
          generalize hy : ws'[i] = y at *
          have f1 := str_ne he
          clear hx hy he
          go_wp2_with (fail)
          go_quiet (fail)
          go_wp2
          go_ret
          exact ⟨ret_b HN.out.symm, hn.drewN nq⟩
      · have h0 : i = ws.length := by omega
        have HN : Hid (decide (ws = ws') = true) := Lib.hid (by
          have := HT.out
          have hl := HL.out
          rw [List.take_of_length_le (by omega), List.take_of_length_le (by omega)] at this
          exact decide_eq_true this)
        subst h0
        go_wp2
        go_ret
        exact ⟨ret_b HN.out.symm, hn⟩
  · have HN : Hid (decide (ws = ws') = false) := Lib.hid (decide_eq_false fun h => hl (by rw [h]))
    have hl1 := num_ne hl
    clear hl
    go_enter Tryd.func36, Tryd.ntmps36
    go_wp2
    go_ret
    exact ⟨ret_b HN.out.symm, New.refl _⟩

/-- The texts as cells. -/
def txs (ws : List Lx) : List Value := (ws.map Prod.fst).map Value.string
set_option maxRecDepth 100000 in
set_option maxHeartbeats 2000000 in
/-- The texts of words. -/
theorem texts_any (v : Value) (p : ByteArray) (ws : List Lx) (w : World) (h : RText w v p ws) (hz : ws.length ≤ 100000) :
    Calls Tryd.prog 37 #[v] w fun e w' => ∃ A c, e = .returned (.slice A ws.length c) ∧ Rd w' 1 A ws.length ((ws.map Prod.fst).map Value.string) ∧ New w w' := by
  obtain ⟨A, c, rfl, hc1, hc2, hr⟩ := h
  obtain ⟨i0, hinf, hz0, hz1, hz2⟩ := info_parts Tryd.info9'
  go_enter Tryd.func37, Tryd.ntmps37
  go_wp2
  obtain ⟨wS, hwS⟩ : ∃ x, x = w.alloc (.cells #[.string p, .slice A ws.length c] 25) := ⟨_, rfl⟩
  rw [← hwS]
  have hnS : New w wS := by rw [hwS]; exact (New.refl w).alloc _
  clear hwS
  go_loopw [3, 9] (fun v3 v9 wr => ∃ i : Nat, v9 = .int .i64 i ∧ i ≤ ws.length ∧ New wS wr ∧ wr.ownsRow wS.heap.size 9 1 v3 i (txs (ws.take i))) (fun _ v9 _ => ws.length - (intOf v9).toNat)
  case atStart => exact ⟨0, rfl, by omega, New.refl _, World.ownsRow_nil _ _ _ _⟩
  case round =>
    obtain ⟨i, rfl, hi, hn, hown⟩ := hrel
    by_cases hlt : i < ws.length
    · obtain ⟨bk, o, rfl, _, hc⟩ := ((hr.below hnS).below hn).2 (by omega)
      obtain ⟨q1, q2⟩ := lxCells_at ws i hlt
      have d1 := hc _ _ q1
      have d2 : wr.cell? ⟨bk, o + i * 2 + 1, none⟩ = some (.int .i64 ws[i].2) := hc _ _ q2
      have ht : txs (ws.take (i + 1)) = txs (ws.take i) ++ [.string ws[i].1] := by
        rw [List.take_succ_eq_append_getElem hlt, txs, List.map_append, List.map_append]; rfl
      have HT := Lib.hid ht
      generalize hx : ws[i] = x at *
      clear q1 q2 hc ht hx
      go_wp2_with (at_builtin; refine wpList_append_own _ rfl (.tmp 13) (.tmp 16) 53 rfl wS.heap.size 9 i0 (.string ByteArray.empty) 1 16 Tryd.underlying53 hinf hz0 hz1 hz2 rfl (by decide) _ _ _ rfl ((hown.alloc _).alloc _) ⟨wr.heap.size + 1, 0, none⟩ 1 1 [.string x.1] rfl rfl ?c1 ?c2 ?c3 ?c4 ?c5 ?_)
      case c1 => simpa only [World.size_alloc] using cell_one_new (wr.alloc (.cells #[.string x.1, .int .i64 x.2] 33)) (.string x.1) 9
      case c2 => simp [Value.oneCell']
      case c3 => simp [maxLen]; omega
      case c4 => omega
      case c5 => have := hn.size; simp; omega
      intro v' w1 hown1 hg1 _
      go_wp2
      go_roundw
      case rel => exact ⟨i + 1, by go_num, by omega, Below.grown ((hn.alloc _).alloc _) hg1 (by have := hn.size; simp; omega) (fun k hk => (hown.lt k hk).1), by rw [HT.out]; exact hown1⟩
      case measure => simp [intOf]; omega
    · have h0 : i = ws.length := by omega
      subst h0
      obtain ⟨A2, c2, rfl, _, _, hr2⟩ := own_form hown
      rw [List.take_length] at hr2
      go_wp2
      go_ret
      exact ⟨A2, c2, rfl, hr2, hnS.trans hn⟩
end Go.Proofs.YtlecocmopeainaaDoor
