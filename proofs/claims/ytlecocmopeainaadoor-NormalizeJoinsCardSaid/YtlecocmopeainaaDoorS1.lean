/- The reference's Pack: the spans of lines of one file. No conditions but that the lines are small. -/
import Derived.Test.YtlecocmopeainaaDoorR2
import Derived.Deep.RegionHeld3
import Derived.Deep.AppendLies
namespace Go.Proofs.YtlecocmopeainaaDoor
open Go Go.RowKit Go.Joins Go.Shelf
set_option linter.unusedSimpArgs false
set_option linter.unusedVariables false

/-- Lines of one file, as words of a text are laid. -/
def inFile (p : ByteArray) (ls : List Int) : List Lz := ls.map fun l => (p, l)
theorem inFile_len (p : ByteArray) (ls : List Int) : (inFile p ls).length = ls.length := List.length_map _
theorem rpk_pos (acc : List (Int × Int)) (l : Int) : 0 < (rpk acc l).length := by
  unfold rpk; split
  · rename_i x h
    split
    · cases acc with
      | nil => simp at h
      | cons a b => simp
    · split <;> simp
  · simp

theorem own_ne {w : World} {base size n bk : Nat} {e : TypeId} {v : Value} {xs : List Value} (h : w.ownsRow base e size v n xs) (hb : bk < base) : v.ownBlock ≠ some bk := fun e => by
  have := (h.lt bk e).1
  omega
theorem far {w w' : World} {b : Option Nat} {bk o : Nat} {u : Value} (h : w.cell? ⟨bk, o, none⟩ = some u) (hg : w.grownBy w' b) (hne : b ≠ some bk) : w'.cell? ⟨bk, o, none⟩ = some u :=
  hg.cell h (Ne.symm hne)
set_option maxRecDepth 100000 in
set_option maxHeartbeats 8000000 in
theorem pack_any (A : Option Addr) (c n : Nat) (p : ByteArray) (ls : List Int) (hn0 : ls.length = n) (w : World) (hr : Rd w 2 A n (zCells (inFile p ls))) (hs : ∀ x ∈ ls, x < 1024 ∧ 0 ≤ x) (hz : n ≤ 8192) :
    Calls Tryd.prog 56 #[.slice A n c] w fun e w' => ∃ A' c', e = .returned (.slice A' (rlinesV ls).length c') ∧ Rd w' 3 A' (rlinesV ls).length (spCells p (rlinesV ls)) ∧ (rlinesV ls).length ≤ c' ∧ c' ≤ maxLen ∧ New w w' := by
  obtain ⟨i0, hinf, hz0, hz1, hz2⟩ := info_parts Tryd.info46
  have HSM := Lib.hid hs
  have HN0 := Lib.hid hn0
  clear hs hn0
  go_enter Tryd.func56, Tryd.ntmps56
  go_wp2
  go_loopw [3, 4] (fun v3 v4 wr => ∃ (i : Nat) (acc : List (Int × Int)), v4 = .int .i64 i ∧ i ≤ n ∧ acc.length ≤ i ∧ wr.ownsRow w.heap.size 46 3 v3 acc.length (spCells p acc) ∧ New w wr ∧ Hid (rlinesV (ls.take i) = acc)) (fun _ v4 _ => n - (intOf v4).toNat)
  case atStart => exact ⟨0, [], rfl, by omega, by simp, World.ownsRow_lit w #[] 0 (Nat.le_refl _) (by simp [maxLen]) rfl, (New.refl w).alloc _, Lib.hid rfl⟩
  case round =>
    obtain ⟨i, acc, rfl, hi, hal, own, hn, H⟩ := hrel
    have hzr := hn.size
    by_cases hlt : i < n
    · obtain ⟨bk, o, rfl, hbk, hc⟩ := hr.2 (by omega)
      have hil : i < ls.length := by rw [HN0.out]; exact hlt
      have hx : ls[i]? = some ls[i] := List.getElem?_eq_getElem hil
      have hnx := rlinesV_next hx
      rw [H.out] at hnx
      have hxm := HSM.out ls[i] (List.getElem_mem hil)
      obtain ⟨q1, q2⟩ := zCells_at (inFile p ls) i (by rw [inFile_len]; exact hil)
      have e1 : (inFile p ls)[i]'(by rw [inFile_len]; exact hil) = (p, ls[i]) := by simp [inFile]
      rw [e1] at q1 q2
      have d1 : wr.cell? ⟨bk, o + i * 2, none⟩ = some (.string p) := (hn.cell (p := ⟨bk, o + i * 2, none⟩) hbk).trans (hc _ _ q1)
      have d2 : wr.cell? ⟨bk, o + i * 2 + 1, none⟩ = some (.int .i64 ls[i]) := (hn.cell (p := ⟨bk, o + i * 2 + 1, none⟩) hbk).trans (hc _ _ q2)
      have hbr : bk < wr.heap.size := Nat.lt_of_lt_of_le hbk hzr
      clear q1 q2 hx e1 hc
      generalize ls[i] = x at *
      obtain ⟨hxm1, hxm2⟩ := hxm
      clear hil
      have f1 : (p.toList == p.toList) = true := beq_self_eq_true _
      have x1 : IntKind.i64.wrap (x + 1) = x + 1 := IntWalk.i64_in _ (by omega)
      by_cases ha : 0 < acc.length
      · obtain ⟨init, y, rfl⟩ := last_split ha
        have own1 := own_len own (show (init ++ [y]).length = init.length + 1 by simp) rfl
        have hal1 : init.length + 1 ≤ i := by simpa using hal
        obtain ⟨g, cap, rfl, hg1, hg2⟩ := own1.form (by omega)
        have hyl : (init ++ [y])[init.length]? = some y := by simp
        obtain ⟨y0, _, y2⟩ := spCells_at p (init ++ [y]) init.length y hyl
        have hcy := own1.cellAt (init.length * 3 + 2) (by omega)
        have hcp := own1.cellAt (init.length * 3) (by omega)
        rw [y2] at hcy
        rw [y0] at hcp
        have hfz := own1.frozenAt (init.length * 3 + 2)
        have k2 : (0 : Int) ≤ (init.length : Int) := by omega
        have k4 : (init.length : Int) < ((init.length + 1 : Nat) : Int) := by omega
        have k5 : (init.length : Int) < (init.length : Int) + 1 := by omega
        clear own hal ha
        clear y2 hyl y0
        by_cases hy : x < y.2
        · have ty : decide (x < y.2) = true := decide_eq_true hy
          rw [rpk_keep _ _ _ hy] at hnx
          have HN := Lib.hid hnx
          clear hnx
          go_wp2_with (fail)
          go_quiet (fail)
          go_wp2
          go_roundw
          case rel => exact ⟨i + 1, init ++ [y], by go_num, by omega, by simp; omega, own_len (own_drewN own1 nq) (by simp) rfl, hn.drewN nq, HN⟩
          case measure => simp [intOf]; omega
        · have ty : decide (x < y.2) = false := decide_eq_false hy
          by_cases hy2 : x = y.2
          · have ty2 : (x == y.2) = true := by simp [hy2]
            rw [rpk_hit _ _ _ hy2] at hnx
            have HN := Lib.hid hnx
            have x3 : IntKind.i64.wrap (y.2 + 1) = y.2 + 1 := IntWalk.i64_in _ (by omega)
            clear hnx
            go_wp2_with (fail)
            go_quiet (fail)
            go_wp2_with (fail)
            go_quiet (fail)
            go_wp2
            go_roundw
            case rel => exact ⟨i + 1, init ++ [(y.1, y.2 + 1)], by go_num, by omega, by simp; omega, own_len ((own_drewN own1 _).stored (init.length * 3 + 2) (.int .i64 (y.2 + 1))).1 (by simp) (spCells_set p init y.1 y.2 (y.2 + 1)), (hn.drewN _).setCell (p := ⟨g, _, none⟩) hg1 _, HN⟩
            case measure => simp [intOf]; omega
          · have ty2 : (x == y.2) = false := by simp [hy2]
            rw [rpk_miss _ _ _ (by omega)] at hnx
            have HN := Lib.hid hnx
            clear hnx
            go_wp2_with (fail)
            go_quiet (fail)
            go_wp2_with (fail)
            go_quiet (fail)
            go_wp2_with (fail)
            have hne := own_ne own1 hbk
            go_region_held3 (fun W => W.cell? ⟨bk, o + i * 2, none⟩ = some (.string p) ∧ W.cell? ⟨bk, o + i * 2 + 1, none⟩ = some (.int .i64 x)) (first | go_keep | (go_split_ands; exact ⟨hgrow.cell (by assumption) (Ne.symm hne), hgrow.cell (by assumption) (Ne.symm hne)⟩)) ((refine step_append_lies _ (by rfl) _ _ _ (by rfl) w.heap.size 46 i0 _ 3 32 Tryd.underlying41 hinf hz0 hz1 hz2 rfl (by omega) _ _ _ (by rfl) (((own_drewN own1 _).alloc _).drew) ⟨wr.heap.size, 0, none⟩ 1 1 [.string p, .int .i64 x, .int .i64 (x + 1)] (by rfl) (by rfl) (World.news_of_block (cs := #[.string p, .int .i64 x, .int .i64 (x + 1)]) (t := 46) (fr := (0, 0)) (heap_alloc_new _ _)) (by simp [Value.oneCell']) (by omega) (by simp [maxLen]; try omega) (by omega) (by simp; omega) (wr.heap.size + 1) (by simp) ?_; intro gg cap2 w2 hown2 hgrow hat hlt2))
            go_wp2
            go_roundw
            case rel => exact ⟨i + 1, (init ++ [y]) ++ [(x, x + 1)], by go_num, by omega, by simp; omega, own_len hown2 (by simp) (by rw [spCells_app p (init ++ [y])]; rfl), Below.grown ((hn.drewN _).alloc _) hgrow (by simp; omega) (fun q hq => (own1.lt q hq).1), HN⟩
            case measure => simp [intOf]; omega
      · obtain rfl : acc = [] := List.eq_nil_of_length_eq_zero (by omega)
        have HN := Lib.hid hnx
        clear hnx
        have k5 : IntKind.i64.wrap ((0 : Int) - 1) = -1 := IntWalk.i64_in _ (by omega)
        obtain ⟨A2, c2, rfl, h1, h2, hr2⟩ := own_form own
        clear hr2
        go_wp2_with (fail)
        go_quiet (fail)
        go_wp2_with (fail)
        go_quiet (fail)
        go_wp2_with (fail)
        have hne := own_ne own hbk
        go_region_held3 (fun W => W.cell? ⟨bk, o + i * 2, none⟩ = some (.string p) ∧ W.cell? ⟨bk, o + i * 2 + 1, none⟩ = some (.int .i64 x)) (first | go_keep | (go_split_ands; exact ⟨hgrow.cell (by assumption) (Ne.symm hne), hgrow.cell (by assumption) (Ne.symm hne)⟩)) ((refine step_append_lies _ (by rfl) _ _ _ (by rfl) w.heap.size 46 i0 _ 3 32 Tryd.underlying41 hinf hz0 hz1 hz2 rfl (by omega) _ _ _ (by rfl) (((own_drewN own _).alloc _).drew) ⟨wr.heap.size, 0, none⟩ 1 1 [.string p, .int .i64 x, .int .i64 (x + 1)] (by rfl) (by rfl) (World.news_of_block (cs := #[.string p, .int .i64 x, .int .i64 (x + 1)]) (t := 46) (fr := (0, 0)) (heap_alloc_new _ _)) (by simp [Value.oneCell']) (by omega) (by simp [maxLen]; try omega) (by omega) (by simp; omega) (wr.heap.size + 1) (by simp) ?_; intro gg cap2 w2 hown2 hgrow hat hlt2))
        go_wp2
        go_roundw
        case rel => exact ⟨i + 1, [] ++ [(x, x + 1)], by go_num, by omega, by simp, own_len hown2 (by simp) (by simp [spCells]), Below.grown ((hn.drewN _).alloc _) hgrow (by simp; omega) (fun q hq => (own.lt q hq).1), HN⟩
        case measure => simp [intOf]; omega
    · obtain rfl : i = n := by omega
      obtain ⟨A2, c2, rfl, h1, h2, hr2⟩ := own_form own
      have h3 : rlinesV ls = acc := by rw [← H.out, List.take_of_length_le (by rw [HN0.out]; exact Nat.le_refl _)]
      have H3 := Lib.hid h3
      clear h3
      go_wp2
      go_ret
      rw [H3.out]
      exact ⟨A2, c2, rfl, hr2, h1, h2, hn⟩
end Go.Proofs.YtlecocmopeainaaDoor
