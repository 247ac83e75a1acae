/- normalize.Valid: which texts of words are valid. No conditions but the lengths' own. -/
import Derived.Test.YtlecocmopeainaaDoorN
namespace Go.Proofs.YtlecocmopeainaaDoor
open Go Go.RowKit Go.Joins Go.Shelf
set_option linter.unusedSimpArgs false

set_option maxRecDepth 100000 in
set_option maxHeartbeats 2000000 in
theorem valid_any (v : Value) (p : ByteArray) (ws : List Lz) (w : World) (h : ZText w v p ws) (hp : p.size < 4294967281) (hE : Env w) (hx : ∀ x ∈ ws, x.1.size ≤ 9223372036854775806) :
    Calls Tryd.prog 16 #[v] w fun e w' => e = .returned (.bool (validV p ws)) ∧ New w w' := by
  obtain ⟨A, c, rfl, hc1, hc2, hr⟩ := h
  by_cases hlen : ws.length ≤ 8192
  · have hlen' : ¬ (8192 : Int) < (ws.length : Int) := by omega
    cases hpo : pathOK p
    · have hv : validV p ws = false := by rw [validV, hpo]; simp
      have he : pathE p = 2 := by rw [pathE, hpo]; rfl
      have HV := Lib.hid hv
      have HE := Lib.hid he
      clear hv he hpo
      go_enter Tryd.func16, Tryd.ntmps16
      go_wp2_with (go_at_call 38; refine (path_any _ _ hp (hE.new ((New.refl w).alloc _))).mono ?_; rw [HE.out]; rintro e w1 ⟨rfl, hn⟩)
      go_ret
      exact ⟨ret_b HV.out.symm, ((New.refl w).alloc _).trans hn⟩
    · have hv : validV p ws = okFrom 0 ws := by rw [validV, hpo, decide_eq_true hlen]; rfl
      have he : pathE p = 0 := by rw [pathE, hpo]; rfl
      have HV := Lib.hid hv
      have HE := Lib.hid he
      have HX := Lib.hid hx
      clear hv he hpo hx
      go_enter Tryd.func16, Tryd.ntmps16
      go_wp2_with (go_at_call 38; refine (path_any _ _ hp (hE.new ((New.refl w).alloc _))).mono ?_; rw [HE.out]; rintro e w1 ⟨rfl, hn⟩; have hf := hn.facts)
      have hw1 : New w w1 := ((New.refl w).alloc _).trans hn
      clear hf hn
      go_loopw [3, 19] (fun v3 v19 wr => ∃ (i : Nat) (m : Int), v3 = .int .i64 m ∧ v19 = .int .i64 i ∧ i ≤ ws.length ∧ New w1 wr ∧ Hid (okFrom m (ws.drop i) = okFrom 0 ws)) (fun _ v19 _ => ws.length - (intOf v19).toNat)
      case atStart => exact ⟨0, 0, rfl, rfl, by omega, New.refl _, Lib.hid rfl⟩
      case round =>
        obtain ⟨i, m, rfl, rfl, hi, hn, H⟩ := hrel
        by_cases hlt : i < ws.length
        · obtain ⟨bk, o, rfl, _, hc⟩ := ((hr.below hw1).below hn).2 (by omega)
          obtain ⟨q1, q2⟩ := zCells_at ws i hlt
          have d1 := hc _ _ q1
          have d2 : wr.cell? ⟨bk, o + i * 2 + 1, none⟩ = some (.int .i64 ws[i].2) := hc _ _ q2
          have hxs := HX.out ws[i] (List.getElem_mem hlt)
          have hd := okFrom_drop (m := m) hlt
          rw [H.out] at hd
          generalize ws[i] = x at *
          clear q1 q2 hc
          by_cases h0 : 0 < x.1.size
          · have hne : x.1.toList.isEmpty = false := by rw [toList_eq, data_cons h0]; rfl
            have hconv := Lib.run_convert_string_bytes (P := Tryd.prog) (wr.alloc (.cells #[.string x.1, .int .i64 x.2] 33)) 9 60 5 x.1 Tryd.underlying9 Tryd.underlying60 Tryd.underlying5
            cases hb : anyBlank x.1
            · rw [wordOK_eq _ h0, hb] at hd
              have HB := Lib.hid hb
              clear hb
              by_cases hm : m ≤ x.2
              · by_cases hm2 : x.2 < 1024
                · have HD : Hid (okFrom x.2 (ws.drop (i + 1)) = okFrom 0 ws) := Lib.hid (by rw [hd, decide_eq_true hm, decide_eq_true hm2]; rfl)
                  clear hd
                  have hm3 : ¬ x.2 < m := by omega
                  have hm4 : ¬ (1024 : Int) ≤ x.2 := by omega
                  clear hm hm2
                  go_wp2_with (go_at_call 48; refine (containsFunc_bytes _ _ _ x.1 false HB (size_eq _).symm _ hxs (rd_bytes' _ _ _)).mono ?_; rintro e w2 ⟨rfl, hn2⟩; have B1 := ((Blk.made wr 33 #[.string x.1, .int .i64 x.2]).new (new_bytes _ 5 x.1)).new hn2; have e0 := B1.cell' 0 _ rfl; have e1 := B1.cell' 1 _ rfl)
                  go_roundw
                  case rel => exact ⟨i + 1, x.2, rfl, by go_num, by omega, ((hn.alloc _).trans (new_bytes _ 5 x.1)).trans hn2, HD⟩
                  case measure => simp [intOf]; omega
                · have HF : Hid (validV p ws = false) := Lib.hid (by rw [HV.out, hd, decide_eq_false hm2]; simp)
                  have hm3 : ¬ x.2 < m := by omega
                  have hm4 : (1024 : Int) ≤ x.2 := by omega
                  clear hd hm hm2
                  go_wp2_with (go_at_call 48; refine (containsFunc_bytes _ _ _ x.1 false HB (size_eq _).symm _ hxs (rd_bytes' _ _ _)).mono ?_; rintro e w2 ⟨rfl, hn2⟩; have B1 := ((Blk.made wr 33 #[.string x.1, .int .i64 x.2]).new (new_bytes _ 5 x.1)).new hn2; have e0 := B1.cell' 0 _ rfl; have e1 := B1.cell' 1 _ rfl)
                  go_ret
                  exact ⟨ret_b HF.out.symm, hw1.trans (((hn.alloc _).trans (new_bytes _ 5 x.1)).trans hn2)⟩
              · have HF : Hid (validV p ws = false) := Lib.hid (by rw [HV.out, hd, decide_eq_false hm]; simp)
                have hm3 : x.2 < m := by omega
                clear hd hm
                go_wp2_with (go_at_call 48; refine (containsFunc_bytes _ _ _ x.1 false HB (size_eq _).symm _ hxs (rd_bytes' _ _ _)).mono ?_; rintro e w2 ⟨rfl, hn2⟩; have B1 := ((Blk.made wr 33 #[.string x.1, .int .i64 x.2]).new (new_bytes _ 5 x.1)).new hn2; have e0 := B1.cell' 0 _ rfl; have e1 := B1.cell' 1 _ rfl)
                go_ret
                exact ⟨ret_b HF.out.symm, hw1.trans (((hn.alloc _).trans (new_bytes _ 5 x.1)).trans hn2)⟩
            · have HF : Hid (validV p ws = false) := Lib.hid (by rw [HV.out, hd, wordOK_eq _ h0, hb]; simp)
              have HB := Lib.hid hb
              clear hd hb
              go_wp2_with (go_at_call 48; refine (containsFunc_bytes _ _ _ x.1 true HB (size_eq _).symm _ hxs (rd_bytes' _ _ _)).mono ?_; rintro e w2 ⟨rfl, hn2⟩; have B1 := ((Blk.made wr 33 #[.string x.1, .int .i64 x.2]).new (new_bytes _ 5 x.1)).new hn2; have e0 := B1.cell' 0 _ rfl; have e1 := B1.cell' 1 _ rfl)
              go_ret
              exact ⟨ret_b HF.out.symm, hw1.trans (((hn.alloc _).trans (new_bytes _ 5 x.1)).trans hn2)⟩
          · have hne : x.1.toList = [] := by rw [toList_eq]; exact List.eq_nil_of_length_eq_zero (by rw [← size_eq]; omega)
            have HF : Hid (validV p ws = false) := Lib.hid (by rw [HV.out, hd, wordOK, decide_eq_false h0]; simp)
            clear hd h0
            go_wp2
            go_ret
            exact ⟨ret_b HF.out.symm, hw1.trans (hn.alloc _)⟩
        · have h0 : i = ws.length := by omega
          subst h0
          have HF : Hid (validV p ws = true) := Lib.hid (by rw [HV.out, ← H.out, List.drop_eq_nil_of_le (Nat.le_refl _)]; rfl)
          go_wp2
          go_ret
          exact ⟨ret_b HF.out.symm, hw1.trans hn⟩
  · have hlen' : (8192 : Int) < (ws.length : Int) := by omega
    have hv : validV p ws = false := by rw [validV, decide_eq_false hlen]; rfl
    have HV := Lib.hid hv
    clear hv hlen
    go_enter Tryd.func16, Tryd.ntmps16
    go_wp2
    go_ret
    exact ⟨ret_b HV.out.symm, (New.refl w).alloc _⟩
end Go.Proofs.YtlecocmopeainaaDoor
