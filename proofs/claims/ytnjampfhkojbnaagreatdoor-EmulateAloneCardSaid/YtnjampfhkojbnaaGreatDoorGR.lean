/- The reference's Split, Part and Path. No conditions but the lengths' own. The reference's names, places' addresses and words: Letter, Digit, form, Has, Keyword, Name, named, Up, within, begins, Word. Conditions: sizes. The reference's named, Up, within, begins, Word. Conditions: sizes. -/
import Derived.Test.YtnjampfhkojbnaaGreatDoorGH
import Derived.Test.YtnjampfhkojbnaaGreatDoorGM

namespace Go.Proofs.YtnjampfhkojbnaaGreatDoor
open Go Go.RowKit Go.Joins
set_option linter.unusedSimpArgs false
set_option linter.unusedVariables false

theorem cut_hit {c : UInt8} : ∀ (l : List UInt8) (n : Nat) (hn : n < l.length), (∀ j (h : j < l.length), j < n → l[j] ≠ c) → l[n] = c → cut c l = l.take n :: cut c (l.drop (n + 1))
  | [], n, h, _, _ => by simp at h
  | b :: r, 0, _, _, h2 => by
    have hb : b = c := h2
    simp [cut, hb]
  | b :: r, n + 1, h, h1, h2 => by
    have hb : b ≠ c := h1 0 (by simp) (by omega)
    have ih := cut_hit r n (by simpa using h) (fun j hj hjn => h1 (j + 1) (by simpa using hj) (by omega)) h2
    conv => lhs; unfold cut
    rw [if_neg hb, ih]
    simp
theorem cut_last {c : UInt8} : ∀ (l : List UInt8), (∀ j (h : j < l.length), l[j] ≠ c) → cut c l = [l]
  | [], _ => rfl
  | b :: r, h => by
    have hb : b ≠ c := h 0 (by simp)
    have ih := cut_last r (fun j hj => h (j + 1) (by simpa using hj))
    unfold cut
    rw [if_neg hb, ih]
def pt (c : UInt8) (s : ByteArray) (i : Nat) : List ByteArray := (cut c (s.data.toList.drop i)).map S
theorem pt_zero (c : UInt8) (s : ByteArray) : pt c s 0 = parts c s := by simp [pt, parts]
theorem pt_hit {c : UInt8} {s : ByteArray} {f i : Nat} (hf : f ≤ i) (hi : i < s.size) (h : ∀ j (hj : j < s.size), f ≤ j → j < i → s[j] ≠ c) (hc : s[i] = c) : pt c s f = s.extract f i :: pt c s (i + 1) := by
  have hl := size_eq s
  have := cut_hit (c := c) (s.data.toList.drop f) (i - f) (by rw [List.length_drop]; omega)
    (fun j hj hjn => by
      rw [List.length_drop] at hj
      have := h (f + j) (by omega) (by omega) (by omega)
      rw [get_eq] at this
      simpa using this)
    (by
      rw [get_eq] at hc
      have e : f + (i - f) = i := by omega
      simpa [e] using hc)
  rw [pt, this, List.drop_drop, show f + (i - f + 1) = i + 1 by omega, List.map_cons, extract_S]; rfl
theorem pt_last {c : UInt8} {s : ByteArray} {f : Nat} (hf : f ≤ s.size) (h : ∀ j (hj : j < s.size), f ≤ j → s[j] ≠ c) : pt c s f = [s.extract f s.size] := by
  have hl := size_eq s
  have := cut_last (c := c) (s.data.toList.drop f)
    (fun j hj => by
      rw [List.length_drop] at hj
      have := h (f + j) (by omega) (by omega)
      rw [get_eq] at this
      simpa using this)
  rw [pt, this, ext_from]; rfl
theorem u8_ne {a b : UInt8} : ((a.toNat : Int) == (b.toNat : Int)) = false ↔ a ≠ b := by
  rw [beq_eq_false_iff_ne]
  constructor
  · rintro h rfl; exact h rfl
  · intro h e; exact h (UInt8.toNat_inj.1 (by omega))
theorem u8_eq {a b : UInt8} : ((a.toNat : Int) == (b.toNat : Int)) = true ↔ a = b := by
  rw [beq_iff_eq]
  constructor
  · intro e; exact UInt8.toNat_inj.1 (by omega)
  · rintro rfl; rfl

theorem Tryz.info9' : (Tryz.prog.info? 9).map (fun i => (i.zero, i.size, i.bytes)) = some (some (.string ByteArray.empty), 1, 16) := by kernel_rfl
set_option maxHeartbeats 2000000 in
set_option maxRecDepth 100000 in
theorem rsplit_any (s : ByteArray) (c : UInt8) (w : World) (hs : s.size ≤ 4294967280) :
    Calls Tryz.prog 86 #[.string s, .int .u8 (c.toNat : Nat)] w fun e w' => ∃ v, e = .returned v ∧ w'.ownsRow w.heap.size 9 1 v (parts c s).length ((parts c s).map Value.string) ∧ New w w' := by
  obtain ⟨i0, hi, hz0, hz1, hz2⟩ := info_parts Tryz.info9'
  obtain ⟨cn, hcn⟩ : ∃ cn : Int, (c.toNat : Int) = cn := ⟨_, rfl⟩
  rw [hcn]
  have hcn := Lib.hid hcn
  go_enter Tryz.func86, Tryz.ntmps86
  go_wp2
  go_loopw [5, 6, 7] (fun v5 v6 v7 wr => ∃ (f i : Nat) (ws : List ByteArray), v6 = .int .i64 f ∧ v7 = .int .i64 i ∧ f ≤ i ∧ i ≤ s.size ∧ ws.length ≤ i ∧ wr.ownsRow w.heap.size 9 1 v5 ws.length (ws.map Value.string) ∧ New w wr ∧ Hid (ws ++ pt c s f = parts c s) ∧ Hid (∀ j (hj : j < s.size), f ≤ j → j < i → s[j] ≠ c))
    (fun _ _ v7 _ => s.size - (intOf v7).toNat)
  case atStart => exact ⟨0, 0, [], rfl, rfl, by omega, by omega, by simp, World.ownsRow_nil .., New.refl w, Lib.hid (by rw [pt_zero]; rfl), Lib.hid (fun j hj h1 h2 => absurd h2 (by omega))⟩
  case round =>
    obtain ⟨f, i, ws, rfl, rfl, hfi, hle, hl, hown, hn, H1, HA⟩ := hrel
    by_cases hlt : i < s.size
    · by_cases hb : ((s[i].toNat : Int) == cn) = true
      · have HR := Lib.hid (pt_hit hfi hlt HA.out (u8_eq.1 (hcn.out ▸ hb)))
        have hb' : (s[i].toNat : Int) = cn := by simpa using hb
        go_wp2_with (at_builtin; refine wpList_append_own _ rfl (.tmp 19) (.tmp 24) 120 rfl w.heap.size 9 i0 (.string ByteArray.empty) 1 16 Tryz.underlying120 hi hz0 hz1 hz2 rfl (by decide) _ _ _ rfl (hown.alloc _) ⟨wr.heap.size, 0, none⟩ 1 1 [.string (s.extract f i)] rfl rfl ?c1 ?c2 ?c3 ?c4 ?c5 ?_)
        case c1 => exact cell_one_new _ _ _
        case c2 => simp [Value.oneCell']
        case c3 => simp [maxLen]; omega
        case c4 => omega
        case c5 => have := hn.size; simp; omega
        intro v' w1 hown1 hg1 _
        go_wp2
        go_roundw
        case rel => exact ⟨i + 1, i + 1, ws ++ [s.extract f i], by go_num, by go_num, by omega, by omega, by simp; omega, by simpa using hown1, Below.grown (hn.alloc _) hg1 (by have := hn.size; simp; omega) (fun k hk => (hown.lt k hk).1), Lib.hid (by rw [List.append_assoc, List.singleton_append, ← HR.out]; exact H1.out), Lib.hid (fun j hj h1 h2 => absurd h2 (by omega))⟩
        case measure => simp [intOf]; omega
      · have hb : ((s[i].toNat : Int) == cn) = false := by simpa using hb
        have HB := Lib.hid hb
        have hb' : ¬ (s[i].toNat : Int) = cn := by simpa using hb
        go_wp2
        go_roundw
        case rel => exact ⟨f, i + 1, ws, by go_num, by go_num, by omega, by omega, by omega, hown, hn, H1, Lib.hid (fun j hj h1 h2 => by
          by_cases h : j = i
          · subst h; exact u8_ne.1 (hcn.out ▸ HB.out)
          · exact HA.out j hj h1 (by omega))⟩
        case measure => simp [intOf]; omega
    · obtain rfl : i = s.size := by omega
      have HR := Lib.hid (pt_last hfi (fun j hj h1 => HA.out j hj h1 hj))
      have i1 : (f : Int) ≤ (s.size : Int) := by omega
      go_wp2_with (at_builtin; refine wpList_append_own _ rfl (.tmp 28) (.tmp 32) 120 rfl w.heap.size 9 i0 (.string ByteArray.empty) 1 16 Tryz.underlying120 hi hz0 hz1 hz2 rfl (by decide) _ _ _ rfl (hown.alloc _) ⟨wr.heap.size, 0, none⟩ 1 1 [.string (s.extract f s.size)] rfl rfl ?c6 ?c7 ?c8 ?c9 ?c10 ?_)
      case c6 => exact cell_one_new _ _ _
      case c7 => simp [Value.oneCell']
      case c8 => simp [maxLen]; omega
      case c9 => omega
      case c10 => have := hn.size; simp; omega
      intro v' w1 hown1 hg1 _
      go_wp2
      go_ret
      refine ⟨_, rfl, ?_, Below.grown (hn.alloc _) hg1 (by have := hn.size; simp; omega) (fun k hk => (hown.lt k hk).1)⟩
      have e : parts c s = ws ++ [s.extract f s.size] := by rw [← H1.out, HR.out]
      rw [e]
      simpa using hown1
set_option maxHeartbeats 2000000 in
set_option maxRecDepth 100000 in
theorem rpart_any (s : ByteArray) (w : World) : Calls Tryz.prog 87 #[.string s] w fun e w' => e = .returned (.bool (nameOK s)) ∧ w = w' := by
  by_cases h0 : 0 < s.size
  · have hv : nameOK s = (decide (s.size ≤ 32) && !((s[0].toNat : Int) == 46) && !((s[0].toNat : Int) == 45) && okAll s) := by
      unfold nameOK
      rw [data_cons h0]
    by_cases hg : s.size ≤ 32 ∧ ¬ (s[0].toNat : Int) = 46 ∧ ¬ (s[0].toNat : Int) = 45
    · obtain ⟨g1, g2, g3⟩ := hg
      have hv2 : nameOK s = okAll s := by rw [hv]; simp [g1, g2, g3]
      have HV := Lib.hid hv2; clear hv hv2
      have g0 : ¬ (s.size : Int) < 1 := by omega
      have g2b : ((s[0].toNat : Int) == 46) = false := beq_eq_false_iff_ne.2 g2
      have g3b : ((s[0].toNat : Int) == 45) = false := beq_eq_false_iff_ne.2 g3
      have g1' : ¬ (32 : Int) < (s.size : Int) := by omega
      go_enter Tryz.func87, Tryz.ntmps87
      go_wp2
      go_loopw [3] (fun v3 wr => ∃ i : Nat, v3 = .int .i64 i ∧ i ≤ s.size ∧ wr = w ∧ Hid ((s.data.toList.take i).all okb = true)) (fun v3 _ => s.size - (intOf v3).toNat)
      case atStart => exact ⟨0, rfl, by omega, rfl, Lib.hid (by simp)⟩
      case round =>
        obtain ⟨i, rfl, hi, rfl, H⟩ := hrel
        by_cases hlt : i < s.size
        · have hl : i < s.data.toList.length := by rw [← size_eq]; exact hlt
          cases hc : okc s[i].toNat
          · have HN := Lib.hid (show okAll s = false by
              have : okb (s.data.toList[i]'hl) = false := by rw [← get_eq s i hlt]; exact hc
              unfold okAll
              rw [List.all_eq_false]
              exact ⟨_, List.getElem_mem hl, by rw [this]; decide⟩)
            simp only [okc, Bool.or_eq_false_iff, Bool.and_eq_false_iff, decide_eq_false_iff_not, beq_eq_false_iff_ne] at hc
            obtain ⟨⟨⟨⟨hr1, hr2⟩, h46⟩, h95⟩, h45⟩ := hc
            go_wp2
            all_goals first | (exfalso; omega) | skip
            all_goals try (exfalso; rename_i hx; simp only [bne_eq_false_iff_eq, bne_iff_ne, ne_eq] at hx; omega)
            all_goals go_ret
            all_goals exact ⟨ret_b (by rw [HV.out, HN.out]), rfl⟩
          · have HC := Lib.hid hc
            have hrelN : Hid ((s.data.toList.take (i + 1)).all okb = true) := Lib.hid (by
              have e : okb (s.data.toList[i]'hl) = true := by rw [← get_eq s i hlt]; exact HC.out
              rw [List.take_succ_eq_append_getElem hl, List.all_append, H.out, List.all_cons, e]; rfl)
            simp only [okc, Bool.or_eq_true, Bool.and_eq_true, decide_eq_true_eq] at hc
            rcases hc with (((hc | hc) | hc) | hc) | hc
            all_goals try have hcn := beq_iff_eq.1 hc
            all_goals go_wp2
            all_goals first | (exfalso; omega) | skip
            all_goals try (exfalso; rename_i hx; simp only [bne_eq_false_iff_eq, bne_iff_ne, ne_eq] at hx; omega)
            all_goals refine ⟨⟨i + 1, by go_num, by omega, by trivial, hrelN⟩, by simp [intOf]; omega⟩
        · have h0 : i = s.size := by omega
          subst h0
          go_wp2
          go_ret
          refine ⟨ret_b ?_, rfl⟩
          rw [HV.out]
          have := H.out
          rw [List.take_of_length_le (by rw [← size_eq]; exact Nat.le_refl _)] at this
          exact this.symm
    · have hv2 : nameOK s = false := by rw [hv]; cases h : okAll s <;> simp; omega
      have HV := Lib.hid hv2; clear hv hv2
      have g0 : ¬ (s.size : Int) < 1 := by omega
      by_cases g1 : s.size ≤ 32
      · have g1' : ¬ (32 : Int) < (s.size : Int) := by omega
        by_cases g2 : (s[0].toNat : Int) = 46
        · have g2b : ((s[0].toNat : Int) == 46) = true := beq_iff_eq.2 g2
          clear hg
          go_enter Tryz.func87, Tryz.ntmps87
          go_wp2
          go_ret
          exact ⟨ret_b HV.out.symm, rfl⟩
        · have g2b : ((s[0].toNat : Int) == 46) = false := beq_eq_false_iff_ne.2 g2
          have g3 : (s[0].toNat : Int) = 45 := by omega
          have g3b : ((s[0].toNat : Int) == 45) = true := beq_iff_eq.2 g3
          clear hg
          go_enter Tryz.func87, Tryz.ntmps87
          go_wp2
          go_ret
          exact ⟨ret_b HV.out.symm, rfl⟩
      · have g1' : (32 : Int) < (s.size : Int) := by omega
        clear hg
        go_enter Tryz.func87, Tryz.ntmps87
        go_wp2
        go_ret
        exact ⟨ret_b HV.out.symm, rfl⟩
  · have h0 : s.size = 0 := by omega
    have hd : s.data.toList = [] := List.eq_nil_of_length_eq_zero (by rw [← size_eq]; exact h0)
    have hv : nameOK s = false := by unfold nameOK; rw [hd]
    have HV := Lib.hid hv; clear hv hd
    go_enter Tryz.func87, Tryz.ntmps87
    go_wp2
    go_ret
    exact ⟨ret_b HV.out.symm, rfl⟩
theorem pathOK_bad {s : ByteArray} {ws : List ByteArray} {x : ByteArray} (h : ws = parts 47 s) (hx : x ∈ ws) (hn : nameOK x = false) : pathOK s = false := by
  have : (parts 47 s).all nameOK = false := by rw [← h, List.all_eq_false]; exact ⟨x, hx, by rw [hn]; decide⟩
  rw [pathOK, this]; simp
set_option maxHeartbeats 2000000 in
set_option maxRecDepth 100000 in
theorem rpath_any (s : ByteArray) (w : World) : Calls Tryz.prog 56 #[.string s] w fun e w' => e = .returned (.int .i64 (pathE s)) ∧ New w w' := by
  by_cases hsz : s.size ≤ 128
  · have hsz' : ¬ (128 : Int) < (s.size : Int) := by omega
    have HS := Lib.hid (show Calls Tryz.prog 86 #[.string s, .int .u8 47] w _ from rsplit_any s 47 w (by omega))
    have HV : Hid (∀ n : Nat, (parts 47 s).length = n → 8 < n → pathE s = 2) := Lib.hid (fun n hn h => by unfold pathE pathOK; rw [hn, decide_eq_false (by omega : ¬ n ≤ 8)]; simp)
    have HV2 : Hid (∀ n : Nat, (parts 47 s).length = n → n ≤ 8 → (parts 47 s).all nameOK = true → pathE s = 0) := Lib.hid (fun n hn h h2 => by unfold pathE pathOK; rw [hn, h2, decide_eq_true h, decide_eq_true hsz]; simp)
    have HV3 : Hid (∀ x ∈ parts 47 s, nameOK x = false → pathE s = 2) := Lib.hid (fun x hx h => by unfold pathE; rw [pathOK_bad rfl hx h]; simp)
    obtain ⟨R, hR⟩ : ∃ R, pathE s = R := ⟨_, rfl⟩
    rw [hR] at HV HV2 HV3 ⊢
    generalize parts 47 s = ws at *
    obtain ⟨n, hn⟩ : ∃ n, ws.length = n := ⟨_, rfl⟩
    have HN := Lib.hid hn
    rw [hn] at HS
    clear hn hR
    by_cases h8 : n ≤ 8
    · have t1 : ¬ (8 : Int) < (n : Int) := by omega
      go_enter Tryz.func56, Tryz.ntmps56
      go_wp2_with (go_at_call 86; (with_reducible refine HS.out.mono ?_); rintro e w1 ⟨v, rfl, hown, n1⟩; obtain ⟨A, c, rfl, _, _, hrd⟩ := own_form hown; clear hown)
      go_loopw [16] (fun v16 wr => ∃ i : Nat, v16 = .int .i64 i ∧ i ≤ n ∧ New w1 wr ∧ Hid ((ws.take i).all nameOK = true)) (fun v16 _ => n - (intOf v16).toNat)
      case atStart => exact ⟨0, rfl, by omega, New.refl _, Lib.hid (by simp)⟩
      case round =>
        obtain ⟨i, rfl, hi9, hnr, HD⟩ := hrel
        by_cases hlt : i < n
        · have hil : i < ws.length := by rw [HN.out]; exact hlt
          obtain ⟨bk, o, rfl, hbk, hcell⟩ := (hrd.below hnr).2 (by omega)
          obtain ⟨x, hx⟩ : ∃ x, ws[i]? = some x := ⟨_, List.getElem?_eq_getElem hil⟩
          have q0 := hcell i (.string x) (by rw [List.getElem?_map, hx]; rfl)
          have HX := Lib.hid (List.mem_of_getElem? hx)
          have HT : Hid (ws.take (i + 1) = ws.take i ++ [x]) := Lib.hid (by
            obtain ⟨h1, h2⟩ := List.getElem?_eq_some_iff.1 hx
            rw [List.take_succ_eq_append_getElem h1, h2])
          have i0 : (0 : Int) ≤ (i : Int) := by omega
          have i1 : (i : Int) < (n : Int) := by omega
          have HP := Lib.hid (fun w => rpart_any x w)
          clear hcell hx hil
          cases hb : nameOK x
          · have hr2 := HV3.out x HX.out hb
            subst hr2
            rw [hb] at HP
            clear hb
            go_wp2_with (go_at_call 87; (with_reducible refine (HP.out _).mono ?_); rintro e w2 ⟨rfl, rfl⟩)
            go_ret
            exact ⟨rfl, n1.trans hnr⟩
          · have HB := Lib.hid hb
            rw [hb] at HP
            clear hb
            go_wp2_with (go_at_call 87; (with_reducible refine (HP.out _).mono ?_); rintro e w2 ⟨rfl, rfl⟩)
            go_roundw
            case rel => exact ⟨i + 1, by go_num, by omega, hnr, Lib.hid (by rw [HT.out, List.all_append, HD.out, List.all_cons, HB.out]; rfl)⟩
            case measure => simp [intOf]; omega
        · obtain rfl : i = n := by omega
          have hr2 := HV2.out i HN.out h8 (by have := HD.out; rwa [List.take_of_length_le (by rw [HN.out]; exact Nat.le_refl _)] at this)
          subst hr2
          go_wp2
          go_ret
          exact ⟨rfl, n1.trans hnr⟩
    · have t1 : (8 : Int) < (n : Int) := by omega
      have hr2 := HV.out n HN.out (by omega)
      subst hr2
      go_enter Tryz.func56, Tryz.ntmps56
      go_wp2_with (go_at_call 86; (with_reducible refine HS.out.mono ?_); rintro e w1 ⟨v, rfl, hown, n1⟩; obtain ⟨A, c, rfl, _, _, hrd⟩ := own_form hown; clear hown)
      go_ret
      exact ⟨rfl, n1⟩
  · have hsz' : (128 : Int) < (s.size : Int) := by omega
    have hv : pathE s = 2 := by unfold pathE pathOK; rw [decide_eq_false hsz]; rfl
    rw [hv]
    clear hv
    go_enter Tryz.func56, Tryz.ntmps56
    go_wp2
    go_ret
    exact ⟨rfl, New.refl _⟩
end Go.Proofs.YtnjampfhkojbnaaGreatDoor

namespace Go.Proofs.YtnjampfhkojbnaaGreatDoor
open Go Go.RowKit Go.Joins
set_option linter.unusedSimpArgs false
set_option linter.unusedVariables false

/-! ### names -/
theorem rletter_any (n : Int) (w : World) : Calls Tryz.prog 106 #[.int .u8 n] w fun e w' => e = .returned (.bool (letR n)) ∧ w = w' := by
  go_enter Tryz.func106, Tryz.ntmps106
  go_wp2
  all_goals go_ret
  all_goals exact ⟨ret_b (by rw [Bool.eq_iff_iff]; simp [letR] <;> omega), rfl⟩
theorem rdigit_any (n : Int) (w : World) : Calls Tryz.prog 107 #[.int .u8 n] w fun e w' => e = .returned (.bool (digR n)) ∧ w = w' := by
  go_enter Tryz.func107, Tryz.ntmps107
  go_wp2
  all_goals go_ret
  all_goals exact ⟨ret_b (by rw [Bool.eq_iff_iff]; simp [digR] <;> omega), rfl⟩
def chB (c : UInt8) : Bool := letR c.toNat || digR c.toNat
theorem tw_all (p : UInt8 → Bool) : ∀ l : List UInt8, decide ((l.takeWhile p).length = l.length) = l.all p
  | [] => rfl
  | c :: r => by
    have ih := tw_all p r
    cases hc : p c with
    | true => rw [List.takeWhile_cons_of_pos hc, List.all_cons, hc, Bool.true_and, ← ih]; simp
    | false => rw [List.takeWhile_cons_of_neg (by rw [hc]; decide), List.all_cons, hc]; simp
theorem run_all (s : ByteArray) : decide (runV true s = s.size) = s.data.toList.all chB := by
  unfold runV
  rw [size_eq s, tw_all]
  congr 1
  funext c
  unfold stopR chB
  cases letR c.toNat <;> cases digR c.toNat <;> rfl
set_option maxRecDepth 100000 in
set_option maxHeartbeats 2000000 in
theorem rform_any (s : ByteArray) (w : World) : Calls Tryz.prog 76 #[.string s] w fun e w' => e = .returned (.bool (formV s)) ∧ w = w' := by
  by_cases h0 : 0 < s.size
  · have hF := formV_at h0
    rw [run_all] at hF
    have t0 : ¬ (s.size : Int) < 1 := by omega
    by_cases h32 : s.size ≤ 32
    · have t1 : ¬ (32 : Int) < (s.size : Int) := by omega
      rw [decide_eq_true h32, Bool.and_true] at hF
      have HL := Lib.hid (fun w => rletter_any s[0].toNat w)
      cases hl : letR s[0].toNat
      · rw [hl, Bool.false_and] at hF
        rw [hl] at HL
        rw [hF]
        clear hF hl
        go_enter Tryz.func76, Tryz.ntmps76
        go_wp2_with (go_at_call 106; (with_reducible refine (HL.out _).mono ?_); rintro e w2 ⟨rfl, rfl⟩)
        go_ret
        exact ⟨rfl, rfl⟩
      · rw [hl, Bool.true_and] at hF
        rw [hl] at HL
        obtain ⟨R, hR⟩ : ∃ R, s.data.toList.all chB = R := ⟨_, rfl⟩
        rw [hR] at hF
        rw [hF]
        have HRR := Lib.hid hR
        clear hF hl hR
        go_enter Tryz.func76, Tryz.ntmps76
        go_wp2_with (go_at_call 106; (with_reducible refine (HL.out _).mono ?_); rintro e w2 ⟨rfl, rfl⟩)
        go_loop [3] (fun v3 => ∃ i : Nat, v3 = .int .i64 i ∧ i ≤ s.size ∧ Hid ((s.data.toList.take i).all chB = true)) (fun v3 => s.size - (intOf v3).toNat)
        case atStart => exact ⟨0, rfl, by omega, Lib.hid (by simp)⟩
        case round =>
          obtain ⟨i, rfl, hi, HA⟩ := hrel
          by_cases hlt : i < s.size
          · have hil : i < s.data.toList.length := by rw [← size_eq]; exact hlt
            have HT : Hid (s.data.toList.take (i + 1) = s.data.toList.take i ++ [s[i]]) := Lib.hid (by rw [List.take_succ_eq_append_getElem hil, get_eq])
            have HM : Hid (s[i] ∈ s.data.toList) := Lib.hid (by rw [get_eq]; exact List.getElem_mem hil)
            have HC : Hid (chB s[i] = (letR s[i].toNat || digR s[i].toNat)) := Lib.hid rfl
            have H1 := Lib.hid (fun w => rletter_any s[i].toNat w)
            have H2 := Lib.hid (fun w => rdigit_any s[i].toNat w)
            obtain ⟨x1, hx1⟩ : ∃ x, letR s[i].toNat = x := ⟨_, rfl⟩
            obtain ⟨x2, hx2⟩ : ∃ x, digR s[i].toNat = x := ⟨_, rfl⟩
            rw [hx1] at H1 HC
            rw [hx2] at H2 HC
            clear hx1 hx2
            cases x1
            · cases x2
              · have hRf : R = false := by rw [← HRR.out, List.all_eq_false]; exact ⟨_, HM.out, by rw [HC.out]; decide⟩
                subst hRf
                go_wp2_with (first
                  | (go_at_call 107; (with_reducible refine (H2.out _).mono ?_); rintro e w2 ⟨rfl, rfl⟩)
                  | (go_at_call 106; (with_reducible refine (H1.out _).mono ?_); rintro e w2 ⟨rfl, rfl⟩))
                go_ret
                exact ⟨rfl, rfl⟩
              · go_wp2_with (first
                  | (go_at_call 107; (with_reducible refine (H2.out _).mono ?_); rintro e w2 ⟨rfl, rfl⟩)
                  | (go_at_call 106; (with_reducible refine (H1.out _).mono ?_); rintro e w2 ⟨rfl, rfl⟩))
                go_round
                case rel => exact ⟨i + 1, by go_num, by omega, Lib.hid (by rw [HT.out, List.all_append, HA.out, List.all_cons, HC.out]; rfl)⟩
                case measure => simp [intOf]; omega
            · go_wp2_with (go_at_call 106; (with_reducible refine (H1.out _).mono ?_); rintro e w2 ⟨rfl, rfl⟩)
              go_round
              case rel => exact ⟨i + 1, by go_num, by omega, Lib.hid (by rw [HT.out, List.all_append, HA.out, List.all_cons, HC.out]; rfl)⟩
              case measure => simp [intOf]; omega
          · obtain rfl : i = s.size := by omega
            have hRt : R = true := by rw [← HRR.out]; have := HA.out; rwa [List.take_of_length_le (by rw [← size_eq]; exact Nat.le_refl _)] at this
            subst hRt
            go_wp2
            go_ret
            exact ⟨rfl, rfl⟩
    · have t1 : (32 : Int) < (s.size : Int) := by omega
      rw [decide_eq_false h32, Bool.and_false] at hF
      rw [hF]
      clear hF
      go_enter Tryz.func76, Tryz.ntmps76
      go_wp2
      go_ret
      exact ⟨rfl, rfl⟩
  · have t0 : (s.size : Int) < 1 := by omega
    rw [formV_nil (by omega)]
    go_enter Tryz.func76, Tryz.ntmps76
    go_wp2
    go_ret
    exact ⟨rfl, rfl⟩
def hasV (ws : List ByteArray) (s : ByteArray) : Bool := ws.any fun x => decide (x = s)
set_option maxRecDepth 100000 in
set_option maxHeartbeats 2000000 in
theorem rhas_any (ws : List ByteArray) (s : ByteArray) (A : Option Addr) (n c : Nat) (w : World) (hl : ws.length = n) (hr : Rd w 1 A n (ws.map Value.string)) (hn : n ≤ 4294967295) :
    Calls Tryz.prog 52 #[.slice A n c, .string s] w fun e w' => e = .returned (.bool (hasV ws s)) ∧ w = w' := by
  have HL := Lib.hid hl
  have HR := Lib.hid hr
  obtain ⟨X, hX⟩ : ∃ X, hasV ws s = X := ⟨_, rfl⟩
  rw [hX]
  have HX := Lib.hid hX
  clear hl hr hX
  go_enter Tryz.func52, Tryz.ntmps52
  go_wp2
  go_loop [9] (fun v9 => ∃ k : Nat, v9 = .int .i64 k ∧ k ≤ n ∧ Hid (∀ q ∈ ws.take k, q ≠ s)) (fun v9 => n - (intOf v9).toNat)
  case atStart => exact ⟨0, rfl, by omega, Lib.hid (by simp)⟩
  case round =>
    obtain ⟨k, rfl, hk, HNO⟩ := hrel
    by_cases hlt : k < n
    · have hkl : k < ws.length := by rw [HL.out]; exact hlt
      obtain ⟨bk, o, rfl, hbk, hcell⟩ := HR.out.2 (by omega)
      obtain ⟨x, hx⟩ : ∃ x, ws[k]? = some x := ⟨_, List.getElem?_eq_getElem hkl⟩
      have q0 := hcell k (.string x) (by rw [List.getElem?_map, hx]; rfl)
      have HTK : Hid (∀ q ∈ ws.take (k + 1), q ∈ ws.take k ∨ q = x) := Lib.hid (fun q hq => by
        obtain ⟨hi, he⟩ := List.getElem?_eq_some_iff.1 hx
        rw [List.take_succ_eq_append_getElem hi, List.mem_append, he] at hq
        simpa using hq)
      have HM := Lib.hid (List.mem_of_getElem? hx)
      have i0 : (0 : Int) ≤ (k : Int) := by omega
      have i1 : (k : Int) < (n : Int) := by omega
      have HE := Lib.hid (str_eq x s)
      clear hcell hkl hx
      by_cases he : x = s
      · have c9 : (x.toList == s.toList) = true := by rw [HE.out, decide_eq_true he]
        have hx2 : X = true := by rw [← HX.out]; unfold hasV; rw [List.any_eq_true]; exact ⟨x, HM.out, decide_eq_true he⟩
        subst hx2
        clear he
        go_wp2
        go_ret
        exact ⟨rfl, rfl⟩
      · have c9 : (x.toList == s.toList) = false := by rw [HE.out, decide_eq_false he]
        have HNE := Lib.hid he
        clear he
        go_wp2
        go_round
        case rel => exact ⟨k + 1, by go_num, by omega, Lib.hid (fun q hq => by
          rcases HTK.out q hq with h | rfl
          · exact HNO.out q h
          · exact HNE.out)⟩
        case measure => simp [intOf]; omega
    · obtain rfl : k = n := by omega
      have hx : X = false := by
        rw [← HX.out]
        unfold hasV
        rw [List.any_eq_false]
        intro q hq
        rw [decide_eq_false (HNO.out q (by rw [List.take_of_length_le (by rw [HL.out]; exact Nat.le_refl _)]; exact hq))]
        decide
      subst hx
      go_wp2
      go_ret
      exact ⟨rfl, rfl⟩
theorem has_kw (s : ByteArray) : hasV (kwN.map S) s = kwN.contains s.data.toList := by
  rw [Bool.eq_iff_iff]
  unfold hasV
  rw [List.any_eq_true, List.contains_iff_mem]
  constructor
  · rintro ⟨x, hx, he⟩
    obtain ⟨y, hy, rfl⟩ := List.mem_map.1 hx
    have := of_decide_eq_true he
    rw [← this]; exact hy
  · intro h
    exact ⟨S s.data.toList, List.mem_map.2 ⟨_, h, rfl⟩, decide_eq_true (S_data s)⟩
set_option maxRecDepth 100000 in
set_option maxHeartbeats 2000000 in
theorem rkeyword_any (s : ByteArray) (w : World) : Calls Tryz.prog 77 #[.string s] w fun e w' => e = .returned (.bool (kwN.contains s.data.toList)) ∧ New w w' := by
  rw [← has_kw]
  have HH := Lib.hid (rhas_any (kwN.map S) s (some ⟨w.heap.size, 0, none⟩) 22 22 _ rfl (rd_new w ((kwN.map S).map Value.string) 9 22 rfl) (by omega))
  have hn := (New.refl w).alloc (.cells ((kwN.map S).map Value.string).toArray 9)
  generalize hasV (kwN.map S) s = X at *
  have HN := Lib.hid hn
  clear hn
  simp only [kwN, S, List.map_cons, List.map_nil] at HH HN
  go_enter Tryz.func77, Tryz.ntmps77
  go_wp2_with (go_at_call 52; (with_reducible refine HH.out.mono ?_); rintro e w2 ⟨rfl, rfl⟩)
  go_ret
  exact ⟨rfl, HN.out⟩
set_option maxRecDepth 100000 in
set_option maxHeartbeats 2000000 in
theorem rname_any (s : ByteArray) (w : World) : Calls Tryz.prog 50 #[.string s] w fun e w' => e = .returned (.bool (nameV s)) ∧ New w w' := by
  have H1 := Lib.hid (fun w => rform_any s w)
  have H2 := Lib.hid (fun w => rkeyword_any s w)
  have hv : nameV s = (formV s && !kwN.contains s.data.toList) := rfl
  rw [hv]
  generalize formV s = f at *
  generalize kwN.contains s.data.toList = k at *
  clear hv
  cases f <;> cases k
  all_goals
    go_enter Tryz.func50, Tryz.ntmps50
    go_wp2_with (first
      | (go_at_call 77; (with_reducible refine (H2.out _).mono ?_); rintro e w2 ⟨rfl, n2⟩)
      | (go_at_call 76; (with_reducible refine (H1.out _).mono ?_); rintro e w1 ⟨rfl, rfl⟩))
    go_ret
    first | exact ⟨rfl, New.refl _⟩ | exact ⟨rfl, n2⟩
end Go.Proofs.YtnjampfhkojbnaaGreatDoor

namespace Go.Proofs.YtnjampfhkojbnaaGreatDoor
open Go Go.RowKit Go.Joins
set_option linter.unusedSimpArgs false
set_option linter.unusedVariables false

/-! ### names of objects -/
theorem cut_mem (c x : UInt8) : ∀ l : List UInt8, x ∈ l → x = c ∨ ∃ p ∈ cut c l, x ∈ p
  | [], h => by cases h
  | b :: r, h => by
    by_cases hb : b = c
    · rcases List.mem_cons.1 h with rfl | h
      · exact Or.inl hb
      · rcases cut_mem c x r h with e | ⟨p, hp, hx⟩
        · exact Or.inl e
        · refine Or.inr ⟨p, ?_, hx⟩
          unfold cut
          rw [if_pos hb]
          exact List.mem_cons_of_mem _ hp
    · have hne := cut_ne c r
      unfold cut
      rw [if_neg hb]
      cases hc : cut c r with
      | nil => exact absurd hc hne
      | cons p ps =>
        simp only
        rcases List.mem_cons.1 h with rfl | h
        · exact Or.inr ⟨_, List.mem_cons_self, List.mem_cons_self⟩
        · rcases cut_mem c x r h with e | ⟨q, hq, hx⟩
          · exact Or.inl e
          · rw [hc] at hq
            rcases List.mem_cons.1 hq with rfl | hq
            · exact Or.inr ⟨_, List.mem_cons_self, List.mem_cons_of_mem _ hx⟩
            · exact Or.inr ⟨q, List.mem_cons_of_mem _ hq, hx⟩
theorem path_no {l : List UInt8} (h : (33 : UInt8) ∈ l) : pathOK (S l) = false := by
  rcases cut_mem 47 33 l h with e | ⟨p, hp, hx⟩
  · exact absurd e (by decide)
  · refine pathOK_bad (ws := parts 47 (S l)) (x := S p) rfl ?_ ?_
    · unfold parts; rw [data_S]; exact List.mem_map.2 ⟨p, hp, rfl⟩
    · unfold nameOK
      rw [data_S]
      cases p with
      | nil => rfl
      | cons c r =>
        have : okAll (S (c :: r)) = false := by
          unfold okAll
          rw [data_S, List.all_eq_false]
          exact ⟨33, hx, by decide⟩
        rw [this]; simp
theorem named_parts (s : ByteArray) : namedV s = (decide ((parts 33 s).length ≤ 2) && (parts 33 s).all pathOK) := by
  unfold namedV parts Lib.cut
  rw [Lib.index_one]
  generalize s.data.toList = l
  by_cases h : 0 ≤ Lib.indexByte l 33
  · obtain ⟨i, hi⟩ : ∃ i : Nat, Lib.indexByte l 33 = (i : Int) := ⟨(Lib.indexByte l 33).toNat, by omega⟩
    rw [if_pos h, cut_some 33 l i hi, hi]
    simp only [Int.toNat_natCast, List.length_cons, List.length_nil, Nat.zero_add, Bool.not_true, Bool.false_or, List.map_cons, List.all_cons]
    by_cases h2 : 0 ≤ Lib.indexByte (l.drop (i + 1)) 33
    · obtain ⟨j, hj⟩ : ∃ j : Nat, Lib.indexByte (l.drop (i + 1)) 33 = (j : Int) := ⟨(Lib.indexByte (l.drop (i + 1)) 33).toNat, by omega⟩
      have hno : pathOK (S (l.drop (i + 1))) = false := path_no (List.mem_of_getElem? (Lib.indexByte_some hj).1)
      rw [hno, Bool.and_false, cut_some 33 _ j hj]
      have := cut_ne 33 ((l.drop (i + 1)).drop (j + 1))
      have hlen : 1 ≤ (cut 33 ((l.drop (i + 1)).drop (j + 1))).length := by
        rcases Nat.eq_zero_or_pos (cut 33 ((l.drop (i + 1)).drop (j + 1))).length with e | e
        · exact absurd (List.eq_nil_of_length_eq_zero e) this
        · exact e
      rw [decide_eq_false]
      · rfl
      · simp only [List.map_cons, List.length_cons, List.length_map]; omega
    · have h3 : Lib.indexByte (l.drop (i + 1)) 33 = -1 := by
        have := Lib.indexByte_ge (l.drop (i + 1)) 33
        omega
      rw [cut_none 33 _ h3]
      simp
  · have h3 : Lib.indexByte l 33 = -1 := by
      have := Lib.indexByte_ge l 33
      omega
    rw [if_neg h, cut_none 33 _ h3]
    simp

set_option maxRecDepth 100000 in
set_option maxHeartbeats 4000000 in
theorem rnamed_any (s : ByteArray) (w : World) (hs : s.size ≤ 4294967280) : Calls Tryz.prog 73 #[.string s] w fun e w' => e = .returned (.bool (namedV s)) ∧ New w w' := by
  have HS := Lib.hid (show Calls Tryz.prog 86 #[.string s, .int .u8 33] w _ from rsplit_any s 33 w (by omega))
  have hv := named_parts s
  rw [hv]
  have hp1 : parts 33 s ≠ [] := fun e => cut_ne 33 s.data.toList (by unfold parts at e; exact List.map_eq_nil_iff.1 e)
  clear hv
  generalize parts 33 s = ws at *
  match ws, hp1 with
  | [a], _ =>
    have HS1 : Hid (Calls Tryz.prog 86 #[.string s, .int .u8 33] w fun e w' => ∃ v, e = .returned v ∧ w'.ownsRow w.heap.size 9 1 v 1 [.string a] ∧ New w w') := Lib.hid HS.out
    clear HS
    have hd : decide (([a] : List ByteArray).length ≤ 2) = true := rfl
    rw [hd, Bool.true_and]
    have HA := Lib.hid (fun w => rpath_any a w)
    have hr : ([a].all pathOK) = pathOK a := by simp
    rw [hr]
    have ea : pathE a = (if pathOK a = true then 0 else 2) := rfl
    cases hk : pathOK a
    all_goals
      rw [hk] at ea
      simp only [if_true, if_false, Bool.false_eq_true] at ea
      rw [ea] at HA
      clear ea
      clear hk hr
      go_enter Tryz.func73, Tryz.ntmps73
      go_wp2_with (first
        | (go_at_call 56; have hq := n2; (with_reducible refine (HA.out _).mono ?_); rintro e w3 ⟨rfl, n3⟩)
        | (go_at_call 56; have hq := n1; (with_reducible refine (HA.out _).mono ?_); rintro e w2 ⟨rfl, n2⟩; have f1 := cell_new n2 f0)
        | (go_at_call 86; (with_reducible refine HS1.out.mono ?_); rintro e w1 ⟨v, rfl, hown, n1⟩; obtain ⟨A, c, rfl, _, _, hrd⟩ := own_form hown; clear hown; obtain ⟨b, o, rfl, hb, hcell⟩ := hrd.2 (by simp); have f0 := hcell 0 (.string a) rfl; simp only [Nat.add_zero] at f0; clear hcell))
      go_ret
      first | exact ⟨rfl, n1.trans (n2.trans n3)⟩ | exact ⟨rfl, n1.trans n2⟩
  | [a, b2], _ =>
    have HS1 : Hid (Calls Tryz.prog 86 #[.string s, .int .u8 33] w fun e w' => ∃ v, e = .returned v ∧ w'.ownsRow w.heap.size 9 1 v 2 [.string a, .string b2] ∧ New w w') := Lib.hid HS.out
    clear HS
    have hd : decide (([a, b2] : List ByteArray).length ≤ 2) = true := rfl
    rw [hd, Bool.true_and]
    have HA := Lib.hid (fun w => rpath_any a w)
    have HB := Lib.hid (fun w => rpath_any b2 w)
    have hr : ([a, b2].all pathOK) = (pathOK a && pathOK b2) := by simp
    rw [hr]
    have ea : pathE a = (if pathOK a = true then 0 else 2) := rfl
    have eb : pathE b2 = (if pathOK b2 = true then 0 else 2) := rfl
    cases hk : pathOK a <;> cases hk2 : pathOK b2
    all_goals
      rw [hk] at ea
      rw [hk2] at eb
      simp only [if_true, if_false, Bool.false_eq_true] at ea eb
      rw [ea] at HA
      rw [eb] at HB
      clear ea eb
      clear hk hk2 hr
      go_enter Tryz.func73, Tryz.ntmps73
      go_wp2_with (first
        | (go_at_call 56; have hq := n2; (with_reducible refine (HB.out _).mono ?_); rintro e w3 ⟨rfl, n3⟩)
        | (go_at_call 56; have hq := n1; (with_reducible refine (HA.out _).mono ?_); rintro e w2 ⟨rfl, n2⟩; have f1 := cell_new n2 f0; have g1 := cell_new n2 g0)
        | (go_at_call 86; (with_reducible refine HS1.out.mono ?_); rintro e w1 ⟨v, rfl, hown, n1⟩; obtain ⟨A, c, rfl, _, _, hrd⟩ := own_form hown; clear hown; obtain ⟨b, o, rfl, hb, hcell⟩ := hrd.2 (by simp); have f0 := hcell 0 (.string a) rfl; simp only [Nat.add_zero] at f0; have g0 := hcell 1 (.string b2) rfl; clear hcell))
      go_ret
      first | exact ⟨rfl, n1.trans (n2.trans n3)⟩ | exact ⟨rfl, n1.trans n2⟩
  | a :: b2 :: c2 :: r, _ =>
    have hd : decide ((a :: b2 :: c2 :: r).length ≤ 2) = false := decide_eq_false (by simp only [List.length_cons]; omega)
    have t1 : ¬ ((a :: b2 :: c2 :: r).length : Int) ≤ 2 := by simp only [List.length_cons]; omega
    rw [hd, Bool.false_and]
    generalize (a :: b2 :: c2 :: r).length = n at *
    clear hd
    go_enter Tryz.func73, Tryz.ntmps73
    go_wp2_with (go_at_call 86; (with_reducible refine HS.out.mono ?_); rintro e w1 ⟨v, rfl, hown, n1⟩; obtain ⟨A, c, rfl, _, _, hrd⟩ := own_form hown; clear hown)
    go_ret
    exact ⟨rfl, n1⟩

/-! ### addresses -/
theorem rup_any (n : Nat) (w : World) (hn : n ≤ 1000000000) : Calls Tryz.prog 74 #[.int .i64 n] w fun e w' => e = .returned (.int .i64 (up4 n : Nat)) ∧ w = w' := by
  have h1 : ((up4 n : Nat) : Int) = ((n : Int) + 3) / 4 * 4 := by unfold up4; omega
  rw [h1]
  clear h1
  go_enter Tryz.func74, Tryz.ntmps74
  go_wp2
  go_ret
  exact ⟨rfl, rfl⟩
set_option maxRecDepth 100000 in
set_option maxHeartbeats 4000000 in
theorem rwithin_any (b : Bn) (h : BH) (a : Int) (w : World) (hP : PlOK b) (hr : BRd w b h) :
    Calls Tryz.prog 75 #[.agg (bcells b h), .int .i64 a] w fun e w' => e = .returned (.bool (withinV b.places a)) ∧ New w w' := by
  have HM := Lib.hid hP.mem
  have hle := hP.le
  have hlp := hP.len
  have hR1 := hr.r1
  obtain ⟨kind, entry, image, places, fix, imps, exps, notes⟩ := b
  obtain ⟨a1, c1, a2, c2, a3, c3, a4, c4, a5, c5⟩ := h
  simp only [bcells] at HM hle hlp hR1 ⊢
  obtain ⟨n, hn⟩ : ∃ n, places.length = n := ⟨_, rfl⟩
  rw [hn] at hR1 hlp ⊢
  have HN := Lib.hid hn
  have HR1 := Lib.hid hR1
  obtain ⟨N, hNN⟩ : ∃ N, image.size = N := ⟨_, rfl⟩
  rw [hNN] at HM hle
  generalize fix.length = n2 at *
  generalize imps.length = n3 at *
  generalize exps.length = n4 at *
  generalize notes.length = n5 at *
  obtain ⟨R, hR⟩ : ∃ R, withinV places a = R := ⟨_, rfl⟩
  rw [hR]
  have HRR := Lib.hid hR
  have hw1 := (New.refl w).alloc (.cells #[.int .i64 kind, .int .i64 entry, .string image, .slice a1 n c1, .slice a2 n2 c2, .slice a3 n3 c3, .slice a4 n4 c4, .slice a5 n5 c5] 28)
  clear hr hP hR1 hn hNN hR
  go_enter Tryz.func75, Tryz.ntmps75
  go_wp2
  go_loopw [10] (fun v10 wr => ∃ i : Nat, v10 = .int .i64 i ∧ i ≤ n ∧ New w wr ∧ Hid (∀ q ∈ places.take i, withinP q a = false)) (fun v10 _ => n - (intOf v10).toNat)
  case atStart => exact ⟨0, rfl, by omega, hw1, Lib.hid (by simp)⟩
  case round =>
    clear hw1
    obtain ⟨i, rfl, hi9, hnr, HNO⟩ := hrel
    by_cases hlt : i < n
    · obtain ⟨bk, o, rfl, hbk, p, hp, hcell⟩ := rd_row (f := plC) (k := 5) (fun _ => rfl) HN.out (HR1.out.below hnr) hlt
      obtain ⟨m1, m2, m3⟩ := HM.out p (List.mem_of_getElem? hp)
      have HTK : Hid (∀ q ∈ places.take (i + 1), q ∈ places.take i ∨ q = p) := Lib.hid (fun q hq => by
        obtain ⟨hi, he⟩ := List.getElem?_eq_some_iff.1 hp
        rw [List.take_succ_eq_append_getElem hi, List.mem_append, he] at hq
        simpa using hq)
      have HMM := Lib.hid (List.mem_of_getElem? hp)
      obtain ⟨po, ps, pk, pa, pz⟩ := p
      have q0 := hcell 0 (.string po) (by omega) rfl
      have q1 := hcell 1 (.string ps) (by omega) rfl
      have q2 := hcell 2 (.int .i64 pk) (by omega) rfl
      have q3 := hcell 3 (.int .i64 pa) (by omega) rfl
      have q4 := hcell 4 (.int .i64 pz) (by omega) rfl
      simp only [Nat.add_zero] at q0
      rw [← Nat.add_assoc] at q1 q2 q3 q4
      simp only at m1 m2 m3
      have i0 : (0 : Int) ≤ (i : Int) := by omega
      have i1 : (i : Int) < (n : Int) := by omega
      have HWI : Hid (withinP ⟨po, ps, pk, pa, pz⟩ a = (decide (pa ≤ a) && decide (a + 4 ≤ pa + pz))) := Lib.hid rfl
      clear hcell hp
      by_cases c1' : pa ≤ a
      · have d1 : (0 : Int) ≤ pa := m1
        by_cases c2' : a ≤ pa + pz - 4
        · have hRt : R = true := by
            rw [← HRR.out]; unfold withinV; rw [List.any_eq_true]
            exact ⟨_, HMM.out, by rw [HWI.out, decide_eq_true c1', decide_eq_true (by omega)]; rfl⟩
          subst hRt
          go_wp2
          go_ret
          exact ⟨rfl, hnr.alloc _⟩
        · have hno : withinP ⟨po, ps, pk, pa, pz⟩ a = false := by rw [HWI.out, decide_eq_false (by omega : ¬ a + 4 ≤ pa + pz), Bool.and_false]
          have HNO2 := Lib.hid hno
          clear hno
          go_wp2
          go_roundw
          case rel => exact ⟨i + 1, by go_num, by omega, hnr.alloc _, Lib.hid (fun q hq => by
            rcases HTK.out q hq with h | rfl
            · exact HNO.out q h
            · exact HNO2.out)⟩
          case measure => simp [intOf]; omega
      · have hno : withinP ⟨po, ps, pk, pa, pz⟩ a = false := by rw [HWI.out, decide_eq_false c1', Bool.false_and]
        have HNO2 := Lib.hid hno
        clear hno
        go_wp2
        go_roundw
        case rel => exact ⟨i + 1, by go_num, by omega, hnr.alloc _, Lib.hid (fun q hq => by
          rcases HTK.out q hq with h | rfl
          · exact HNO.out q h
          · exact HNO2.out)⟩
        case measure => simp [intOf]; omega
    · obtain rfl : i = n := by omega
      have hRf : R = false := by
        rw [← HRR.out]; unfold withinV; rw [List.any_eq_false]
        intro q hq
        rw [HNO.out q (by rw [List.take_of_length_le (by rw [HN.out]; exact Nat.le_refl _)]; exact hq)]
        decide
      subst hRf
      go_wp2
      go_ret
      exact ⟨rfl, hnr⟩
def begP (a : Int) (s : ByteArray) (p : PlD) : Bool := decide (p.pos = a) && (decide (s.size = 0) || decide (p.sym = s))
set_option maxRecDepth 100000 in
set_option maxHeartbeats 4000000 in
theorem rbegins_any (b : Bn) (h : BH) (a : Int) (s : ByteArray) (w : World) (hlp : b.places.length ≤ 1000000) (hr : BRd w b h) :
    Calls Tryz.prog 51 #[.agg (bcells b h), .int .i64 a, .string s] w fun e w' => e = .returned (.bool (b.places.any (begP a s))) ∧ New w w' := by
  have hR1 := hr.r1
  obtain ⟨kind, entry, image, places, fix, imps, exps, notes⟩ := b
  obtain ⟨a1, c1, a2, c2, a3, c3, a4, c4, a5, c5⟩ := h
  simp only [bcells] at hlp hR1 ⊢
  obtain ⟨n, hn⟩ : ∃ n, places.length = n := ⟨_, rfl⟩
  rw [hn] at hR1 hlp ⊢
  have HN := Lib.hid hn
  have HR1 := Lib.hid hR1
  generalize fix.length = n2 at *
  generalize imps.length = n3 at *
  generalize exps.length = n4 at *
  generalize notes.length = n5 at *
  obtain ⟨R, hR⟩ : ∃ R, places.any (begP a s) = R := ⟨_, rfl⟩
  rw [hR]
  have HRR := Lib.hid hR
  have hw1 := (New.refl w).alloc (.cells #[.int .i64 kind, .int .i64 entry, .string image, .slice a1 n c1, .slice a2 n2 c2, .slice a3 n3 c3, .slice a4 n4 c4, .slice a5 n5 c5] 28)
  clear hr hR1 hn hR
  have HSZ : Hid (s.toList.isEmpty = decide (s.size = 0)) := Lib.hid (by
    rw [toList_eq, size_eq, Bool.eq_iff_iff, List.isEmpty_iff, decide_eq_true_eq]
    exact ⟨fun h => by rw [h]; rfl, fun h => List.eq_nil_of_length_eq_zero h⟩)
  go_enter Tryz.func51, Tryz.ntmps51
  go_wp2
  go_loopw [12] (fun v12 wr => ∃ i : Nat, v12 = .int .i64 i ∧ i ≤ n ∧ New w wr ∧ Hid (∀ q ∈ places.take i, begP a s q = false)) (fun v12 _ => n - (intOf v12).toNat)
  case atStart => exact ⟨0, rfl, by omega, hw1, Lib.hid (by simp)⟩
  case round =>
    clear hw1
    obtain ⟨i, rfl, hi9, hnr, HNO⟩ := hrel
    by_cases hlt : i < n
    · obtain ⟨bk, o, rfl, hbk, p, hp, hcell⟩ := rd_row (f := plC) (k := 5) (fun _ => rfl) HN.out (HR1.out.below hnr) hlt
      have HTK : Hid (∀ q ∈ places.take (i + 1), q ∈ places.take i ∨ q = p) := Lib.hid (fun q hq => by
        obtain ⟨hi, he⟩ := List.getElem?_eq_some_iff.1 hp
        rw [List.take_succ_eq_append_getElem hi, List.mem_append, he] at hq
        simpa using hq)
      have HMM := Lib.hid (List.mem_of_getElem? hp)
      obtain ⟨po, ps, pk, pa, pz⟩ := p
      have q0 := hcell 0 (.string po) (by omega) rfl
      have q1 := hcell 1 (.string ps) (by omega) rfl
      have q2 := hcell 2 (.int .i64 pk) (by omega) rfl
      have q3 := hcell 3 (.int .i64 pa) (by omega) rfl
      have q4 := hcell 4 (.int .i64 pz) (by omega) rfl
      simp only [Nat.add_zero] at q0
      rw [← Nat.add_assoc] at q1 q2 q3 q4
      have i0 : (0 : Int) ≤ (i : Int) := by omega
      have i1 : (i : Int) < (n : Int) := by omega
      have HB : Hid (begP a s ⟨po, ps, pk, pa, pz⟩ = (decide (pa = a) && (decide (s.size = 0) || decide (ps = s)))) := Lib.hid rfl
      have HE := Lib.hid (str_eq ps s)
      clear hcell hp
      by_cases c1' : pa = a
      · subst c1'
        rw [decide_eq_true rfl, Bool.true_and] at HB
        have c3 : (pa == pa) = true := beq_self_eq_true _
        by_cases c2' : s.size = 0
        · rw [decide_eq_true c2', Bool.true_or] at HB
          have c4 : s.toList.isEmpty = true := by rw [HSZ.out, decide_eq_true c2']
          have c5 : s.toList = [] := List.isEmpty_iff.1 c4
          have hRt : R = true := by rw [← HRR.out, List.any_eq_true]; exact ⟨_, HMM.out, HB.out⟩
          subst hRt
          clear c2' c4
          go_wp2
          go_ret
          exact ⟨rfl, hnr.alloc _⟩
        · rw [decide_eq_false c2', Bool.false_or] at HB
          have c4 : s.toList.isEmpty = false := by rw [HSZ.out, decide_eq_false c2']
          by_cases c6 : ps = s
          · have c7 : (ps.toList == s.toList) = true := by rw [HE.out, decide_eq_true c6]
            have hRt : R = true := by rw [← HRR.out, List.any_eq_true]; exact ⟨_, HMM.out, by rw [HB.out, decide_eq_true c6]⟩
            subst hRt
            clear c6 c2'
            go_wp2
            go_ret
            exact ⟨rfl, hnr.alloc _⟩
          · have c7 : (ps.toList == s.toList) = false := by rw [HE.out, decide_eq_false c6]
            have HNO2 := Lib.hid (HB.out.trans (decide_eq_false c6))
            clear c6 c2'
            go_wp2
            go_roundw
            case rel => exact ⟨i + 1, by go_num, by omega, hnr.alloc _, Lib.hid (fun q hq => by
              rcases HTK.out q hq with h | rfl
              · exact HNO.out q h
              · exact HNO2.out)⟩
            case measure => simp [intOf]; omega
      · have c3 : (pa == a) = false := beq_eq_false_iff_ne.2 c1'
        have HNO2 : Hid (begP a s ⟨po, ps, pk, pa, pz⟩ = false) := Lib.hid (by rw [HB.out, decide_eq_false c1', Bool.false_and])
        clear c1'
        go_wp2
        go_roundw
        case rel => exact ⟨i + 1, by go_num, by omega, hnr.alloc _, Lib.hid (fun q hq => by
          rcases HTK.out q hq with h | rfl
          · exact HNO.out q h
          · exact HNO2.out)⟩
        case measure => simp [intOf]; omega
    · obtain rfl : i = n := by omega
      have hRf : R = false := by
        rw [← HRR.out, List.any_eq_false]
        intro q hq
        rw [HNO.out q (by rw [List.take_of_length_le (by rw [HN.out]; exact Nat.le_refl _)]; exact hq)]
        decide
      subst hRf
      go_wp2
      go_ret
      exact ⟨rfl, hnr⟩

/-! ### the word -/
theorem u32_in (n : Nat) (h : n < 4294967296) : IntKind.u32.wrap (n : Int) = (n : Int) := by
  have : IntKind.u32.wrap (n : Int) = (n : Int) % 4294967296 := by simp [IntKind.wrap, IntKind.signed, IntKind.bits]
  rw [this]; omega
theorem ofInt32 (a : Nat) (ha : a < 4294967296) : (BitVec.ofInt 32 (a : Int)).toNat = a := by
  rw [BitVec.ofInt_natCast, BitVec.toNat_ofNat]; exact Nat.mod_eq_of_lt (by omega)
theorem or32_nat (a b : Nat) (ha : a < 4294967296) (hb : b < 4294967296) : bits .or .u32 (a : Int) (b : Int) = ((a ||| b : Nat) : Int) := by
  have hx : a ||| b < 2 ^ 32 := Nat.or_lt_two_pow (by omega) (by omega)
  show IntKind.u32.wrap ((BitVec.ofInt 32 (a : Int) ||| BitVec.ofInt 32 (b : Int)).toNat : Int) = _
  rw [BitVec.toNat_or, ofInt32 a ha, ofInt32 b hb, u32_in _ (by omega)]
theorem or32 (x y : Nat) (m : Nat) (hx : x < 2 ^ m) (hb : x + 2 ^ m * y < 4294967296) : bits .or .u32 (x : Int) ((2 ^ m * y : Nat) : Int) = ((x + 2 ^ m * y : Nat) : Int) := by
  have h1 : 2 ^ m * y + x = 2 ^ m * y ||| x := Nat.two_pow_add_eq_or_of_lt hx y
  have h2 : x ||| 2 ^ m * y = x + 2 ^ m * y := by rw [Nat.or_comm, ← h1, Nat.add_comm]
  generalize 2 ^ m * y = z at *
  rw [or32_nat _ _ (by omega) (by omega), h2]
theorem word_sum32 (a b c d : Nat) (ha : a < 256) (hb : b < 256) (hc : c < 256) (hd : d < 256) :
    bits .or .u32 (bits .or .u32 (bits .or .u32 ((a : Int) % 4294967296) ((b : Int) % 4294967296 * 256 % 4294967296)) ((c : Int) % 4294967296 * 65536 % 4294967296)) ((d : Int) % 4294967296 * 16777216 % 4294967296) = ((a + 256 * b + 65536 * c + 16777216 * d : Nat) : Int) := by
  have e0 : (a : Int) % 4294967296 = ((a : Nat) : Int) := by omega
  have e1 : (b : Int) % 4294967296 * 256 % 4294967296 = ((2 ^ 8 * b : Nat) : Int) := by omega
  have e2 : (c : Int) % 4294967296 * 65536 % 4294967296 = ((2 ^ 16 * c : Nat) : Int) := by omega
  have e3 : (d : Int) % 4294967296 * 16777216 % 4294967296 = ((2 ^ 24 * d : Nat) : Int) := by omega
  rw [e0, e1, e2, e3, or32 a b 8 (by omega) (by omega), or32 _ c 16 (by omega) (by omega), or32 _ d 24 (by omega) (by omega)]
set_option maxRecDepth 100000 in
set_option maxHeartbeats 2000000 in
theorem rword_any (s : ByteArray) (k : Nat) (w : World) (hk : k + 4 ≤ s.size) (hs : s.size ≤ 1000000000) :
    Calls Tryz.prog 57 #[.string s, .int .i64 k] w fun e w' => e = .returned (.int .u32 (wordV s k)) ∧ New w w' := by
  have k1 : IntKind.i64.wrap ((k : Int) + 1) = (k : Int) + 1 := IntWalk.i64_in _ (by omega)
  have k2 : IntKind.i64.wrap ((k : Int) + 2) = (k : Int) + 2 := IntWalk.i64_in _ (by omega)
  have k3 : IntKind.i64.wrap ((k : Int) + 3) = (k : Int) + 3 := IntWalk.i64_in _ (by omega)
  have j0 : (k : Int) < (s.size : Int) := by omega
  have j1 : (k : Int) + 1 < (s.size : Int) := by omega
  have j2 : (k : Int) + 2 < (s.size : Int) := by omega
  have j3 : (k : Int) + 3 < (s.size : Int) := by omega
  have i1 : (0 : Int) ≤ (k : Int) + 1 := by omega
  have i2 : (0 : Int) ≤ (k : Int) + 2 := by omega
  have i3 : (0 : Int) ≤ (k : Int) + 3 := by omega
  have m1 : ((k : Int) + 1).toNat = k + 1 := by omega
  have m2 : ((k : Int) + 2).toNat = k + 2 := by omega
  have m3 : ((k : Int) + 3).toNat = k + 3 := by omega
  have l0 : k < s.size := by omega
  have l1 : k + 1 < s.size := by omega
  have l2 : k + 2 < s.size := by omega
  have l3 : k + 3 < s.size := by omega
  go_enter Tryz.func57, Tryz.ntmps57
  go_wp2
  go_quiet (fail)
  go_wp2
  go_ret
  refine ⟨?_, (New.refl w).drewN nq⟩
  have hv := word_sum32 _ _ _ _ (byN_lt s k) (byN_lt s (k + 1)) (byN_lt s (k + 2)) (byN_lt s (k + 3))
  rw [byN_in l0, byN_in l1, byN_in l2, byN_in l3] at hv
  unfold wordV
  rw [byN_in l0, byN_in l1, byN_in l2, byN_in l3, ← hv]
  rfl
end Go.Proofs.YtnjampfhkojbnaaGreatDoor

