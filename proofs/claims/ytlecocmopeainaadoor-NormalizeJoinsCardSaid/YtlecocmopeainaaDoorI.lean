/- The reference's Path, Number and note. No conditions but the lengths' own. -/
import Derived.Test.YtlecocmopeainaaDoorH
namespace Go.Proofs.YtlecocmopeainaaDoor
open Go Go.RowKit

theorem pathOK_bad {s : ByteArray} {done rest : List ByteArray} {x : ByteArray} (h : done ++ x :: rest = parts 47 s) (hx : nameOK x = false) : pathOK s = false := by
  rw [pathOK, ← h, List.all_append, List.all_cons, hx]; simp
set_option maxHeartbeats 2000000 in
set_option maxRecDepth 100000 in
theorem rpath_any (s : ByteArray) (w : World) : Calls Tryd.prog 43 #[.string s] w fun e w' => e = .returned (.bool (pathOK s)) ∧ w = w' := by
  by_cases hsz : s.size ≤ 128
  · have hsz' : ¬ (128 : Int) < (s.size : Int) := by omega
    have hv : ∀ done : List ByteArray, done = parts 47 s → done.all nameOK = true → pathOK s = decide ((done.length : Int) ≤ 8) := fun done h1 h2 => by
      rw [pathOK, ← h1, h2]; simp [hsz]; omega
    have HV := Lib.hid hv; clear hv
    go_enter Tryd.func43, Tryd.ntmps43
    go_wp2
    go_loopw [3, 4, 5] (fun v3 v4 v5 wr => ∃ (f i : Nat) (done : List ByteArray), v3 = .int .i64 (done.length : Nat) ∧ v4 = .int .i64 f ∧ v5 = .int .i64 i ∧ f ≤ i ∧ i ≤ s.size + 1 ∧ done.length ≤ i ∧ wr = w ∧ Hid (done.all nameOK = true) ∧ Hid (if i ≤ s.size then done ++ pt 47 s f = parts 47 s else done = parts 47 s) ∧ Hid (∀ j (hj : j < s.size), f ≤ j → j < i → s[j] ≠ 47))
      (fun _ _ v5 _ => s.size + 1 - (intOf v5).toNat)
    case atStart => exact ⟨0, 0, [], rfl, rfl, rfl, by omega, by omega, by simp, rfl, Lib.hid rfl, Lib.hid (by rw [if_pos (by omega), pt_zero]; rfl), Lib.hid (fun j hj h1 h2 => absurd h2 (by omega))⟩
    case round =>
      obtain ⟨f, i, done, rfl, rfl, rfl, hfi, hle, hl, rfl, HD, H, HA⟩ := hrel
      by_cases hlt : i < s.size
      · have H1 : Hid (done ++ pt 47 s f = parts 47 s) := Lib.hid (by have := H.out; rwa [if_pos (by omega)] at this)
        by_cases hb : (s[i].toNat : Int) = 47
        · have hb2 : ((s[i].toNat : Int) != 47) = false := by simp [hb]
          have HR := Lib.hid (pt_hit hfi hlt HA.out (u8_eq.1 (beq_iff_eq.2 hb)))
          cases hx : nameOK (s.extract f i)
          · have HX := Lib.hid hx; clear hx
            go_wp2_with (go_at_call 80; refine (rname_any _ _).mono ?_; rw [HX.out]; rintro e w' ⟨rfl, rfl⟩)
            go_ret
            exact ⟨ret_b (by rw [pathOK_bad (HR.out ▸ H1.out) HX.out]), rfl⟩
          · have HX := Lib.hid hx; clear hx
            go_wp2_with (go_at_call 80; refine (rname_any _ _).mono ?_; rw [HX.out]; rintro e w' ⟨rfl, rfl⟩)
            go_roundw
            case rel => exact ⟨i + 1, i + 1, done ++ [s.extract f i], by simp, by go_num, by go_num, by omega, by omega, by simp; omega, by trivial, Lib.hid (by rw [List.all_append, HD.out, List.all_cons, HX.out]; rfl), Lib.hid (by rw [if_pos (by omega), List.append_assoc, List.singleton_append, ← HR.out]; exact H1.out), Lib.hid (fun j hj h1 h2 => absurd h2 (by omega))⟩
            case measure => simp [intOf]; omega
        · have hb2 : ((s[i].toNat : Int) != 47) = true := by simp [hb]
          have HB := Lib.hid hb
          go_wp2
          go_roundw
          case rel => exact ⟨f, i + 1, done, rfl, rfl, by go_num, by omega, by omega, by omega, by trivial, HD, Lib.hid (by rw [if_pos (by omega)]; exact H1.out), Lib.hid (fun j hj h1 h2 => by
            by_cases h : j = i
            · subst h; exact u8_ne.1 (beq_eq_false_iff_ne.2 HB.out)
            · exact HA.out j hj h1 (by omega))⟩
          case measure => simp [intOf]; omega
      · by_cases h0 : i = s.size
        · subst h0
          have H1 : Hid (done ++ pt 47 s f = parts 47 s) := Lib.hid (by have := H.out; rwa [if_pos (by omega)] at this)
          have HR := Lib.hid (pt_last hfi (fun j hj h1 => HA.out j hj h1 hj))
          cases hx : nameOK (s.extract f s.size)
          · have HX := Lib.hid hx; clear hx
            go_wp2_with (go_at_call 80; refine (rname_any _ _).mono ?_; rw [HX.out]; rintro e w' ⟨rfl, rfl⟩)
            go_ret
            exact ⟨ret_b (by rw [pathOK_bad (HR.out ▸ H1.out) HX.out]), rfl⟩
          · have HX := Lib.hid hx; clear hx
            go_wp2_with (go_at_call 80; refine (rname_any _ _).mono ?_; rw [HX.out]; rintro e w' ⟨rfl, rfl⟩)
            go_roundw
            case rel => exact ⟨s.size + 1, s.size + 1, done ++ [s.extract f s.size], by simp, by go_num, by go_num, by omega, by omega, by simp; omega, by trivial, Lib.hid (by rw [List.all_append, HD.out, List.all_cons, HX.out]; rfl), Lib.hid (by rw [if_neg (by omega), ← HR.out]; exact H1.out), Lib.hid (fun j hj h1 h2 => absurd h1 (by omega))⟩
            case measure => simp [intOf]
        · have h1 : i = s.size + 1 := by omega
          subst h1
          have H1 : done = parts 47 s := by have := H.out; rwa [if_neg (by omega)] at this
          have HE := HV.out done H1 HD.out
          have HE2 := Lib.hid HE
          clear HE H1
          go_wp2
          go_ret
          exact ⟨ret_b HE2.out.symm, rfl⟩
  · have hsz' : (128 : Int) < (s.size : Int) := by omega
    have hv : pathOK s = false := by rw [pathOK, decide_eq_false hsz]; rfl
    have HV := Lib.hid hv; clear hv
    go_enter Tryd.func43, Tryd.ntmps43
    go_wp2
    go_ret
    exact ⟨ret_b HV.out.symm, rfl⟩

/-! ### numbers of at most four digits -/
def dval (v : Nat) (l : List UInt8) : Nat := l.foldl (fun v c => v * 10 + (c.toNat - 48)) v
theorem dval_snoc (v : Nat) (l : List UInt8) (c : UInt8) : dval v (l ++ [c]) = dval v l * 10 + (c.toNat - 48) := by simp [dval]
theorem dval_cons (v : Nat) (l : List UInt8) (c : UInt8) : dval v (c :: l) = dval (v * 10 + (c.toNat - 48)) l := by unfold dval; rw [List.foldl_cons]
theorem digit_iff (c : UInt8) : digit c = true ↔ 48 ≤ c.toNat ∧ c.toNat ≤ 57 := by simp [digit, digitB]; omega
theorem dval_small : ∀ (l : List UInt8) (v : Nat), l.all digit = true → dval v l < (v + 1) * 10 ^ l.length
  | [], v, _ => by simp [dval]
  | c :: r, v, h => by
    rw [List.all_cons, Bool.and_eq_true, digit_iff] at h
    have ih := dval_small r (v * 10 + (c.toNat - 48)) h.2
    rw [dval_cons, List.length_cons, Nat.pow_succ]
    have h2 : (v * 10 + (c.toNat - 48) + 1) * 10 ^ r.length ≤ (v + 1) * 10 * 10 ^ r.length := Nat.mul_le_mul_right _ (by omega)
    have h3 : (v + 1) * (10 ^ r.length * 10) = (v + 1) * 10 * 10 ^ r.length := by rw [Nat.mul_assoc, Nat.mul_comm 10]
    omega
theorem dig_of (c : UInt8) (h : digit c = true) : UInt8.ofNat (48 + (c.toNat - 48)) = c := by
  rw [digit_iff] at h
  apply UInt8.toNat_inj.1
  rw [UInt8.toNat_ofNat']
  omega
theorem dec_step (v : Nat) (c : UInt8) (hv : 1 ≤ v) (h : digit c = true) : Lib.decDigits (v * 10 + (c.toNat - 48)) = Lib.decDigits v ++ [c] := by
  have hd := (digit_iff c).1 h
  rw [Lib.decDigits, dif_neg (by omega), show (v * 10 + (c.toNat - 48)) / 10 = v by omega, show (v * 10 + (c.toNat - 48)) % 10 = c.toNat - 48 by omega, dig_of c h]
theorem dec_more : ∀ (l : List UInt8) (v : Nat), 1 ≤ v → l.all digit = true → Lib.decDigits (dval v l) = Lib.decDigits v ++ l
  | [], v, _, _ => by simp [dval]
  | c :: r, v, hv, h => by
    rw [List.all_cons, Bool.and_eq_true] at h
    rw [dval_cons, dec_more r _ (by omega) h.2, dec_step v c hv h.1, List.append_assoc]; rfl
/-- At most four digits, none ahead that is a zero but the zero's own. -/
def isNum (l : List UInt8) : Bool := decide (1 ≤ l.length) && decide (l.length ≤ 4) && !(decide (1 < l.length) && l.head? == some 48) && l.all digit
theorem dec_val (c : UInt8) (r : List UInt8) (h : (c :: r).all digit = true) (h0 : r = [] ∨ c ≠ 48) : Lib.decDigits (dval 0 (c :: r)) = c :: r := by
  rw [List.all_cons, Bool.and_eq_true] at h
  have hd := (digit_iff c).1 h.1
  have h1 : Lib.decDigits (0 * 10 + (c.toNat - 48)) = [c] := by
    rw [Nat.zero_mul, Nat.zero_add, Lib.decDigits, dif_pos (by omega), dig_of c h.1]
  rcases h0 with rfl | h0
  · exact h1
  · have : c.toNat ≠ 48 := fun e => h0 (UInt8.toNat_inj.1 e)
    rw [dval_cons, dec_more r _ (by omega) h.2, h1]; rfl
theorem parse_digits : ∀ (l : List UInt8) (v : Nat), l.all digit = true → (v + 1) * 10 ^ l.length ≤ 10000 → Lib.parseUint10 v l = .ok (dval v l)
  | [], v, _, _ => rfl
  | c :: r, v, h, hv => by
    rw [List.all_cons, Bool.and_eq_true] at h
    have hd := (digit_iff c).1 h.1
    have hp : 1 ≤ 10 ^ r.length := Nat.one_le_pow _ _ (by decide)
    have h2 : (v * 10 + (c.toNat - 48) + 1) * 10 ^ r.length ≤ (v + 1) * 10 * 10 ^ r.length := Nat.mul_le_mul_right _ (by omega)
    have h3 : (v + 1) * (10 ^ r.length * 10) = (v + 1) * 10 * 10 ^ r.length := by rw [Nat.mul_assoc, Nat.mul_comm 10]
    rw [List.length_cons, Nat.pow_succ] at hv
    have h4 : (v + 1) * 10 ≤ (v + 1) * 10 * 10 ^ r.length := Nat.le_mul_of_pos_right _ hp
    rw [Lib.parseUint10, if_pos hd, if_neg (by omega), if_neg (by omega), parse_digits r _ h.2 (by omega)]; rfl
theorem dec_shape (u : Nat) : (Lib.decDigits u).all digit = true ∧ Lib.decDigits u ≠ [] ∧ (1 ≤ u → (Lib.decDigits u).head? ≠ some 48) ∧ dval 0 (Lib.decDigits u) = u := by
  induction u using Nat.strongRecOn with
  | _ u ih =>
    have hdig : ∀ k, k < 10 → digit (UInt8.ofNat (48 + k)) = true ∧ (UInt8.ofNat (48 + k)).toNat = 48 + k := fun k hk => by
      have e : (UInt8.ofNat (48 + k)).toNat = 48 + k := by rw [UInt8.toNat_ofNat']; omega
      exact ⟨by rw [digit_iff, e]; omega, e⟩
    by_cases h : u < 10
    · obtain ⟨h1, h2⟩ := hdig u h
      rw [Lib.decDigits, dif_pos h]
      refine ⟨by rw [List.all_cons, h1]; rfl, by simp, fun hu hh => ?_, ?_⟩
      · rw [List.head?_cons, Option.some.injEq] at hh
        have h48 : (48 : UInt8).toNat = 48 := rfl
        rw [hh, h48] at h2
        omega
      · rw [dval_cons, h2]; simp [dval]
    · obtain ⟨h1, h2⟩ := hdig (u % 10) (by omega)
      obtain ⟨i1, i2, i3, i4⟩ := ih (u / 10) (by omega)
      rw [Lib.decDigits, dif_neg h]
      refine ⟨by rw [List.all_append, i1, List.all_cons, h1]; rfl, by simp, fun _ => ?_, ?_⟩
      · have i3 := i3 (by omega)
        cases hd : Lib.decDigits (u / 10) with
        | nil => exact absurd hd i2
        | cons c r => rw [hd] at i3; exact i3
      · rw [dval_snoc, i4, h2]; omega
theorem numV_num (b : ByteArray) (h : isNum b.data.toList = true) : numV b = dval 0 b.data.toList := by
  unfold isNum at h
  cases hl : b.data.toList with
  | nil => rw [hl] at h; simp at h
  | cons c r =>
    rw [hl] at h
    simp only [Bool.and_eq_true, decide_eq_true_eq, Bool.not_eq_true', Bool.and_eq_false_iff, decide_eq_false_iff_not, List.head?_cons, List.length_cons] at h
    obtain ⟨⟨⟨_, h4⟩, h0⟩, hd⟩ := h
    have hc : r = [] ∨ c ≠ 48 := by
      rcases h0 with h0 | h0
      · exact .inl (List.eq_nil_of_length_eq_zero (by omega))
      · exact .inr (by simpa using h0)
    have hdc : digit c = true := by rw [List.all_cons, Bool.and_eq_true] at hd; exact hd.1
    have hcn := (digit_iff c).1 hdc
    have hpow : (0 + 1) * 10 ^ (c :: r).length ≤ 10000 := by
      rw [Nat.zero_add, Nat.one_mul]
      exact Nat.le_trans (Nat.pow_le_pow_right (by decide) (by rw [List.length_cons]; omega : (c :: r).length ≤ 4)) (by decide)
    have hp := parse_digits (c :: r) 0 hd hpow
    have hs := dval_small (c :: r) 0 hd
    have ha : Lib.atoiAll (c :: r) = .ok (dval 0 (c :: r) : Int) := by
      rw [Lib.atoiAll_plain c r (by omega) (by omega), Lib.parseMag, if_neg (by simp), hp, Lib.signless, if_neg (by omega)]
    rw [numV, hl, ha]
    simp only
    rw [Lib.itoa_nonneg, dec_val c r hd hc, if_pos (by rw [← hl, S_data])]
theorem numV_not (b : ByteArray) (h4 : b.size ≤ 4) (h : isNum b.data.toList = false) : numV b < 0 := by
  rcases Int.lt_or_le (numV b) 0 with hlt | hge
  · exact hlt
  · exfalso
    unfold numV at hge
    split at hge
    · rename_i v hv
      split at hge
      · rename_i e
        obtain ⟨u, rfl⟩ : ∃ u : Nat, v = u := ⟨v.toNat, by omega⟩
        rw [Lib.itoa_nonneg] at e
        obtain ⟨h1, h2, h3, _⟩ := dec_shape u
        have hb : b.data.toList = Lib.decDigits u := by rw [← e, data_S]
        rw [size_eq, hb] at h4
        rw [hb] at h
        have hpos : 1 ≤ (Lib.decDigits u).length := by
          cases hd : Lib.decDigits u with
          | nil => exact absurd hd h2
          | cons c r => simp
        have hz : (decide (1 < (Lib.decDigits u).length) && (Lib.decDigits u).head? == some 48) = false := by
          by_cases hu : 1 ≤ u
          · have := h3 hu; simp [this]
          · obtain rfl : u = 0 := by omega
            rw [Lib.decDigits_one (by decide)]; decide
        rw [isNum, h1, hz] at h
        simp [hpos, h4] at h
      · omega
    · omega

/-- What the reference's Number returns (at most four bytes). -/
def numR (s : ByteArray) : Int × Bool := if isNum s.data.toList then ((dval 0 s.data.toList : Nat), true) else (0, false)
set_option maxHeartbeats 2000000 in
set_option maxRecDepth 100000 in
theorem number_any (s : ByteArray) (w : World) : Calls Tryd.prog 82 #[.string s, .int .i64 4] w fun e w' => e = .returned (.tuple #[.int .i64 (numR s).1, .bool (numR s).2]) ∧ w = w' := by
  by_cases h0 : 0 < s.size
  · have hv : isNum s.data.toList = (decide (s.size ≤ 4) && !(decide (1 < s.size) && ((s[0].toNat : Int) == 48)) && s.data.toList.all digit) := by
      have hl := size_eq s
      have e : (s.data.toList.head? == some 48) = ((s[0].toNat : Int) == 48) := by
        rw [data_cons h0, List.head?_cons, Bool.eq_iff_iff, beq_iff_eq, Option.some.injEq]
        exact (u8_eq (a := s[0]) (b := 48)).symm
      rw [isNum, ← hl, e, decide_eq_true (show 1 ≤ s.size by omega), Bool.true_and]
    have g0 : ¬ (s.size : Int) < 1 := by omega
    by_cases h4 : s.size ≤ 4
    · have h4' : ¬ (4 : Int) < (s.size : Int) := by omega
      by_cases hz : 1 < s.size ∧ (s[0].toNat : Int) = 48
      · obtain ⟨z1, z2⟩ := hz
        have z1' : (1 : Int) < (s.size : Int) := by omega
        have hv2 : numR s = (0, false) := by rw [numR, hv]; simp [z1, z2]
        have z2b : ((s[0].toNat : Int) == 48) = true := beq_iff_eq.2 z2
        have HV := Lib.hid hv2; clear hv hv2
        rw [HV.out]
        go_enter Tryd.func82, Tryd.ntmps82
        go_wp2
        exact bodyPost_ret (v := .tuple #[.int .i64 0, .bool false]) (by simp [results, Tryd.results82, go_sem]) rfl ⟨rfl, rfl⟩
      · have hv2 : isNum s.data.toList = s.data.toList.all digit := by
          rw [hv, decide_eq_true h4]
          have : (decide (1 < s.size) && ((s[0].toNat : Int) == 48)) = false := by
            rw [Bool.and_eq_false_iff, decide_eq_false_iff_not, beq_eq_false_iff_ne]
            by_cases h1 : 1 < s.size
            · exact .inr (fun h2 => hz ⟨h1, h2⟩)
            · exact .inl h1
          rw [this]; rfl
        have HV := Lib.hid hv2; clear hv hv2
        have hz2 : (1 : Int) < (s.size : Int) ∧ ((s[0].toNat : Int) == 48) = false ∨ ¬ (1 : Int) < (s.size : Int) := by
          by_cases h1 : 1 < s.size
          · exact .inl ⟨by omega, beq_eq_false_iff_ne.2 (fun h2 => hz ⟨h1, h2⟩)⟩
          · exact .inr (by omega)
        clear hz
        rcases hz2 with ⟨hz2, hz3⟩ | hz2
        all_goals
          go_enter Tryd.func82, Tryd.ntmps82
          go_wp2
          go_loopw [6, 7] (fun v6 v7 wr => ∃ i : Nat, v7 = .int .i64 i ∧ v6 = .int .i64 (dval 0 (s.data.toList.take i) : Nat) ∧ i ≤ s.size ∧ wr = w ∧ Hid ((s.data.toList.take i).all digit = true)) (fun _ v7 _ => s.size - (intOf v7).toNat)
          case atStart => exact ⟨0, rfl, rfl, by omega, rfl, Lib.hid (by simp)⟩
          case round =>
            obtain ⟨i, rfl, rfl, hi, rfl, H⟩ := hrel
            by_cases hlt : i < s.size
            · have hl : i < s.data.toList.length := by rw [← size_eq]; exact hlt
              have hg : s.data.toList[i]'hl = s[i] := (get_eq s i hlt).symm
              have HG := Lib.hid hg; clear hg
              cases hc : digit s[i]
              · have hr : numR s = (0, false) := by
                  have : s.data.toList.all digit = false := by
                    rw [List.all_eq_false]
                    exact ⟨_, List.getElem_mem hl, by rw [HG.out, hc]; decide⟩
                  rw [numR, HV.out, this]; rfl
                have HR := Lib.hid hr
                have hd : ¬ (48 ≤ s[i].toNat ∧ s[i].toNat ≤ 57) := fun h => by rw [(digit_iff _).2 h] at hc; cases hc
                have hd2 : (s[i].toNat : Int) < 48 ∨ (57 : Int) < (s[i].toNat : Int) := by omega
                clear hr hc hd HG
                go_wp2
                all_goals exact bodyPost_ret (v := .tuple #[.int .i64 0, .bool false]) (by simp [results, Tryd.results82, go_sem]) rfl ⟨by rw [HR.out], rfl⟩
              · have hd := (digit_iff _).1 hc
                have hN : Hid ((s.data.toList.take (i + 1)).all digit = true) := Lib.hid (by
                  rw [List.take_succ_eq_append_getElem hl, List.all_append, H.out, List.all_cons, HG.out, hc]; rfl)
                have hD : dval 0 (s.data.toList.take (i + 1)) = dval 0 (s.data.toList.take i) * 10 + (s[i].toNat - 48) := by
                  rw [List.take_succ_eq_append_getElem hl, dval_snoc, HG.out]
                have hS := dval_small (s.data.toList.take i) 0 H.out
                have hp : (0 + 1) * 10 ^ (s.data.toList.take i).length ≤ 10000 := by
                  rw [Nat.zero_add, Nat.one_mul]
                  exact Nat.le_trans (Nat.pow_le_pow_right (by decide) (by rw [List.length_take]; omega : (s.data.toList.take i).length ≤ 4)) (by decide)
                have hb : dval 0 (s.data.toList.take i) < 10000 := by omega
                have HD := Lib.hid hD
                clear hS hp hD hc HG
                generalize dval 0 (s.data.toList.take i) = v at *
                have hw : IntKind.u8.wrap ((s[i].toNat : Int) - 48) = (s[i].toNat : Int) - 48 := by rw [IntKind.wrap_u8]; omega
                have hd1 : ¬ (s[i].toNat : Int) < 48 := by omega
                have hd2 : ¬ (57 : Int) < (s[i].toNat : Int) := by omega
                go_wp2
                go_roundw
                case rel => exact ⟨i + 1, by go_num, by rw [HD.out]; go_num, by omega, by trivial, hN⟩
                case measure => simp [intOf]; omega
            · have h0 : i = s.size := by omega
              subst h0
              have hr : numR s = (((dval 0 s.data.toList : Nat) : Int), true) := by
                have := H.out
                rw [List.take_of_length_le (by rw [← size_eq]; exact Nat.le_refl _)] at this
                rw [numR, HV.out, this]; rfl
              have HR := Lib.hid hr; clear hr
              have ht : s.data.toList.take s.size = s.data.toList := List.take_of_length_le (by rw [← size_eq]; exact Nat.le_refl _)
              rw [ht]
              clear ht
              generalize dval 0 s.data.toList = v at *
              go_wp2
              exact bodyPost_ret (v := .tuple #[.int .i64 v, .bool true]) (by simp [results, Tryd.results82, go_sem]) rfl ⟨by rw [HR.out], rfl⟩
    · have h4' : (4 : Int) < (s.size : Int) := by omega
      have hv2 : numR s = (0, false) := by rw [numR, hv, decide_eq_false h4]; rfl
      have HV := Lib.hid hv2; clear hv hv2
      rw [HV.out]
      go_enter Tryd.func82, Tryd.ntmps82
      go_wp2
      exact bodyPost_ret (v := .tuple #[.int .i64 0, .bool false]) (by simp [results, Tryd.results82, go_sem]) rfl ⟨rfl, rfl⟩
  · have h0 : s.size = 0 := by omega
    have hd : s.data.toList = [] := List.eq_nil_of_length_eq_zero (by rw [← size_eq]; exact h0)
    have hv : numR s = (0, false) := by rw [numR, hd]; rfl
    have HV := Lib.hid hv; clear hv hd
    rw [HV.out]
    go_enter Tryd.func82, Tryd.ntmps82
    go_wp2
    exact bodyPost_ret (v := .tuple #[.int .i64 0, .bool false]) (by simp [results, Tryd.results82, go_sem]) rfl ⟨rfl, rfl⟩

/-! ### notes -/
/-- What the reference's note returns. -/
def noteR (ws : List ByteArray) : Int × Bool := match ws with
  | [a, b] => if a = noteS then numR b else (0, false)
  | _ => (0, false)
theorem noteR_two (a b : ByteArray) : noteR [a, b] = if a = noteS then numR b else (0, false) := rfl
theorem noteV_two (a b : ByteArray) : noteV [a, b] = if a = noteS ∧ b.size ≤ 4 then numV b else -1 := rfl
theorem noteR_V : ∀ ws : List ByteArray, (0 ≤ noteV ws → noteR ws = (noteV ws, true)) ∧ (noteV ws < 0 → noteR ws = (0, false))
  | [a, b] => by
    rw [noteR_two, noteV_two]
    by_cases ha : a = noteS
    · by_cases h4 : b.size ≤ 4
      · rw [if_pos ⟨ha, h4⟩, if_pos ha, numR]
        cases hn : isNum b.data.toList
        · have := numV_not b h4 hn
          exact ⟨fun h => absurd h (by omega), fun _ => rfl⟩
        · have := numV_num b hn
          exact ⟨fun _ => by rw [this]; rfl, fun h => absurd h (by omega)⟩
      · have hn : isNum b.data.toList = false := by rw [isNum, ← size_eq, decide_eq_false h4]; simp
        rw [if_neg (fun h => h4 h.2), if_pos ha, numR, hn]
        exact ⟨fun h => absurd h (by omega), fun _ => rfl⟩
    · rw [if_neg (fun h => ha h.1), if_neg ha]
      exact ⟨fun h => absurd h (by omega), fun _ => rfl⟩
  | [] => ⟨fun h => absurd h (show ¬ (0 : Int) ≤ -1 by decide), fun _ => rfl⟩
  | [_] => ⟨fun h => absurd h (show ¬ (0 : Int) ≤ -1 by decide), fun _ => rfl⟩
  | _ :: _ :: _ :: _ => ⟨fun h => absurd h (show ¬ (0 : Int) ≤ -1 by decide), fun _ => rfl⟩
set_option maxHeartbeats 1000000 in
theorem rnote_any (A : Option Addr) (c : Nat) (ws : List ByteArray) (w : World) (hr : Rd w 1 A ws.length (ws.map Value.string)) :
    Calls Tryd.prog 46 #[.slice A ws.length c] w fun e w' => e = .returned (.tuple #[.int .i64 (noteR ws).1, .bool (noteR ws).2]) ∧ w = w' := by
  by_cases h2 : ws.length = 2
  · match ws, h2 with
    | [a, b], _ =>
      obtain ⟨bk, o, rfl, _, hc⟩ := hr.2 (by simp)
      have ha : w.cell? ⟨bk, o, none⟩ = some (.string a) := hc 0 _ rfl
      have hb : w.cell? ⟨bk, o + 1, none⟩ = some (.string b) := hc 1 _ rfl
      clear hc hr
      by_cases h : a = noteS
      · have e : noteR [a, b] = numR b := by rw [noteR, if_pos h]
        rw [e]
        have h3 : a.toList = [110, 111, 116, 101] := (str_lit _ _).2 h
        clear e h
        generalize hn : numR b = r at *
        have HN := Lib.hid hn; clear hn
        go_enter Tryd.func46, Tryd.ntmps46
        go_wp2_with (go_at_call 82; refine (number_any _ _).mono ?_; rw [HN.out]; rintro e w' ⟨rfl, rfl⟩)
        exact bodyPost_ret (v := .tuple #[.int .i64 r.1, .bool r.2]) (by simp [results, Tryd.results46, go_sem]) rfl ⟨rfl, rfl⟩
      · have e : noteR [a, b] = (0, false) := by rw [noteR, if_neg h]
        rw [e]
        have h3 : (a.toList == [110, 111, 116, 101]) = false := beq_eq_false_iff_ne.2 fun h2 => h ((str_lit _ _).1 h2)
        clear e h
        go_enter Tryd.func46, Tryd.ntmps46
        go_wp2
        exact bodyPost_ret (v := .tuple #[.int .i64 0, .bool false]) (by simp [results, Tryd.results46, go_sem]) rfl ⟨rfl, rfl⟩
  · have e : noteR ws = (0, false) := by
      match ws, h2 with
      | [], _ => rfl
      | [_], _ => rfl
      | [_, _], h => exact absurd rfl h
      | _ :: _ :: _ :: _, _ => rfl
    rw [e]
    have h3 : (!((ws.length : Int) == 2)) = true := by simp; omega
    go_enter Tryd.func46, Tryd.ntmps46
    go_wp2
    exact bodyPost_ret (v := .tuple #[.int .i64 0, .bool false]) (by simp [results, Tryd.results46, go_sem]) rfl ⟨rfl, rfl⟩
end Go.Proofs.YtlecocmopeainaaDoor
