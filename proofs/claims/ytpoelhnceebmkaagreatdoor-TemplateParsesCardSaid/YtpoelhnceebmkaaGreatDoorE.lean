/- isWord; slices.ContainsFunc over strings at 'no word'. No conditions but the lengths' own. -/
import Derived.Test.YtpoelhnceebmkaaGreatDoorD
import Derived.Shelf.GgClosure.StringsIndexFunc
namespace Go.Proofs.YtpoelhnceebmkaaGreatDoor
open Go Go.RowKit Go.Shelf
set_option linter.unusedSimpArgs false
set_option linter.unusedVariables false

/-! ### strings.IndexFunc at a predicate that holds of all that is not ASCII -/
theorem decode_big (s : ByteArray) (pos : Nat) (h : pos < s.size) (ha : 128 ≤ (s[pos]'h).toNat) : 128 ≤ (Utf8.decode s pos).1 := by
  have e : s.get! (pos + 0) = s[pos]'h := by
    show s.get! pos = _
    simp [ByteArray.get!, getElem!_pos, h]
    rfl
  have hn : ¬ (s[pos]'h).toNat < 128 := by omega
  simp only [Utf8.decode, e, hn, if_false, Utf8.runeError]
  repeat' split
  all_goals first | omega | (simp_all; omega)
theorem idx_any (p : Nat → Bool) (hp : ∀ r, 128 ≤ r → p r = true) (s : ByteArray) : ∀ (f pos : Nat), pos ≤ s.size → s.size ≤ pos + f →
    decide (0 ≤ Lib.idxFuncFrom p true s f pos) = (s.data.toList.drop pos).any fun c => p c.toNat
  | 0, pos, h, h' => by
    rw [Lib.idxFuncFrom, List.drop_of_length_le (by rw [← size_eq]; omega)]; rfl
  | f + 1, pos, h, h' => by
    unfold Lib.idxFuncFrom
    by_cases hlt : pos < s.size
    · have hl : pos < s.data.toList.length := by rw [← size_eq]; exact hlt
      rw [if_pos hlt, List.drop_eq_getElem_cons hl, ← get_eq s pos hlt, List.any_cons]
      by_cases ha : (s[pos]'hlt).toNat < 128
      · rw [decode_ascii s pos hlt ha]
        by_cases hq : p (s[pos]'hlt).toNat = true
        · rw [if_pos hq, hq]; simp
        · rw [if_neg hq, idx_any p hp s f (pos + 1) (by omega) (by omega)]
          have : p (s[pos]'hlt).toNat = false := by simpa using hq
          rw [this, Bool.false_or]
      · have hq : p (s[pos]'hlt).toNat = true := hp _ (by omega)
        rw [if_pos (hp _ (decode_big s pos hlt (by omega))), hq]; simp
    · rw [if_neg hlt, List.drop_of_length_le (by rw [← size_eq]; omega)]; rfl

/-! ### words -/
def okC (c : UInt8) : Bool := (decide (97 ≤ c.toNat) && decide (c.toNat ≤ 122)) || (decide (48 ≤ c.toNat) && decide (c.toNat ≤ 57))
def okW (s : ByteArray) : Bool := decide (0 < s.size) && s.data.toList.all okC
def notSm (r : Nat) : Bool := mapR r != (r : Int)
theorem notSm_byte (c : UInt8) : notSm c.toNat = !okC c := by
  unfold notSm okC mapR
  rw [Bool.eq_iff_iff]
  simp only [bne_iff_ne, ne_eq, Bool.not_eq_true', Bool.or_eq_false_iff, Bool.and_eq_false_iff, decide_eq_false_iff_not]
  split
  · omega
  · split <;> omega
theorem notSm_big (r : Nat) (h : 128 ≤ r) : notSm r = true := by
  unfold notSm mapR
  rw [if_neg (by omega), if_neg (by omega)]
  simp only [bne_iff_ne, ne_eq]; omega
set_option maxRecDepth 100000 in
theorem wordFn (r : Nat) (w : World) (hr : r ≤ 1114111) : Calls Tryz.prog 75 (#[.int .i32 (r : Int)] ++ #[]) w fun e w' => e = .returned (.bool (notSm r)) ∧ w' = w := by
  have hC := Lib.hid (fun w => mapped_any (r : Int) w (by omega) (by omega))
  obtain ⟨m, hm⟩ : ∃ m, mapR (r : Int) = m := ⟨_, rfl⟩
  rw [hm] at hC
  by_cases h : m = (r : Int)
  · have e : notSm r = false := by unfold notSm; rw [hm, h]; simp
    rw [e]
    subst h
    clear hm
    go_enter Tryz.func75, Tryz.ntmps75
    go_wp2_with (go_at_call 59; refine (hC.out _).mono ?_; rintro e w' ⟨rfl, rfl⟩)
    go_ret
    exact ⟨by simp, rfl⟩
  · have e : notSm r = true := by unfold notSm; rw [hm]; simpa using h
    rw [e]
    have h1 : (m == (r : Int)) = false := beq_eq_false_iff_ne.2 h
    clear hm
    go_enter Tryz.func75, Tryz.ntmps75
    go_wp2_with (go_at_call 59; refine (hC.out _).mono ?_; rintro e w' ⟨rfl, rfl⟩)
    go_ret
    exact ⟨by simp [h], rfl⟩
theorem containsW (s : ByteArray) (w : World) : Calls Tryz.prog 74 #[.string s, .func (.func 75) #[] #[]] w fun e w' => e = .returned (.bool (s.data.toList.any fun c => !okC c)) ∧ New w w' := by
  have h := Tryz.strings_ContainsFunc_grows 75 #[] (enters_of Tryz.func75 (by kernel_rfl) rfl) notSm s w (fun W r hr _ => (wordFn r W hr).mono fun e w' ⟨he, hw⟩ => ⟨he, by subst hw; exact Below.refl _ _⟩)
  have e : decide (0 ≤ Lib.idxFunc notSm true s) = s.data.toList.any fun c => !okC c := by
    rw [Lib.idxFunc, idx_any notSm notSm_big s s.size 0 (Nat.zero_le _) (by omega), List.drop_zero]
    congr 1
    funext c
    exact notSm_byte c
  rwa [e] at h
set_option maxRecDepth 100000 in
theorem isWord_any (s : ByteArray) (w : World) : Calls Tryz.prog 51 #[.string s] w fun e w' => e = .returned (.bool (okW s)) ∧ New w w' := by
  by_cases h : 0 < s.size
  · have hv : okW s = !(s.data.toList.any fun c => !okC c) := by
      rw [okW, decide_eq_true h, Bool.true_and, List.any_eq_not_all_not]; simp
    have hne : s.toList.isEmpty = false := by
      rw [toList_eq]
      cases hq : s.data.toList with
      | nil => rw [size_eq, hq] at h; simp at h
      | cons a b => rfl
    have hC := Lib.hid (fun w => containsW s w)
    rw [hv]
    obtain ⟨b, hb⟩ : ∃ b, (s.data.toList.any fun c => !okC c) = b := ⟨_, rfl⟩
    rw [hb] at hC ⊢
    clear hv hb
    go_enter Tryz.func51, Tryz.ntmps51
    go_wp2_with (go_at_call 74; refine (hC.out _).mono ?_; rintro e w' ⟨rfl, hn⟩)
    go_ret
    exact ⟨rfl, hn⟩
  · have hv : okW s = false := by rw [okW, decide_eq_false h]; rfl
    have hne : s.toList.isEmpty = true := by
      rw [toList_eq]
      cases hq : s.data.toList with
      | nil => rfl
      | cons a b => rw [size_eq, hq] at h; simp at h
    rw [hv]
    clear hv h
    go_enter Tryz.func51, Tryz.ntmps51
    go_wp2
    go_ret
    exact ⟨rfl, New.refl _⟩
set_option maxRecDepth 100000 in
theorem noWord33 (s : ByteArray) (w : World) : Calls Tryz.prog 53 #[.string s] w fun e w' => e = .returned (.bool (!okW s)) ∧ New w w' := by
  have hC := Lib.hid (fun w => isWord_any s w)
  go_enter Tryz.func53, Tryz.ntmps53
  go_wp2_with (go_at_call 51; refine (hC.out _).mono ?_; rintro e w' ⟨rfl, hn⟩)
  go_ret
  exact ⟨rfl, hn⟩
set_option maxRecDepth 100000 in
theorem noWord31 (s : ByteArray) (w : World) : Calls Tryz.prog 50 #[.string s] w fun e w' => e = .returned (.bool (!okW s)) ∧ New w w' := by
  have hC := Lib.hid (fun w => isWord_any s w)
  go_enter Tryz.func50, Tryz.ntmps50
  go_wp2_with (go_at_call 51; refine (hC.out _).mono ?_; rintro e w' ⟨rfl, hn⟩)
  go_ret
  exact ⟨rfl, hn⟩
def allOk (ws : List ByteArray) : Bool := ws.all okW
theorem any_not (ws : List ByteArray) : (ws.any fun s => !okW s) = !allOk ws := by rw [allOk, List.any_eq_not_all_not]; simp

set_option maxRecDepth 100000 in
set_option maxHeartbeats 1000000 in
theorem indexFn33 (A : Option Addr) (c n : Nat) (ws : List ByteArray) (hl : ws.length = n) (w : World) (hz : n ≤ 4294967295) (hr : Rd w 1 A n (ws.map Value.string)) :
    Calls Tryz.prog 73 #[.slice A n c, .func (.func 53) #[] #[]] w fun e w' => (∃ i : Int, e = .returned (.int .i64 i) ∧ decide (0 ≤ i) = ws.any (fun s => !okW s)) ∧ New w w' := by
  have HL := Lib.hid hl
  clear hl
  go_enter Tryz.func73, Tryz.ntmps73
  go_wp2
  go_loopw [8] (fun v wr => ∃ k : Nat, k ≤ n ∧ v = .int .i64 k ∧ New w wr ∧ Hid ((ws.take k).any (fun s => !okW s) = false)) (fun v _ => n - (intOf v).toNat)
  case atStart => exact ⟨0, Nat.zero_le _, rfl, New.refl _, Lib.hid rfl⟩
  case round =>
    obtain ⟨k, hk, rfl, hn, H⟩ := hrel
    by_cases hlt : k < n
    · obtain ⟨bk, o, rfl, _, hc⟩ := (hr.below hn).2 (by omega)
      have hkl : k < ws.length := by rw [HL.out]; exact hlt
      have hck : wr.cell? ⟨bk, o + k, none⟩ = some (.string ws[k]) := hc k _ (by simp [hkl])
      have ht : (ws.take (k + 1)).any (fun s => !okW s) = (!okW ws[k]) := by
        rw [List.take_succ_eq_append_getElem hkl, List.any_append, H.out]; simp
      generalize ws[k] = s at *
      have HT := Lib.hid ht
      clear hc ht hkl
      cases hb : okW s
      · have HB := Lib.hid hb; clear hb
        go_wp2_with (go_at_call 53; refine (noWord33 _ _).mono ?_; rw [HB.out]; rintro e w' ⟨rfl, hn2⟩)
        go_ret
        refine ⟨⟨k, rfl, ?_⟩, hn.trans hn2⟩
        rw [← List.take_append_drop (k + 1) ws, List.any_append, HT.out, HB.out]; simp
      · have HB := Lib.hid hb; clear hb
        go_wp2_with (go_at_call 53; refine (noWord33 _ _).mono ?_; rw [HB.out]; rintro e w' ⟨rfl, hn2⟩)
        go_roundw
        case rel => exact ⟨k + 1, by omega, by go_num, hn.trans hn2, Lib.hid (by rw [HT.out, HB.out]; rfl)⟩
        case measure => simp [intOf]; omega
    · have : k = n := by omega
      subst this
      go_wp2
      go_ret
      exact ⟨⟨-1, rfl, by have := H.out; rw [List.take_of_length_le (by rw [HL.out]; exact Nat.le_refl _)] at this; rw [this]; rfl⟩, hn⟩
set_option maxRecDepth 100000 in
theorem containsFn33 (A : Option Addr) (c n : Nat) (ws : List ByteArray) (hl : ws.length = n) (w : World) (hz : n ≤ 4294967295) (hr : Rd w 1 A n (ws.map Value.string)) :
    Calls Tryz.prog 49 #[.slice A n c, .func (.func 53) #[] #[]] w fun e w' => e = .returned (.bool (!allOk ws)) ∧ New w w' := by
  have HC := Lib.hid (indexFn33 A c n ws hl w hz hr)
  have HA := Lib.hid (any_not ws)
  clear hl
  go_enter Tryz.func49, Tryz.ntmps49
  go_wp2_with (go_at_call 73; refine HC.out.mono ?_; rintro e w' ⟨⟨i, rfl, hi⟩, hn⟩; have HI := Lib.hid hi; clear hi)
  go_ret
  exact ⟨by rw [← HA.out, ← HI.out]; rfl, hn⟩

set_option maxRecDepth 100000 in
set_option maxHeartbeats 1000000 in
theorem indexFn31 (A : Option Addr) (c n : Nat) (ws : List ByteArray) (hl : ws.length = n) (w : World) (hz : n ≤ 4294967295) (hr : Rd w 1 A n (ws.map Value.string)) :
    Calls Tryz.prog 73 #[.slice A n c, .func (.func 50) #[] #[]] w fun e w' => (∃ i : Int, e = .returned (.int .i64 i) ∧ decide (0 ≤ i) = ws.any (fun s => !okW s)) ∧ New w w' := by
  have HL := Lib.hid hl
  clear hl
  go_enter Tryz.func73, Tryz.ntmps73
  go_wp2
  go_loopw [8] (fun v wr => ∃ k : Nat, k ≤ n ∧ v = .int .i64 k ∧ New w wr ∧ Hid ((ws.take k).any (fun s => !okW s) = false)) (fun v _ => n - (intOf v).toNat)
  case atStart => exact ⟨0, Nat.zero_le _, rfl, New.refl _, Lib.hid rfl⟩
  case round =>
    obtain ⟨k, hk, rfl, hn, H⟩ := hrel
    by_cases hlt : k < n
    · obtain ⟨bk, o, rfl, _, hc⟩ := (hr.below hn).2 (by omega)
      have hkl : k < ws.length := by rw [HL.out]; exact hlt
      have hck : wr.cell? ⟨bk, o + k, none⟩ = some (.string ws[k]) := hc k _ (by simp [hkl])
      have ht : (ws.take (k + 1)).any (fun s => !okW s) = (!okW ws[k]) := by
        rw [List.take_succ_eq_append_getElem hkl, List.any_append, H.out]; simp
      generalize ws[k] = s at *
      have HT := Lib.hid ht
      clear hc ht hkl
      cases hb : okW s
      · have HB := Lib.hid hb; clear hb
        go_wp2_with (go_at_call 50; refine (noWord31 _ _).mono ?_; rw [HB.out]; rintro e w' ⟨rfl, hn2⟩)
        go_ret
        refine ⟨⟨k, rfl, ?_⟩, hn.trans hn2⟩
        rw [← List.take_append_drop (k + 1) ws, List.any_append, HT.out, HB.out]; simp
      · have HB := Lib.hid hb; clear hb
        go_wp2_with (go_at_call 50; refine (noWord31 _ _).mono ?_; rw [HB.out]; rintro e w' ⟨rfl, hn2⟩)
        go_roundw
        case rel => exact ⟨k + 1, by omega, by go_num, hn.trans hn2, Lib.hid (by rw [HT.out, HB.out]; rfl)⟩
        case measure => simp [intOf]; omega
    · have : k = n := by omega
      subst this
      go_wp2
      go_ret
      exact ⟨⟨-1, rfl, by have := H.out; rw [List.take_of_length_le (by rw [HL.out]; exact Nat.le_refl _)] at this; rw [this]; rfl⟩, hn⟩
set_option maxRecDepth 100000 in
theorem containsFn31 (A : Option Addr) (c n : Nat) (ws : List ByteArray) (hl : ws.length = n) (w : World) (hz : n ≤ 4294967295) (hr : Rd w 1 A n (ws.map Value.string)) :
    Calls Tryz.prog 49 #[.slice A n c, .func (.func 50) #[] #[]] w fun e w' => e = .returned (.bool (!allOk ws)) ∧ New w w' := by
  have HC := Lib.hid (indexFn31 A c n ws hl w hz hr)
  have HA := Lib.hid (any_not ws)
  clear hl
  go_enter Tryz.func49, Tryz.ntmps49
  go_wp2_with (go_at_call 73; refine HC.out.mono ?_; rintro e w' ⟨⟨i, rfl, hi⟩, hn⟩; have HI := Lib.hid hi; clear hi)
  go_ret
  exact ⟨by rw [← HA.out, ← HI.out]; rfl, hn⟩
end Go.Proofs.YtpoelhnceebmkaaGreatDoor
