/- The reference's small functions: bytes, classes, the words of a line. No conditions but the lengths' own. -/
import Derived.Test.YtlecocmopeainaaDoorE
namespace Go.Proofs.YtlecocmopeainaaDoor
open Go Go.RowKit

/-! ### the words from a place on -/
def wd (s : ByteArray) (i : Nat) : List ByteArray := (split (s.data.toList.drop i)).map S
theorem wd_zero (s : ByteArray) : wd s 0 = wds s := by simp [wd, wds]
theorem wd_end {s : ByteArray} {i : Nat} (h : s.size ≤ i) : wd s i = [] := by
  rw [wd, List.drop_eq_nil_of_le (by rw [← size_eq]; exact h)]; rfl
theorem wd_wds (s : ByteArray) (i : Nat) : wd s i = wds (s.extract i s.size) := by rw [ext_from, wds, data_S]; rfl
theorem drop_at {s : ByteArray} {i : Nat} (h : i < s.size) : s.data.toList.drop i = s[i] :: s.data.toList.drop (i + 1) := by
  rw [List.drop_eq_getElem_cons (by rw [← size_eq]; exact h), get_eq]
theorem wd_blank {s : ByteArray} {i : Nat} (h : i < s.size) (hb : blankB s[i].toNat = true) : wd s i = wd s (i + 1) := by
  rw [wd, drop_at h, split_cons, if_pos (by exact hb)]; rfl
theorem wd_one {s : ByteArray} {i : Nat} (h : i < s.size) (hb : blankB s[i].toNat = false) (hp : partB s[i].toNat = false) : wd s i = s.extract i (i + 1) :: wd s (i + 1) := by
  have e : s.extract i (i + 1) = S [s[i]] := by rw [extract_S, drop_at h]; simp
  rw [e, wd, drop_at h, split_cons, if_neg (by simp [blank, hb]), if_neg (by simp [part, hp])]; rfl
theorem tw_take {p : UInt8 → Bool} : ∀ (l : List UInt8) (n : Nat), n ≤ l.length → (∀ j (h : j < l.length), j < n → p l[j] = true) → (∀ h : n < l.length, p l[n] = false) → l.takeWhile p = l.take n ∧ l.dropWhile p = l.drop n
  | [], n, h, _, _ => by simp at h; subst h; exact ⟨rfl, rfl⟩
  | c :: r, 0, _, _, h2 => by
    have hc : p c = false := h2 (by simp)
    rw [List.takeWhile_cons_of_neg (by simp [hc]), List.dropWhile_cons_of_neg (by simp [hc])]
    exact ⟨rfl, rfl⟩
  | c :: r, n + 1, h, h1, h2 => by
    have hc : p c = true := h1 0 (by simp) (by omega)
    have ih := tw_take r n (by simpa using h) (fun j hj hjn => h1 (j + 1) (by simpa using hj) (by omega)) (fun hn => h2 (by simpa using hn))
    rw [List.takeWhile_cons_of_pos hc, List.dropWhile_cons_of_pos hc, ih.1, ih.2]
    exact ⟨rfl, rfl⟩
theorem wd_run {s : ByteArray} {i k : Nat} (h : i < s.size) (hik : i < k) (hk : k ≤ s.size) (h1 : ∀ j (hj : j < s.size), i ≤ j → j < k → partB s[j].toNat = true) (h2 : ∀ hk : k < s.size, partB s[k].toNat = false) : wd s i = s.extract i k :: wd s k := by
  have hp := h1 i h (Nat.le_refl _) hik
  have hb := part_not_blank hp
  have ht := tw_take (p := part) (s.data.toList.drop (i + 1)) (k - (i + 1)) (by rw [List.length_drop, ← size_eq]; omega)
    (fun j hj hjn => by
      rw [List.length_drop, ← size_eq] at hj
      have := h1 (i + 1 + j) (by omega) (by omega) (by omega)
      rw [get_eq] at this
      simpa [part] using this)
    (fun hn => by
      rw [List.length_drop, ← size_eq] at hn
      have := h2 (by omega)
      rw [get_eq] at this
      have e : i + 1 + (k - (i + 1)) = k := by omega
      simpa [part, e] using this)
  have e1 : s.extract i k = S (s[i] :: (s.data.toList.drop (i + 1)).takeWhile part) := by
    rw [extract_S, drop_at h, show k - i = (k - (i + 1)) + 1 by omega, List.take_succ_cons, ht.1]
  have e2 : wd s k = (split ((s.data.toList.drop (i + 1)).dropWhile part)).map S := by
    rw [ht.2, List.drop_drop, show i + 1 + (k - (i + 1)) = k by omega]; rfl
  rw [e1, e2, wd, drop_at h, split_cons, if_neg (by simp [blank, hb]), if_pos (by exact hp)]; rfl

/-! ### bytes -/
theorem rblank_any (n : Int) (w : World) : Calls Tryd.prog 57 #[.int .u8 n] w fun e w' => e = .returned (.bool (blankB n)) ∧ w = w' := by
  go_enter Tryd.func57, Tryd.ntmps57
  go_wp2
  all_goals go_ret
  all_goals exact ⟨by simp [blankB, *], rfl⟩
theorem rdigit_any (n : Int) (w : World) : Calls Tryd.prog 83 #[.int .u8 n] w fun e w' => e = .returned (.bool (digitB n)) ∧ w = w' := by
  go_enter Tryd.func83, Tryd.ntmps83
  go_wp2
  all_goals go_ret
  all_goals exact ⟨by simp [digitB, *] <;> omega, rfl⟩
theorem rletter_any (n : Int) (w : World) : Calls Tryd.prog 81 #[.int .u8 n] w fun e w' => e = .returned (.bool (partB n)) ∧ w = w' := by
  by_cases hd : digitB n = true
  all_goals
    go_enter Tryd.func81, Tryd.ntmps81
    go_wp2_with (go_at_call 83; refine (rdigit_any _ _).mono ?_; rintro e w' ⟨rfl, rfl⟩)
    all_goals go_ret
    all_goals refine ⟨?_, rfl⟩
    all_goals simp only [Array.getD, List.size_toArray, List.length_cons, List.length_nil, Nat.reduceAdd, Nat.reduceLT, dif_pos, List.getElem_toArray, Array.getInternal_eq_getElem, List.getElem_cons_succ, List.getElem_cons_zero]
    all_goals refine ret_b ?_
    all_goals (rw [Bool.eq_iff_iff]; simp [partB, hd] <;> first | omega | (simp [digitB] at hd; omega) | (simp [digitB]; omega))
theorem rclass_any (s : ByteArray) (a b : Bool) (w : World) (hs : 0 < s.size) : Calls Tryd.prog 47 #[.string s, .bool a, .bool b] w fun e w' => e = .returned (.string (cls a b s)) ∧ w = w' := by
  have hc := cls_eq a b hs
  have H := Lib.hid hc; clear hc
  go_enter Tryd.func47, Tryd.ntmps47
  go_wp2_with (first | (go_at_call 83; refine (rdigit_any _ _).mono ?_; rintro e w' ⟨rfl, rfl⟩) | (go_at_call 81; refine (rletter_any _ _).mono ?_; rintro e w' ⟨rfl, rfl⟩))
  all_goals go_ret
  all_goals exact ⟨ret_s (by rw [H.out]; simp_all [S]), rfl⟩

/-! ### the words of a line -/
set_option maxHeartbeats 2000000 in
set_option maxRecDepth 100000 in
theorem rsplit_any (s : ByteArray) (w : World) (hs : s.size ≤ 4294967280) :
    Calls Tryd.prog 45 #[.string s] w fun e w' => ∃ v, e = .returned v ∧ w'.ownsRow w.heap.size 9 1 v (wds s).length ((wds s).map Value.string) ∧ New w w' := by
  obtain ⟨i0, hi, hz0, hz1, hz2⟩ := info_parts Tryd.info9'
  go_enter Tryd.func45, Tryd.ntmps45
  go_wp2
  go_loopw [3, 4] (fun v3 v4 wr => ∃ (i : Nat) (ws : List ByteArray), v4 = .int .i64 i ∧ i ≤ s.size ∧ ws.length ≤ i ∧ wr.ownsRow w.heap.size 9 1 v3 ws.length (ws.map Value.string) ∧ New w wr ∧ Hid (ws ++ wd s i = wds s))
    (fun _ v4 _ => s.size - (intOf v4).toNat)
  case atStart => exact ⟨0, [], rfl, by omega, by simp, World.ownsRow_lit w #[] 0 (Nat.le_refl _) (by simp [maxLen]) rfl, (New.refl w).alloc _, Lib.hid (by rw [wd_zero]; rfl)⟩
  case round =>
    obtain ⟨i, ws, rfl, hle, hl, hown, hn, H⟩ := hrel
    by_cases hlt : i < s.size
    · by_cases hb : blankB s[i].toNat = true
      · have HB := Lib.hid (wd_blank hlt hb)
        go_wp2_with (first | (go_at_call 57; refine (rblank_any _ _).mono ?_; rintro e w' ⟨rfl, rfl⟩))
        go_roundw
        case rel => exact ⟨i + 1, ws, by go_num, by omega, by omega, hown, hn, by rw [← HB.out]; exact H⟩
        case measure => simp [intOf]; omega
      · have hb : blankB s[i].toNat = false := by simpa using hb
        by_cases hp : partB s[i].toNat = true
        · have HI := Lib.hid hp
          have HN0 := Lib.hid hn
          go_wp2_with (first | (go_at_call 57; refine (rblank_any _ _).mono ?_; rintro e w' ⟨rfl, rfl⟩))
          go_loopw [5] (fun v5 wx => ∃ k : Nat, v5 = .int .i64 k ∧ wx = wr ∧ i < k ∧ k ≤ s.size ∧ Hid (∀ j (hj : j < s.size), i ≤ j → j < k → partB s[j].toNat = true)) (fun v5 _ => s.size - (intOf v5).toNat)
          case atStart => exact ⟨i + 1, by go_num, rfl, by omega, by omega, Lib.hid (fun j hj h1 h2 => by obtain rfl : j = i := by omega
                                                                                                          exact HI.out)⟩
          case round =>
            obtain ⟨k, rfl, rfl, hik, hks, HA⟩ := hrel
            by_cases hk : k < s.size
            · by_cases hq : partB s[k].toNat = true
              · have HQ := Lib.hid hq
                go_wp2_with (first | (go_at_call 81; refine (rletter_any _ _).mono ?_; rintro e w' ⟨rfl, rfl⟩))
                go_roundw
                case rel => exact ⟨k + 1, by go_num, by trivial, by omega, by omega, Lib.hid (fun j hj h1 h2 => by
                  by_cases h : j = k
                  · subst h; exact HQ.out
                  · exact HA.out j hj h1 (by omega))⟩
                case measure => simp [intOf]; omega
              · have hq : partB s[k].toNat = false := by simpa using hq
                have HR := Lib.hid (wd_run hlt hik hks HA.out (fun _ => hq))
                go_wp2_with (first | (go_at_call 81; refine (rletter_any _ _).mono ?_; rintro e w' ⟨rfl, rfl⟩) | (at_builtin; refine wpList_append_own _ rfl (.tmp 37) (.tmp 42) 53 rfl w.heap.size 9 i0 (.string ByteArray.empty) 1 16 Tryd.underlying53 hi hz0 hz1 hz2 rfl (by decide) _ _ _ rfl (hown.alloc _) ⟨wr.heap.size, 0, none⟩ 1 1 [.string (s.extract i k)] rfl rfl ?c1 ?c2 ?c3 ?c4 ?c5 ?_))
                case c1 => exact cell_one_new _ _ _
                case c2 => simp [Value.oneCell']
                case c3 => simp [maxLen]; omega
                case c4 => omega
                case c5 => have := HN0.out.size; simp; omega
                intro v' w1 hown1 hg1 _
                go_wp2
                go_roundw
                case rel => exact ⟨k, ws ++ [s.extract i k], rfl, hks, by simp; omega, by simpa using hown1, Below.grown (HN0.out.alloc _) hg1 (by have := HN0.out.size; simp; omega) (fun k hk => (hown.lt k hk).1), by rw [List.append_assoc, List.singleton_append, ← HR.out]; exact H⟩
                case measure => simp [intOf]; omega
            · have h0 : k = s.size := by omega
              subst h0
              have HR := Lib.hid (wd_run hlt hik hks HA.out (fun h => absurd h hk))
              go_wp2_with (first | (go_at_call 81; refine (rletter_any _ _).mono ?_; rintro e w' ⟨rfl, rfl⟩) | (at_builtin; refine wpList_append_own _ rfl (.tmp 37) (.tmp 42) 53 rfl w.heap.size 9 i0 (.string ByteArray.empty) 1 16 Tryd.underlying53 hi hz0 hz1 hz2 rfl (by decide) _ _ _ rfl (hown.alloc _) ⟨wr.heap.size, 0, none⟩ 1 1 [.string (s.extract i s.size)] rfl rfl ?c1 ?c2 ?c3 ?c4 ?c5 ?_))
              case c1 => exact cell_one_new _ _ _
              case c2 => simp [Value.oneCell']
              case c3 => simp [maxLen]; omega
              case c4 => omega
              case c5 => have := HN0.out.size; simp; omega
              intro v' w1 hown1 hg1 _
              go_wp2
              go_roundw
              case rel => exact ⟨s.size, ws ++ [s.extract i s.size], rfl, Nat.le_refl _, by simp; omega, by simpa using hown1, Below.grown (HN0.out.alloc _) hg1 (by have := HN0.out.size; simp; omega) (fun k hk => (hown.lt k hk).1), by rw [List.append_assoc, List.singleton_append, ← HR.out]; exact H⟩
              case measure => simp [intOf]; omega
        · have hp : partB s[i].toNat = false := by simpa using hp
          have HR := Lib.hid (wd_one hlt hb hp)
          go_wp2_with (first | (go_at_call 57; refine (rblank_any _ _).mono ?_; rintro e w' ⟨rfl, rfl⟩))
          go_loopw [5] (fun v5 wx => v5 = .int .i64 (i + 1 : Nat) ∧ wx = wr) (fun v5 _ => 0)
          case atStart => exact ⟨by go_num, rfl⟩
          case round =>
            obtain ⟨rfl, rfl⟩ := hrel
            go_wp2_with (first | (go_at_call 81; refine (rletter_any _ _).mono ?_; rintro e w' ⟨rfl, rfl⟩) | (at_builtin; refine wpList_append_own _ rfl (.tmp 37) (.tmp 42) 53 rfl w.heap.size 9 i0 (.string ByteArray.empty) 1 16 Tryd.underlying53 hi hz0 hz1 hz2 rfl (by decide) _ _ _ rfl (hown.alloc _) ⟨wr.heap.size, 0, none⟩ 1 1 [.string (s.extract i (i + 1))] rfl rfl ?c1 ?c2 ?c3 ?c4 ?c5 ?_))
            case c1 => exact cell_one_new _ _ _
            case c2 => simp [Value.oneCell']
            case c3 => simp [maxLen]; omega
            case c4 => omega
            case c5 => have := hn.size; simp; omega
            intro v' w1 hown1 hg1 _
            go_wp2
            go_roundw
            case rel => exact ⟨i + 1, ws ++ [s.extract i (i + 1)], rfl, by omega, by simp; omega, by simpa using hown1, Below.grown (hn.alloc _) hg1 (by have := hn.size; simp; omega) (fun k hk => (hown.lt k hk).1), by rw [List.append_assoc, List.singleton_append, ← HR.out]; exact H⟩
            case measure => simp [intOf]; omega
    · have h0 : i = s.size := by omega
      subst h0
      go_wp2
      go_ret
      refine ⟨_, rfl, ?_, hn⟩
      have := H.out
      rw [wd_end (Nat.le_refl _), List.append_nil] at this
      subst this
      exact hown
end Go.Proofs.YtlecocmopeainaaDoor
