/- What the small functions of normalize compute: blank, digit, part, class, and the words of a line (split). No conditions but the lengths' own. -/
import Derived.Test.YtlecocmopeainaaDoorPl
import Derived.Test.YtlecocmopeainaaDoorShelf
namespace Go.Proofs.YtlecocmopeainaaDoor
open Go.RowKit

theorem ret_b {a b : Bool} (h : a = b) : Ending.returned (.bool a) = .returned (.bool b) := by rw [h]
theorem ret_i {k : IntKind} {a b : Int} (h : a = b) : Ending.returned (.int k a) = .returned (.int k b) := by rw [h]
theorem ret_s {a b : ByteArray} (h : a = b) : Ending.returned (.string a) = .returned (.string b) := by rw [h]

theorem blank_any (n : Int) (w : World) : Calls Tryd.prog 49 #[.int .u8 n] w fun e w' => e = .returned (.bool (blankB n)) ∧ w = w' := by
  go_enter Tryd.func49, Tryd.ntmps49
  go_wp2
  all_goals go_ret
  all_goals exact ⟨by simp [blankB, *], rfl⟩
theorem digit_any (n : Int) (w : World) : Calls Tryd.prog 79 #[.int .u8 n] w fun e w' => e = .returned (.bool (digitB n)) ∧ w = w' := by
  go_enter Tryd.func79, Tryd.ntmps79
  go_wp2
  all_goals go_ret
  all_goals exact ⟨by simp [digitB, *] <;> omega, rfl⟩
theorem part_any (n : Int) (w : World) : Calls Tryd.prog 75 #[.int .u8 n] w fun e w' => e = .returned (.bool (partB n)) ∧ w = w' := by
  by_cases hd : digitB n = true
  all_goals
    go_enter Tryd.func75, Tryd.ntmps75
    go_wp2_with (go_at_call 79; refine (digit_any _ _).mono ?_; rintro e w' ⟨rfl, rfl⟩)
    all_goals go_ret
    all_goals refine ⟨?_, rfl⟩
    all_goals simp only [Array.getD, List.size_toArray, List.length_cons, List.length_nil, Nat.reduceAdd, Nat.reduceLT, dif_pos, List.getElem_toArray, Array.getInternal_eq_getElem, List.getElem_cons_succ, List.getElem_cons_zero]
    all_goals refine ret_b ?_
    all_goals (rw [Bool.eq_iff_iff]; simp [partB, hd] <;> first | omega | (simp [digitB] at hd; omega) | (simp [digitB]; omega))

/-! ### the class of a word -/
def cls (names numbers : Bool) (s : ByteArray) : ByteArray :=
  match s.data.toList with
  | [] => s
  | c :: _ => if digit c && numbers then S [36, 48] else if part c && !digit c && names then S [36, 110] else s
theorem cls_eq (a b : Bool) {s : ByteArray} (h : 0 < s.size) : cls a b s = if digitB s[0].toNat && b then S [36, 48] else if partB s[0].toNat && !digitB s[0].toNat && a then S [36, 110] else s := by
  unfold cls
  rw [data_cons h]
  rfl
theorem class_any (s : ByteArray) (a b : Bool) (w : World) (hs : 0 < s.size) : Calls Tryd.prog 42 #[.string s, .bool a, .bool b] w fun e w' => e = .returned (.string (cls a b s)) ∧ w = w' := by
  have hc := cls_eq a b hs
  have H := Lib.hid hc; clear hc
  go_enter Tryd.func42, Tryd.ntmps42
  go_wp2_with (first | (go_at_call 79; refine (digit_any _ _).mono ?_; rintro e w' ⟨rfl, rfl⟩) | (go_at_call 75; refine (part_any _ _).mono ?_; rintro e w' ⟨rfl, rfl⟩))
  all_goals go_ret
  all_goals exact ⟨ret_s (by rw [H.out]; simp_all [S]), rfl⟩

/-! ### split -/
def notPart (r : Nat) : Bool := decide (126 < (r : Int)) || !partB r
theorem notPart_big (r : Nat) (h : 128 ≤ r) : notPart r = true := by simp [notPart]; omega
theorem notPart_byte (c : UInt8) : (!notPart c.toNat) = part c := by
  simp only [notPart, part, Bool.not_or, Bool.not_not]
  by_cases h : (126 : Int) < (c.toNat : Int)
  · have : partB c.toNat = false := by
      simp only [partB, digitB, Bool.or_eq_false_iff, Bool.and_eq_false_iff, decide_eq_false_iff_not, beq_eq_false_iff_ne]; omega
    simp [this]
  · simp [h]
theorem closure_any (r : Nat) (w : World) : Calls Tryd.prog 77 (#[.int .i32 (r : Int)] ++ #[]) w fun e w' => e = .returned (.bool (notPart r)) ∧ ∃ q, w' = w.drewN q := by
  by_cases h : (126 : Int) < (r : Int)
  · go_enter Tryd.func77, Tryd.ntmps77
    go_wp2
    go_ret
    exact ⟨ret_b (by simp [notPart, h]), 0, rfl⟩
  · have hw : IntKind.u8.wrap (r : Int) = r := by rw [IntKind.wrap_u8]; omega
    go_enter Tryd.func77, Tryd.ntmps77
    go_wp2_with (go_at_call 75; refine (part_any _ _).mono ?_; rintro e w' ⟨rfl, rfl⟩)
    go_ret
    exact ⟨ret_b (by have h' : decide ((126 : Int) < (r : Int)) = false := decide_eq_false (by omega)
                     rw [notPart, h']; simp), 0, rfl⟩
theorem index_any (s : ByteArray) (w : World) :
    Calls Tryd.prog 76 #[.string s, .func (.func 77) #[] #[]] w fun e w' => e = .returned (.int .i64 (if run s < s.size then (run s : Int) else -1)) ∧ New w w' := by
  have h := Tryd.strings_IndexFunc 77 #[] (enters_of Tryd.func77 (by kernel_rfl) rfl) notPart s w (fun W r _ => closure_any r W)
  rw [idx_bytes notPart notPart_big] at h
  have e : (s.data.toList.takeWhile fun c => !notPart c.toNat) = s.data.toList.takeWhile part := by
    rw [show (fun c : UInt8 => !notPart c.toNat) = part from funext notPart_byte]
  rw [e] at h
  exact h

theorem index_lt (s : ByteArray) (k : Nat) (w : World) (hk : Hid (run s = k)) (h : k < s.size) : Calls Tryd.prog 76 #[.string s, .func (.func 77) #[] #[]] w fun e w' => e = .returned (.int .i64 k) ∧ New w w' := by
  have := index_any s w; rw [hk.out, if_pos h] at this; exact this
theorem index_end (s : ByteArray) (w : World) (h : ¬ run s < s.size) : Calls Tryd.prog 76 #[.string s, .func (.func 77) #[] #[]] w fun e w' => e = .returned (.int .i64 (-1)) ∧ New w w' := by
  have := index_any s w; rw [if_neg h] at this; exact this
theorem Tryd.info9' : (Tryd.prog.info? 9).map (fun i => (i.zero, i.size, i.bytes)) = some (some (.string ByteArray.empty), 1, 16) := by kernel_rfl

set_option maxHeartbeats 1000000 in
set_option maxRecDepth 100000 in
theorem split_any (s0 : ByteArray) (w : World) (hs : s0.size ≤ 4294967280) :
    Calls Tryd.prog 40 #[.string s0] w fun e w' => ∃ v, e = .returned v ∧ w'.ownsRow w.heap.size 9 1 v (wds s0).length ((wds s0).map Value.string) ∧ New w w' := by
  obtain ⟨i0, hi, hz0, hz1, hz2⟩ := info_parts Tryd.info9'
  go_enter Tryd.func40, Tryd.ntmps40
  go_wp2
  go_loopw [0, 3] (fun v0 v3 wr => ∃ (s : ByteArray) (ws : List ByteArray), v0 = .string s ∧ s.size + ws.length ≤ s0.size ∧ wr.ownsRow w.heap.size 9 1 v3 ws.length (ws.map Value.string) ∧ New w wr ∧ Hid (ws ++ wds s = wds s0))
    (fun v0 _ _ => match v0 with | .string s => s.size | _ => 0)
  case atStart => exact ⟨s0, [], rfl, by simp, World.ownsRow_nil _ _ _ _, New.refl w, rfl⟩
  case round =>
    obtain ⟨s, ws, rfl, hl, hown, hn, H⟩ := hrel
    by_cases h0 : 0 < s.size
    · have hne : s.toList.isEmpty = false := by rw [toList_eq, data_cons h0]; rfl
      by_cases hb : blankB s[0].toNat = true
      · have HB := Lib.hid (wds_blank h0 hb)
        go_wp2_with (first | (go_at_call 49; refine (blank_any _ _).mono ?_; rintro e w' ⟨rfl, rfl⟩))
        go_roundw
        case rel => exact ⟨_, ws, rfl, by simp [ByteArray.size_extract]; omega, hown, hn, by rw [← HB.out]; exact H⟩
        case measure => simp [ByteArray.size_extract]; omega
      · have hb : blankB s[0].toNat = false := by simpa using hb
        by_cases hp : partB s[0].toNat = true
        · obtain ⟨hr0, hr⟩ := wds_run h0 hp
          have HR := Lib.hid hr; clear hr
          have hrl := run_le s
          by_cases hlt : run s < s.size
          · obtain ⟨k, hk⟩ : ∃ k, run s = k := ⟨_, rfl⟩
            rw [hk] at HR hr0 hlt
            have HK := Lib.hid hk
            clear hrl hk
            go_wp2_with (first | (go_at_call 49; refine (blank_any _ _).mono ?_; rintro e w' ⟨rfl, rfl⟩) | (go_at_call 75; refine (part_any _ _).mono ?_; rintro e w' ⟨rfl, rfl⟩) | (go_at_call 76; refine (index_lt _ k _ HK hlt).mono ?_; rintro e w2 ⟨rfl, hn2⟩; have hown2 := hown.kept (hn2.grown_ none) (by cases hv : Value.ownBlock _ <;> simp); have hn3 := hn.trans hn2) | (at_builtin; refine wpList_append_own _ rfl (.tmp 23) (.tmp 27) 53 rfl w.heap.size 9 i0 (.string ByteArray.empty) 1 16 Tryd.underlying53 hi hz0 hz1 hz2 rfl (by decide) _ _ _ rfl (hown2.alloc _) ⟨w2.heap.size, 0, none⟩ 1 1 [.string (s.extract 0 k)] rfl rfl ?c1 ?c2 ?c3 ?c4 ?c5 ?_))
            case c1 => exact cell_one_new _ _ _
            case c2 => simp [Value.oneCell']
            case c3 => simp [maxLen]; omega
            case c4 => omega
            case c5 => have := hn3.size; simp; omega
            intro v' w1 hown1 hg1 _
            go_wp2
            go_roundw
            case rel => exact ⟨_, ws ++ [s.extract 0 k], rfl, by simp [ByteArray.size_extract]; omega, by simpa using hown1, Below.grown (hn3.alloc _) hg1 (by have := hn3.size; simp; omega) (fun k hk => (hown2.lt k hk).1), by rw [List.append_assoc, List.singleton_append, ← HR.out]; exact H⟩
            case measure => simp [ByteArray.size_extract]; omega
          · have hrs : run s = s.size := by omega
            rw [hrs, ext_to, ext_from, List.take_of_length_le (by rw [← size_eq]; exact Nat.le_refl _), S_data, List.drop_eq_nil_of_le (by rw [← size_eq]; exact Nat.le_refl _), show S [] = ByteArray.empty from rfl] at HR
            clear hrs hrl hr0
            go_wp2_with (first | (go_at_call 49; refine (blank_any _ _).mono ?_; rintro e w' ⟨rfl, rfl⟩) | (go_at_call 75; refine (part_any _ _).mono ?_; rintro e w' ⟨rfl, rfl⟩) | (go_at_call 76; refine (index_end _ _ hlt).mono ?_; rintro e w2 ⟨rfl, hn2⟩; have hown2 := hown.kept (hn2.grown_ none) (by cases hv : Value.ownBlock _ <;> simp); have hn3 := hn.trans hn2) | (at_builtin; refine wpList_append_own _ rfl (.tmp 23) (.tmp 27) 53 rfl w.heap.size 9 i0 (.string ByteArray.empty) 1 16 Tryd.underlying53 hi hz0 hz1 hz2 rfl (by decide) _ _ _ rfl (hown2.alloc _) ⟨w2.heap.size, 0, none⟩ 1 1 [.string s] rfl rfl ?c1 ?c2 ?c3 ?c4 ?c5 ?_))
            case c1 => exact cell_one_new _ _ _
            case c2 => simp [Value.oneCell']
            case c3 => simp [maxLen]; omega
            case c4 => omega
            case c5 => have := hn3.size; simp; omega
            intro v' w1 hown1 hg1 _
            go_wp2
            go_roundw
            case rel => exact ⟨_, ws ++ [s], rfl, by simp; omega, by simpa using hown1, Below.grown (hn3.alloc _) hg1 (by have := hn3.size; simp; omega) (fun k hk => (hown2.lt k hk).1), by rw [List.append_assoc, List.singleton_append, ← HR.out]; exact H⟩
            case measure => simp; omega
        · have hp : partB s[0].toNat = false := by simpa using hp
          have HR := Lib.hid (wds_one h0 hb hp)
          go_wp2_with (first | (go_at_call 49; refine (blank_any _ _).mono ?_; rintro e w' ⟨rfl, rfl⟩) | (go_at_call 75; refine (part_any _ _).mono ?_; rintro e w' ⟨rfl, rfl⟩) | (at_builtin; refine wpList_append_own _ rfl (.tmp 23) (.tmp 27) 53 rfl w.heap.size 9 i0 (.string ByteArray.empty) 1 16 Tryd.underlying53 hi hz0 hz1 hz2 rfl (by decide) _ _ _ rfl (hown.alloc _) ⟨wr.heap.size, 0, none⟩ 1 1 [.string (s.extract 0 1)] rfl rfl ?c1 ?c2 ?c3 ?c4 ?c5 ?_))
          case c1 => exact cell_one_new _ _ _
          case c2 => simp [Value.oneCell']
          case c3 => simp [maxLen]; omega
          case c4 => omega
          case c5 => have := hn.size; simp; omega
          intro v' w1 hown1 hg1 _
          go_wp2
          go_roundw
          case rel => exact ⟨_, ws ++ [s.extract 0 1], rfl, by simp [ByteArray.size_extract]; omega, by simpa using hown1, Below.grown (hn.alloc _) hg1 (by have := hn.size; simp; omega) (fun k hk => (hown.lt k hk).1), by rw [List.append_assoc, List.singleton_append, ← HR.out]; exact H⟩
          case measure => simp [ByteArray.size_extract]; omega
    · have h0 : s.size = 0 := by omega
      have hne : s.toList.isEmpty = true := by have hd : s.data.toList = [] := List.eq_nil_of_length_eq_zero (by rw [← size_eq]; exact h0)
                                               rw [toList_eq, hd]; rfl
      go_wp2
      go_ret
      refine ⟨_, rfl, ?_, hn⟩
      have := H.out
      rw [wds_nil h0, List.append_nil] at this
      subst this
      exact hown

end Go.Proofs.YtlecocmopeainaaDoor
