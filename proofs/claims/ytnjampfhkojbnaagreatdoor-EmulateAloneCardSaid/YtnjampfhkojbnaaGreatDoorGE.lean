/- token.next, token.valid, token.Name: which strings are names. No conditions but the string's own length. token.valid of a name's token, token.Name: which strings are names. No conditions but the string's own length. Paths and names of objects; binaries as data. No conditions but the strings' own lengths. The keys of binary.placed's map: pairs of strings. No conditions but the strings' own lengths. -/
import Derived.Test.YtnjampfhkojbnaaGreatDoorGA
import Derived.Lib.IndexMore
import Derived.DeepKeys4
import Derived.MapViews
import Derived.ChangeSame
import Derived.ChangeMaps5
import Derived.Lib.SmallJoins
import Derived.Deep.Slices
import Derived.OpenShut

namespace Go.Proofs.YtnjampfhkojbnaaGreatDoor
open Go Go.RowKit Go.Joins
set_option linter.unusedSimpArgs false
set_option linter.unusedVariables false

theorem Blk.store2 {W : World} {g : Nat} {t : TypeId} {x y : Value} (h : Blk W g t #[x, y]) (a b : Value) :
    W.cell? ⟨g, 0, none⟩ = some x ∧ W.frozen? ⟨g, 0, none⟩ = false ∧ (W.setCell ⟨g, 0, none⟩ a).cell? ⟨g, 1, none⟩ = some y ∧ (W.setCell ⟨g, 0, none⟩ a).frozen? ⟨g, 1, none⟩ = false ∧
    ((W.setCell ⟨g, 0, none⟩ a).setCell ⟨g, 1, none⟩ b).cell? ⟨g, 0, none⟩ = some a ∧ ((W.setCell ⟨g, 0, none⟩ a).setCell ⟨g, 1, none⟩ b).cell? ⟨g, 1, none⟩ = some b :=
  ⟨h.cell' 0 _ rfl, h.free 0, (h.put 0 a).cell' 1 _ rfl, (h.put 0 a).free 1, ((h.put 0 a).put 1 b).cell' 0 _ rfl, ((h.put 0 a).put 1 b).cell' 1 _ rfl⟩
set_option maxRecDepth 100000 in
set_option maxHeartbeats 2000000 in
theorem next_name (s : ByteArray) (w : World) (hs : s.size ≤ 9223372036854775807) (h0 : 0 < s.size) (hl : letR s[0].toNat = true) :
    Calls Tryz.prog 146 #[.string s] w fun e w' => e = .returned (if runV true s ≤ 32 then .tuple #[.agg #[.int .i64 1, .string (s.extract 0 (runV true s))], .int .i64 0] else .tuple #[.agg #[.int .i64 0, .string ⟨#[]⟩], .int .i64 2]) ∧ New w w' := by
  have HL := Lib.hid (letter_any (s[0].toNat : Int))
  rw [hl] at HL
  have HR := Lib.hid (run_any true s)
  have hle := runV_le true s
  have hb := UInt8.toNat_lt s[0]
  generalize runV true s = n at *
  clear hl
  by_cases hn : n ≤ 32
  · rw [if_pos hn]
    have t1 : ¬ (32 : Int) < (n : Int) := by omega
    have t2 : (n : Int) ≤ (s.size : Int) := by omega
    go_enter Tryz.func146, Tryz.ntmps146
    go_wp2_with (first | (go_at_call 156; (with_reducible refine (HR.out _).mono ?_); rintro e w1 ⟨rfl, n1⟩; have BB := (Blk.made w 186 #[.int .i64 0, .string ⟨#[]⟩]).new n1; obtain ⟨c1, c2, c3, c4, c5, c6⟩ := BB.store2 (.int .i64 1) (.string (s.extract 0 n))) | (go_at_call 155; (with_reducible refine (HL.out _).mono ?_); rintro e w1 ⟨rfl, hw⟩; rw [hw]))
    exact bodyPost_ret (v := .tuple #[.agg #[.int .i64 1, .string (s.extract 0 n)], .int .i64 0]) (by simp [results, Tryz.results146, go_sem, c5, c6]) rfl ⟨rfl, ((((New.refl w).alloc (.cells #[.int .i64 0, .string ⟨#[]⟩] 186)).trans n1).setCell (p := ⟨w.heap.size, 0, none⟩) (Nat.le_refl _) _).setCell (p := ⟨w.heap.size, 1, none⟩) (Nat.le_refl _) _⟩
  · rw [if_neg hn]
    have t1 : (32 : Int) < (n : Int) := by omega
    go_enter Tryz.func146, Tryz.ntmps146
    go_wp2_with (first | (go_at_call 156; (with_reducible refine (HR.out _).mono ?_); rintro e w1 ⟨rfl, n1⟩; have BB := (Blk.made w 186 #[.int .i64 0, .string ⟨#[]⟩]).new n1; obtain ⟨c1, c2, c3, c4, c5, c6⟩ := BB.store2 (.int .i64 0) (.string ⟨#[]⟩)) | (go_at_call 155; (with_reducible refine (HL.out _).mono ?_); rintro e w1 ⟨rfl, hw⟩; rw [hw]))
    exact bodyPost_ret (v := .tuple #[.agg #[.int .i64 0, .string ⟨#[]⟩], .int .i64 2]) (by simp [results, Tryz.results146, go_sem, c5, c6]) rfl ⟨rfl, ((((New.refl w).alloc (.cells #[.int .i64 0, .string ⟨#[]⟩] 186)).trans n1).setCell (p := ⟨w.heap.size, 0, none⟩) (Nat.le_refl _) _).setCell (p := ⟨w.heap.size, 1, none⟩) (Nat.le_refl _) _⟩
def NotName (e : Ending) : Prop := ∃ (k : Int) (v : ByteArray) (x : Int), e = .returned (.tuple #[.agg #[.int .i64 k, .string v], .int .i64 x]) ∧ (k ≠ 1 ∨ x ≠ 0)
set_option maxRecDepth 100000 in
set_option maxHeartbeats 4000000 in
theorem next_other (s : ByteArray) (w : World) (hs : s.size ≤ 9223372036854775807) (h0 : 0 < s.size) (hl : letR s[0].toNat = false) :
    Calls Tryz.prog 146 #[.string s] w fun e w' => NotName e ∧ New w w' := by
  have HL := Lib.hid (letter_any (s[0].toNat : Int))
  rw [hl] at HL
  have HD := Lib.hid (digit_any (s[0].toNat : Int))
  have hb := UInt8.toNat_lt s[0]
  have hnA := (New.refl w).alloc (.cells #[.int .i64 0, .string ⟨#[]⟩] 186)
  have BA := Blk.made w 186 #[.int .i64 0, .string ⟨#[]⟩]
  clear hl
  cases hd : digR s[0].toNat
  · rw [hd] at HD
    have HY := Lib.hid (fun w => symbol_weak s w hs h0)
    clear hd
    go_enter Tryz.func146, Tryz.ntmps146
    go_wp2_with (first | (go_at_call 159; (with_reducible refine (HY.out _).mono ?_); rintro e w1 ⟨⟨v, rfl⟩, n1⟩; have BB := BA.new n1; obtain ⟨c1, c2, c3, c4, c5, c6⟩ := BB.store2 (.int .i64 3) (.string v); obtain ⟨_, _, d3, d4, d5, d6⟩ := BB.store2 (.int .i64 0) (.string ⟨#[]⟩)) | (go_at_call 157; (with_reducible refine (HD.out _).mono ?_); rintro e w1 ⟨rfl, hw⟩; rw [hw]) | (go_at_call 155; (with_reducible refine (HL.out _).mono ?_); rintro e w1 ⟨rfl, hw⟩; rw [hw]))
    all_goals first | (refine bodyPost_ret (v := .tuple #[.agg #[.int .i64 3, .string v], .int .i64 0]) ?_ rfl ⟨⟨3, v, 0, rfl, .inl (by decide)⟩, ((hnA.trans n1).setCell (p := ⟨w.heap.size, 0, none⟩) (Nat.le_refl _) _).setCell (p := ⟨w.heap.size, 1, none⟩) (Nat.le_refl _) _⟩; (simp [results, Tryz.results146, go_sem, c5, c6]; done)) | (refine bodyPost_ret (v := .tuple #[.agg #[.int .i64 0, .string ⟨#[]⟩], .int .i64 4]) ?_ rfl ⟨⟨0, ⟨#[]⟩, 4, rfl, .inl (by decide)⟩, ((hnA.trans n1).setCell (p := ⟨w.heap.size, 0, none⟩) (Nat.le_refl _) _).setCell (p := ⟨w.heap.size, 1, none⟩) (Nat.le_refl _) _⟩; (simp [results, Tryz.results146, go_sem, d5, d6]; done))
  · rw [hd] at HD
    have HR := Lib.hid (run_any false s)
    have hle := runV_le false s
    generalize runV false s = n at *
    have HN := Lib.hid (fun w => number_weak (s.extract 0 n) w (by simp; omega))
    have t2 : (n : Int) ≤ (s.size : Int) := by omega
    clear hd
    by_cases hlt : n < s.size
    · have hb2 := UInt8.toNat_lt s[n]
      have HL2 := Lib.hid (letter_any (s[n].toNat : Int))
      have t3 : (n : Int) < (s.size : Int) := by omega
      go_enter Tryz.func146, Tryz.ntmps146
      go_wp2_with (first
        | (go_at_call 155; have hq := n2; (with_reducible refine (HL2.out _).mono ?_); rintro e w3 ⟨rfl, hw⟩; rw [hw])
        | (go_at_call 158; (with_reducible refine (HN.out _).mono ?_); rintro e w2 ⟨⟨vn, xn, rfl⟩, n2⟩; have BB := (BA.new n1).new n2; have n12 := n1.trans n2; obtain ⟨c1, c2, c3, c4, c5, c6⟩ := BB.store2 (.int .i64 2) (.string (s.extract 0 n)); obtain ⟨_, _, d3, d4, d5, d6⟩ := BB.store2 (.int .i64 0) (.string ⟨#[]⟩))
        | (go_at_call 156; (with_reducible refine (HR.out _).mono ?_); rintro e w1 ⟨rfl, n1⟩)
        | (go_at_call 157; (with_reducible refine (HD.out _).mono ?_); rintro e w1 ⟨rfl, hw⟩; rw [hw])
        | (go_at_call 155; (with_reducible refine (HL.out _).mono ?_); rintro e w1 ⟨rfl, hw⟩; rw [hw]))
      all_goals first | (refine bodyPost_ret (v := .tuple #[.agg #[.int .i64 2, .string (s.extract 0 n)], .int .i64 0]) ?_ rfl ⟨⟨2, (s.extract 0 n), 0, rfl, .inl (by decide)⟩, ((hnA.trans n12).setCell (p := ⟨w.heap.size, 0, none⟩) (Nat.le_refl _) _).setCell (p := ⟨w.heap.size, 1, none⟩) (Nat.le_refl _) _⟩; (simp [results, Tryz.results146, go_sem, c5, c6]; done)) | (refine bodyPost_ret (v := .tuple #[.agg #[.int .i64 0, .string ⟨#[]⟩], .int .i64 4]) ?_ rfl ⟨⟨0, ⟨#[]⟩, 4, rfl, .inl (by decide)⟩, ((hnA.trans n12).setCell (p := ⟨w.heap.size, 0, none⟩) (Nat.le_refl _) _).setCell (p := ⟨w.heap.size, 1, none⟩) (Nat.le_refl _) _⟩; (simp [results, Tryz.results146, go_sem, d5, d6]; done)) | (refine bodyPost_ret (v := .tuple #[.agg #[.int .i64 0, .string ⟨#[]⟩], .int .i64 xn]) ?_ rfl ⟨⟨0, ⟨#[]⟩, xn, rfl, .inl (by decide)⟩, ((hnA.trans n12).setCell (p := ⟨w.heap.size, 0, none⟩) (Nat.le_refl _) _).setCell (p := ⟨w.heap.size, 1, none⟩) (Nat.le_refl _) _⟩; (simp [results, Tryz.results146, go_sem, d5, d6]; done))
    · have HL2 : Hid True := Lib.hid trivial
      have t3 : ¬ (n : Int) < (s.size : Int) := by omega
      go_enter Tryz.func146, Tryz.ntmps146
      go_wp2_with (first
        | (go_at_call 158; (with_reducible refine (HN.out _).mono ?_); rintro e w2 ⟨⟨vn, xn, rfl⟩, n2⟩; have BB := (BA.new n1).new n2; have n12 := n1.trans n2; obtain ⟨c1, c2, c3, c4, c5, c6⟩ := BB.store2 (.int .i64 2) (.string (s.extract 0 n)); obtain ⟨_, _, d3, d4, d5, d6⟩ := BB.store2 (.int .i64 0) (.string ⟨#[]⟩))
        | (go_at_call 156; (with_reducible refine (HR.out _).mono ?_); rintro e w1 ⟨rfl, n1⟩)
        | (go_at_call 157; (with_reducible refine (HD.out _).mono ?_); rintro e w1 ⟨rfl, hw⟩; rw [hw])
        | (go_at_call 155; (with_reducible refine (HL.out _).mono ?_); rintro e w1 ⟨rfl, hw⟩; rw [hw]))
      all_goals first | (refine bodyPost_ret (v := .tuple #[.agg #[.int .i64 2, .string (s.extract 0 n)], .int .i64 0]) ?_ rfl ⟨⟨2, (s.extract 0 n), 0, rfl, .inl (by decide)⟩, ((hnA.trans n12).setCell (p := ⟨w.heap.size, 0, none⟩) (Nat.le_refl _) _).setCell (p := ⟨w.heap.size, 1, none⟩) (Nat.le_refl _) _⟩; (simp [results, Tryz.results146, go_sem, c5, c6]; done)) | (refine bodyPost_ret (v := .tuple #[.agg #[.int .i64 0, .string ⟨#[]⟩], .int .i64 4]) ?_ rfl ⟨⟨0, ⟨#[]⟩, 4, rfl, .inl (by decide)⟩, ((hnA.trans n12).setCell (p := ⟨w.heap.size, 0, none⟩) (Nat.le_refl _) _).setCell (p := ⟨w.heap.size, 1, none⟩) (Nat.le_refl _) _⟩; (simp [results, Tryz.results146, go_sem, d5, d6]; done)) | (refine bodyPost_ret (v := .tuple #[.agg #[.int .i64 0, .string ⟨#[]⟩], .int .i64 xn]) ?_ rfl ⟨⟨0, ⟨#[]⟩, xn, rfl, .inl (by decide)⟩, ((hnA.trans n12).setCell (p := ⟨w.heap.size, 0, none⟩) (Nat.le_refl _) _).setCell (p := ⟨w.heap.size, 1, none⟩) (Nat.le_refl _) _⟩; (simp [results, Tryz.results146, go_sem, d5, d6]; done))
end Go.Proofs.YtnjampfhkojbnaaGreatDoor

namespace Go.Proofs.YtnjampfhkojbnaaGreatDoor
open Go Go.RowKit Go.Joins
set_option linter.unusedSimpArgs false
set_option linter.unusedVariables false

def formV (s : ByteArray) : Bool := match s.data.toList with
  | [] => false
  | c :: _ => letR c.toNat && decide (runV true s = s.size) && decide (s.size ≤ 32)
theorem formV_at {s : ByteArray} (h : 0 < s.size) : formV s = (letR s[0].toNat && decide (runV true s = s.size) && decide (s.size ≤ 32)) := by
  unfold formV
  rw [data_cons h]
theorem formV_nil {s : ByteArray} (h : s.size = 0) : formV s = false := by
  have hd : s.data.toList = [] := List.eq_nil_of_length_eq_zero (by rw [← size_eq]; exact h)
  unfold formV
  rw [hd]
set_option maxRecDepth 100000 in
set_option maxHeartbeats 4000000 in
theorem valid_any (s : ByteArray) (w : World) (hs : s.size ≤ 9223372036854775807) : Calls Tryz.prog 128 #[.agg #[.int .i64 1, .string s]] w fun e w' => e = .returned (.bool (formV s)) ∧ New w w' := by
  have hnA := (New.refl w).alloc (.cells #[.int .i64 1, .string s] 186)
  have BA := Blk.made w 186 #[.int .i64 1, .string s]
  by_cases h0 : 0 < s.size
  · have hne : s.toList.isEmpty = false := by rw [toList_eq, data_cons h0]; rfl
    have hF := formV_at h0
    have hle := runV_le true s
    cases hl : letR s[0].toNat
    · rw [hl, Bool.false_and, Bool.false_and] at hF
      rw [hF]
      have HN := Lib.hid (fun w => next_other s w hs h0 hl)
      clear hF hl
      go_enter Tryz.func128, Tryz.ntmps128
      go_wp2_with (go_at_call 146; (with_reducible refine (HN.out _).mono ?_); rintro e w1 ⟨⟨k, v, x, rfl, hk⟩, n1⟩; have BB := (BA.new n1).alloc (.cells #[.int .i64 k, .string v] 186); have c0 := BB.cell' 0 _ rfl; have c1 := BB.cell' 1 _ rfl; have HK := Lib.hid hk; clear hk)
      all_goals first
        | (go_ret; exact ⟨rfl, (hnA.trans n1).alloc _⟩)
        | (exfalso; have := HK.out; omega)
    · have HN := Lib.hid (fun w => next_name s w hs h0 hl)
      rw [hl, Bool.true_and] at hF
      rw [hF]
      clear hF hl
      by_cases hn : runV true s ≤ 32
      · rw [if_pos hn] at HN
        by_cases he : runV true s = s.size
        · rw [decide_eq_true he, decide_eq_true (by omega : s.size ≤ 32)]
          rw [he] at HN
          have ex : s.extract 0 s.size = s := by rw [ext_to, List.take_of_length_le (by rw [← size_eq]; exact Nat.le_refl _), S_data]
          rw [ex] at HN
          have c9 : (s.toList == s.toList) = true := beq_self_eq_true _
          clear ex he
          go_enter Tryz.func128, Tryz.ntmps128
          go_wp2_with (go_at_call 146; (with_reducible refine (HN.out _).mono ?_); rintro e w1 ⟨rfl, n1⟩; have BB := (BA.new n1).alloc (.cells #[.int .i64 1, .string s] 186); have c0 := BB.cell' 0 _ rfl; have c1 := BB.cell' 1 _ rfl)
          go_ret
          exact ⟨rfl, (hnA.trans n1).alloc _⟩
        · rw [decide_eq_false he, Bool.false_and]
          obtain ⟨t, ht⟩ : ∃ t, s.extract 0 (runV true s) = t := ⟨_, rfl⟩
          have htl : t.size = runV true s := by rw [← ht]; simp; omega
          rw [ht] at HN
          have c9 : (t.toList == s.toList) = false := by rw [str_eq, decide_eq_false]; intro q; rw [q] at htl; omega
          clear ht htl
          go_enter Tryz.func128, Tryz.ntmps128
          go_wp2_with (go_at_call 146; (with_reducible refine (HN.out _).mono ?_); rintro e w1 ⟨rfl, n1⟩; have BB := (BA.new n1).alloc (.cells #[.int .i64 1, .string t] 186); have c0 := BB.cell' 0 _ rfl; have c1 := BB.cell' 1 _ rfl)
          go_ret
          exact ⟨rfl, (hnA.trans n1).alloc _⟩
      · rw [if_neg hn] at HN
        have hf : (decide (runV true s = s.size) && decide (s.size ≤ 32)) = false := by
          by_cases he : runV true s = s.size
          · rw [decide_eq_false (show ¬ s.size ≤ 32 by omega), Bool.and_false]
          · rw [decide_eq_false he, Bool.false_and]
        rw [hf]
        clear hf
        go_enter Tryz.func128, Tryz.ntmps128
        go_wp2_with (go_at_call 146; (with_reducible refine (HN.out _).mono ?_); rintro e w1 ⟨rfl, n1⟩)
        go_ret
        exact ⟨rfl, (hnA.trans n1).alloc _⟩
  · have h0 : s.size = 0 := by omega
    have hd : s.data.toList = [] := List.eq_nil_of_length_eq_zero (by rw [← size_eq]; exact h0)
    have hne : s.toList.isEmpty = true := by rw [toList_eq, hd]; rfl
    rw [formV_nil h0]
    clear hd
    go_enter Tryz.func128, Tryz.ntmps128
    go_wp2
    go_ret
    exact ⟨rfl, hnA⟩
def kwN : List (List UInt8) := [[108, 101, 116], [115, 101, 116], [105, 102], [101, 108, 115, 101], [119, 104, 105, 108, 101], [114, 101, 116, 117, 114, 110], [100, 111], [111, 117, 116], [115, 116, 111, 114, 101], [108, 111, 97, 100], [105, 110], [105, 110, 99, 108, 117, 100, 101], [100, 101, 102, 105, 110, 101], [117, 110, 100, 101, 102], [119, 104, 101, 110], [117, 110, 108, 101, 115, 115], [110, 111, 116, 101], [101, 120, 116, 101, 114, 110], [101, 120, 112, 111, 114, 116], [119, 101, 97, 107], [102, 110], [100, 97, 116, 97]]
def nameV (s : ByteArray) : Bool := formV s && !kwN.contains s.data.toList
set_option maxRecDepth 100000 in
set_option maxHeartbeats 8000000 in
theorem name_kw (x : List UInt8) (hx : x ∈ kwN) (w : World) : Calls Tryz.prog 109 #[.string (S x)] w fun e w' => e = .returned (.bool false) ∧ New w w' := by
  simp only [kwN, List.mem_cons, List.not_mem_nil, or_false] at hx
  rcases hx with rfl | rfl | rfl | rfl | rfl | rfl | rfl | rfl | rfl | rfl | rfl | rfl | rfl | rfl | rfl | rfl | rfl | rfl | rfl | rfl | rfl | rfl
  all_goals
    unfold S
    go_enter Tryz.func109, Tryz.ntmps109
    go_wp2
    go_ret
    exact ⟨rfl, New.refl _⟩
set_option maxRecDepth 100000 in
set_option maxHeartbeats 8000000 in
theorem name_any (s : ByteArray) (w : World) (hs : s.size ≤ 9223372036854775807) : Calls Tryz.prog 109 #[.string s] w fun e w' => e = .returned (.bool (nameV s)) ∧ New w w' := by
  cases hk : kwN.contains s.data.toList
  · have HV := Lib.hid (fun w => valid_any s w hs)
    have hv : nameV s = formV s := by unfold nameV; rw [hk]; simp
    rw [hv]
    have H : ∀ x ∈ kwN, (s.toList == x) = false := fun x hx => by
      rw [beq_eq_false_iff_ne]
      intro e
      rw [toList_eq] at e
      rw [e] at hk
      rw [List.contains_iff_mem.2 hx] at hk
      cases hk
    have f0 : (s.toList == [108, 101, 116]) = false := H _ (by simp [kwN])
    have f1 : (s.toList == [115, 101, 116]) = false := H _ (by simp [kwN])
    have f2 : (s.toList == [105, 102]) = false := H _ (by simp [kwN])
    have f3 : (s.toList == [101, 108, 115, 101]) = false := H _ (by simp [kwN])
    have f4 : (s.toList == [119, 104, 105, 108, 101]) = false := H _ (by simp [kwN])
    have f5 : (s.toList == [114, 101, 116, 117, 114, 110]) = false := H _ (by simp [kwN])
    have f6 : (s.toList == [100, 111]) = false := H _ (by simp [kwN])
    have f7 : (s.toList == [111, 117, 116]) = false := H _ (by simp [kwN])
    have f8 : (s.toList == [115, 116, 111, 114, 101]) = false := H _ (by simp [kwN])
    have f9 : (s.toList == [108, 111, 97, 100]) = false := H _ (by simp [kwN])
    have f10 : (s.toList == [105, 110]) = false := H _ (by simp [kwN])
    have f11 : (s.toList == [105, 110, 99, 108, 117, 100, 101]) = false := H _ (by simp [kwN])
    have f12 : (s.toList == [100, 101, 102, 105, 110, 101]) = false := H _ (by simp [kwN])
    have f13 : (s.toList == [117, 110, 100, 101, 102]) = false := H _ (by simp [kwN])
    have f14 : (s.toList == [119, 104, 101, 110]) = false := H _ (by simp [kwN])
    have f15 : (s.toList == [117, 110, 108, 101, 115, 115]) = false := H _ (by simp [kwN])
    have f16 : (s.toList == [110, 111, 116, 101]) = false := H _ (by simp [kwN])
    have f17 : (s.toList == [101, 120, 116, 101, 114, 110]) = false := H _ (by simp [kwN])
    have f18 : (s.toList == [101, 120, 112, 111, 114, 116]) = false := H _ (by simp [kwN])
    have f19 : (s.toList == [119, 101, 97, 107]) = false := H _ (by simp [kwN])
    have f20 : (s.toList == [102, 110]) = false := H _ (by simp [kwN])
    have f21 : (s.toList == [100, 97, 116, 97]) = false := H _ (by simp [kwN])
    clear hk hv H
    go_enter Tryz.func109, Tryz.ntmps109
    go_wp2_with (go_at_call 128; (with_reducible refine (HV.out _).mono ?_); rintro e w1 ⟨rfl, n1⟩)
    go_ret
    exact ⟨rfl, n1⟩
  · have hv : nameV s = false := by unfold nameV; rw [hk]; simp
    rw [hv]
    have := name_kw s.data.toList (List.contains_iff_mem.1 hk) w
    rw [S_data] at this
    exact this
end Go.Proofs.YtnjampfhkojbnaaGreatDoor

namespace Go.Proofs.YtnjampfhkojbnaaGreatDoor
open Go Go.RowKit Go.Joins
set_option linter.unusedSimpArgs false
set_option linter.unusedVariables false

theorem path_b (s : ByteArray) (w : World) (hs : s.size < 4294967281) (hE : Env w) : Calls Tryz.prog 117 #[.string s] w fun e w' => e = .returned (.bool (pathOK s)) ∧ New w w' := by
  have HP := Lib.hid (path_any s w hs hE)
  cases hk : pathOK s
  · have hv : pathE s = 2 := by unfold pathE; rw [hk]; rfl
    rw [hv] at HP
    clear hv hk
    go_enter Tryz.func117, Tryz.ntmps117
    go_wp2_with (go_at_call 55; (with_reducible refine HP.out.mono ?_); rintro e w1 ⟨rfl, n1⟩)
    go_ret
    exact ⟨rfl, n1⟩
  · have hv : pathE s = 0 := by unfold pathE; rw [hk]; rfl
    rw [hv] at HP
    clear hv hk
    go_enter Tryz.func117, Tryz.ntmps117
    go_wp2_with (go_at_call 55; (with_reducible refine HP.out.mono ?_); rintro e w1 ⟨rfl, n1⟩)
    go_ret
    exact ⟨rfl, n1⟩
def namedV (s : ByteArray) : Bool := pathOK (S (Lib.cut s.data.toList [33]).1) && (!(Lib.cut s.data.toList [33]).2.2 || pathOK (S (Lib.cut s.data.toList [33]).2.1))
theorem cut_le (l sep : List UInt8) : (Lib.cut l sep).1.length ≤ l.length ∧ (Lib.cut l sep).2.1.length ≤ l.length := by
  unfold Lib.cut
  split <;> (simp; try omega)
set_option maxRecDepth 100000 in
set_option maxHeartbeats 1000000 in
theorem named_any (s : ByteArray) (w : World) (hs : s.size < 4294967281) (hE : Env w) : Calls Tryz.prog 108 #[.string s] w fun e w' => e = .returned (.bool (namedV s)) ∧ New w w' := by
  obtain ⟨m, hm⟩ := hE.maxlen
  have HC := Lib.hid (Tryz.strings_Cut s ⟨#[33]⟩ m w hs hm)
  obtain ⟨l1, l2⟩ := cut_le s.data.toList [33]
  rw [← size_eq] at l1 l2
  have hv : namedV s = (pathOK (S (Lib.cut s.data.toList [33]).1) && (!(Lib.cut s.data.toList [33]).2.2 || pathOK (S (Lib.cut s.data.toList [33]).2.1))) := rfl
  rw [hv]
  clear hv hm
  change Hid (Calls _ _ _ _ fun e w' => e = .returned (.tuple #[.string (S (Lib.cut s.data.toList [33]).1), .string (S (Lib.cut s.data.toList [33]).2.1), .bool (Lib.cut s.data.toList [33]).2.2]) ∧ ∃ n, w' = w.drewN n) at HC
  generalize Lib.cut s.data.toList [33] = C at *
  obtain ⟨a, b, f⟩ := C
  simp only at HC l1 l2 ⊢
  have P1 := Lib.hid (fun w h => path_b (S a) w (by rw [size_S]; omega) h)
  have P2 := Lib.hid (fun w h => path_b (S b) w (by rw [size_S]; omega) h)
  have HE := Lib.hid hE
  generalize S a = sa at *
  generalize S b = sb at *
  cases h1 : pathOK sa <;> cases f <;> cases h2 : pathOK sb
  all_goals
    rw [h1] at P1
    rw [h2] at P2
    clear h1 h2
    go_enter Tryz.func108, Tryz.ntmps108
    go_wp2_with (first
      | (go_at_call 117; have hq := n1; (with_reducible refine (P2.out _ (((HE.out.new nq)).new n1)).mono ?_); rintro e w3 ⟨rfl, n2⟩)
      | (go_at_call 117; (with_reducible refine (P1.out _ (HE.out.new nq)).mono ?_); rintro e w2 ⟨rfl, n1⟩)
      | (go_at_call 127; (with_reducible refine HC.out.mono ?_); rintro e w1 ⟨rfl, q, hq⟩; have nq : New w w1 := (by rw [hq]; exact (New.refl w).drewN q); clear hq))
    go_ret
    first | exact ⟨rfl, nq.trans n1⟩ | exact ⟨rfl, (nq.trans n1).trans n2⟩
end Go.Proofs.YtnjampfhkojbnaaGreatDoor

namespace Go.Proofs.YtnjampfhkojbnaaGreatDoor
open Go Go.RowKit Go.Joins Go.WideShapes Go.ChangeShapes Go.ChangeMaps Go.Deep
set_option linter.unusedSimpArgs false
set_option linter.unusedVariables false

theorem laidOut_ : laidOutB Tryz.prog = true := by kernel_rfl
theorem key152 : Maps.Keyed Tryz.prog 167 := Maps.Keyed.of_law (deep_law_laid laidOut_ (m := 3) (by omega) (of_decide_eq_true (by kernel_rfl)) (by kernel_rfl) (by kernel_rfl))
theorem ktN : KType Tryz.prog 165 167 4 := ⟨key152, by kernel_rfl, Tryz.underlying4, fun w => by kernel_rfl⟩
theorem ktS : KType Tryz.prog 123 9 4 := ⟨Maps.string_keyed Tryz.underlying9, by kernel_rfl, Tryz.underlying4, fun w => by kernel_rfl⟩
theorem formedN (o s : ByteArray) : (Value.agg #[.string o, .string s]).formed Tryz.prog 167 = true := by kernel_rfl
def keyD (o s : ByteArray) : Lit := (DataW.agg (H := Unit) [.lit (.string o.data.toList), .lit (.string s.data.toList)]).asKey
theorem one152 : ∃ f0 f1, Tryz.prog.underlying 167 = some (.struct #[f0, f1]) ∧ oneCellFields Tryz.prog #[f0, f1] = true ∧ f0.type = 9 ∧ f1.type = 9 := ⟨_, _, Tryz.underlying167, by kernel_rfl, rfl, rfl⟩
theorem cells152 : Tryz.prog.cellsOf 167 = 2 := by kernel_rfl
theorem keyN (o s : ByteArray) (ho : o.size ≤ maxLen) (hs : s.size ≤ maxLen) : keyOf Tryz.prog 167 (.agg #[.string o, .string s]) = some (keyD o s) := by
  obtain ⟨f0, f1, hu, hone, t0, t1⟩ := one152
  have h := shut_agg2 (H := Unit) (enc := fun _ => ()) (w := default) (base := 0) (spare := fun _ => true) (held := true) hu hone cells152
    (by rw [t0]; exact shut_string_cell Tryz.underlying9 ho) (by rw [t1]; exact shut_string_cell Tryz.underlying9 hs)
  exact (keyOf_asKey (by kernel_rfl) (by kernel_rfl) (formedN o s) h).1
theorem keyD_inj {o s o' s' : ByteArray} (ho : o.size ≤ maxLen) (hs : s.size ≤ maxLen) (ho' : o'.size ≤ maxLen) (hs' : s'.size ≤ maxLen) (h : keyD o s = keyD o' s') : o = o' ∧ s = s' := by
  have := key152.inj (keyN o s ho hs) (h ▸ keyN o' s' ho' hs')
  simpa using this
end Go.Proofs.YtnjampfhkojbnaaGreatDoor

