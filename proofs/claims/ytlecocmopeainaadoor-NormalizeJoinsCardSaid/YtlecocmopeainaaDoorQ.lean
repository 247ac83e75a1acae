/- Plain laws on the words of a text: classes, validity, sizes. No Go here. -/
import Derived.Test.YtlecocmopeainaaDoorN4
namespace Go.Proofs.YtlecocmopeainaaDoor
open Go Go.RowKit
set_option linter.unusedSimpArgs false

theorem cls_ff (s : ByteArray) : cls false false s = s := by
  unfold cls; split
  · rfl
  · simp
def gcls (a b : Bool) (x : Lx) : Lx := (cls a b x.1, x.2)
theorem lexOf_map (a b : Bool) (k : Nat) (x : ByteArray) : lexOf a b k x = (lexOf false false k x).map (gcls a b) := by
  simp [lexOf, gcls, cls_ff, Function.comp_def]
theorem foldl_map (a b : Bool) : ∀ (l : List ByteArray) (st : Nat × Nat × List Lx), l.foldl (wstep a b) (st.1, st.2.1, st.2.2.map (gcls a b)) = ((l.foldl (wstep false false) st).1, (l.foldl (wstep false false) st).2.1, (l.foldl (wstep false false) st).2.2.map (gcls a b))
  | [], st => rfl
  | x :: l, st => by
    have e : wstep a b (st.1, st.2.1, st.2.2.map (gcls a b)) x = ((wstep false false st x).1, (wstep false false st x).2.1, (wstep false false st x).2.2.map (gcls a b)) := by
      unfold wstep
      by_cases h : 0 < st.2.1
      · simp only [h, if_true]
      · simp only [h, if_false]
        split
        · rfl
        · rw [List.map_append, ← lexOf_map]
    rw [List.foldl_cons, List.foldl_cons, e]
    exact foldl_map a b l _
theorem wst_map (a b : Bool) (l : List ByteArray) : (wst a b l).2.2 = (wst false false l).2.2.map (gcls a b) := by
  have := foldl_map a b l (0, 0, [])
  simp only [List.map_nil] at this
  rw [wst, this, wst]
theorem wordsV_map (a b : Bool) (p d : ByteArray) : wordsV a b p d = ((wordsV false false p d).1, (wordsV false false p d).2.map (gcls a b)) := by
  unfold wordsV
  rw [wst_map a b, List.length_map]
  by_cases h1 : (!pathOK p) = true
  · rw [if_pos h1, if_pos h1]; rfl
  · rw [if_neg h1, if_neg h1]
    by_cases h2 : 65536 < d.size ∨ 1024 ≤ nl d
    · rw [if_pos h2, if_pos h2]; rfl
    · rw [if_neg h2, if_neg h2]
      by_cases h3 : 8192 < (wst false false (parts 10 d)).2.2.length
      · rw [if_pos h3, if_pos h3]; rfl
      · rw [if_neg h3, if_neg h3]

/-! ### the words of a line are words -/
theorem splitF_ok : ∀ (n : Nat) (l w : List UInt8), w ∈ splitF n l → (w.all fun c => !blank c) = true ∧ w.length ≤ l.length
  | 0, _, w, h => by simp [splitF] at h
  | _ + 1, [], w, h => by simp [splitF] at h
  | n + 1, c :: r, w, h => by
    have hd := dropWhile_len (p := part) r
    simp only [splitF] at h
    split at h
    · have := splitF_ok n r w h
      exact ⟨this.1, by simp; omega⟩
    · rename_i hb
      split at h
      · rename_i hp
        rcases List.mem_cons.1 h with rfl | h
        · refine ⟨?_, ?_⟩
          · rw [List.all_cons, Bool.and_eq_true]
            refine ⟨by simpa using hb, List.all_eq_true.2 fun x hx => ?_⟩
            have hpx : part x = true := by
              have := List.all_takeWhile (p := part) (l := r)
              exact List.all_eq_true.1 this x hx
            have := part_not_blank hpx
            simp [blank, this]
          · have := List.Sublist.length_le (List.takeWhile_sublist (p := part) (l := r)); simp; omega
        · have := splitF_ok n _ w h
          exact ⟨this.1, by simp; omega⟩
      · rcases List.mem_cons.1 h with rfl | h
        · exact ⟨by simpa using hb, by simp⟩
        · have := splitF_ok n r w h
          exact ⟨this.1, by simp; omega⟩
theorem wds_ok {s w : ByteArray} (h : w ∈ wds s) : wordOK w = true ∧ w.size ≤ s.size := by
  have hp := wds_pos h
  obtain ⟨l, hl, rfl⟩ := List.mem_map.1 h
  have := splitF_ok _ _ _ hl
  rw [wordOK, decide_eq_true hp, data_S, size_S, size_eq]
  exact ⟨this.1, this.2⟩
theorem cls_or (a b : Bool) (s : ByteArray) : cls a b s = s ∨ cls a b s = S [36, 48] ∨ cls a b s = S [36, 110] := by
  unfold cls; split
  · exact .inl rfl
  · split
    · exact .inr (.inl rfl)
    · split
      · exact .inr (.inr rfl)
      · exact .inl rfl
theorem cls_ok (a b : Bool) {s : ByteArray} (h : wordOK s = true) : wordOK (cls a b s) = true ∧ (cls a b s).size ≤ s.size + 2 := by
  rcases cls_or a b s with e | e | e
  · rw [e]; exact ⟨h, by omega⟩
  · rw [e]; exact ⟨by decide, by rw [size_S]; simp⟩
  · rw [e]; exact ⟨by decide, by rw [size_S]; simp⟩

/-! ### the words of a text are valid -/
theorem okFrom_app : ∀ (l l' : List Lz) (m k : Int), okFrom m l = true → m ≤ k → (∀ x ∈ l, x.2 ≤ k) → k < 1024 → (∀ y ∈ l', wordOK y.1 = true ∧ y.2 = k) → okFrom m (l ++ l') = true
  | [], [], m, k, _, _, _, _, _ => rfl
  | [], y :: r, m, k, _, hm, _, hk, hy => by
    obtain ⟨h1, h2⟩ := hy y (by simp)
    have ih := okFrom_app [] r k k rfl (by omega) (by simp) hk (fun z hz => hy z (by simp [hz]))
    rw [List.nil_append, okFrom, h1, h2, decide_eq_true hm, decide_eq_true hk, ← List.nil_append r, ih]; rfl
  | x :: l, l', m, k, h, hm, hx, hk, hy => by
    rw [okFrom] at h
    simp only [Bool.and_eq_true] at h
    obtain ⟨⟨⟨h1, h2⟩, h3⟩, h4⟩ := h
    have ih := okFrom_app l l' x.2 k h4 (hx x (by simp)) (fun z hz => hx z (by simp [hz])) hk hy
    rw [List.cons_append, okFrom, h1, h2, h3, ih]; rfl
theorem fold_valid (a b : Bool) : ∀ (l : List ByteArray) (st : Nat × Nat × List Lx), okFrom 0 (toZ st.2.2) = true → (∀ x ∈ st.2.2, x.2 ≤ st.1) → st.1 + l.length ≤ 1024 → okFrom 0 (toZ (l.foldl (wstep a b) st).2.2) = true
  | [], st, h, _, _ => h
  | x :: l, st, h, hx, hl => by
    rw [List.foldl_cons]
    rw [List.length_cons] at hl
    have e1 := wstep_at a b st x
    refine fold_valid a b l _ ?_ ?_ (by omega)
    · unfold wstep
      split
      · exact h
      · split
        · exact h
        · show okFrom 0 (toZ (st.2.2 ++ lexOf a b st.1 x)) = true
          rw [toZ, List.map_append]
          refine okFrom_app _ _ 0 st.1 h (by omega) ?_ (by omega) ?_
          · intro y hy
            obtain ⟨z, hz, rfl⟩ := List.mem_map.1 hy
            have := hx z hz
            show ((z.2 : Nat) : Int) ≤ _
            omega
          · intro y hy
            obtain ⟨z, hz, rfl⟩ := List.mem_map.1 hy
            obtain ⟨u, hu, rfl⟩ := List.mem_map.1 hz
            exact ⟨(cls_ok a b (wds_ok hu).1).1, rfl⟩
    · intro y hy
      rw [e1]
      unfold wstep at hy
      split at hy
      · have := hx y hy; omega
      · split at hy
        · have := hx y hy; omega
        · rcases List.mem_append.1 hy with h | h
          · have := hx y h; omega
          · obtain ⟨u, hu, rfl⟩ := List.mem_map.1 h
            show st.1 ≤ _
            omega
theorem wst_valid (a b : Bool) {d : ByteArray} (h : nl d < 1024) : okFrom 0 (toZ (wst a b (parts 10 d)).2.2) = true := by
  refine fold_valid a b _ (0, 0, []) rfl (by simp) ?_
  rw [parts_length]
  unfold nl at h
  simp only [Nat.zero_add]
  omega
theorem fold_words (a b : Bool) (M : Nat) : ∀ (l : List ByteArray) (st : Nat × Nat × List Lx), (∀ x ∈ st.2.2, 0 < x.1.size ∧ x.1.size ≤ M + 2) → (∀ x ∈ l, x.size ≤ M) → ∀ x ∈ (l.foldl (wstep a b) st).2.2, 0 < x.1.size ∧ x.1.size ≤ M + 2
  | [], st, h, _ => h
  | x :: l, st, h, hl => by
    rw [List.foldl_cons]
    refine fold_words a b M l _ ?_ (fun y hy => hl y (by simp [hy]))
    unfold wstep
    split
    · exact h
    · split
      · exact h
      · intro y hy
        rcases List.mem_append.1 hy with h' | h'
        · exact h y h'
        · obtain ⟨u, hu, rfl⟩ := List.mem_map.1 h'
          have h1 := wds_ok hu
          have h2 := cls_ok a b h1.1
          have h3 := hl x (by simp)
          refine ⟨?_, by show (cls a b u).size ≤ _; omega⟩
          have h4 := h2.1
          rw [wordOK, Bool.and_eq_true, decide_eq_true_eq] at h4
          exact h4.1
theorem parts_small {d : ByteArray} : ∀ x ∈ parts 10 d, x.size ≤ d.size := fun x hx => by
  obtain ⟨l1, l2, e⟩ := List.append_of_mem hx
  exact last_total (pre := l1) (x := x) (c := 10) (s := d) ⟨l2, by rw [e]; simp⟩
/-- What Words returns: an error and nothing, or valid words. -/
theorem wordsV_good (a b : Bool) {p d : ByteArray} (hp : pathOK p = true) : ((wordsV a b p d).1 = 10 ∧ (wordsV a b p d).2 = []) ∨ ((wordsV a b p d).1 = 0 ∧ validV p (toZ (wordsV a b p d).2) = true ∧ (∀ x ∈ (wordsV a b p d).2, 0 < x.1.size ∧ x.1.size ≤ d.size + 2) ∧ (wordsV a b p d).2.length ≤ d.size) := by
  unfold wordsV
  rw [hp, if_neg (by simp)]
  by_cases h2 : 65536 < d.size ∨ 1024 ≤ nl d
  · rw [if_pos h2]; exact .inl ⟨rfl, rfl⟩
  · rw [if_neg h2]
    by_cases h3 : 8192 < (wst a b (parts 10 d)).2.2.length
    · rw [if_pos h3]; exact .inl ⟨rfl, rfl⟩
    · rw [if_neg h3]
      refine .inr ⟨rfl, ?_, ?_, ?_⟩
      · rw [validV, hp, wst_valid a b (by omega), toZ, List.length_map, decide_eq_true (by omega : (wst a b (parts 10 d)).2.2.length ≤ 8192)]; rfl
      · exact fold_words a b d.size _ _ (by simp) parts_small
      · exact wst_small a b (List.prefix_refl (parts 10 d))
end Go.Proofs.YtlecocmopeainaaDoor
