/- Plain laws: texts without notes; renamed letters and digits. No Go here. -/
import Derived.Test.YtlecocmopeainaaDoorT
import Derived.Test.YtlecocmopeainaaDoorOpen
namespace Go.Proofs.YtlecocmopeainaaDoor
open Go Go.RowKit
set_option linter.unusedSimpArgs false

/-! ### where the words come from -/
/-- A list stands in another one, somewhere. -/
def Occ (w l : List UInt8) : Prop := ∃ x y, l = x ++ w ++ y
theorem Occ.cons {w l : List UInt8} (c : UInt8) (h : Occ w l) : Occ w (c :: l) := by
  obtain ⟨x, y, rfl⟩ := h
  exact ⟨c :: x, y, rfl⟩
/-- Each word is a part of what was read. -/
theorem tx_occ : ∀ (l cur : List UInt8) (ws : List (List UInt8)) (L : List UInt8), (∀ w ∈ ws, Occ w L) → (∃ x, L = x ++ cur ++ l) → ∀ line ∈ tx cur ws l, ∀ w ∈ line, Occ w L
  | [], cur, ws, L, hw, hc, line, hl, w, hm => by
    rw [tx] at hl
    simp at hl
    subst hl
    rcases List.mem_append.1 hm with h | h
    · exact hw w h
    · cases cur with
      | nil => simp [fl] at h
      | cons a r =>
        simp [fl] at h
        subst h
        obtain ⟨x, hx⟩ := hc
        exact ⟨x, [], hx⟩
  | c :: r, cur, ws, L, hw, hc, line, hl, w, hm => by
    obtain ⟨x, hx⟩ := hc
    have hfl : ∀ w ∈ ws ++ fl cur, Occ w L := fun w h => by
      rcases List.mem_append.1 h with h | h
      · exact hw w h
      · cases cur with
        | nil => simp [fl] at h
        | cons a q =>
          simp [fl] at h
          subst h
          exact ⟨x, c :: r, hx⟩
    have hn : ∃ x', L = x' ++ [] ++ r := ⟨x ++ cur ++ [c], by rw [hx]; simp⟩
    rw [tx] at hl
    split at hl
    · rcases List.mem_cons.1 hl with rfl | hl
      · exact hfl w hm
      · exact tx_occ r [] [] L (by simp) hn line hl w hm
    · split at hl
      · exact tx_occ r [] _ L hfl hn line hl w hm
      · split at hl
        · exact tx_occ r (cur ++ [c]) ws L hw ⟨x, by rw [hx]; simp⟩ line hl w hm
        · refine tx_occ r [] _ L (fun w h => ?_) hn line hl w hm
          rcases List.mem_append.1 h with h | h
          · exact hfl w h
          · simp at h
            subst h
            exact ⟨x ++ cur, r, by rw [hx]; simp⟩
theorem prefix_occ : ∀ {sub l : List UInt8}, sub.isPrefixOf l = true → ∃ y, l = sub ++ y
  | [], l, _ => ⟨l, rfl⟩
  | a :: s, [], h => by simp [List.isPrefixOf] at h
  | a :: s, b :: l, h => by
    simp only [List.isPrefixOf, Bool.and_eq_true, beq_iff_eq] at h
    obtain ⟨y, hy⟩ := prefix_occ h.2
    exact ⟨y, by rw [h.1, hy]; rfl⟩
theorem occ_prefix : ∀ (sub y : List UInt8), sub.isPrefixOf (sub ++ y) = true
  | [], y => rfl
  | a :: s, y => by simp [List.isPrefixOf]
theorem occ_index {sub : List UInt8} : ∀ {x y : List UInt8}, 0 ≤ Lib.index (x ++ sub ++ y) sub
  | [], y => by
    rw [List.nil_append]
    cases h : sub ++ y with
    | nil =>
      have : sub = [] := by cases sub with
        | nil => rfl
        | cons a b => cases h
      subst this; simp [Lib.index]
    | cons b l =>
      rw [show Lib.index (b :: l) sub = if sub.isPrefixOf (b :: l) then 0 else if Lib.index l sub == -1 then -1 else Lib.index l sub + 1 from rfl, ← h, occ_prefix]
      simp
  | c :: x, y => by
    have ih := occ_index (sub := sub) (x := x) (y := y)
    rw [List.cons_append, List.cons_append, show Lib.index (c :: (x ++ sub ++ y)) sub = if sub.isPrefixOf (c :: (x ++ sub ++ y)) then 0 else if Lib.index (x ++ sub ++ y) sub == -1 then -1 else Lib.index (x ++ sub ++ y) sub + 1 from rfl]
    split
    · exact Int.le_refl _
    · have : ¬ (Lib.index (x ++ sub ++ y) sub == -1) = true := fun e => by have := beq_iff_eq.1 e; omega
      rw [if_neg this]; omega
theorem contains_occ {w l : List UInt8} (h : Occ w l) : Lib.contains l w = true := by
  obtain ⟨x, y, rfl⟩ := h
  exact decide_eq_true occ_index

/-! ### no notes -/
/-- No line is a note. -/
def Plain (d : ByteArray) : Prop := ∀ ws ∈ lw d, noteV ws = -1
def noteL : List UInt8 := [110, 111, 116, 101]
theorem noteV_ne {ws : List ByteArray} (h : noteS ∉ ws) : noteV ws = -1 := by
  match ws, h with
  | [], _ => rfl
  | [_], _ => rfl
  | [a, b], h =>
    rw [noteV_two, if_neg]
    rintro ⟨h1, _⟩
    exact h (by rw [h1]; simp)
  | _ :: _ :: _ :: _, _ => rfl
theorem lw_mem {d : ByteArray} {ws : List ByteArray} {w : ByteArray} (h : ws ∈ lw d) (hw : w ∈ ws) : ∃ line ∈ tx [] [] d.data.toList, ws = line.map S ∧ ∃ v ∈ line, w = S v := by
  rw [lw_tx] at h
  obtain ⟨line, hl, rfl⟩ := List.mem_map.1 h
  obtain ⟨v, hv, rfl⟩ := List.mem_map.1 hw
  exact ⟨line, hl, rfl, v, hv, rfl⟩
theorem plain_of {d : ByteArray} (h : Lib.contains d.data.toList noteL = false) : Plain d := fun ws hws => by
  refine noteV_ne (fun hm => ?_)
  obtain ⟨line, hl, _, v, hv, e⟩ := lw_mem hws hm
  have := tx_occ d.data.toList [] [] d.data.toList (by simp) ⟨[], by simp⟩ line hl v hv
  have e2 : v = noteL := S_inj (by rw [← e]; rfl)
  rw [e2] at this
  rw [contains_occ this] at h
  cases h
/-- Without notes the words of all lines stand behind each other. -/
def allW (a b : Bool) : Nat → List (List ByteArray) → List Lx
  | _, [] => []
  | k, ws :: r => (ws.map fun w => (cls a b w, k)) ++ allW a b (k + 1) r
theorem fW_plain (a b : Bool) : ∀ (l : List (List ByteArray)) (k : Nat) (acc : List Lx), (∀ ws ∈ l, noteV ws = -1) → fW a b (k, 0, acc) l = (k + l.length, 0, acc ++ allW a b k l)
  | [], k, acc, _ => by simp [fW, allW]
  | ws :: l, k, acc, h => by
    have h1 := h ws (by simp)
    have e : wstepW a b (k, 0, acc) ws = (k + 1, 0, acc ++ ws.map fun w => (cls a b w, k)) := by
      unfold wstepW
      simp only [Nat.lt_irrefl, if_false, h1]
      rw [if_neg (by decide)]
    have ih := fW_plain a b l (k + 1) (acc ++ ws.map fun w => (cls a b w, k)) (fun x hx => h x (by simp [hx]))
    rw [fW, List.foldl_cons, e, ← fW, ih, allW, List.length_cons, List.append_assoc, show k + 1 + l.length = k + (l.length + 1) by omega]

/-! ### renaming -/
def ren (c : UInt8) : UInt8 := if c = 120 then 121 else if c = 55 then 51 else if c = 95 then 90 else c
theorem ren_cases (c : UInt8) : ren c = c ∨ (part c = true ∧ part (ren c) = true ∧ digit (ren c) = digit c ∧ ren c ≠ 110 ∧ ren c ≠ 111 ∧ ren c ≠ 116 ∧ ren c ≠ 101 ∧ ren c ≠ 10) := by
  unfold ren
  split
  · rename_i h; subst h; right; decide
  · split
    · rename_i h; subst h; right; decide
    · split
      · rename_i h; subst h; right; decide
      · exact .inl rfl
theorem ren_part (c : UInt8) : part (ren c) = part c := by
  rcases ren_cases c with h | ⟨h1, h2, _⟩
  · rw [h]
  · rw [h1, h2]
theorem ren_digit (c : UInt8) : digit (ren c) = digit c := by
  rcases ren_cases c with h | ⟨_, _, h, _⟩
  · rw [h]
  · exact h
theorem ren_blank (c : UInt8) : blank (ren c) = blank c := by
  rcases ren_cases c with h | ⟨h1, h2, _⟩
  · rw [h]
  · have e1 : blank c = false := part_not_blank h1
    have e2 : blank (ren c) = false := part_not_blank h2
    rw [e1, e2]
theorem ren_ten (c : UInt8) : ren c = 10 ↔ c = 10 := by
  rcases ren_cases c with h | ⟨h1, _, _, _, _, _, _, h⟩
  · rw [h]
  · refine ⟨fun e => absurd e h, fun e => ?_⟩
    subst e; rw [part_ten] at h1; cases h1
theorem fl_map (cur : List UInt8) : fl (cur.map ren) = (fl cur).map (List.map ren) := by cases cur <;> rfl
theorem tx_ren : ∀ (l cur : List UInt8) (ws : List (List UInt8)), tx (cur.map ren) (ws.map (List.map ren)) (l.map ren) = (tx cur ws l).map (List.map (List.map ren))
  | [], cur, ws => by rw [List.map_nil, tx, tx, fl_map]; simp
  | c :: l, cur, ws => by
    rw [List.map_cons, tx, tx, ren_blank, ren_part, fl_map, ← List.map_append]
    by_cases h10 : c = 10
    · rw [if_pos ((ren_ten c).2 h10), if_pos h10]
      have ih := tx_ren l [] []
      simp only [List.map_nil] at ih
      rw [ih]; simp
    · rw [if_neg (fun e => h10 ((ren_ten c).1 e)), if_neg h10]
      split
      · have ih := tx_ren l [] (ws ++ fl cur)
        simp only [List.map_nil] at ih
        exact ih
      · split
        · have ih := tx_ren l (cur ++ [c]) ws
          simp only [List.map_append, List.map_cons, List.map_nil] at ih
          exact ih
        · have ih := tx_ren l [] (ws ++ fl cur ++ [[c]])
          simp only [List.map_nil] at ih
          rw [← ih]; simp
/-- A word is parts of words alone, or one sign that is none. -/
def Wordy (w : List UInt8) : Prop := (∃ c r, w = c :: r ∧ part c = true) ∨ (∃ c, w = [c] ∧ part c = false)
theorem tx_wordy : ∀ (l cur : List UInt8) (ws : List (List UInt8)), (∀ c ∈ cur, part c = true) → (∀ w ∈ ws, Wordy w) → ∀ line ∈ tx cur ws l, ∀ w ∈ line, Wordy w
  | [], cur, ws, hc, hw, line, hl, w, hm => by
    rw [tx] at hl
    simp at hl
    subst hl
    rcases List.mem_append.1 hm with h | h
    · exact hw w h
    · cases cur with
      | nil => simp [fl] at h
      | cons a r => simp [fl] at h; subst h; exact .inl ⟨a, r, rfl, hc a (by simp)⟩
  | c :: r, cur, ws, hc, hw, line, hl, w, hm => by
    have hfl : ∀ w ∈ ws ++ fl cur, Wordy w := fun w h => by
      rcases List.mem_append.1 h with h | h
      · exact hw w h
      · cases cur with
        | nil => simp [fl] at h
        | cons a q => simp [fl] at h; subst h; exact .inl ⟨a, q, rfl, hc a (by simp)⟩
    rw [tx] at hl
    split at hl
    · rcases List.mem_cons.1 hl with rfl | hl
      · exact hfl w hm
      · exact tx_wordy r [] [] (by simp) (by simp) line hl w hm
    · split at hl
      · exact tx_wordy r [] _ (by simp) hfl line hl w hm
      · split at hl
        · rename_i hp
          exact tx_wordy r (cur ++ [c]) ws (fun x hx => by rcases List.mem_append.1 hx with h | h; exact hc x h; (simp at h; subst h; exact hp)) hw line hl w hm
        · rename_i hp
          refine tx_wordy r [] _ (by simp) (fun w h => ?_) line hl w hm
          rcases List.mem_append.1 h with h | h
          · exact hfl w h
          · simp at h; subst h; exact .inr ⟨c, rfl, by simpa using hp⟩
theorem cls_S (c : UInt8) (r : List UInt8) : cls true true (S (c :: r)) = if digit c then S [36, 48] else if part c then S [36, 110] else S (c :: r) := by
  unfold cls
  rw [data_S]
  simp only [Bool.and_true]
  by_cases h : digit c = true
  · rw [if_pos h, if_pos h]
  · rw [if_neg h, if_neg h]
    have : digit c = false := by simpa using h
    rw [this]; simp
theorem cls_ren {w : List UInt8} (h : Wordy w) : cls true true (S (w.map ren)) = cls true true (S w) := by
  rcases h with ⟨c, r, rfl, hp⟩ | ⟨c, rfl, hp⟩
  · rw [List.map_cons, cls_S, cls_S, ren_digit, ren_part, hp]; simp
  · have : ren c = c := by
      rcases ren_cases c with h | ⟨h1, _⟩
      · exact h
      · rw [hp] at h1; cases h1
    rw [List.map_cons, List.map_nil, this]
theorem ren_note : ∀ {w : List UInt8}, w.map ren = noteL → w = noteL := fun {w} h => by
  have key : ∀ c d : UInt8, ren c = d → (d = 110 ∨ d = 111 ∨ d = 116 ∨ d = 101) → c = d := fun c d e hd => by
    rcases ren_cases c with h | ⟨_, _, _, h1, h2, h3, h4, _⟩
    · rw [← e, h]
    · rw [e] at h1 h2 h3 h4
      rcases hd with hd | hd | hd | hd
      · exact absurd hd h1
      · exact absurd hd h2
      · exact absurd hd h3
      · exact absurd hd h4
  obtain ⟨a, b, c, d, rfl⟩ := len4 (l := w) (by have := congrArg List.length h; simpa [noteL] using this)
  simp only [List.map_cons, List.map_nil, noteL, List.cons.injEq, and_true] at h
  obtain ⟨h1, h2, h3, h4⟩ := h
  rw [key a _ h1 (by simp), key b _ h2 (by simp), key c _ h3 (by simp), key d _ h4 (by simp)]; rfl
/-- Renamed texts have the same classes, if there are no notes. -/
theorem wordsV_ren {p d d' : ByteArray} (hc : Lib.contains d.data.toList noteL = false) (hd : d'.data.toList = d.data.toList.map ren) : wordsV true true p d' = wordsV true true p d := by
  have hs : d'.size = d.size := by rw [size_eq, size_eq, hd, List.length_map]
  have ht : tx [] [] d'.data.toList = (tx [] [] d.data.toList).map (List.map (List.map ren)) := by
    have := tx_ren d.data.toList [] []
    simp only [List.map_nil] at this
    rw [hd, this]
  have hlen : (lw d').length = (lw d).length := by rw [lw_tx, lw_tx, ht]; simp
  have hp := plain_of hc
  have hp' : Plain d' := fun ws hws => by
    refine noteV_ne (fun hm => ?_)
    obtain ⟨line, hl, _, v, hv, e⟩ := lw_mem hws hm
    rw [ht] at hl
    obtain ⟨line0, hl0, rfl⟩ := List.mem_map.1 hl
    obtain ⟨v0, hv0, rfl⟩ := List.mem_map.1 hv
    have e2 : v0.map ren = noteL := S_inj (by rw [← e]; rfl)
    have e3 := ren_note e2
    have := tx_occ d.data.toList [] [] d.data.toList (by simp) ⟨[], by simp⟩ line0 hl0 v0 hv0
    rw [e3] at this
    rw [contains_occ this] at hc
    cases hc
  have hall : ∀ (l : List (List (List UInt8))) (k : Nat), (∀ line ∈ l, ∀ w ∈ line, Wordy w) → allW true true k ((l.map (List.map (List.map ren))).map (·.map S)) = allW true true k (l.map (·.map S)) := by
    intro l
    induction l with
    | nil => intro k _; rfl
    | cons line r ih =>
      intro k hw
      simp only [List.map_cons, allW]
      rw [ih (k + 1) (fun x hx => hw x (by simp [hx]))]
      congr 1
      rw [List.map_map, List.map_map, List.map_map]
      refine List.map_congr_left fun w hwm => ?_
      simp only [Function.comp]
      rw [cls_ren (hw line (by simp) w hwm)]
  have hw := tx_wordy d.data.toList [] [] (by simp) (by simp)
  rw [wordsV_W, wordsV_W, hs, hlen, fW_plain true true _ 0 [] hp, fW_plain true true _ 0 [] hp', lw_tx, lw_tx, ht, hall _ 0 hw]
end Go.Proofs.YtlecocmopeainaaDoor
