/- Plain laws: the words of all lines, read in one go; what they depend on. No Go here. -/
import Derived.Test.YtlecocmopeainaaDoorQ
namespace Go.Proofs.YtlecocmopeainaaDoor
open Go Go.RowKit
set_option linter.unusedSimpArgs false

def fl (cur : List UInt8) : List (List UInt8) := match cur with
  | [] => []
  | c :: r => [c :: r]
/-- The words of all lines: 'cur' is the word that is being read, 'ws' are those of the line before it. -/
def tx : List UInt8 → List (List UInt8) → List UInt8 → List (List (List UInt8))
  | cur, ws, [] => [ws ++ fl cur]
  | cur, ws, c :: r => if c = 10 then (ws ++ fl cur) :: tx [] [] r else if blank c then tx [] (ws ++ fl cur) r else if part c then tx (cur ++ [c]) ws r else tx [] (ws ++ fl cur ++ [[c]]) r
theorem fl_cons (c : UInt8) (r : List UInt8) : fl (c :: r) = [c :: r] := rfl
theorem fl_nil : fl [] = [] := rfl

theorem split_app {cur h : List UInt8} (hc : ∀ c ∈ cur, part c = true) (hh : ∀ c r, h = c :: r → part c = false) : split (cur ++ h) = fl cur ++ split h := by
  cases cur with
  | nil => rfl
  | cons x xs =>
    have hx : part x = true := hc x (by simp)
    have hb : blank x = false := part_not_blank hx
    have ht : h.takeWhile part = [] := by
      cases h with
      | nil => rfl
      | cons c r => rw [List.takeWhile_cons_of_neg (by rw [hh c r rfl]; decide)]
    have hd : h.dropWhile part = h := by
      cases h with
      | nil => rfl
      | cons c r => rw [List.dropWhile_cons_of_neg (by rw [hh c r rfl]; decide)]
    have hxs : ∀ c ∈ xs, part c = true := fun c hc' => hc c (by simp [hc'])
    rw [List.cons_append, split_cons, if_neg (by rw [hb]; decide), if_pos hx, List.takeWhile_append_of_pos hxs, List.dropWhile_append_of_pos hxs, ht, hd, List.append_nil]
    rfl
theorem part_ten : part 10 = false := by decide
theorem tx_cut : ∀ (l cur : List UInt8) (ws : List (List UInt8)), (∀ c ∈ cur, part c = true) → ∀ h t, cut 10 l = h :: t → tx cur ws l = (ws ++ split (cur ++ h)) :: t.map split
  | [], cur, ws, hc, h, t, e => by
    injection e with e1 e2
    subst e1 e2
    rw [tx, List.append_nil]
    have := split_app (h := []) hc (by intro c r e; cases e)
    rw [List.append_nil] at this
    rw [this, split_nil, List.append_nil]; rfl
  | c :: r, cur, ws, hc, h, t, e => by
    unfold cut at e
    rw [tx]
    by_cases h10 : c = 10
    · rw [if_pos h10] at e
      injection e with e1 e2
      subst e1 e2
      rw [if_pos h10, List.append_nil]
      have hs := split_app (h := []) hc (by intro c r e; cases e)
      rw [List.append_nil, split_nil, List.append_nil] at hs
      rw [hs]
      congr 1
      obtain ⟨h', t', e'⟩ : ∃ h' t', cut 10 r = h' :: t' := by
        cases hq : cut 10 r with
        | nil => exact absurd hq (cut_ne 10 r)
        | cons a b => exact ⟨a, b, rfl⟩
      rw [tx_cut r [] [] (by simp) h' t' e', e']
      simp
    · rw [if_neg h10] at e
      rw [if_neg h10]
      cases hq : cut 10 r with
      | nil => exact absurd hq (cut_ne 10 r)
      | cons h' t' =>
        rw [hq] at e
        simp only at e
        injection e with e1 e2
        subst e1 e2
        by_cases hb : blank c = true
        · rw [if_pos hb, tx_cut r [] _ (by simp) h' t' hq]
          have hp : part c = false := by
            cases hpc : part c with
            | false => rfl
            | true => have : blank c = false := part_not_blank hpc
                      rw [this] at hb; cases hb
          rw [split_app hc (by intro c' r' e; injection e with e _; subst e; exact hp), split_cons, if_pos hb, List.nil_append, List.append_assoc]
        · rw [if_neg hb]
          by_cases hp : part c = true
          · rw [if_pos hp, tx_cut r (cur ++ [c]) ws (by intro x hx; rcases List.mem_append.1 hx with h | h; exact hc x h; (simp at h; subst h; exact hp)) h' t' hq]
            rw [List.append_assoc]; rfl
          · rw [if_neg hp, tx_cut r [] _ (by simp) h' t' hq]
            rw [split_app hc (by intro c' r' e; injection e with e _; subst e; simpa using hp), split_cons, if_neg hb, if_neg hp, List.nil_append, List.append_assoc, List.append_assoc]; rfl
theorem tx_lines (l : List UInt8) : (cut 10 l).map split = tx [] [] l := by
  cases hq : cut 10 l with
  | nil => exact absurd hq (cut_ne 10 l)
  | cons h t => rw [tx_cut l [] [] (by simp) h t hq]; simp

/-- The words of all lines of a text. -/
def lw (d : ByteArray) : List (List ByteArray) := (parts 10 d).map wds
theorem lw_tx (d : ByteArray) : lw d = (tx [] [] d.data.toList).map (·.map S) := by
  rw [lw, parts, List.map_map, ← tx_lines, List.map_map]
  congr 1
theorem lw_len (d : ByteArray) : (lw d).length = nl d + 1 := by rw [lw, List.length_map, parts_length]; rfl

/-- One line, given by its words. -/
def wstepW (a b : Bool) (st : Nat × Nat × List Lx) (ws : List ByteArray) : Nat × Nat × List Lx :=
  if 0 < st.2.1 then (st.1 + 1, st.2.1 - 1, st.2.2)
  else if 0 ≤ noteV ws then (st.1 + 1, (noteV ws).toNat, st.2.2)
  else (st.1 + 1, 0, st.2.2 ++ ws.map fun w => (cls a b w, st.1))
def fW (a b : Bool) (st : Nat × Nat × List Lx) (l : List (List ByteArray)) : Nat × Nat × List Lx := l.foldl (wstepW a b) st
theorem fold_W (a b : Bool) : ∀ (l : List ByteArray) (st : Nat × Nat × List Lx), l.foldl (wstep a b) st = fW a b st (l.map wds)
  | [], _ => rfl
  | x :: l, st => by rw [List.foldl_cons, fold_W a b l]; rfl
theorem wst_W (a b : Bool) (d : ByteArray) : wst a b (parts 10 d) = fW a b (0, 0, []) (lw d) := fold_W a b _ _
theorem wordsV_W (a b : Bool) (p d : ByteArray) : wordsV a b p d = if !pathOK p then (2, []) else if 65536 < d.size ∨ 1024 < (lw d).length then (10, []) else if 8192 < (fW a b (0, 0, []) (lw d)).2.2.length then (10, []) else (0, (fW a b (0, 0, []) (lw d)).2.2) := by
  rw [wordsV, wst_W, lw_len]
  have e : (65536 < d.size ∨ 1024 ≤ nl d) = (65536 < d.size ∨ 1024 < nl d + 1) := by
    apply propext; omega
  simp only [e]
theorem wordsV_same (a b : Bool) (p : ByteArray) {d d' : ByteArray} (h : d.size ≤ 65536) (h' : d'.size ≤ 65536) (he : lw d = lw d') : wordsV a b p d = wordsV a b p d' := by
  rw [wordsV_W, wordsV_W, he]
  have e : (65536 < d.size ∨ 1024 < (lw d').length) = (65536 < d'.size ∨ 1024 < (lw d').length) := by apply propext; omega
  simp only [e]

/-! ### strings.ReplaceAll at one byte -/
theorem index_one (b c : UInt8) (l : List UInt8) : Lib.index (b :: l) [c] = if b = c then 0 else if Lib.index l [c] = -1 then -1 else Lib.index l [c] + 1 := by
  rw [show Lib.index (b :: l) [c] = if [c].isPrefixOf (b :: l) then 0 else if Lib.index l [c] == -1 then -1 else Lib.index l [c] + 1 from rfl]
  by_cases h : b = c
  · subst h; simp [List.isPrefixOf]
  · have : ([c].isPrefixOf (b :: l)) = false := by simp [List.isPrefixOf]; exact fun e => h e.symm
    rw [this, if_neg h, if_neg (by decide)]
    by_cases h1 : Lib.index l [c] = -1
    · rw [h1]; rfl
    · rw [if_neg (by simpa using h1), if_neg h1]
def rep1 (c : UInt8) (new l : List UInt8) : List UInt8 := l.flatMap fun b => if b = c then new else [b]
theorem index_miss (c : UInt8) : ∀ l : List UInt8, Lib.index l [c] = -1 → l.count c = 0
  | [], _ => rfl
  | b :: l, h => by
    rw [index_one] at h
    have hg := Lib.index_ge l [c]
    by_cases hb : b = c
    · rw [if_pos hb] at h; cases h
    · rw [if_neg hb] at h
      rw [List.count_cons_of_ne hb]
      split at h
      · rename_i e; exact index_miss c l e
      · omega
theorem rep1_none (c : UInt8) (new : List UInt8) : ∀ l : List UInt8, l.count c = 0 → rep1 c new l = l
  | [], _ => rfl
  | b :: l, h => by
    have hb : b ≠ c := fun e => by subst e; simp at h
    rw [List.count_cons_of_ne hb] at h
    have ih := rep1_none c new l h
    unfold rep1 at ih ⊢
    rw [List.flatMap_cons, if_neg hb, ih]; rfl
theorem replaceK_one (c : UInt8) (new : List UInt8) : ∀ (l : List UInt8) (k : Nat), l.count c ≤ k → Lib.replaceK [c] new k l = rep1 c new l
  | [], k, _ => by cases k <;> rfl
  | b :: l, 0, h => by
    rw [Lib.replaceK, rep1_none c new _ (by omega)]
  | b :: l, k + 1, h => by
    have hg := Lib.index_ge l [c]
    rw [Lib.replaceK, index_one]
    by_cases hb : b = c
    · subst hb
      rw [if_pos rfl, if_neg (by decide)]
      rw [List.count_cons_self] at h
      have ih := replaceK_one b new l k (by omega)
      show List.take 0 (b :: l) ++ new ++ Lib.replaceK [b] new k (List.drop 1 (b :: l)) = _
      rw [List.drop_one, List.tail_cons, ih, rep1, rep1, List.flatMap_cons, if_pos rfl]; rfl
    · rw [if_neg hb]
      rw [List.count_cons_of_ne hb] at h
      have ih := replaceK_one c new l (k + 1) h
      rw [Lib.replaceK] at ih
      by_cases hi : Lib.index l [c] = -1
      · rw [if_pos hi, if_pos (by rfl)]
        rw [rep1, List.flatMap_cons, if_neg hb, ← rep1, rep1_none c new l (index_miss c l hi)]; rfl
      · rw [if_neg (by simpa using hi)] at ih
        rw [if_neg hi, if_neg (by simp; omega)]
        rw [rep1, List.flatMap_cons, if_neg hb, ← rep1, ← ih]
        have e1 : (Lib.index l [c] + 1).toNat = (Lib.index l [c]).toNat + 1 := by omega
        rw [e1, List.take_succ_cons]
        show b :: _ ++ new ++ _ = _
        rw [show (Lib.index l [c]).toNat + 1 + [c].length = ((Lib.index l [c]).toNat + [c].length) + 1 by simp, List.drop_succ_cons]
        simp
theorem count_one' (c : UInt8) : ∀ (l : List UInt8) (k : Nat), l.length ≤ k → l.count c ≤ Lib.countFrom [c] k l
  | [], k, _ => by simp
  | b :: l, 0, h => by simp at h
  | b :: l, k + 1, h => by
    simp only [List.length_cons] at h
    have hg := Lib.index_ge l [c]
    rw [Lib.countFrom, index_one]
    by_cases hb : b = c
    · subst hb
      rw [if_pos rfl, if_neg (by decide), List.count_cons_self]
      have ih := count_one' b l k (by omega)
      show _ ≤ 1 + Lib.countFrom [b] k (List.drop 1 (b :: l))
      rw [List.drop_one, List.tail_cons]; omega
    · rw [if_neg hb, List.count_cons_of_ne hb]
      by_cases hi : Lib.index l [c] = -1
      · rw [index_miss c l hi]; omega
      · have ih := count_one' c l (k + 1) (by omega)
        rw [Lib.countFrom, if_neg (by simpa using hi)] at ih
        rw [if_neg hi, if_neg (by simp; omega)]
        have e1 : (Lib.index l [c] + 1).toNat + [c].length = ((Lib.index l [c]).toNat + [c].length) + 1 := by simp; omega
        rw [e1, List.drop_succ_cons]
        exact ih
theorem replaceAll_one (c : UInt8) (new l : List UInt8) (h : [c] ≠ new) : Lib.replaceAll l [c] new = rep1 c new l := by
  rw [Lib.replaceAll, Lib.replace, if_neg (by simpa using h), Lib.replaceNum, if_pos (.inl (by decide)), Lib.count]
  exact replaceK_one c new l _ (count_one' c l _ (by first | exact Nat.le_refl _ | omega))

/-! ### blanks -/
def widen (l : List UInt8) : List UInt8 := [32, 9] ++ rep1 10 [32, 32, 10, 127, 11] (rep1 32 [9, 32, 13] l) ++ [0]
theorem rep1_cons (c : UInt8) (new : List UInt8) (b : UInt8) (l : List UInt8) : rep1 c new (b :: l) = (if b = c then new else [b]) ++ rep1 c new l := by rw [rep1, List.flatMap_cons]; rfl
theorem rep1_app (c : UInt8) (new l r : List UInt8) : rep1 c new (l ++ r) = rep1 c new l ++ rep1 c new r := by rw [rep1, List.flatMap_append]; rfl
theorem tx_blank {c : UInt8} (h : blank c = true) (h10 : c ≠ 10) (cur : List UInt8) (ws : List (List UInt8)) (r : List UInt8) : tx cur ws (c :: r) = tx [] (ws ++ fl cur) r := by rw [tx, if_neg h10, if_pos h]
theorem tx_nl (cur : List UInt8) (ws : List (List UInt8)) (r : List UInt8) : tx cur ws (10 :: r) = (ws ++ fl cur) :: tx [] [] r := by rw [tx, if_pos rfl]
theorem tx_wide : ∀ (l cur : List UInt8) (ws : List (List UInt8)), tx cur ws (rep1 10 [32, 32, 10, 127, 11] (rep1 32 [9, 32, 13] l) ++ [0]) = tx cur ws l
  | [], cur, ws => by
    show tx cur ws [0] = tx cur ws []
    rw [tx_blank (by decide) (by decide), tx, tx, fl_nil, List.append_nil]
  | c :: l, cur, ws => by
    rw [rep1_cons, rep1_app, List.append_assoc]
    by_cases h : c = 32
    · subst h
      rw [if_pos rfl]
      show tx cur ws (9 :: 32 :: 13 :: _) = _
      rw [tx_blank (by decide) (by decide), tx_blank (by decide) (by decide), tx_blank (by decide) (by decide), tx_blank (by decide) (by decide), fl_nil, List.append_nil, List.append_nil]
      exact tx_wide l _ _
    · rw [if_neg h]
      by_cases h10 : c = 10
      · subst h10
        show tx cur ws (32 :: 32 :: 10 :: 127 :: 11 :: _) = _
        rw [tx_blank (by decide) (by decide), tx_blank (by decide) (by decide), tx_nl, tx_nl, tx_blank (by decide) (by decide), tx_blank (by decide) (by decide), fl_nil, List.append_nil, List.append_nil]
        congr 1
        exact tx_wide l _ _
      · have e : rep1 10 [32, 32, 10, 127, 11] [c] = [c] := by rw [rep1_cons, if_neg h10]; rfl
        rw [e]
        rw [List.singleton_append, tx, tx, if_neg h10, if_neg h10, tx_wide, tx_wide, tx_wide]
theorem tx_widen (l : List UInt8) : tx [] [] (widen l) = tx [] [] l := by
  show tx [] [] (32 :: 9 :: _) = _
  rw [tx_blank (by decide) (by decide), tx_blank (by decide) (by decide), fl_nil, List.append_nil]
  exact tx_wide l [] []
theorem rep1_len (c : UInt8) (new : List UInt8) (k : Nat) (hk : new.length ≤ k) (h1 : 1 ≤ k) : ∀ l : List UInt8, (rep1 c new l).length ≤ l.length * k
  | [] => by simp [rep1]
  | b :: l => by
    have ih := rep1_len c new k hk h1 l
    rw [rep1_cons, List.length_append, List.length_cons, Nat.add_mul]
    split <;> simp <;> omega
end Go.Proofs.YtlecocmopeainaaDoor
