/- Plain laws: a note in front of a text; two texts behind each other. No Go here. -/
import Derived.Test.YtlecocmopeainaaDoorT2
import Derived.Lib.Repeat
namespace Go.Proofs.YtlecocmopeainaaDoor
open Go Go.RowKit
set_option linter.unusedSimpArgs false

theorem tx_app : ∀ (l cur : List UInt8) (ws : List (List UInt8)) (r : List UInt8), tx cur ws (l ++ 10 :: r) = tx cur ws l ++ tx [] [] r
  | [], cur, ws, r => by rw [List.nil_append, tx_nl, tx]; rfl
  | c :: l, cur, ws, r => by
    rw [List.cons_append, tx, tx]
    split
    · rw [tx_app l]; rfl
    · split
      · exact tx_app l _ _ r
      · split
        · exact tx_app l _ _ r
        · exact tx_app l _ _ r
theorem tx_len : ∀ (l cur : List UInt8) (ws : List (List UInt8)), (tx cur ws l).length = l.count 10 + 1
  | [], cur, ws => by rw [tx]; rfl
  | c :: l, cur, ws => by
    rw [tx]
    by_cases h : c = 10
    · subst h; rw [if_pos rfl, List.length_cons, tx_len l, List.count_cons_self]
    · rw [if_neg h, List.count_cons_of_ne h]
      split
      · exact tx_len l _ _
      · split <;> exact tx_len l _ _

/-! ### the lines' numbers -/
def shift (n : Nat) (x : Lx) : Lx := (x.1, x.2 + n)
theorem step_shift (a b : Bool) (n : Nat) (st : Nat × Nat × List Lx) (acc : List Lx) (ws : List ByteArray) :
    wstepW a b (st.1 + n, st.2.1, acc ++ st.2.2.map (shift n)) ws = ((wstepW a b st ws).1 + n, (wstepW a b st ws).2.1, acc ++ (wstepW a b st ws).2.2.map (shift n)) := by
  unfold wstepW
  split
  · exact Prod.ext (by show st.1 + n + 1 = st.1 + 1 + n; omega) rfl
  · split
    · exact Prod.ext (by show st.1 + n + 1 = st.1 + 1 + n; omega) rfl
    · refine Prod.ext (by show st.1 + n + 1 = st.1 + 1 + n; omega) (Prod.ext rfl ?_)
      show acc ++ st.2.2.map (shift n) ++ _ = acc ++ (st.2.2 ++ _).map (shift n)
      rw [List.map_append, List.append_assoc, List.map_map]; rfl
theorem fW_shift (a b : Bool) (n : Nat) (acc : List Lx) : ∀ (l : List (List ByteArray)) (st : Nat × Nat × List Lx), fW a b (st.1 + n, st.2.1, acc ++ st.2.2.map (shift n)) l = ((fW a b st l).1 + n, (fW a b st l).2.1, acc ++ (fW a b st l).2.2.map (shift n))
  | [], st => rfl
  | ws :: l, st => by
    rw [fW, List.foldl_cons, step_shift, ← fW, fW_shift a b n acc l]; rfl
theorem fW_app (a b : Bool) (st : Nat × Nat × List Lx) (l l' : List (List ByteArray)) : fW a b st (l ++ l') = fW a b (fW a b st l) l' := by simp [fW]
theorem fW_skip (a b : Bool) (acc : List Lx) : ∀ (l : List (List ByteArray)) (k : Nat), fW a b (k, l.length, acc) l = (k + l.length, 0, acc)
  | [], k => rfl
  | ws :: l, k => by
    have e : wstepW a b (k, (ws :: l).length, acc) ws = (k + 1, l.length, acc) := by
      unfold wstepW
      rw [if_pos (by simp)]; rfl
    rw [fW, List.foldl_cons, e, ← fW, fW_skip a b acc l, List.length_cons, show k + 1 + l.length = k + (l.length + 1) by omega]

/-! ### a note -/
def dg (k : Nat) : List UInt8 := if 10 ≤ k then [UInt8.ofNat (48 + k / 10), UInt8.ofNat (48 + k % 10)] else [UInt8.ofNat (48 + k % 10)]
def noteHead (k : Nat) : List UInt8 := [32, 110, 111, 116, 101, 32, 32] ++ dg k
theorem dg_num : ∀ k : Nat, k < 21 → isNum (dg k) = true ∧ dval 0 (dg k) = k ∧ (dg k).length ≤ 4 ∧ tx [] [] (noteHead k) = [[[110, 111, 116, 101], dg k]] := by decide
theorem note_dg {k : Nat} (h : k < 21) : noteV [noteS, S (dg k)] = k := by
  obtain ⟨h1, h2, h3, _⟩ := dg_num k h
  rw [noteV_two, if_pos ⟨rfl, by rw [size_S]; exact h3⟩, numV_num _ (by rw [data_S]; exact h1), data_S, h2]
theorem tx_repeat (x : List UInt8) (hx : x.count 10 = 0) (r : List UInt8) : ∀ k, ∃ ls : List (List (List UInt8)), ls.length = k ∧ tx [] [] (Lib.repeatL (x ++ [10]) k ++ r) = ls ++ tx [] [] r
  | 0 => ⟨[], rfl, rfl⟩
  | k + 1 => by
    obtain ⟨ls, h1, h2⟩ := tx_repeat x hx r k
    have hl := tx_len x [] []
    rw [hx] at hl
    refine ⟨tx [] [] x ++ ls, by rw [List.length_append, hl, h1]; omega, ?_⟩
    rw [Lib.repeatL]
    have e : x ++ [10] ++ Lib.repeatL (x ++ [10]) k ++ r = x ++ 10 :: (Lib.repeatL (x ++ [10]) k ++ r) := by simp
    rw [e, tx_app, h2, List.append_assoc]
/-- The words behind a note of k lines. -/
theorem wordsV_note {p d d' x : ByteArray} {k : Nat} (hk : k < 21) (hx : x.data.toList.count 10 = 0) (hd : d'.data.toList = noteHead k ++ 10 :: (Lib.repeatL (x.data.toList ++ [10]) k ++ d.data.toList))
    (hp : pathOK p = true) (hs : d.size ≤ 2000) (hs' : d'.size ≤ 65536) (hn : nl d ≤ 500) :
    ∃ ws, wordsV false false p d = (0, ws) ∧ wordsV false false p d' = (0, ws.map (shift (k + 1))) ∧ ws.length ≤ 2000 := by
  obtain ⟨ls, h1, h2⟩ := tx_repeat x.data.toList hx d.data.toList k
  have ht : tx [] [] d'.data.toList = [[110, 111, 116, 101], dg k] :: (ls ++ tx [] [] d.data.toList) := by
    rw [hd, tx_app, h2, (dg_num k hk).2.2.2]; rfl
  have hlw : lw d' = [noteS, S (dg k)] :: (ls.map (·.map S) ++ lw d) := by rw [lw_tx, ht, lw_tx]; simp; rfl
  have hl1 := lw_len d
  have hfw : (fW false false (0, 0, []) (lw d')).2.2 = (fW false false (0, 0, []) (lw d)).2.2.map (shift (k + 1)) := by
    have e1 : wstepW false false (0, 0, []) [noteS, S (dg k)] = (1, k, []) := by
      unfold wstepW
      rw [if_neg (by decide), note_dg hk, if_pos (by omega)]; rfl
    have e2 := fW_skip false false [] (ls.map (·.map S)) 1
    rw [List.length_map, h1] at e2
    have e3 := fW_shift false false (k + 1) [] (lw d) (0, 0, [])
    simp only [List.map_nil, List.append_nil, List.nil_append, Nat.zero_add] at e3
    rw [hlw, fW, List.foldl_cons, e1, ← fW, fW_app, e2, show 1 + k = k + 1 by omega, e3]
  have hsm := wst_small false false (List.prefix_refl (parts 10 d))
  rw [wst_W] at hsm
  refine ⟨(fW false false (0, 0, []) (lw d)).2.2, ?_, ?_, by omega⟩
  · rw [wordsV_W, hp, if_neg (by simp), if_neg (by omega), if_neg (by omega)]
  · rw [wordsV_W, hp, if_neg (by simp), if_neg (by rw [hlw]; simp [h1]; omega), if_neg (by rw [hfw, List.length_map]; omega), hfw]

/-! ### two texts behind each other -/
theorem allW_app (a b : Bool) : ∀ (l l' : List (List ByteArray)) (k : Nat), allW a b k (l ++ l') = allW a b k l ++ allW a b (k + l.length) l'
  | [], l', k => rfl
  | ws :: l, l', k => by
    rw [List.cons_append, allW, allW, allW_app a b l, List.append_assoc, List.length_cons, show k + 1 + l.length = k + (l.length + 1) by omega]
theorem allW_shift (a b : Bool) (n : Nat) : ∀ (l : List (List ByteArray)) (k : Nat), allW a b (k + n) l = (allW a b k l).map (shift n)
  | [], k => rfl
  | ws :: l, k => by
    rw [allW, allW, List.map_append, show k + n + 1 = (k + 1) + n by omega, allW_shift a b n l, List.map_map]; rfl
theorem contains_app {x y : List UInt8} (h : Lib.contains (x ++ y) noteL = false) : Lib.contains x noteL = false ∧ Lib.contains y noteL = false := by
  have key : ∀ l : List UInt8, (∀ q r, x ++ y = q ++ l ++ r → True) → (Lib.contains l noteL = true → Occ noteL l) := fun l _ hl => by
    have : ∀ l : List UInt8, 0 ≤ Lib.index l noteL → Occ noteL l := by
      intro l
      induction l with
      | nil => intro h; simp [Lib.index, noteL] at h
      | cons c l ih =>
        intro h
        rw [show Lib.index (c :: l) noteL = if noteL.isPrefixOf (c :: l) then 0 else if Lib.index l noteL == -1 then -1 else Lib.index l noteL + 1 from rfl] at h
        by_cases hp : noteL.isPrefixOf (c :: l) = true
        · obtain ⟨y, hy⟩ := prefix_occ hp
          exact ⟨[], y, hy⟩
        · rw [if_neg hp] at h
          have hg := Lib.index_ge l noteL
          split at h
          · omega
          · rename_i e
            exact Occ.cons c (ih (by have : Lib.index l noteL ≠ -1 := fun e' => e (by rw [e']; rfl)
                                     omega))
    exact this l (of_decide_eq_true hl)
  refine ⟨?_, ?_⟩
  · cases hx : Lib.contains x noteL with
    | false => rfl
    | true =>
      obtain ⟨q, r, e⟩ := key x (fun _ _ _ => trivial) hx
      rw [contains_occ ⟨q, r ++ y, by rw [e]; simp⟩] at h; cases h
  · cases hx : Lib.contains y noteL with
    | false => rfl
    | true =>
      obtain ⟨q, r, e⟩ := key y (fun _ _ _ => trivial) hx
      rw [contains_occ ⟨x ++ q, r, by rw [e]; simp⟩] at h; cases h
/-- Without notes: the words of two texts with a line feed between them. -/
theorem wordsV_join {p x y z : ByteArray} (hz : z.data.toList = x.data.toList ++ 10 :: y.data.toList) (hc : Lib.contains (x.data.toList ++ y.data.toList) noteL = false) (hp : pathOK p = true) (hx : x.size ≤ 1000) (hy : y.size ≤ 1000) (hn : nl x + nl y ≤ 1000) :
    wordsV false false p x = (0, allW false false 0 (lw x)) ∧ wordsV false false p y = (0, allW false false 0 (lw y)) ∧ wordsV false false p z = (0, allW false false 0 (lw x) ++ (allW false false 0 (lw y)).map (shift (nl x + 1))) ∧
      (allW false false 0 (lw x)).length ≤ 1000 ∧ (allW false false 0 (lw y)).length ≤ 1000 ∧ lw z = lw x ++ lw y := by
  obtain ⟨c1, c2⟩ := contains_app hc
  have p1 := plain_of c1
  have p2 := plain_of c2
  have hlw : lw z = lw x ++ lw y := by rw [lw_tx, lw_tx, lw_tx, hz, tx_app, List.map_append]
  have p3 : Plain z := fun ws hws => by
    rw [hlw] at hws
    rcases List.mem_append.1 hws with h | h
    · exact p1 ws h
    · exact p2 ws h
  have f1 := fW_plain false false (lw x) 0 [] p1
  have f2 := fW_plain false false (lw y) 0 [] p2
  have f3 := fW_plain false false (lw z) 0 [] p3
  have s1 := wst_small false false (List.prefix_refl (parts 10 x))
  have s2 := wst_small false false (List.prefix_refl (parts 10 y))
  rw [wst_W, f1, List.nil_append] at s1
  rw [wst_W, f2, List.nil_append] at s2
  simp only at s1 s2
  have l1 := lw_len x
  have l2 := lw_len y
  have hzs : z.size = x.size + y.size + 1 := by
    rw [size_eq, hz, List.length_append, List.length_cons, ← size_eq, ← size_eq]; omega
  have hw : allW false false 0 (lw z) = allW false false 0 (lw x) ++ (allW false false 0 (lw y)).map (shift (nl x + 1)) := by
    rw [hlw, allW_app, ← allW_shift, l1, Nat.zero_add]
  refine ⟨?_, ?_, ?_, by omega, by omega, hlw⟩
  · rw [wordsV_W, f1, hp, if_neg (by simp), if_neg (by omega), List.nil_append, if_neg (by simp only; omega)]
  · rw [wordsV_W, f2, hp, if_neg (by simp), if_neg (by omega), List.nil_append, if_neg (by simp only; omega)]
  · rw [wordsV_W, f3, hp, if_neg (by simp), if_neg (by rw [hlw, List.length_append]; omega), List.nil_append, if_neg (by simp only; rw [hw, List.length_append, List.length_map]; omega), hw]
end Go.Proofs.YtlecocmopeainaaDoor
