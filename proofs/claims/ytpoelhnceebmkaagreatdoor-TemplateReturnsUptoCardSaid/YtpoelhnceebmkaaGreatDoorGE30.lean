/- What is read of a template's text is this template, and what was read is valid: plain facts. No conditions. Sizes of what is read of a text; template.Parse by cases. No conditions but the text's size. The law TemplateReturns, walked: true at every template whose strings are no longer than 2000000 bytes, and every text. -/
import Derived.Test.YtpoelhnceebmkaaGreatDoorGE27

namespace Go.Proofs.YtpoelhnceebmkaaGreatDoor
open Go Go.RowKit Go.Shelf
set_option linter.unusedSimpArgs false
set_option linter.unusedVariables false

/-! ### words -/
theorem wg_blank : ∀ (l cur : List UInt8), wg cur (l ++ [32]) = wg cur l
  | [], cur => by
    have e : wg [] [] = [] := rfl
    have e2 : wg cur [32] = (if cur = [] then [] else [cur]) ++ wg [] [] := by rw [wg.eq_2]; exact if_pos (by decide)
    rw [List.nil_append, e2, e, List.append_nil, wg]
  | c :: l, cur => by
    rw [List.cons_append, wg, wg, wg_blank, wg_blank]
theorem wordsL_blank (l : List UInt8) : wordsL (l ++ [32]) = wordsL l := by rw [wordsL_wg, wordsL_wg, wg_blank]
theorem S_self (l : List ByteArray) : (l.map (·.data.toList)).map S = l := by
  rw [List.map_map]
  exact (List.map_congr_left (fun x _ => by show S x.data.toList = x; rw [S_data])).trans (List.map_id l)
theorem wordsL_tail (ws : List ByteArray) (h : allOk ws = true) : wordsL (Lib.joinTail [32] (ws.map (·.data.toList))) = ws := by
  rw [wordsL_wg]
  cases ws with
  | nil => rfl
  | cons x r =>
    rw [allOk, List.all_cons, Bool.and_eq_true] at h
    obtain ⟨h1, h2⟩ := okW_parts h.1
    have e : Lib.joinTail [32] ((x :: r).map (·.data.toList)) = 32 :: (x.data.toList ++ Lib.joinTail [32] (r.map (·.data.toList))) := by simp [Lib.joinTail]
    rw [e, wg_gap0 _ _ (by decide), wg_word _ _ _ h2, List.nil_append, wg_tail r _ h1 h.2]
    exact S_self (x :: r)
theorem wg_ok : ∀ (l cur : List UInt8), cur.all okC = true → ∀ x ∈ wg cur l, x ≠ [] ∧ x.all okC = true
  | [], cur, hc, x, hx => by
    rw [wg] at hx
    split at hx
    · cases hx
    · rename_i h; rw [List.mem_singleton.1 hx]; exact ⟨h, hc⟩
  | c :: l, cur, hc, x, hx => by
    rw [wg] at hx
    split at hx
    · rcases List.mem_append.1 hx with h | h
      · split at h
        · cases h
        · rename_i h1; rw [List.mem_singleton.1 h]; exact ⟨h1, hc⟩
      · exact wg_ok l [] rfl x h
    · rename_i h0
      refine wg_ok l _ ?_ x hx
      have h2 : smN c.toNat ≠ 0 := fun q => h0 ((sm_zero c).2 q)
      have key : ∀ k : Fin 256, smN k.1 ≠ 0 → smN (smN k.1) = smN k.1 := by decide +kernel
      have h1 : okC (sm c) = true := (okC_sm _).2 (by
        rw [sm_nat]
        have h3 := key ⟨c.toNat, c.toNat_lt⟩ h2
        exact ⟨h3, by rw [show smN (smN c.toNat) = smN c.toNat from h3]; exact h2⟩)
      rw [List.all_append, hc, List.all_cons, h1]; rfl
theorem wordsL_ok (l : List UInt8) : allOk (wordsL l) = true := by
  rw [wordsL_wg, allOk, List.all_eq_true]
  intro x hx
  obtain ⟨y, hy, rfl⟩ := List.mem_map.1 hx
  obtain ⟨h1, h2⟩ := wg_ok l [] rfl y hy
  unfold okW
  rw [Bool.and_eq_true, decide_eq_true_eq, size_S]
  exact ⟨List.length_pos_iff.2 h1, h2⟩

/-! ### what was read is valid -/
def VP (p : Pt) : Prop := 1 ≤ p.1 ∧ p.1 ≤ 99 ∧ p.2 ≠ [] ∧ allOk p.2 = true
theorem chk_of : ∀ (r : List Pt) (i : Nat), 0 < i → (∀ p ∈ r, VP p) → chk i r = 0
  | [], _, _, _ => rfl
  | p :: r, i, hi, h => by
    obtain ⟨h1, h2, h3, h4⟩ := h p (by simp)
    have hb : badH i p.1 = false := by
      rw [badH, if_neg (by omega)]
      simp only [Bool.or_eq_false_iff, decide_eq_false_iff_not]
      omega
    rw [chk, hb, if_neg (by decide), if_neg h3, if_pos h4]
    exact chk_of r (i + 1) (by omega) (fun q hq => h q (by simp [hq]))
theorem check_of {p0 : Pt} {r : List Pt} (h0 : p0.1 = 0) (h1 : p0.2 ≠ []) (h2 : allOk p0.2 = true) (h3 : ∀ p ∈ r, VP p) (h4 : total (p0 :: r) ≤ 256) : checkV (p0 :: r) = 0 := by
  rw [checkV, if_neg (by simp), if_neg (by omega), chk, badH, if_pos rfl, h0, if_neg (by decide), if_neg h1, if_pos h2]
  exact chk_of r 1 (by omega) h3
theorem goV_ok : ∀ (f : Nat) (L : List UInt8) (a last : Nat) (ps : List Pt) (h : Int), L.length < f →
    ((goV f L a last ps h).1 = none ∧ (goV f L a last ps h).2.2 ≠ 0) ∨
    ∃ ws rest, goV f L a last ps h = (some (ps ++ [(h, ws)] ++ rest), 0, 0) ∧ ws ≠ [] ∧ allOk ws = true ∧ (∀ p ∈ rest, VP p) ∧ totW (ps ++ [(h, ws)] ++ rest) ≤ 256
  | 0, L, a, last, ps, h, hf => by omega
  | f + 1, L, a, last, ps, h, hf => by
    rw [goV]
    split
    · rename_i hb
      rw [finV]
      split
      · left; exact ⟨rfl, by simp⟩
      · rename_i h1
        split
        · left; exact ⟨rfl, by simp⟩
        · rename_i h2
          split
          · left; exact ⟨rfl, by simp⟩
          · rename_i h3
            right
            refine ⟨wordsL L, [], by rw [List.append_nil], ?_, wordsL_ok L, (fun p hp => by cases hp), by rw [List.append_nil]; omega⟩
            intro e
            rw [e] at h1 h2
            cases ps with
            | nil => exact h2 rfl
            | cons q r => exact h1 ⟨by simp, rfl⟩
    · rename_i hb
      split
      · left; exact ⟨rfl, by simp⟩
      · rename_i h1
        split
        · left; exact ⟨rfl, by simp⟩
        · rename_i h2
          have hbl := brk_lt hb
          have hv := holeV_val (L.drop (brk L).toNat)
          have hv1 := holeV_pos (L.drop (brk L).toNat) h1
          generalize holeV (L.drop (brk L).toNat) = V at *
          rcases goV_ok f (L.drop ((brk L).toNat + V.2)) (a + (brk L).toNat + V.2) (a + (brk L).toNat) (ps ++ [(h, wordsL (L.take (brk L).toNat))]) (V.1 : Nat) (by rw [List.length_drop]; omega) with hn | ⟨ws, rest, hg, h3, h4, h5, h6⟩
          · exact .inl hn
          · right
            refine ⟨wordsL (L.take (brk L).toNat), (((V.1 : Nat) : Int), ws) :: rest, ?_, h2, wordsL_ok _, ?_, ?_⟩
            · rw [hg]; simp
            · intro p hp
              rcases List.mem_cons.1 hp with rfl | hp
              · exact ⟨by show 1 ≤ ((V.1 : Nat) : Int); omega, by show ((V.1 : Nat) : Int) ≤ 99; omega, h3, h4⟩
              · exact h5 p hp
            · have e : ps ++ [(h, wordsL (L.take (brk L).toNat))] ++ (((V.1 : Nat) : Int), ws) :: rest = ps ++ [(h, wordsL (L.take (brk L).toNat))] ++ [(((V.1 : Nat) : Int), ws)] ++ rest := by simp
              rw [e]; exact h6
theorem parseV_ok (s : ByteArray) : ((parseV s).1 = none ∧ (parseV s).2.2 ≠ 0) ∨ ∃ us, parseV s = (some us, 0, 0) ∧ checkV us = 0 := by
  rw [parseV]
  split
  · left; exact ⟨rfl, by simp⟩
  · rcases goV_ok (s.size + 1) s.data.toList 0 0 [] 0 (by rw [← size_eq]; omega) with h | ⟨ws, rest, h1, h2, h3, h4, h5⟩
    · exact .inl h
    · right
      rw [List.nil_append] at h1 h5
      exact ⟨(0, ws) :: rest, h1, check_of rfl h2 h3 h4 (by rw [total_W]; exact h5)⟩

/-! ### a text is read as its template -/
theorem digits_two {h : Nat} (h1 : 1 ≤ h) (h2 : h ≤ 99) : (∃ x, Lib.decDigits h = [x] ∧ 49 ≤ x.toNat ∧ x.toNat ≤ 57 ∧ x.toNat - 48 = h) ∨ ∃ x y, Lib.decDigits h = [x, y] ∧ (49 ≤ x.toNat ∧ x.toNat ≤ 57) ∧ (48 ≤ y.toNat ∧ y.toNat ≤ 57) ∧ (x.toNat - 48) * 10 + (y.toNat - 48) = h := by
  have nat : ∀ k, k < 10 → (UInt8.ofNat (48 + k)).toNat = 48 + k := fun k hk => by show (48 + k) % 256 = _; omega
  by_cases h9 : h < 10
  · left
    refine ⟨_, dec_low h9, ?_⟩
    rw [nat h h9]; omega
  · right
    refine ⟨UInt8.ofNat (48 + h / 10), UInt8.ofNat (48 + h % 10), ?_, ?_⟩
    · rw [dec_high (by omega), dec_low (by omega), dec_low (by omega)]; rfl
    · rw [nat _ (by omega), nat _ (by omega)]; omega
theorem hole_of {h : Nat} (h1 : 1 ≤ h) (h2 : h ≤ 99) (r : List UInt8) : holeV (123 :: (Lib.decDigits h ++ 125 :: r)) = (h, (Lib.decDigits h).length + 2) := by
  have h123 : (123 : UInt8) ≠ 125 := by decide
  have n125 : (125 : UInt8).toNat = 125 := rfl
  rcases digits_two h1 h2 with ⟨x, e, q1, q2, q3⟩ | ⟨x, y, e, q1, q2, q3⟩
  · have hx : x ≠ 125 := fun q => by rw [q] at q2; omega
    rw [e]
    have hi : Lib.indexByte (123 :: x :: 125 :: r) 125 = 2 := by
      rcases idx_skip (l := 125 :: r) hx with ⟨q, _⟩ | ⟨_, q⟩
      · rw [idx_hit] at q; omega
      · rw [idx_hit] at q
        rcases idx_skip (l := x :: 125 :: r) h123 with ⟨q', _⟩ | ⟨_, q'⟩ <;> omega
    show holeV (123 :: x :: 125 :: r) = (h, 1 + 2)
    rw [holeV, if_pos ⟨hi, rfl⟩]
    show hole1 x = _
    rw [hole1_eq, if_pos ⟨q1, q2⟩, q3]
  · have hx : x ≠ 125 := fun q => by rw [q] at q1; omega
    have hy : y ≠ 125 := fun q => by rw [q] at q2; omega
    rw [e]
    have hi : Lib.indexByte (123 :: x :: y :: 125 :: r) 125 = 3 := by
      rcases idx_skip (l := 125 :: r) hy with ⟨q, _⟩ | ⟨_, q⟩
      · rw [idx_hit] at q; omega
      · rw [idx_hit] at q
        rcases idx_skip (l := y :: 125 :: r) hx with ⟨q', _⟩ | ⟨_, q'⟩
        · omega
        · rcases idx_skip (l := x :: y :: 125 :: r) h123 with ⟨q'', _⟩ | ⟨_, q''⟩ <;> omega
    show holeV (123 :: x :: y :: 125 :: r) = (h, 2 + 2)
    rw [holeV, if_neg (fun q => by omega), if_pos ⟨hi, rfl⟩]
    show hole2 x y = _
    rw [hole2_eq, if_pos ⟨q1, q2⟩, q3]
/-- The text of the parts behind the first one. -/
def tailT : List Pt → List UInt8
  | [] => []
  | p :: r => 32 :: (123 :: (Lib.decDigits p.1.toNat ++ 125 :: (Lib.joinTail [32] (p.2.map (·.data.toList)) ++ tailT r)))
theorem holeS_list (h : Int) : (holeS h).data.toList = 123 :: (Lib.decDigits h.toNat ++ [125]) := by
  unfold holeS; simp
theorem joinTail_fmt : ∀ (r : List Pt) (out : List ByteArray), Lib.joinTail [32] ((fmtL out r).map (·.data.toList)) = Lib.joinTail [32] (out.map (·.data.toList)) ++ tailT r
  | [], out => by rw [fmtL, tailT, List.append_nil]
  | p :: r, out => by
    rw [fmtL, joinTail_fmt r, List.map_append, List.map_append, joinTail_app, joinTail_app, tailT, List.map_singleton, holeS_list]
    simp [Lib.joinTail]
theorem fmtL_cons (x : ByteArray) (out : List ByteArray) : ∀ (r : List Pt), fmtL (x :: out) r = x :: fmtL out r := by
  intro r
  induction r generalizing out with
  | nil => rfl
  | cons p r ih => rw [fmtL, fmtL, ← ih]; rfl
theorem text_fmt {ws : List ByteArray} (h : ws ≠ []) (r : List Pt) : (joinV (fmtL ws r)).data.toList = (joinV ws).data.toList ++ tailT r := by
  cases ws with
  | nil => exact absurd rfl h
  | cons x out =>
    rw [fmtL_cons]
    have e : ∀ l : List ByteArray, (joinV (x :: l)).data.toList = x.data.toList ++ Lib.joinTail [32] (l.map (·.data.toList)) := fun l => by simp [joinV, Lib.join_cons]
    rw [e, e, joinTail_fmt, List.append_assoc]
/-- No braces among the bytes of words and blanks. -/
def Plain (l : List UInt8) : Prop := ∀ b ∈ l, ([123, 125] : List UInt8).contains b = false
theorem plain_tail (ws : List ByteArray) (h : allOk ws = true) : Plain (Lib.joinTail [32] (ws.map (·.data.toList))) := by
  induction ws with
  | nil => intro b hb; cases hb
  | cons x r ih =>
    rw [allOk, List.all_cons, Bool.and_eq_true] at h
    obtain ⟨h1, h2⟩ := okW_parts h.1
    have e : Lib.joinTail [32] ((x :: r).map (·.data.toList)) = 32 :: (x.data.toList ++ Lib.joinTail [32] (r.map (·.data.toList))) := by simp [Lib.joinTail]
    rw [e]
    intro b hb
    rcases List.mem_cons.1 hb with rfl | hb
    · decide
    · rcases List.mem_append.1 hb with hb | hb
      · have h3 := List.all_eq_true.1 h2 b hb
        unfold okC at h3
        simp only [Bool.or_eq_true, Bool.and_eq_true, decide_eq_true_eq] at h3
        cases hc : ([123, 125] : List UInt8).contains b with
        | false => rfl
        | true =>
          rw [List.contains_iff_mem] at hc
          simp only [List.mem_cons, List.not_mem_nil, or_false] at hc
          rcases hc with rfl | rfl <;> simp at h3
      · exact ih h.2 b hb
theorem plain_join (ws : List ByteArray) (h : allOk ws = true) : Plain (joinV ws).data.toList := by
  cases ws with
  | nil => intro b hb; cases hb
  | cons x r =>
    intro b hb
    have e : (joinV (x :: r)).data.toList = x.data.toList ++ Lib.joinTail [32] (r.map (·.data.toList)) := by simp [joinV, Lib.join_cons]
    rw [e] at hb
    refine plain_tail (x :: r) h b ?_
    have e2 : Lib.joinTail [32] ((x :: r).map (·.data.toList)) = 32 :: (x.data.toList ++ Lib.joinTail [32] (r.map (·.data.toList))) := by simp [Lib.joinTail]
    rw [e2]; exact List.mem_cons_of_mem _ hb
theorem plain_no {l r : List UInt8} (h : Plain l) : Lib.NoAny (l ++ r) [123, 125] l.length := fun j b hj hb => by
  rw [List.getElem?_append_left hj] at hb
  exact h b (List.mem_of_getElem? hb)
theorem brk_plain {l : List UInt8} (h : Plain l) : brk l = -1 := Lib.indexAny_none (by have := plain_no (r := []) h; rwa [List.append_nil] at this)
theorem brk_hit {l r : List UInt8} (h : Plain l) : brk (l ++ 123 :: r) = (l.length : Int) := Lib.indexAny_hit (plain_no h) (by rw [List.getElem?_append_right (Nat.le_refl _), Nat.sub_self]; rfl) (by decide)
theorem goV_text : ∀ (r : List Pt) (f : Nat) (X : List UInt8) (a last : Nat) (ps : List Pt) (h : Int) (ws : List ByteArray), Plain X → wordsL X = ws → ws ≠ [] → (X ++ tailT r).length < f → (∀ p ∈ r, VP p) → totW (ps ++ [(h, ws)] ++ r) ≤ 256 →
    goV f (X ++ tailT r) a last ps h = (some (ps ++ [(h, ws)] ++ r), 0, 0)
  | [], f, X, a, last, ps, h, ws, hX, hw, hne, hf, hr, ht => by
    rw [tailT, List.append_nil] at hf ⊢
    rw [List.append_nil] at ht ⊢
    obtain ⟨f', rfl⟩ : ∃ f', f = f' + 1 := ⟨f - 1, by omega⟩
    have h0 : totW (ps ++ [(h, ws)]) ≠ 0 := by
      have := List.length_pos_iff.2 hne
      rw [totW_app]; simp only [totW]; omega
    rw [goV, brk_plain hX, if_pos (by decide), hw, finV, if_neg (fun q => hne q.2), if_neg h0, if_neg (by omega)]
  | p :: r, f, X, a, last, ps, h, ws, hX, hw, hne, hf, hr, ht => by
    obtain ⟨h1, h2, h3, h4⟩ := hr p (by simp)
    obtain ⟨k, hk⟩ : ∃ k : Nat, p.1 = (k : Int) := ⟨p.1.toNat, by omega⟩
    obtain ⟨f', rfl⟩ : ∃ f', f = f' + 1 := ⟨f - 1, by omega⟩
    obtain ⟨D, hD⟩ : ∃ D, Lib.decDigits k = D := ⟨_, rfl⟩
    obtain ⟨Y, hY⟩ : ∃ Y, Lib.joinTail [32] (p.2.map (·.data.toList)) = Y := ⟨_, rfl⟩
    have eL : X ++ tailT (p :: r) = (X ++ [32]) ++ 123 :: (D ++ 125 :: (Y ++ tailT r)) := by
      rw [tailT, hk, Int.toNat_natCast, hD, hY]; simp
    rw [eL] at hf ⊢
    have hX2 : Plain (X ++ [32]) := fun b hb => by
      rcases List.mem_append.1 hb with hb | hb
      · exact hX b hb
      · rw [List.mem_singleton.1 hb]; decide
    have hb := brk_hit (r := D ++ 125 :: (Y ++ tailT r)) hX2
    have hd : ((X ++ [32]) ++ 123 :: (D ++ 125 :: (Y ++ tailT r))).drop (X ++ [32]).length = 123 :: (D ++ 125 :: (Y ++ tailT r)) := List.drop_left
    have htk : ((X ++ [32]) ++ 123 :: (D ++ 125 :: (Y ++ tailT r))).take (X ++ [32]).length = X ++ [32] := List.take_left
    have hh := hole_of (h := k) (by omega) (by omega) (Y ++ tailT r)
    rw [hD] at hh
    have hd2 : ((X ++ [32]) ++ 123 :: (D ++ 125 :: (Y ++ tailT r))).drop ((X ++ [32]).length + (D.length + 2)) = Y ++ tailT r := by
      rw [← List.drop_drop, hd]
      have e : 123 :: (D ++ 125 :: (Y ++ tailT r)) = (123 :: (D ++ [125])) ++ (Y ++ tailT r) := by simp
      rw [e]
      exact List.drop_left' (by simp)
    rw [goV, hb, if_neg (by omega), Int.toNat_natCast, hd, htk, hh]
    rw [if_neg (by show ¬ D.length + 2 = 0; omega), wordsL_blank, hw, if_neg hne]
    show goV f' (((X ++ [32]) ++ 123 :: (D ++ 125 :: (Y ++ tailT r))).drop ((X ++ [32]).length + (D.length + 2))) _ _ _ _ = _
    rw [hd2]
    have hYp : Plain Y := by rw [← hY]; exact plain_tail p.2 h4
    have hYw : wordsL Y = p.2 := by rw [← hY]; exact wordsL_tail p.2 h4
    have e3 : ps ++ [(h, ws)] ++ p :: r = ps ++ [(h, ws)] ++ [((k : Int), p.2)] ++ r := by
      rw [← hk]; simp
    rw [e3] at ht ⊢
    exact goV_text r f' Y _ _ (ps ++ [(h, ws)]) (k : Int) p.2 hYp hYw h3 (by simp at hf ⊢; omega) (fun q hq => hr q (by simp [hq])) ht
/-- The text of a valid template is read as this template. -/
theorem parse_format {ps : List Pt} (hc : checkV ps = 0) (hs : (formatV ps).1.size ≤ 4096) : (formatV ps).2 = 0 ∧ parseV (formatV ps).1 = (some ps, 0, 0) := by
  obtain ⟨p0, r, rfl, h0, hne, hok, hh, ht⟩ := check_ok hc
  have e : formatV (p0 :: r) = (joinV (fmtL p0.2 r), 0) := by
    rw [formatV, if_neg (fun q => q hc)]; rfl
  rw [e] at hs ⊢
  refine ⟨rfl, ?_⟩
  have hs' : (joinV (fmtL p0.2 r)).size ≤ 4096 := hs
  show parseV (joinV (fmtL p0.2 r)) = _
  rw [parseV, if_neg (by omega), text_fmt hne]
  have := goV_text r ((joinV (fmtL p0.2 r)).size + 1) (joinV p0.2).data.toList 0 0 [] 0 p0.2 (plain_join _ hok) (wordsL_join _ hok) hne (by rw [← text_fmt hne, ← size_eq]; omega) hh (by
    rw [← total_W, List.nil_append]
    have e1 : ((0 : Int), p0.2) = p0 := by rw [← h0]
    rw [e1]; exact ht)
  rw [this, List.nil_append]
  have e1 : ((0 : Int), p0.2) = p0 := by rw [← h0]
  rw [e1]; rfl
theorem format_zero {ps : List Pt} (hc : checkV ps = 0) : (formatV ps).2 = 0 := by
  obtain ⟨p0, r, rfl, _⟩ := check_ok hc
  rw [formatV, if_neg (fun q => q hc)]; rfl
theorem format_check {ps : List Pt} (h : (formatV ps).2 = 0) : checkV ps = 0 := by
  rw [formatV] at h
  split at h
  · rename_i h1; exact absurd h h1
  · rename_i h1; exact Classical.byContradiction h1
end Go.Proofs.YtpoelhnceebmkaaGreatDoor

namespace Go.Proofs.YtpoelhnceebmkaaGreatDoor
open Go Go.RowKit Go.Shelf
set_option linter.unusedSimpArgs false
set_option linter.unusedVariables false

theorem wg_len : ∀ (l cur : List UInt8) (x : List UInt8), x ∈ wg cur l → x.length ≤ cur.length + l.length
  | [], cur, x, hx => by
    rw [wg] at hx
    split at hx
    · cases hx
    · rw [List.mem_singleton.1 hx]; omega
  | c :: l, cur, x, hx => by
    rw [wg] at hx
    split at hx
    · rcases List.mem_append.1 hx with h | h
      · split at h
        · cases h
        · rw [List.mem_singleton.1 h]; omega
      · have := wg_len l [] x h
        simp at this ⊢; omega
    · have := wg_len l _ x hx
      simp at this ⊢; omega
theorem wordsL_sz (l : List UInt8) : ∀ x ∈ wordsL l, x.size ≤ l.length := by
  intro x hx
  rw [wordsL_wg] at hx
  obtain ⟨y, hy, rfl⟩ := List.mem_map.1 hx
  have := wg_len l [] y hy
  rw [size_S]; simpa using this
theorem goV_sz (N : Nat) : ∀ (f : Nat) (L : List UInt8) (a last : Nat) (ps us : List Pt) (h : Int), (goV f L a last ps h).1 = some us → L.length ≤ N → (∀ p ∈ ps, ∀ x ∈ p.2, x.size ≤ N) → ∀ p ∈ us, ∀ x ∈ p.2, x.size ≤ N
  | 0, _, _, _, _, _, _, e, _, _ => by rw [goV] at e; cases e
  | f + 1, L, a, last, ps, us, h, e, hL, hp => by
    have add : ∀ l : List UInt8, l.length ≤ N → ∀ p ∈ ps ++ [(h, wordsL l)], ∀ x ∈ p.2, x.size ≤ N := fun l hl p hm x hx => by
      rcases List.mem_append.1 hm with hm | hm
      · exact hp p hm x hx
      · rw [List.mem_singleton.1 hm] at hx
        have := wordsL_sz l x hx; omega
    rw [goV] at e
    split at e
    · obtain ⟨rfl, _⟩ := finV_some e
      exact add L hL
    · split at e
      · cases e
      · split at e
        · cases e
        · exact goV_sz N f _ _ _ _ us _ e (by rw [List.length_drop]; omega) (add _ (by rw [List.length_take]; omega))
theorem parseV_sz {s : ByteArray} {us : List Pt} (h : (parseV s).1 = some us) (hs : s.size ≤ 10000) : ∀ p ∈ us, SzW p.2 := by
  rw [parseV] at h
  split at h
  · cases h
  · intro p hp x hx
    have := goV_sz 10000 _ _ _ _ _ _ _ h (by rw [← size_eq]; exact hs) (fun p hp => by cases hp) p hp x hx
    omega
theorem check_sm {ps : List Pt} (h : checkV ps = 0) : SmT ps := by
  obtain ⟨p0, r, rfl, _, hne, _, hh, ht⟩ := check_ok h
  have hall : ∀ p ∈ p0 :: r, p.2 ≠ [] := fun p hp => by
    rcases List.mem_cons.1 hp with rfl | hp
    · exact hne
    · exact (hh p hp).2.2.1
  have hlen : ∀ l : List Pt, (∀ p ∈ l, p.2 ≠ []) → l.length ≤ total l := by
    intro l
    induction l with
    | nil => intro _; exact Nat.zero_le _
    | cons q l ih =>
      intro hq
      have h1 := List.length_pos_iff.2 (hq q (by simp))
      have h2 := ih (fun p hp => hq p (by simp [hp]))
      have e : total (q :: l) = q.2.length + total l := by simp [total]
      rw [e, List.length_cons]; omega
  exact ⟨by have := hlen _ hall; omega, fun p hp => by have := total_part hp; omega⟩

/-- A text that is too long. -/
theorem parse_big (nm s : ByteArray) (w : World) (hs : 4096 < s.size) :
    Calls Tryz.prog 10 #[.string nm, .string s] w fun e w' => e = .returned (.tuple #[.agg #[.string ⟨#[]⟩, .slice none 0 0], .int .i64 0, .int .i64 10]) ∧ New w w' := by
  have t1 : decide ((4096 : Int) < (s.size : Int)) = true := decide_eq_true (by omega)
  go_enter Tryz.func10, Tryz.ntmps10
  go_wp2
  exact bodyPost_ret (v := .tuple #[.agg #[.string ⟨#[]⟩, .slice none 0 0], .int .i64 0, .int .i64 10]) (by simp [results, Tryz.results10, go_sem]) rfl ⟨rfl, (New.refl w).alloc _⟩
/-- A text that is none of a template. -/
theorem parse_err (nm s : ByteArray) (hs : s.size ≤ 10000) (h : (parseV s).1 = none) (w : World) :
    Calls Tryz.prog 10 #[.string nm, .string s] w fun e w' => ∃ A c, e = .returned (.tuple #[.agg #[.string ⟨#[]⟩, .slice A 0 c], .int .i64 ((parseV s).2.1 : Nat), .int .i64 (parseV s).2.2]) ∧ TRd w' (.agg #[.string ⟨#[]⟩, .slice A 0 c]) ⟨#[]⟩ [] ∧ New w w' :=
  parseP nm s ⟨#[]⟩ [] 0 rfl hs (fun W tv h1 _ => by rw [h1 h]; exact trd_none W) w
/-- A text of a template. -/
theorem parse_yes (nm s : ByteArray) (us : List Pt) (n : Nat) (hn : us.length = n) (hs : s.size ≤ 10000) (h : parseV s = (some us, 0, 0)) (w : World) :
    Calls Tryz.prog 10 #[.string nm, .string s] w fun e w' => ∃ A c, e = .returned (.tuple #[.agg #[.string nm, .slice A n c], .int .i64 0, .int .i64 0]) ∧ TRd w' (.agg #[.string nm, .slice A n c]) nm us ∧ New w w' := by
  have := parseP nm s nm us n hn hs (fun W tv _ h2 => h2 us (by rw [h])) w
  rw [h] at this
  exact this
end Go.Proofs.YtpoelhnceebmkaaGreatDoor

namespace Go.Proofs.YtpoelhnceebmkaaGreatDoor
open Go Go.RowKit Go.Shelf
set_option linter.unusedSimpArgs false
set_option linter.unusedVariables false

set_option maxRecDepth 100000 in
set_option maxHeartbeats 16000000 in
theorem law_returns (v : Value) (nm : ByteArray) (ps : List Pt) (s : ByteArray) (w : World) (h : TRd w v nm ps) (hz : ∀ p ∈ ps, SzM p.2) :
    Calls Tryz.prog 6 #[v, .string s] w fun e w' => e = .returned (.bool true) ∧ New w w' := by
  have HA := Lib.hid awake_any
  obtain ⟨Ap, cp, rfl, hcp1, hcp2, hp⟩ := h
  obtain ⟨np, hnp⟩ : ∃ k, ps.length = k := ⟨_, rfl⟩
  have HT : Hid (TRd w (.agg #[.string nm, .slice Ap np cp]) nm ps) := Lib.hid ⟨Ap, cp, by rw [hnp], hcp1, hcp2, hp⟩
  have HNP := Lib.hid hnp
  rw [hnp] at hp hcp1 ⊢
  have hnS : New w (w.alloc (.cells #[.string nm, .slice Ap np cp] 25)) := (New.refl w).alloc _
  have B0 := Blk.made w 25 #[.string nm, .slice Ap np cp]
  have HFW := Lib.hid (fun w h => few_any (.agg #[.string nm, .slice Ap np cp]) nm ps w h)
  have HZ := Lib.hid hz
  clear hp hnp hz hcp1 hcp2
  cases hb : fewV nm ps
  · have HB := Lib.hid hb
    clear hb
    go_enter Tryz.func6, Tryz.ntmps6
    go_wp2_with (first
      | (go_at_call 13; refine (HFW.out _ ((HT.out.new hnS).new h0)).mono ?_; rintro e w1 ⟨⟨b, rfl, hb1⟩, hn1⟩; have hb2 := (hb1.2 HZ.out).trans HB.out; subst hb2; clear hb1)
      | (go_at_call 9; refine (HA.out _).mono ?_; rintro e w0 ⟨rfl, h0⟩; have k0 := (B0.new h0).cell' 0 _ rfl; have k1 := (B0.new h0).cell' 1 _ rfl))
    go_ret
    exact ⟨rfl, (hnS.trans h0).trans hn1⟩
  · have HB := Lib.hid hb
    obtain ⟨hsm, hzw, hp10⟩ := few_sm hb
    clear hb
    by_cases hs25 : s.size ≤ 2500
    · have t1 : decide ((2500 : Int) < (s.size : Int)) = false := decide_eq_false (by omega)
      have hs9 : s.size ≤ 10000 := by omega
      have HPF := Lib.hid (fun h1 h2 => (parse_format (ps := ps) h1 h2).2)
      have HFC := Lib.hid (fun h => format_check (ps := ps) h)
      have CF1 := Lib.hid (fun w h => format_any (.agg #[.string nm, .slice Ap np cp]) nm ps w h hsm hzw)
      have CS1 := Lib.hid (fun (v v' : Value) (w : World) h h' => same_self v v' nm ps w h h' (by omega) (fun p hp => by have := hsm.2 p hp; omega))
      clear hsm hzw
      go_enter Tryz.func6, Tryz.ntmps6
      go_wp2_with (first
        | (go_at_call 13; refine (HFW.out _ ((HT.out.new hnS).new h0)).mono ?_; rintro e w1 ⟨⟨b, rfl, hb1⟩, hn1⟩; have hb3 := (hb1.2 HZ.out).trans HB.out; subst hb3; clear hb1; have j0 := ((B0.new h0).new hn1).cell' 0 _ rfl; have j1 := ((B0.new h0).new hn1).cell' 1 _ rfl)
        | (go_at_call 9; refine (HA.out _).mono ?_; rintro e w0 ⟨rfl, h0⟩; have k0 := (B0.new h0).cell' 0 _ rfl; have k1 := (B0.new h0).cell' 1 _ rfl))
      have HT1 := Lib.hid ((HT.out.new (hnS.trans h0)).new hn1)
      have B1 := (B0.new h0).new hn1
      have hbase := (hnS.trans h0).trans hn1
      obtain ⟨F1, F2, hF⟩ : ∃ F1 F2, formatV ps = (F1, F2) := ⟨_, _, rfl⟩
      rw [hF] at HPF HFC CF1
      refine (CF1.out _ HT1.out).mono ?_
      rintro e w2 ⟨rfl, n2⟩
      have HN2 := Lib.hid (hbase.trans n2)
      have B2 := B1.new n2
      have HT2 := Lib.hid (HT1.out.new n2)
      clear HFW k0 k1 j0 j1
      by_cases hF2 : F2 = 0
      · subst hF2
        by_cases hF1 : F1.size ≤ 4096
        · have t2 : decide ((F1.size : Int) ≤ 4096) = true := decide_eq_true (by omega)
          have P1 := Lib.hid (parse_yes nm F1 ps np HNP.out (by omega) (HPF.out (HFC.out rfl) hF1))
          clear HPF HFC hF
          have g8 := B2.cell' 0 _ rfl
          go_wp2_with (first
            | (go_at_call 12; refine (CS1.out _ _ _ ((HT2.out.new n3).new hA3) (r3.new hA3)).mono ?_; rintro e w4 ⟨rfl, n4⟩)
            | (go_at_call 10; (with_reducible refine (P1.out _).mono ?_); rintro e w3 ⟨A1, c1, rfl, r3, n3⟩; have BX := Blk.made w3 25 #[.string nm, .slice A1 np c1]; have e0 := BX.cell' 0 _ rfl; have e1 := BX.cell' 1 _ rfl; have BY := (B2.new n3).alloc (.cells #[.string nm, .slice A1 np c1] 25); have e2 := BY.cell' 0 _ rfl; have e3 := BY.cell' 1 _ rfl; have hA3 := (New.refl w3).alloc (.cells #[.string nm, .slice A1 np c1] 25)))
          have HN4 := Lib.hid (((HN2.out.trans n3).trans hA3).trans n4)
          clear e0 e1 e2 e3 g8 n3 n4
          rcases parseV_ok s with ⟨q1, q2⟩ | ⟨us, q1, q2⟩
          · have P2 := Lib.hid (parse_err ⟨#[110]⟩ s hs9 q1)
            generalize (parseV s).2.1 = at2 at *
            generalize (parseV s).2.2 = er2 at *
            have y1 : (er2 == 0) = false := beq_eq_false_iff_ne.2 q2
            have CS := Lib.hid (fun (v v' : Value) (w : World) h h' => same_self v v' ⟨#[]⟩ [] w h h' (by simp) (fun p hp => by cases hp))
            clear q1
            refine (P2.out _).mono ?_
            rintro e wA ⟨A2, c2, rfl, rA, nA⟩
            have BA := Blk.made wA 25 #[.string ⟨#[]⟩, .slice A2 0 c2]
            have g0 := BA.cell' 0 _ rfl
            have g1 := BA.cell' 1 _ rfl
            go_wp2_with (first
              | (go_at_call 12; refine (CS.out _ _ _ (rA.new ((New.refl wA).alloc (.cells #[.string ⟨#[]⟩, .slice A2 0 c2] 25))) (trd_none _)).mono ?_; rintro e wB ⟨rfl, nB⟩))
            go_ret
            exact ⟨rfl, ((HN4.out.trans nA).alloc _).trans nB⟩
          · obtain ⟨nu, hnu⟩ : ∃ k, us.length = k := ⟨_, rfl⟩
            have P2 := Lib.hid (parse_yes ⟨#[110]⟩ s us nu hnu hs9 q1)
            have hsu := check_sm q2
            have hzu := parseV_sz (s := s) (us := us) (by rw [q1]) hs9
            have hf0 := format_zero q2
            have hpf := fun h => (parse_format (ps := us) q2 h).2
            have CF := Lib.hid (fun v w h => format_any v ⟨#[110]⟩ us w h hsu hzu)
            have CS := Lib.hid (fun (v v' : Value) (w : World) h h' => same_self v v' ⟨#[110]⟩ us w h h' (by have := hsu.1; omega) (fun p hp => by have := hsu.2 p hp; omega))
            obtain ⟨X1, X2, hX⟩ : ∃ X1 X2, formatV us = (X1, X2) := ⟨_, _, rfl⟩
            rw [hX] at hf0 hpf CF
            have hf0' : X2 = 0 := hf0
            subst hf0'
            have hpf' : X1.size ≤ 4096 → parseV X1 = (some us, 0, 0) := hpf
            by_cases hx : X1.size ≤ 4096
            · have P3 := Lib.hid (parse_yes ⟨#[110]⟩ X1 us nu hnu (by omega) (hpf' hx))
              clear hpf hpf' hX hsu hzu q1 q2 hf0
              refine (P2.out _).mono ?_
              rintro e wA ⟨A2, c2, rfl, rA, nA⟩
              have BA := Blk.made wA 25 #[.string ⟨#[110]⟩, .slice A2 nu c2]
              have g0 := BA.cell' 0 _ rfl
              have g1 := BA.cell' 1 _ rfl
              have hA1 := (New.refl wA).alloc (.cells #[.string ⟨#[110]⟩, .slice A2 nu c2] 25)
              go_wp2_with (first
                | (go_at_call 12; refine (CS.out _ _ _ (((rA.new hA1).new nB).new ((nC.alloc (.cells #[.string ⟨#[110]⟩, .slice A3 nu c3] 25)))) (rC.new ((New.refl wC).alloc (.cells #[.string ⟨#[110]⟩, .slice A3 nu c3] 25)))).mono ?_; rintro e wD ⟨rfl, nD⟩)
                | (go_at_call 10; refine (P3.out _).mono ?_; rintro e wC ⟨A3, c3, rfl, rC, nC⟩; have BC := Blk.made wC 25 #[.string ⟨#[110]⟩, .slice A3 nu c3]; have g4 := BC.cell' 0 _ rfl; have g5 := BC.cell' 1 _ rfl; have BA3 := ((BA.new nB).new nC).alloc (.cells #[.string ⟨#[110]⟩, .slice A3 nu c3] 25); have g6 := BA3.cell' 0 _ rfl; have g7 := BA3.cell' 1 _ rfl)
                | (go_at_call 17; refine (CF.out _ _ (rA.new hA1)).mono ?_; rintro e wB ⟨rfl, nB⟩))
              go_ret
              exact ⟨rfl, ((((HN4.out.trans nA).trans hA1).trans nB).trans (nC.alloc _)).trans nD⟩
            · have P3 := Lib.hid (fun w => parse_big ⟨#[110]⟩ X1 w (by omega))
              have y2 : decide ((4096 : Int) < (X1.size : Int)) = true := decide_eq_true (by omega)
              clear hpf hpf' hX hsu hzu q1 q2 hf0
              refine (P2.out _).mono ?_
              rintro e wA ⟨A2, c2, rfl, rA, nA⟩
              have BA := Blk.made wA 25 #[.string ⟨#[110]⟩, .slice A2 nu c2]
              have g0 := BA.cell' 0 _ rfl
              have g1 := BA.cell' 1 _ rfl
              have hA1 := (New.refl wA).alloc (.cells #[.string ⟨#[110]⟩, .slice A2 nu c2] 25)
              go_wp2_with (first
                | (go_at_call 10; refine (P3.out _).mono ?_; rintro e wC ⟨rfl, nC⟩)
                | (go_at_call 17; refine (CF.out _ _ (rA.new hA1)).mono ?_; rintro e wB ⟨rfl, nB⟩))
              go_ret
              exact ⟨rfl, ((((HN4.out.trans nA).trans hA1).trans nB).trans (nC.alloc _))⟩
        · have t2 : decide ((F1.size : Int) ≤ 4096) = false := decide_eq_false (by omega)
          clear HPF HFC hF
          go_wp2_with fail
          rcases parseV_ok s with ⟨q1, q2⟩ | ⟨us, q1, q2⟩
          · have P2 := Lib.hid (parse_err ⟨#[110]⟩ s hs9 q1)
            generalize (parseV s).2.1 = at2 at *
            generalize (parseV s).2.2 = er2 at *
            have y1 : (er2 == 0) = false := beq_eq_false_iff_ne.2 q2
            have CS := Lib.hid (fun (v v' : Value) (w : World) h h' => same_self v v' ⟨#[]⟩ [] w h h' (by simp) (fun p hp => by cases hp))
            clear q1
            refine (P2.out _).mono ?_
            rintro e wA ⟨A2, c2, rfl, rA, nA⟩
            have BA := Blk.made wA 25 #[.string ⟨#[]⟩, .slice A2 0 c2]
            have g0 := BA.cell' 0 _ rfl
            have g1 := BA.cell' 1 _ rfl
            go_wp2_with (first
              | (go_at_call 12; refine (CS.out _ _ _ (rA.new ((New.refl wA).alloc (.cells #[.string ⟨#[]⟩, .slice A2 0 c2] 25))) (trd_none _)).mono ?_; rintro e wB ⟨rfl, nB⟩))
            go_ret
            exact ⟨rfl, ((HN2.out.trans nA).alloc _).trans nB⟩
          · obtain ⟨nu, hnu⟩ : ∃ k, us.length = k := ⟨_, rfl⟩
            have P2 := Lib.hid (parse_yes ⟨#[110]⟩ s us nu hnu hs9 q1)
            have hsu := check_sm q2
            have hzu := parseV_sz (s := s) (us := us) (by rw [q1]) hs9
            have hf0 := format_zero q2
            have hpf := fun h => (parse_format (ps := us) q2 h).2
            have CF := Lib.hid (fun v w h => format_any v ⟨#[110]⟩ us w h hsu hzu)
            have CS := Lib.hid (fun (v v' : Value) (w : World) h h' => same_self v v' ⟨#[110]⟩ us w h h' (by have := hsu.1; omega) (fun p hp => by have := hsu.2 p hp; omega))
            obtain ⟨X1, X2, hX⟩ : ∃ X1 X2, formatV us = (X1, X2) := ⟨_, _, rfl⟩
            rw [hX] at hf0 hpf CF
            have hf0' : X2 = 0 := hf0
            subst hf0'
            have hpf' : X1.size ≤ 4096 → parseV X1 = (some us, 0, 0) := hpf
            by_cases hx : X1.size ≤ 4096
            · have P3 := Lib.hid (parse_yes ⟨#[110]⟩ X1 us nu hnu (by omega) (hpf' hx))
              clear hpf hpf' hX hsu hzu q1 q2 hf0
              refine (P2.out _).mono ?_
              rintro e wA ⟨A2, c2, rfl, rA, nA⟩
              have BA := Blk.made wA 25 #[.string ⟨#[110]⟩, .slice A2 nu c2]
              have g0 := BA.cell' 0 _ rfl
              have g1 := BA.cell' 1 _ rfl
              have hA1 := (New.refl wA).alloc (.cells #[.string ⟨#[110]⟩, .slice A2 nu c2] 25)
              go_wp2_with (first
                | (go_at_call 12; refine (CS.out _ _ _ (((rA.new hA1).new nB).new ((nC.alloc (.cells #[.string ⟨#[110]⟩, .slice A3 nu c3] 25)))) (rC.new ((New.refl wC).alloc (.cells #[.string ⟨#[110]⟩, .slice A3 nu c3] 25)))).mono ?_; rintro e wD ⟨rfl, nD⟩)
                | (go_at_call 10; refine (P3.out _).mono ?_; rintro e wC ⟨A3, c3, rfl, rC, nC⟩; have BC := Blk.made wC 25 #[.string ⟨#[110]⟩, .slice A3 nu c3]; have g4 := BC.cell' 0 _ rfl; have g5 := BC.cell' 1 _ rfl; have BA3 := ((BA.new nB).new nC).alloc (.cells #[.string ⟨#[110]⟩, .slice A3 nu c3] 25); have g6 := BA3.cell' 0 _ rfl; have g7 := BA3.cell' 1 _ rfl)
                | (go_at_call 17; refine (CF.out _ _ (rA.new hA1)).mono ?_; rintro e wB ⟨rfl, nB⟩))
              go_ret
              exact ⟨rfl, ((((HN2.out.trans nA).trans hA1).trans nB).trans (nC.alloc _)).trans nD⟩
            · have P3 := Lib.hid (fun w => parse_big ⟨#[110]⟩ X1 w (by omega))
              have y2 : decide ((4096 : Int) < (X1.size : Int)) = true := decide_eq_true (by omega)
              clear hpf hpf' hX hsu hzu q1 q2 hf0
              refine (P2.out _).mono ?_
              rintro e wA ⟨A2, c2, rfl, rA, nA⟩
              have BA := Blk.made wA 25 #[.string ⟨#[110]⟩, .slice A2 nu c2]
              have g0 := BA.cell' 0 _ rfl
              have g1 := BA.cell' 1 _ rfl
              have hA1 := (New.refl wA).alloc (.cells #[.string ⟨#[110]⟩, .slice A2 nu c2] 25)
              go_wp2_with (first
                | (go_at_call 10; refine (P3.out _).mono ?_; rintro e wC ⟨rfl, nC⟩)
                | (go_at_call 17; refine (CF.out _ _ (rA.new hA1)).mono ?_; rintro e wB ⟨rfl, nB⟩))
              go_ret
              exact ⟨rfl, ((((HN2.out.trans nA).trans hA1).trans nB).trans (nC.alloc _))⟩
      · have t2 : (F2 == 0) = false := beq_eq_false_iff_ne.2 hF2
        clear HPF HFC hF
        go_wp2_with fail
        rcases parseV_ok s with ⟨q1, q2⟩ | ⟨us, q1, q2⟩
        · have P2 := Lib.hid (parse_err ⟨#[110]⟩ s hs9 q1)
          generalize (parseV s).2.1 = at2 at *
          generalize (parseV s).2.2 = er2 at *
          have y1 : (er2 == 0) = false := beq_eq_false_iff_ne.2 q2
          have CS := Lib.hid (fun (v v' : Value) (w : World) h h' => same_self v v' ⟨#[]⟩ [] w h h' (by simp) (fun p hp => by cases hp))
          clear q1
          refine (P2.out _).mono ?_
          rintro e wA ⟨A2, c2, rfl, rA, nA⟩
          have BA := Blk.made wA 25 #[.string ⟨#[]⟩, .slice A2 0 c2]
          have g0 := BA.cell' 0 _ rfl
          have g1 := BA.cell' 1 _ rfl
          go_wp2_with (first
            | (go_at_call 12; refine (CS.out _ _ _ (rA.new ((New.refl wA).alloc (.cells #[.string ⟨#[]⟩, .slice A2 0 c2] 25))) (trd_none _)).mono ?_; rintro e wB ⟨rfl, nB⟩))
          go_ret
          exact ⟨rfl, ((HN2.out.trans nA).alloc _).trans nB⟩
        · obtain ⟨nu, hnu⟩ : ∃ k, us.length = k := ⟨_, rfl⟩
          have P2 := Lib.hid (parse_yes ⟨#[110]⟩ s us nu hnu hs9 q1)
          have hsu := check_sm q2
          have hzu := parseV_sz (s := s) (us := us) (by rw [q1]) hs9
          have hf0 := format_zero q2
          have hpf := fun h => (parse_format (ps := us) q2 h).2
          have CF := Lib.hid (fun v w h => format_any v ⟨#[110]⟩ us w h hsu hzu)
          have CS := Lib.hid (fun (v v' : Value) (w : World) h h' => same_self v v' ⟨#[110]⟩ us w h h' (by have := hsu.1; omega) (fun p hp => by have := hsu.2 p hp; omega))
          obtain ⟨X1, X2, hX⟩ : ∃ X1 X2, formatV us = (X1, X2) := ⟨_, _, rfl⟩
          rw [hX] at hf0 hpf CF
          have hf0' : X2 = 0 := hf0
          subst hf0'
          have hpf' : X1.size ≤ 4096 → parseV X1 = (some us, 0, 0) := hpf
          by_cases hx : X1.size ≤ 4096
          · have P3 := Lib.hid (parse_yes ⟨#[110]⟩ X1 us nu hnu (by omega) (hpf' hx))
            clear hpf hpf' hX hsu hzu q1 q2 hf0
            refine (P2.out _).mono ?_
            rintro e wA ⟨A2, c2, rfl, rA, nA⟩
            have BA := Blk.made wA 25 #[.string ⟨#[110]⟩, .slice A2 nu c2]
            have g0 := BA.cell' 0 _ rfl
            have g1 := BA.cell' 1 _ rfl
            have hA1 := (New.refl wA).alloc (.cells #[.string ⟨#[110]⟩, .slice A2 nu c2] 25)
            go_wp2_with (first
              | (go_at_call 12; refine (CS.out _ _ _ (((rA.new hA1).new nB).new ((nC.alloc (.cells #[.string ⟨#[110]⟩, .slice A3 nu c3] 25)))) (rC.new ((New.refl wC).alloc (.cells #[.string ⟨#[110]⟩, .slice A3 nu c3] 25)))).mono ?_; rintro e wD ⟨rfl, nD⟩)
              | (go_at_call 10; refine (P3.out _).mono ?_; rintro e wC ⟨A3, c3, rfl, rC, nC⟩; have BC := Blk.made wC 25 #[.string ⟨#[110]⟩, .slice A3 nu c3]; have g4 := BC.cell' 0 _ rfl; have g5 := BC.cell' 1 _ rfl; have BA3 := ((BA.new nB).new nC).alloc (.cells #[.string ⟨#[110]⟩, .slice A3 nu c3] 25); have g6 := BA3.cell' 0 _ rfl; have g7 := BA3.cell' 1 _ rfl)
              | (go_at_call 17; refine (CF.out _ _ (rA.new hA1)).mono ?_; rintro e wB ⟨rfl, nB⟩))
            go_ret
            exact ⟨rfl, ((((HN2.out.trans nA).trans hA1).trans nB).trans (nC.alloc _)).trans nD⟩
          · have P3 := Lib.hid (fun w => parse_big ⟨#[110]⟩ X1 w (by omega))
            have y2 : decide ((4096 : Int) < (X1.size : Int)) = true := decide_eq_true (by omega)
            clear hpf hpf' hX hsu hzu q1 q2 hf0
            refine (P2.out _).mono ?_
            rintro e wA ⟨A2, c2, rfl, rA, nA⟩
            have BA := Blk.made wA 25 #[.string ⟨#[110]⟩, .slice A2 nu c2]
            have g0 := BA.cell' 0 _ rfl
            have g1 := BA.cell' 1 _ rfl
            have hA1 := (New.refl wA).alloc (.cells #[.string ⟨#[110]⟩, .slice A2 nu c2] 25)
            go_wp2_with (first
              | (go_at_call 10; refine (P3.out _).mono ?_; rintro e wC ⟨rfl, nC⟩)
              | (go_at_call 17; refine (CF.out _ _ (rA.new hA1)).mono ?_; rintro e wB ⟨rfl, nB⟩))
            go_ret
            exact ⟨rfl, ((((HN2.out.trans nA).trans hA1).trans nB).trans (nC.alloc _))⟩
    · have t1 : decide ((2500 : Int) < (s.size : Int)) = true := decide_eq_true (by omega)
      go_enter Tryz.func6, Tryz.ntmps6
      go_wp2_with (first
        | (go_at_call 13; refine (HFW.out _ ((HT.out.new hnS).new h0)).mono ?_; rintro e w1 ⟨⟨b, rfl, hb1⟩, hn1⟩; have hb3 := (hb1.2 HZ.out).trans HB.out; subst hb3; clear hb1)
        | (go_at_call 9; refine (HA.out _).mono ?_; rintro e w0 ⟨rfl, h0⟩; have k0 := (B0.new h0).cell' 0 _ rfl; have k1 := (B0.new h0).cell' 1 _ rfl))
      go_ret
      exact ⟨rfl, (hnS.trans h0).trans hn1⟩
end Go.Proofs.YtpoelhnceebmkaaGreatDoor

