/- Plain: the longest common subsequence of two lists, and its first places. No conditions. Plain: what inverting and joining build is what the reference builds. No conditions. -/
import Derived.Test.YtfeknjpinboknaaGreatDoorGA
import Derived.Test.YtfeknjpinboknaaGreatDoorGW13
import Derived.Test.YtfeknjpinboknaaGreatDoorGW3

namespace Go.Proofs.YtfeknjpinboknaaGreatDoor
open Go Go.RowKit Go.Joins
set_option linter.unusedSimpArgs false
set_option linter.unusedVariables false

section
variable {α : Type} [DecidableEq α]
def lcsX (x : α) (f : List α → Nat) : List α → Nat
  | [] => 0
  | y :: b => max (max (f (y :: b)) (lcsX x f b)) (if x = y then 1 + f b else 0)
def lcs : List α → List α → Nat
  | [], _ => 0
  | x :: a, b => lcsX x (lcs a) b
theorem lcs_nil (a : List α) : lcs a [] = 0 := by cases a <;> rfl
theorem lcs_cons (x y : α) (a b : List α) : lcs (x :: a) (y :: b) = max (max (lcs a (y :: b)) (lcs (x :: a) b)) (if x = y then 1 + lcs a b else 0) := rfl
theorem lcs_down (y : α) : ∀ a b : List α, lcs a b ≤ lcs a (y :: b)
  | [], _ => Nat.le_refl _
  | x :: a, b => by rw [lcs_cons]; omega
theorem lcs_left (x : α) (a : List α) : ∀ b : List α, lcs a b ≤ lcs (x :: a) b
  | [] => by rw [lcs_nil]; omega
  | y :: b => by rw [lcs_cons]; omega
theorem lcs_le : ∀ a b : List α, lcs a b ≤ a.length ∧ lcs a b ≤ b.length
  | [], b => by simp [lcs]
  | x :: a, [] => by rw [lcs_nil]; simp
  | x :: a, y :: b => by
    have h1 := lcs_le a (y :: b)
    have h2 := lcs_le (x :: a) b
    have h3 := lcs_le a b
    rw [lcs_cons]
    simp only [List.length_cons] at *
    split <;> omega
def firstK (x : α) (f : List α → Nat) (t : Nat) : List α → Option Nat
  | [] => none
  | y :: b => if x = y ∧ 1 + f b = t then some 0 else (firstK x f t b).map (· + 1)
def keptL : List α → List α → Nat → Nat → List (Nat × Nat)
  | [], _, _, _ => []
  | x :: a, b, i, j => match firstK x (lcs a) (lcs (x :: a) b) b with
    | some k => (i, j + k) :: keptL a (b.drop (k + 1)) (i + 1) (j + k + 1)
    | none => keptL a b (i + 1) j
theorem firstK_some {x : α} {f : List α → Nat} {t : Nat} : ∀ {b : List α} {k : Nat}, firstK x f t b = some k → b[k]? = some x ∧ 1 + f (b.drop (k + 1)) = t ∧ ∀ k' < k, b[k']? = some x → 1 + f (b.drop (k' + 1)) ≠ t
  | [], k, h => by cases h
  | y :: b, k, h => by
    rw [firstK] at h
    split at h
    · rename_i hc
      injection h with h; subst h
      exact ⟨by rw [hc.1]; rfl, hc.2, fun k' hk => by omega⟩
    · rename_i hc
      cases hb : firstK x f t b with
      | none => rw [hb] at h; cases h
      | some m =>
        rw [hb] at h
        injection h with h; subst h
        obtain ⟨h1, h2, h3⟩ := firstK_some hb
        refine ⟨h1, h2, fun k' hk hx => ?_⟩
        cases k' with
        | zero => exact fun e => hc ⟨by simpa using hx.symm, e⟩
        | succ k' => exact h3 k' (by have q : k' + 1 < m + 1 := hk; omega) hx
theorem firstK_none {x : α} {f : List α → Nat} {t : Nat} : ∀ {b : List α}, firstK x f t b = none → ∀ k : Nat, b[k]? = some x → 1 + f (b.drop (k + 1)) ≠ t
  | [], _, k, hx => by simp at hx
  | y :: b, h, k, hx => by
    rw [firstK] at h
    split at h
    · cases h
    · rename_i hc
      cases hb : firstK x f t b with
      | some m => rw [hb] at h; cases h
      | none =>
        cases k with
        | zero => exact fun e => hc ⟨by simpa using hx.symm, e⟩
        | succ k => exact firstK_none hb k hx
theorem lcs_pair (x : α) (a : List α) : ∀ (b : List α) (k : Nat), b[k]? = some x → 1 + lcs a (b.drop (k + 1)) ≤ lcs (x :: a) b
  | [], k, h => by simp at h
  | y :: b, 0, h => by
    have : y = x := by simpa using h
    rw [lcs_cons, if_pos this.symm]; simp only [List.drop_succ_cons, List.drop_zero]; omega
  | y :: b, k + 1, h => by
    have := lcs_pair x a b k h
    rw [lcs_cons]; simp only [List.drop_succ_cons]; omega
theorem lcs_skip (x : α) (a : List α) : ∀ (b : List α), lcs (x :: a) b = lcs a b ∨ ∃ k, b[k]? = some x ∧ 1 + lcs a (b.drop (k + 1)) = lcs (x :: a) b
  | [] => Or.inl (by rw [lcs_nil, lcs_nil])
  | y :: b => by
    have e := lcs_cons x y a b
    have hd := lcs_down y a b
    by_cases h1 : lcs (x :: a) (y :: b) = lcs a (y :: b)
    · exact Or.inl h1
    · by_cases h2 : lcs (x :: a) (y :: b) = lcs (x :: a) b
      · rcases lcs_skip x a b with h | ⟨k, hk, h⟩
        · have := lcs_left x a (y :: b); omega
        · exact Or.inr ⟨k + 1, hk, by rw [h2, ← h]; rfl⟩
      · by_cases hx : x = y
        · rw [if_pos hx] at e
          exact Or.inr ⟨0, by rw [hx]; rfl, by simp only [List.drop_succ_cons, List.drop_zero]; omega⟩
        · rw [if_neg hx] at e; omega
theorem kept_none {x : α} {a b : List α} (h : firstK x (lcs a) (lcs (x :: a) b) b = none) : lcs (x :: a) b = lcs a b := by
  rcases lcs_skip x a b with q | ⟨k, hk, q⟩
  · exact q
  · exact absurd q (firstK_none h k hk)
theorem kept_len : ∀ (a b : List α) (i j : Nat), (keptL a b i j).length = lcs a b
  | [], b, i, j => rfl
  | x :: a, b, i, j => by
    rw [keptL]
    cases h : firstK x (lcs a) (lcs (x :: a) b) b with
    | none => simp only; rw [kept_len a b, kept_none h]
    | some k => simp only [List.length_cons]; rw [kept_len a]; have := (firstK_some h).2.1; omega
def goodP (A B : List α) (t u v : Nat) : Prop := (∃ x, A[u]? = some x ∧ B[v]? = some x) ∧ 1 + lcs (A.drop (u + 1)) (B.drop (v + 1)) = t
theorem kept_next (A B : List α) {p : Nat × Nat} {r : List (Nat × Nat)} : ∀ (n i j : Nat), A.length - i = n → keptL (A.drop i) (B.drop j) i j = p :: r →
    i ≤ p.1 ∧ p.1 < A.length ∧ j ≤ p.2 ∧ p.2 < B.length ∧ goodP A B (r.length + 1) p.1 p.2 ∧ r = keptL (A.drop (p.1 + 1)) (B.drop (p.2 + 1)) (p.1 + 1) (p.2 + 1) ∧ (∀ u v, i ≤ u → j ≤ v → (u < p.1 ∨ u = p.1 ∧ v < p.2) → ¬ goodP A B (r.length + 1) u v)
  | 0, i, j, hn, h => by rw [List.drop_of_length_le (by omega)] at h; cases h
  | n + 1, i, j, hn, h => by
    have hi : i < A.length := by omega
    have hd : A.drop i = A[i] :: A.drop (i + 1) := List.drop_eq_getElem_cons hi
    have hl := kept_len (A.drop i) (B.drop j) i j
    rw [h, List.length_cons, hd] at hl
    rw [hd, keptL] at h
    cases hf : firstK A[i] (lcs (A.drop (i + 1))) (lcs (A[i] :: A.drop (i + 1)) (B.drop j)) (B.drop j) with
    | none =>
      rw [hf] at h
      simp only at h
      obtain ⟨h1, h2, h3, h4, h5, h6, h7⟩ := kept_next A B n (i + 1) j (by omega) h
      refine ⟨by omega, h2, h3, h4, h5, h6, fun u v hu hv ho => ?_⟩
      by_cases e : u = i
      · subst e
        rintro ⟨⟨x, hx, hy⟩, ht⟩
        rw [List.getElem?_eq_getElem hi] at hx
        injection hx with hx
        subst hx
        have := firstK_none hf (v - j) (by rw [List.getElem?_drop, Nat.add_sub_cancel' hv]; exact hy)
        rw [List.drop_drop, show j + (v - j + 1) = v + 1 by omega] at this
        omega
      · exact h7 u v (by omega) hv ho
    | some k =>
      rw [hf] at h
      simp only at h
      injection h with hp hr
      subst hp
      obtain ⟨h1, h2, h3⟩ := firstK_some hf
      rw [List.getElem?_drop] at h1
      have hk := (List.getElem?_eq_some_iff.1 h1).1
      rw [List.drop_drop] at h2
      refine ⟨Nat.le_refl _, hi, Nat.le_add_right _ _, hk, ⟨⟨A[i], List.getElem?_eq_getElem hi, h1⟩, ?_⟩, ?_, fun u v hu hv ho => ?_⟩
      · simp only; rw [show j + k + 1 = j + (k + 1) by omega, h2]; omega
      · rw [← hr, List.drop_drop]; simp only; rw [show j + k + 1 = j + (k + 1) by omega]
      · obtain ⟨rfl, hv2⟩ : u = i ∧ v < j + k := by
          simp only at ho; omega
        rintro ⟨⟨x, hx, hy⟩, ht⟩
        rw [List.getElem?_eq_getElem hi] at hx
        injection hx with hx
        subst hx
        have := h3 (v - j) (by omega) (by rw [List.getElem?_drop, Nat.add_sub_cancel' hv]; exact hy)
        rw [List.drop_drop, show j + (v - j + 1) = v + 1 by omega] at this
        omega
def tabM (A B : List α) (i j : Nat) : Nat := lcs (A.drop i) (B.drop j)
theorem tabM_end (A B : List α) {i j : Nat} (h : A.length ≤ i ∨ B.length ≤ j) : tabM A B i j = 0 := by
  unfold tabM
  rcases h with h | h
  · rw [List.drop_of_length_le h]; rfl
  · rw [List.drop_of_length_le h]; exact lcs_nil _
theorem tabM_step (A B : List α) {i j : Nat} (hi : i < A.length) (hj : j < B.length) : tabM A B i j = max (max (tabM A B (i + 1) j) (tabM A B i (j + 1))) (if A[i] = B[j] then 1 + tabM A B (i + 1) (j + 1) else 0) := by
  unfold tabM
  rw [List.drop_eq_getElem_cons hi, List.drop_eq_getElem_cons hj, lcs_cons]
theorem tabM_le (A B : List α) (i j : Nat) : tabM A B i j ≤ A.length := Nat.le_trans (lcs_le _ _).1 (by rw [List.length_drop]; omega)
theorem kept_ref (A B : List α) {i j k : Nat} (hi : i < A.length) (hj : j ≤ k) (hk : k < B.length) (hg : goodP A B (tabM A B i j) i k) (hno : ∀ v, j ≤ v → v < k → ¬ goodP A B (tabM A B i j) i v) :
    keptL (A.drop i) (B.drop j) i j = (i, k) :: keptL (A.drop (i + 1)) (B.drop (k + 1)) (i + 1) (k + 1) := by
  have hd : A.drop i = A[i] :: A.drop (i + 1) := List.drop_eq_getElem_cons hi
  have ht : lcs (A[i] :: A.drop (i + 1)) (B.drop j) = tabM A B i j := by rw [tabM, hd]
  rw [hd, keptL, ht]
  have hex : ∀ v, j ≤ v → goodP A B (tabM A B i j) i v → (B.drop j)[v - j]? = some A[i] ∧ 1 + lcs (A.drop (i + 1)) ((B.drop j).drop (v - j + 1)) = tabM A B i j := by
    rintro v hv ⟨⟨x, hx, hy⟩, h2⟩
    rw [List.getElem?_eq_getElem hi] at hx
    injection hx with hx
    rw [List.getElem?_drop, List.drop_drop, show j + (v - j) = v by omega, show j + (v - j + 1) = v + 1 by omega]
    exact ⟨by rw [hy, hx], h2⟩
  cases hf : firstK A[i] (lcs (A.drop (i + 1))) (tabM A B i j) (B.drop j) with
  | none =>
    obtain ⟨h1, h2⟩ := hex k hj hg
    exact absurd h2 (firstK_none hf _ h1)
  | some m =>
    obtain ⟨h1, h2, h3⟩ := firstK_some hf
    obtain ⟨g1, g2⟩ := hex k hj hg
    have hm : j + m = k := by
      rcases Nat.lt_trichotomy (j + m) k with q | q | q
      · refine absurd ⟨⟨A[i], List.getElem?_eq_getElem hi, ?_⟩, ?_⟩ (hno (j + m) (by omega) q)
        · rw [List.getElem?_drop] at h1; exact h1
        · rw [List.drop_drop] at h2; exact h2
      · exact q
      · exact absurd g2 (h3 (k - j) (by omega) g1)
    subst hm
    simp only [List.drop_drop]
    rfl
theorem kept_ref_no (A B : List α) {i j : Nat} (hi : i < A.length) (hno : ∀ v, j ≤ v → v < B.length → ¬ goodP A B (tabM A B i j) i v) :
    keptL (A.drop i) (B.drop j) i j = keptL (A.drop (i + 1)) (B.drop j) (i + 1) j ∧ tabM A B (i + 1) j = tabM A B i j := by
  have hd : A.drop i = A[i] :: A.drop (i + 1) := List.drop_eq_getElem_cons hi
  have ht : lcs (A[i] :: A.drop (i + 1)) (B.drop j) = tabM A B i j := by rw [tabM, hd]
  cases hf : firstK A[i] (lcs (A.drop (i + 1))) (lcs (A[i] :: A.drop (i + 1)) (B.drop j)) (B.drop j) with
  | some m =>
    obtain ⟨h1, h2, _⟩ := firstK_some hf
    rw [List.getElem?_drop] at h1
    rw [List.drop_drop, ht] at h2
    exact absurd ⟨⟨A[i], List.getElem?_eq_getElem hi, h1⟩, h2⟩ (hno (j + m) (by omega) (List.getElem?_eq_some_iff.1 h1).1)
  | none =>
    refine ⟨?_, ?_⟩
    · rw [hd, keptL, hf]
    · rw [← ht, kept_none hf]; rfl
theorem good_iff (A B : List α) {i j k : Nat} (hi : i < A.length) (hj : j ≤ k) (hk : k < B.length) : goodP A B (tabM A B i j) i k ↔ A[i] = B[k] ∧ ¬ tabM A B (i + 1) (k + 1) + 1 < tabM A B i j := by
  have hd : A.drop i = A[i] :: A.drop (i + 1) := List.drop_eq_getElem_cons hi
  have hp := lcs_pair A[i] (A.drop (i + 1)) (B.drop j) (k - j)
  rw [List.getElem?_drop, List.drop_drop, show j + (k - j) = k by omega, show j + (k - j + 1) = k + 1 by omega, ← hd, List.getElem?_eq_getElem hk] at hp
  unfold goodP tabM
  constructor
  · rintro ⟨⟨x, hx, hy⟩, h2⟩
    rw [List.getElem?_eq_getElem hi] at hx
    rw [List.getElem?_eq_getElem hk] at hy
    injection hx with hx
    injection hy with hy
    exact ⟨hx.trans hy.symm, by omega⟩
  · rintro ⟨h1, h2⟩
    have := hp (by rw [h1])
    exact ⟨⟨A[i], List.getElem?_eq_getElem hi, by rw [List.getElem?_eq_getElem hk, h1]⟩, by omega⟩
theorem goodP_iff (A B : List α) {t i k : Nat} (hi : i < A.length) (hk : k < B.length) : goodP A B t i k ↔ A[i] = B[k] ∧ 1 + tabM A B (i + 1) (k + 1) = t := by
  unfold goodP tabM
  rw [List.getElem?_eq_getElem hi, List.getElem?_eq_getElem hk]
  constructor
  · rintro ⟨⟨x, hx, hy⟩, h2⟩
    injection hx with hx
    injection hy with hy
    exact ⟨hx.trans hy.symm, h2⟩
  · rintro ⟨h1, h2⟩
    exact ⟨⟨A[i], rfl, by rw [h1]⟩, h2⟩
end
end Go.Proofs.YtfeknjpinboknaaGreatDoor

namespace Go.Proofs.YtfeknjpinboknaaGreatDoor
open Go Go.RowKit Go.Joins
set_option linter.unusedSimpArgs false
set_option linter.unusedVariables false

def pairsFrom (j : Nat) : List (Int × Int) → List (Nat × Nat)
  | [] => []
  | p :: r => if 0 ≤ p.1 then (j, p.1.toNat) :: pairsFrom (j + 1) r else pairsFrom (j + 1) r
theorem pairs_app : ∀ (a b : List (Int × Int)) (j : Nat), pairsFrom j (a ++ b) = pairsFrom j a ++ pairsFrom (j + a.length) b
  | [], b, j => rfl
  | p :: a, b, j => by
    rw [List.cons_append, pairsFrom, pairsFrom, pairs_app a b (j + 1), List.length_cons, show j + (a.length + 1) = j + 1 + a.length by omega]
    split <;> rfl
def diag (u v n : Nat) : List (Nat × Nat) := (List.range n).map fun i => (u + i, v + i)
theorem diag_succ (u v n : Nat) : diag u v (n + 1) = diag u v n ++ [(u + n, v + n)] := by rw [diag, List.range_succ, List.map_append]; rfl
theorem pairs_pl1 (j o : Nat) : ∀ n, pairsFrom j (pl1 o n) = diag j o n
  | 0 => rfl
  | n + 1 => by
    rw [pl1_succ, pairs_app, pairs_pl1 j o n, diag_succ, pl1_len, pairsFrom, if_pos (by simp only; omega)]
    have : ((o : Int) + (n : Int)).toNat = o + n := by omega
    simp [pairsFrom, this]
theorem pairs_pl3 (j o : Nat) : ∀ n, pairsFrom j (pl3 o n) = []
  | 0 => rfl
  | n + 1 => by
    rw [pl3_succ, pairs_app, pairs_pl3 j o n, pairsFrom, if_neg (by simp only; omega)]
    simp [pairsFrom]
theorem emit_same (nw : List ByteArray) (l : List Hk) (o t : Nat) : emit nw l o t o t = l := by
  simp [emit, dropH, addH]
theorem ofL_diag (nw : List ByteArray) (st : List Hk × Nat × Nat) (u v : Nat) : ∀ n : Nat, (diag u v (n + 1)).foldl (ofS nw) st = (bump (emit nw st.1 st.2.1 st.2.2 u v) ((n + 1 : Nat) : Int).toNat, u + (n + 1), v + (n + 1))
  | 0 => rfl
  | n + 1 => by
    rw [diag_succ, List.foldl_append, ofL_diag nw st u v n, List.foldl_cons, List.foldl_nil, ofS]
    simp only [emit_same, Int.toNat_natCast]
    rw [bump_add _ _ (by omega)]
    rfl
def invS (old : List ByteArray) (st : Bs × Nat) (h : Hk) : Bs × Nat :=
  if h.kind = 1 then (st.1.keep h.n.toNat, st.2 + h.n.toNat) else if h.kind = 2 then (⟨st.1.l, st.1.d, st.1.a ++ (old.drop st.2).take h.n.toNat⟩, st.2 + h.n.toNat) else (⟨st.1.l, st.1.d + h.n.toNat, st.1.a⟩, st.2)
def invO (old : List ByteArray) (l : List Hk) : Bs × Nat := l.foldl (invS old) (⟨[], 0, []⟩, 0)
theorem invO_snoc (old : List ByteArray) (l : List Hk) (h : Hk) : invO old (l ++ [h]) = invS old (invO old l) h := by rw [invO, List.foldl_append]; rfl
theorem take_more (old : List ByteArray) (t a n : Nat) (h : t ≤ a) : (old.drop t).take (a - t) ++ (old.drop a).take n = (old.drop t).take (a + n - t) := by
  rw [show a + n - t = (a - t) + n by omega, List.take_add, List.drop_drop, show t + (a - t) = a by omega]
theorem inv_of (base : ByteArray) (old : List ByteArray) : ∀ l : List Hk, (∀ h ∈ l, OkH h) →
    (invO old l).1.l = (ofL old (pairsFrom 0 (trO base l).1)).1 ∧ (ofL old (pairsFrom 0 (trO base l).1)).2.1 + (invO old l).1.d = (trO base l).1.length ∧ (invO old l).1.a = (old.drop (ofL old (pairsFrom 0 (trO base l).1)).2.2).take ((invO old l).2 - (ofL old (pairsFrom 0 (trO base l).1)).2.2) ∧ (ofL old (pairsFrom 0 (trO base l).1)).2.2 ≤ (invO old l).2 ∧ (invO old l).2 = (appO old l).2 := by
  intro l
  induction l using snoc_ind with
  | h0 => intro _; exact ⟨rfl, rfl, rfl, Nat.le_refl _, rfl⟩
  | h1 l h ih =>
    intro ho
    have ho1 : ∀ x ∈ l, OkH x := fun x hx => ho x (List.mem_append_left _ hx)
    have h2 := ho h (by simp)
    have hn := h2.n1
    obtain ⟨i1, i2, i3, i4, i5⟩ := ih ho1
    have hol := tr_old base old l ho1
    rw [invO_snoc, trO_snoc, appO_snoc, invS, trS, appS]
    generalize hB : invO old l = st at *
    generalize hT : trO base l = tt at *
    generalize hA : appO old l = aa at *
    obtain ⟨⟨bl, bd, ba⟩, at0⟩ := st
    obtain ⟨P, o, t⟩ := tt
    obtain ⟨os, ap⟩ := aa
    simp only at *
    subst i5
    by_cases k1 : h.kind = 1
    · have k3 : ¬ h.kind = 3 := by omega
      rw [if_pos k1, if_neg k3, if_pos k1, if_pos k1]
      obtain ⟨n, hn1⟩ : ∃ n, h.n.toNat = n + 1 := ⟨h.n.toNat - 1, by omega⟩
      have hol2 : o = at0 := hol
      subst hol2
      simp only [hn1]
      rw [pairs_app, Nat.zero_add, pairs_pl1]
      rw [show ofL old (pairsFrom 0 P ++ diag P.length o (n + 1)) = (diag P.length o (n + 1)).foldl (ofS old) (ofL old (pairsFrom 0 P)) from List.foldl_append, ofL_diag]
      simp only [Int.toNat_natCast, List.length_append, pl1_len]
      refine ⟨?_, ?_, ?_, Nat.le_refl _, trivial⟩
      · rw [Bs.keep, if_neg (by omega)]
        simp only [Bs.flush, emit]
        rw [i1, i3, show P.length - (ofL old (pairsFrom 0 P)).2.1 = bd by omega]
      · rw [Bs.keep, if_neg (by omega)]; rfl
      · rw [Bs.keep, if_neg (by omega), Nat.sub_self]; rfl
    · by_cases k2 : h.kind = 2
      · have k3 : ¬ h.kind = 3 := by omega
        rw [if_neg k1, if_neg k3, if_neg k1, if_neg k1, if_pos k2, if_pos k2]
        exact ⟨i1, i2, by simp only; rw [i3]; exact take_more _ _ _ _ i4, by simp only; omega, rfl⟩
      · have k3 : h.kind = 3 := by have := h2.k1; have := h2.k3; omega
        rw [if_neg k1, if_pos k3, if_neg k1, if_neg k2, if_neg k2]
        simp only
        rw [pairs_app, pairs_pl3, List.append_nil, List.length_append, pl3_len]
        exact ⟨i1, by omega, i3, i4, trivial⟩
theorem inv_V (base : ByteArray) (old : List ByteArray) (l : List Hk) (ho : ∀ h ∈ l, OkH h) (hc : cnt 1 l + cnt 2 l = old.length) : (invO old l).1.flush.l = ofV old (trO base l).1.length (pairsFrom 0 (trO base l).1) := by
  obtain ⟨i1, i2, i3, i4, i5⟩ := inv_of base old l ho
  have h1 := appO_at old l ho
  have e : (invO old l).2 = old.length := by omega
  rw [e] at i3
  rw [ofV, emit, Bs.flush, i1, i3, show (trO base l).1.length - (ofL old (pairsFrom 0 (trO base l).1)).2.1 = (invO old l).1.d by omega]
def thenS (out : List ByteArray) (st : Bs × Nat × Nat) (f : Option Nat) : Bs × Nat × Nat := match f with
  | none => (⟨st.1.l, st.1.d, st.1.a ++ (out.drop st.2.2).take 1⟩, st.2.1, st.2.2 + 1)
  | some o => (Bs.keep ⟨st.1.l, st.1.d + (o - st.2.1), st.1.a⟩ 1, o + 1, st.2.2 + 1)
def thenO (out : List ByteArray) (fs : List (Option Nat)) : Bs × Nat × Nat := fs.foldl (thenS out) (⟨[], 0, []⟩, 0, 0)
theorem thenO_snoc (out : List ByteArray) (fs : List (Option Nat)) (f : Option Nat) : thenO out (fs ++ [f]) = thenS out (thenO out fs) f := by rw [thenO, List.foldl_append]; rfl
def fpairs (j : Nat) : List (Option Nat) → List (Nat × Nat)
  | [] => []
  | none :: r => fpairs (j + 1) r
  | some o :: r => (o, j) :: fpairs (j + 1) r
theorem fpairs_app : ∀ (a b : List (Option Nat)) (j : Nat), fpairs j (a ++ b) = fpairs j a ++ fpairs (j + a.length) b
  | [], b, j => rfl
  | none :: a, b, j => by rw [List.cons_append, fpairs, fpairs, fpairs_app a b (j + 1), List.length_cons, show j + (a.length + 1) = j + 1 + a.length by omega]
  | some o :: a, b, j => by rw [List.cons_append, fpairs, fpairs, fpairs_app a b (j + 1), List.length_cons, show j + (a.length + 1) = j + 1 + a.length by omega]; rfl
theorem then_of (out : List ByteArray) : ∀ fs : List (Option Nat),
    (thenO out fs).1.l = (ofL out (fpairs 0 fs)).1 ∧ (thenO out fs).1.d = 0 ∧ (thenO out fs).1.a = (out.drop (ofL out (fpairs 0 fs)).2.2).take (fs.length - (ofL out (fpairs 0 fs)).2.2) ∧ (ofL out (fpairs 0 fs)).2.2 ≤ fs.length ∧ (thenO out fs).2.1 = (ofL out (fpairs 0 fs)).2.1 ∧ (thenO out fs).2.2 = fs.length := by
  intro fs
  induction fs using snoc_ind with
  | h0 => exact ⟨rfl, rfl, rfl, Nat.le_refl _, rfl, rfl⟩
  | h1 fs f ih =>
    obtain ⟨i1, i2, i3, i4, i5, i6⟩ := ih
    rw [thenO_snoc, fpairs_app, List.length_append]
    cases f with
    | none =>
      simp only [thenS, fpairs, List.append_nil, List.length_singleton]
      exact ⟨i1, i2, by rw [i3, i6]; exact take_more _ _ _ _ i4, by omega, i5, by rw [i6]⟩
    | some o =>
      simp only [thenS, fpairs, List.length_singleton, Nat.zero_add]
      rw [ofL_snoc, ofS]
      refine ⟨?_, rfl, ?_, Nat.le_refl _, rfl, by rw [i6]⟩
      · rw [i2, Nat.zero_add, i3, i5, i1]; exact step_keep _ _ _ _ _ _
      · simp only [Nat.sub_self, List.take_zero]; rfl
theorem then_V (out : List ByteArray) (fs : List (Option Nat)) (m : Nat) (hl : fs.length = out.length) : (Bs.flush ⟨(thenO out fs).1.l, (thenO out fs).1.d + (m - (thenO out fs).2.1), (thenO out fs).1.a⟩).l = ofV out m (fpairs 0 fs) := by
  obtain ⟨i1, i2, i3, i4, i5, i6⟩ := then_of out fs
  rw [Bs.flush, ofV, emit, i1, i2, i3, i5, hl, Nat.zero_add]
def makeS (b : List ByteArray) (st : Bs × Nat × Nat) (p : Nat × Nat) : Bs × Nat × Nat := (Bs.keep ⟨st.1.l, st.1.d + (p.1 - st.2.1), st.1.a ++ (b.drop st.2.2).take (p.2 - st.2.2)⟩ 1, p.1 + 1, p.2 + 1)
def makeO (b : List ByteArray) (ps : List (Nat × Nat)) : Bs × Nat × Nat := ps.foldl (makeS b) (⟨[], 0, []⟩, 0, 0)
theorem makeO_snoc (b : List ByteArray) (ps : List (Nat × Nat)) (p : Nat × Nat) : makeO b (ps ++ [p]) = makeS b (makeO b ps) p := by rw [makeO, List.foldl_append]; rfl
theorem make_of (b : List ByteArray) : ∀ ps : List (Nat × Nat), makeO b ps = (⟨(ofL b ps).1, 0, []⟩, (ofL b ps).2.1, (ofL b ps).2.2) := by
  intro ps
  induction ps using snoc_ind with
  | h0 => rfl
  | h1 ps p ih =>
    rw [makeO_snoc, ih, ofL_snoc, makeS, ofS]
    simp only [Nat.zero_add, List.nil_append]
    rw [← step_keep, Bs.keep, if_neg (by decide)]
theorem make_V (b : List ByteArray) (ps : List (Nat × Nat)) (m : Nat) : (Bs.flush ⟨(makeO b ps).1.l, (makeO b ps).1.d + (m - (makeO b ps).2.1), (makeO b ps).1.a ++ (b.drop (makeO b ps).2.2).take (b.length - (makeO b ps).2.2)⟩).l = ofV b m ps := by
  rw [make_of, ofV, emit, Bs.flush]
  simp only [Nat.zero_add, List.nil_append]
end Go.Proofs.YtfeknjpinboknaaGreatDoor

