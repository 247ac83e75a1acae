/- Plain: which old line stands where, by a patch; rising pairs; what Of builds leads from the old text to the new one. No conditions. Plain: a valid patch is what Of builds of its pairs; inverting twice; joining; the longest common subsequence is the best. No conditions. Plain: the shortest patch between two short texts is a valid one. No conditions. -/
import Derived.Test.YtfeknjpinboknaaGreatDoorGW16
import Derived.Test.YtfeknjpinboknaaGreatDoorGM

namespace Go.Proofs.YtfeknjpinboknaaGreatDoor
open Go Go.RowKit Go.Joins
set_option linter.unusedSimpArgs false
set_option linter.unusedVariables false

/-! ### old lines in the result -/
def olds (t : List (Int × Int)) : List (Option Nat) := t.map fun p => if 0 ≤ p.1 then some p.1.toNat else none
theorem fpairs_olds : ∀ (t : List (Int × Int)) (j : Nat), fpairs j (olds t) = (pairsFrom j t).map Prod.swap
  | [], _ => rfl
  | p :: t, j => by
    have ih := fpairs_olds t (j + 1)
    rw [olds] at ih
    rw [olds, List.map_cons, pairsFrom]
    by_cases h : 0 ≤ p.1
    · rw [if_pos h, if_pos h, fpairs, List.map_cons, ih]; rfl
    · rw [if_neg h, if_neg h, fpairs, ih]
def oldS (st : List (Option Nat) × Nat) (h : Hk) : List (Option Nat) × Nat :=
  if h.kind = 3 then (st.1 ++ List.replicate h.n.toNat none, st.2)
  else if h.kind = 1 then (st.1 ++ (List.range h.n.toNat).map (fun i => some (st.2 + i)), st.2 + h.n.toNat)
  else (st.1, st.2 + h.n.toNat)
def oldO (l : List Hk) : List (Option Nat) × Nat := l.foldl oldS ([], 0)
theorem oldO_snoc (l : List Hk) (h : Hk) : oldO (l ++ [h]) = oldS (oldO l) h := by rw [oldO, List.foldl_append]; rfl
theorem oldO_app (l r : List Hk) : oldO (l ++ r) = r.foldl oldS (oldO l) := by rw [oldO, List.foldl_append]; rfl
theorem olds_pl3 (t n : Nat) : olds (pl3 t n) = List.replicate n none := by
  rw [olds, pl3, List.map_map]
  apply List.ext_getElem
  · simp
  · intro i h1 h2
    simp
theorem olds_pl1 (o n : Nat) : olds (pl1 o n) = (List.range n).map (fun i => some (o + i)) := by
  rw [olds, pl1, List.map_map]
  refine List.map_congr_left fun i _ => ?_
  simp only [Function.comp]
  rw [if_pos (by omega), Int.toNat_natCast]
theorem olds_app (a b : List (Int × Int)) : olds (a ++ b) = olds a ++ olds b := List.map_append
theorem olds_tr (base : ByteArray) : ∀ l : List Hk, oldO l = (olds (trO base l).1, (trO base l).2.1) := by
  intro l
  induction l using snoc_ind with
  | h0 => rfl
  | h1 l h ih =>
    rw [oldO_snoc, trO_snoc, ih, oldS, trS]
    by_cases k3 : h.kind = 3
    · rw [if_pos k3, if_pos k3, olds_app, olds_pl3]
    · rw [if_neg k3, if_neg k3]
      by_cases k1 : h.kind = 1
      · rw [if_pos k1, if_pos k1, olds_app, olds_pl1]
      · rw [if_neg k1, if_neg k1]

/-! ### rising -/
def UpF (m : Nat) : Nat → List (Option Nat) → Prop
  | _, [] => True
  | i, none :: r => UpF m i r
  | i, some a :: r => i ≤ a ∧ a < m ∧ UpF m (a + 1) r
theorem UpF.weak {m : Nat} : ∀ {xs : List (Option Nat)} {i i' : Nat}, i' ≤ i → UpF m i xs → UpF m i' xs
  | [], _, _, _, _ => trivial
  | none :: r, i, i', h, hu => UpF.weak (xs := r) h hu
  | some a :: r, i, i', h, hu => ⟨Nat.le_trans h hu.1, hu.2⟩
theorem UpF.tail {m : Nat} : ∀ {xs : List (Option Nat)} {i : Nat}, UpF m i xs → UpF m i xs.tail
  | [], _, _ => trivial
  | none :: r, _, hu => hu
  | some a :: r, i, hu => UpF.weak (by have := hu.1; omega) hu.2.2
theorem UpF.drop {m : Nat} : ∀ (k : Nat) {xs : List (Option Nat)} {i : Nat}, UpF m i xs → UpF m i (xs.drop k)
  | 0, _, _, hu => hu
  | k + 1, [], _, _ => trivial
  | k + 1, x :: r, i, hu => UpF.drop k (xs := r) hu.tail
theorem UpF.app {m o : Nat} {ys : List (Option Nat)} (hy : UpF m o ys) (hom : o ≤ m) : ∀ {xs : List (Option Nat)} {i : Nat}, i ≤ o → UpF o i xs → UpF m i (xs ++ ys)
  | [], _, h, _ => UpF.weak h hy
  | none :: r, i, h, hu => UpF.app hy hom (xs := r) h hu
  | some a :: r, i, h, hu => ⟨hu.1, by have := hu.2.1; omega, UpF.app hy hom (xs := r) (by have := hu.2.1; omega) hu.2.2⟩
theorem UpF.nones {m i : Nat} : ∀ n, UpF m i (List.replicate n none)
  | 0 => trivial
  | n + 1 => UpF.nones n
theorem UpF.range {o : Nat} : ∀ (n : Nat), UpF (o + n) o ((List.range n).map fun i => some (o + i)) := by
  have key : ∀ (n o i : Nat), UpF (o + i + n) (o + i) ((List.range' i n).map fun i => some (o + i)) := by
    intro n
    induction n with
    | zero => intro o i; exact trivial
    | succ n ih =>
      intro o i
      rw [List.range'_succ, List.map_cons]
      refine ⟨Nat.le_refl _, by omega, ?_⟩
      have := ih o (i + 1)
      rw [show o + (i + 1) + n = o + i + (n + 1) by omega, show o + (i + 1) = o + i + 1 by omega] at this
      exact this
  intro n
  have := key n o 0
  rw [Nat.add_zero] at this
  rw [List.range_eq_range']
  exact this
theorem UpF.mono {m m' : Nat} (h : m ≤ m') : ∀ {xs : List (Option Nat)} {i : Nat}, UpF m i xs → UpF m' i xs
  | [], _, _ => trivial
  | none :: r, i, hu => UpF.mono h (xs := r) hu
  | some a :: r, i, hu => ⟨hu.1, by have := hu.2.1; omega, UpF.mono h hu.2.2⟩
theorem old_up : ∀ l : List Hk, UpF (oldO l).2 0 (oldO l).1 := by
  intro l
  induction l using snoc_ind with
  | h0 => trivial
  | h1 l h ih =>
    rw [oldO_snoc, oldS]
    by_cases k3 : h.kind = 3
    · rw [if_pos k3]; exact UpF.app (UpF.nones _) (Nat.le_refl _) (Nat.zero_le _) ih
    · rw [if_neg k3]
      by_cases k1 : h.kind = 1
      · rw [if_pos k1]; exact UpF.app (UpF.range _) (Nat.le_add_right _ _) (Nat.zero_le _) ih
      · rw [if_neg k1]; exact UpF.mono (Nat.le_add_right _ _) ih
def Mt (xs : List (Option Nat)) (old new : List ByteArray) : Prop := ∀ (j a : Nat), xs[j]? = some (some a) → new[j]? = old[a]?
theorem old_mt (old : List ByteArray) : ∀ l : List Hk, (∀ h ∈ l, OkH h) → cnt 1 l + cnt 2 l ≤ old.length → (oldO l).2 = (appO old l).2 ∧ (oldO l).1.length = (appO old l).1.length ∧ Mt (oldO l).1 old (appO old l).1 := by
  intro l
  induction l using snoc_ind with
  | h0 => intro _ _; exact ⟨rfl, rfl, fun j a h => by simp [oldO] at h⟩
  | h1 l h ih =>
    intro ho hle
    have ho1 : ∀ x ∈ l, OkH x := fun x hx => ho x (List.mem_append_left _ hx)
    have h2 := ho h (by simp)
    have hn := h2.n1
    have e1 : cnt 1 (l ++ [h]) = cnt 1 l + (if h.kind = 1 then h.n else 0) := by rw [cnt_app]; simp [cnt]
    have e2 : cnt 2 (l ++ [h]) = cnt 2 l + (if h.kind = 2 then h.n else 0) := by rw [cnt_app]; simp [cnt]
    rw [e1, e2] at hle
    have hat := appO_at old l ho1
    obtain ⟨i1, i2, i3⟩ := ih ho1 (by split at hle <;> split at hle <;> omega)
    rw [oldO_snoc, appO_snoc, oldS, appS]
    generalize oldO l = q at *
    generalize appO old l = r at *
    obtain ⟨xs, o⟩ := q
    obtain ⟨os, o'⟩ := r
    simp only at i1 i2 i3 hat
    subst i1
    by_cases k3 : h.kind = 3
    · have h3 := h2.l3 k3
      rw [if_pos k3, if_neg (by omega), if_neg (by omega)]
      refine ⟨rfl, by simp only [List.length_append, List.length_replicate, i2]; omega, fun j a hj => ?_⟩
      simp only at hj ⊢
      by_cases hlt : j < xs.length
      · rw [List.getElem?_append_left hlt] at hj
        rw [List.getElem?_append_left (by omega)]
        exact i3 j a hj
      · rw [List.getElem?_append_right (by omega), List.getElem?_replicate] at hj
        split at hj <;> cases hj
    · rw [if_neg k3]
      by_cases k1 : h.kind = 1
      · have k2 : ¬ h.kind = 2 := by omega
        rw [if_pos k1, if_neg k2] at hle
        rw [if_pos k1, if_pos k1]
        refine ⟨rfl, by simp only [List.length_append, List.length_map, List.length_range, List.length_take, List.length_drop, i2]; omega, fun j a hj => ?_⟩
        simp only at hj ⊢
        by_cases hlt : j < xs.length
        · rw [List.getElem?_append_left hlt] at hj
          rw [List.getElem?_append_left (by omega)]
          exact i3 j a hj
        · rw [List.getElem?_append_right (by omega), List.getElem?_map] at hj
          cases hr : (List.range h.n.toNat)[j - xs.length]? with
          | none => rw [hr] at hj; cases hj
          | some v =>
            rw [hr] at hj
            obtain ⟨hv, hv2⟩ := List.getElem?_eq_some_iff.1 hr
            rw [List.getElem_range] at hv2
            rw [List.length_range] at hv
            injection hj with hj
            injection hj with hj
            rw [List.getElem?_append_right (by omega), List.getElem?_take, if_pos (by omega), List.getElem?_drop, ← hj, ← hv2, i2]
      · have k2 : h.kind = 2 := by have := h2.k1; have := h2.k3; omega
        rw [if_neg k1, if_neg k1, if_pos k2]
        exact ⟨rfl, i2, i3⟩
theorem old_cnt : ∀ l : List Hk, (∀ h ∈ l, OkH h) → ((fpairs 0 (oldO l).1).length : Int) = cnt 1 l ∧ ((oldO l).1.length : Int) = cnt 1 l + cnt 3 l ∧ ((oldO l).2 : Int) = cnt 1 l + cnt 2 l := by
  have key : ∀ (n k : Nat), fpairs k (List.replicate n none) = [] := by
    intro n
    induction n with
    | zero => intro k; rfl
    | succ n ih => intro k; rw [List.replicate_succ, fpairs, ih]
  have key2 : ∀ (n i k o : Nat), (fpairs k ((List.range' i n).map fun i => some (o + i))).length = n := by
    intro n
    induction n with
    | zero => intro i k o; rfl
    | succ n ih => intro i k o; rw [List.range'_succ, List.map_cons, fpairs, List.length_cons, ih]
  intro l
  induction l using snoc_ind with
  | h0 => intro _; exact ⟨rfl, rfl, rfl⟩
  | h1 l h ih =>
    intro ho
    have ho1 : ∀ x ∈ l, OkH x := fun x hx => ho x (List.mem_append_left _ hx)
    have h2 := ho h (by simp)
    have hn := h2.n1
    have hk1 := h2.k1
    have hk3 := h2.k3
    have e1 : cnt 1 (l ++ [h]) = cnt 1 l + (if h.kind = 1 then h.n else 0) := by rw [cnt_app]; simp [cnt]
    have e2 : cnt 2 (l ++ [h]) = cnt 2 l + (if h.kind = 2 then h.n else 0) := by rw [cnt_app]; simp [cnt]
    have e3 : cnt 3 (l ++ [h]) = cnt 3 l + (if h.kind = 3 then h.n else 0) := by rw [cnt_app]; simp [cnt]
    obtain ⟨i1, i2, i3⟩ := ih ho1
    rw [e1, e2, e3, oldO_snoc, oldS]
    by_cases k3 : h.kind = 3
    · rw [if_pos k3, if_pos k3, if_neg (by omega), if_neg (by omega)]
      simp only
      rw [fpairs_app, key, List.append_nil, List.length_append, List.length_replicate]
      omega
    · rw [if_neg k3, if_neg k3]
      by_cases k1 : h.kind = 1
      · rw [if_pos k1, if_pos k1, if_neg (by omega)]
        simp only
        rw [fpairs_app, List.length_append, List.length_append, List.range_eq_range', key2, List.length_map, List.length_range']
        omega
      · rw [if_neg k1, if_neg k1, if_pos (by omega)]
        simp only
        omega

/-! ### pairs that rise -/
def Rise (m n : Nat) : Nat → Nat → List (Nat × Nat) → Prop
  | _, _, [] => True
  | i, j, p :: r => i ≤ p.1 ∧ j ≤ p.2 ∧ p.1 < m ∧ p.2 < n ∧ Rise m n (p.1 + 1) (p.2 + 1) r
theorem Rise.weak {m n : Nat} : ∀ {ps : List (Nat × Nat)} {i j i' j' : Nat}, i' ≤ i → j' ≤ j → Rise m n i j ps → Rise m n i' j' ps
  | [], _, _, _, _, _, _, _ => trivial
  | p :: r, i, j, i', j', h1, h2, h => ⟨Nat.le_trans h1 h.1, Nat.le_trans h2 h.2.1, h.2.2⟩
theorem rise_up {m : Nat} : ∀ {xs : List (Option Nat)} {i : Nat} (k : Nat), UpF m i xs → Rise m (k + xs.length) i k (fpairs k xs)
  | [], _, _, _ => trivial
  | none :: r, i, k, h => by
    have := rise_up (xs := r) (k + 1) h
    rw [fpairs, List.length_cons, show k + (r.length + 1) = k + 1 + r.length by omega]
    exact Rise.weak (Nat.le_refl _) (by omega) this
  | some a :: r, i, k, h => by
    have := rise_up (xs := r) (k + 1) h.2.2
    rw [fpairs, List.length_cons, show k + (r.length + 1) = k + 1 + r.length by omega]
    exact ⟨h.1, Nat.le_refl _, h.2.1, by simp only; omega, this⟩
theorem fpairs_mem : ∀ {xs : List (Option Nat)} {k : Nat} {p : Nat × Nat}, p ∈ fpairs k xs → k ≤ p.2 ∧ xs[p.2 - k]? = some (some p.1)
  | [], _, _, h => by cases h
  | none :: r, k, p, h => by
    obtain ⟨h1, h2⟩ := fpairs_mem (xs := r) h
    refine ⟨by omega, ?_⟩
    rw [show p.2 - k = (p.2 - (k + 1)) + 1 by omega]; exact h2
  | some a :: r, k, p, h => by
    rw [fpairs] at h
    rcases List.mem_cons.1 h with rfl | h
    · exact ⟨Nat.le_refl _, by simp⟩
    · obtain ⟨h1, h2⟩ := fpairs_mem (xs := r) h
      refine ⟨by omega, ?_⟩
      rw [show p.2 - k = (p.2 - (k + 1)) + 1 by omega]; exact h2
theorem swap_rise {m n : Nat} : ∀ {ps : List (Nat × Nat)} {i j : Nat}, Rise m n i j ps → Rise n m j i (ps.map Prod.swap)
  | [], _, _, _ => trivial
  | p :: r, i, j, h => ⟨h.2.1, h.1, h.2.2.2.1, h.2.2.1, swap_rise h.2.2.2.2⟩

/-! ### what Of builds -/
structure OkN (h : Hk) : Prop where
  k1 : 1 ≤ h.kind
  k3 : h.kind ≤ 3
  n1 : 1 ≤ h.n
  l3 : h.kind = 3 → (h.lines.length : Int) = h.n
  l0 : h.kind ≠ 3 → h.lines = []
structure OfI (old nw : List ByteArray) (l : List Hk) (o t : Nat) (ps : List (Nat × Nat)) : Prop where
  app : appO old l = (nw.take t, o)
  old : (oldO l).2 = o
  len : (oldO l).1.length = t
  prs : fpairs 0 (oldO l).1 = ps
  c1 : cnt 1 l = (ps.length : Int)
  c2 : cnt 1 l + cnt 2 l = (o : Int)
  c3 : cnt 1 l + cnt 3 l = (t : Int)
  ok : ∀ h ∈ l, OkN h
  tn : t ≤ nw.length
theorem appO_app (old : List ByteArray) (l r : List Hk) : appO old (l ++ r) = r.foldl (appS old) (appO old l) := by rw [appO, List.foldl_append]; rfl
theorem fpairs_nones : ∀ (n k : Nat), fpairs k (List.replicate n none) = []
  | 0, _ => rfl
  | n + 1, k => by rw [List.replicate_succ, fpairs, fpairs_nones n]
theorem OfI.emit {old nw : List ByteArray} {l : List Hk} {o t i j : Nat} {ps : List (Nat × Nat)} (h : OfI old nw l o t ps) (hi : o ≤ i) (hj : t ≤ j) (hn : j ≤ nw.length) : OfI old nw (emit nw l o t i j) i j ps := by
  have hd : OfI old nw (l ++ dropH (i - o)) i t ps := by
    unfold dropH
    by_cases e : i - o = 0
    · rw [if_pos e, List.append_nil]
      obtain rfl : o = i := by omega
      exact h
    · rw [if_neg e]
      have e1 : ((i - o : Nat) : Int).toNat = i - o := Int.toNat_natCast _
      refine ⟨?_, ?_, ?_, ?_, ?_, ?_, ?_, ?_, h.tn⟩
      · rw [appO_snoc, h.app, appS, if_neg (by simp), if_pos rfl]; simp only [e1]; rw [show o + (i - o) = i by omega]
      · rw [oldO_snoc, oldS, if_neg (by simp), if_neg (by simp), h.old]; simp only [e1]; omega
      · rw [oldO_snoc, oldS, if_neg (by simp), if_neg (by simp)]; exact h.len
      · rw [oldO_snoc, oldS, if_neg (by simp), if_neg (by simp)]; exact h.prs
      · rw [cnt_app]; simp [cnt]; exact h.c1
      · rw [cnt_app, cnt_app]; have := h.c2; simp [cnt]; omega
      · rw [cnt_app, cnt_app]; have := h.c3; simp [cnt]; omega
      · intro x hx
        rcases List.mem_append.1 hx with q | q
        · exact h.ok x q
        · rw [List.mem_singleton] at q; subst q
          exact ⟨by simp, by simp, by simp only; omega, fun k => by simp at k, fun _ => rfl⟩
  rw [Proofs.YtfeknjpinboknaaGreatDoor.emit]
  generalize l ++ dropH (i - o) = l2 at *
  unfold addH
  have hlen : ((nw.drop t).take (j - t)).length = j - t := by simp only [List.length_take, List.length_drop]; omega
  rw [hlen]
  by_cases e : j - t = 0
  · rw [if_pos e, List.append_nil]
    obtain rfl : t = j := by omega
    exact hd
  · rw [if_neg e]
    have e1 : ((j - t : Nat) : Int).toNat = j - t := Int.toNat_natCast _
    refine ⟨?_, ?_, ?_, ?_, ?_, ?_, ?_, ?_, hn⟩
    · rw [appO_snoc, hd.app, appS, if_neg (by simp), if_neg (by simp)]
      simp only
      rw [show nw.take t ++ (nw.drop t).take (j - t) = nw.take j by
        conv => rhs; rw [show j = t + (j - t) by omega, List.take_add]]
    · rw [oldO_snoc, oldS, if_pos rfl]; exact hd.old
    · rw [oldO_snoc, oldS, if_pos rfl]; simp only [e1, List.length_append, List.length_replicate, hd.len]; omega
    · rw [oldO_snoc, oldS, if_pos rfl]; simp only [e1]; rw [fpairs_app, fpairs_nones, List.append_nil]; exact hd.prs
    · rw [cnt_app]; simp [cnt]; exact hd.c1
    · rw [cnt_app, cnt_app]; have := hd.c2; simp [cnt]; omega
    · rw [cnt_app, cnt_app]; have := hd.c3; simp [cnt]; omega
    · intro x hx
      rcases List.mem_append.1 hx with q | q
      · exact hd.ok x q
      · rw [List.mem_singleton] at q; subst q
        exact ⟨by simp, by simp, by simp only; omega, fun _ => by simp only; rw [hlen], fun k => absurd rfl k⟩
theorem OfI.bump {old nw : List ByteArray} {l : List Hk} {i j : Nat} {ps : List (Nat × Nat)} (h : OfI old nw l i j ps) (hj : j < nw.length) (hm : nw[j]? = old[i]?) : OfI old nw (bump l 1) (i + 1) (j + 1) (ps ++ [(i, j)]) := by
  have hone : (old.drop i).take 1 = (nw.drop j).take 1 := by
    have h1 : (nw.drop j).take 1 = [nw[j]] := by rw [List.drop_eq_getElem_cons hj]; rfl
    rw [List.getElem?_eq_getElem hj] at hm
    obtain ⟨hi, hm2⟩ := List.getElem?_eq_some_iff.1 hm.symm
    rw [h1, List.drop_eq_getElem_cons hi, ← hm2]; rfl
  have htk : nw.take j ++ (old.drop i).take 1 = nw.take (j + 1) := by rw [hone, List.take_add]
  have key : ∀ l2 : List Hk, appO old l2 = appS old (appO old l) ⟨1, 1, []⟩ → oldO l2 = oldS (oldO l) ⟨1, 1, []⟩ → cnt 1 l2 = cnt 1 l + 1 → cnt 2 l2 = cnt 2 l → cnt 3 l2 = cnt 3 l → (∀ x ∈ l2, OkN x) → OfI old nw l2 (i + 1) (j + 1) (ps ++ [(i, j)]) := by
    intro l2 a1 a2 a3 a4 a5 a6
    have b2 := h.c2
    have b3 := h.c3
    have b1 := h.c1
    refine ⟨?_, ?_, ?_, ?_, ?_, by rw [a3, a4]; omega, by rw [a3, a5]; omega, a6, hj⟩
    · rw [a1, h.app, appS, if_pos rfl]; simp only [Int.toNat_one]; rw [htk]
    · rw [a2, oldS, if_neg (by simp), if_pos rfl, h.old]; rfl
    · rw [a2, oldS, if_neg (by simp), if_pos rfl]; simp only [List.length_append, h.len]; rfl
    · rw [a2, oldS, if_neg (by simp), if_pos rfl]
      simp only
      rw [fpairs_app, h.prs, h.len, h.old, Nat.zero_add]; rfl
    · rw [a3, b1]; simp
  rcases List.eq_nil_or_concat l with rfl | ⟨l', x, rfl⟩
  · rw [bump_nil]
    exact key _ rfl rfl rfl rfl rfl (fun x hx => by rw [List.mem_singleton] at hx; subst hx; exact ⟨by simp, by simp, by simp, fun k => by simp at k, fun _ => rfl⟩)
  · rw [List.concat_eq_append] at key h ⊢
    rw [bump_last]
    have hx := h.ok x (by simp)
    have hxn := hx.n1
    by_cases k : x.kind = 1
    · rw [if_pos k]
      have hl := hx.l0 (by omega)
      refine key _ ?_ ?_ ?_ ?_ ?_ ?_
      · rw [appO_snoc, appO_snoc, appS, appS, appS, if_pos rfl, if_pos rfl, if_pos k]
        simp only
        rw [show (x.n + ((1 : Nat) : Int)).toNat = x.n.toNat + 1 by omega, List.take_add, List.drop_drop, List.append_assoc, Int.toNat_one, Nat.add_assoc]
      · rw [oldO_snoc, oldO_snoc, oldS, oldS, oldS, if_neg (by simp), if_pos rfl, if_neg (by simp), if_pos rfl, if_neg (by omega), if_pos k]
        simp only
        rw [show (x.n + ((1 : Nat) : Int)).toNat = x.n.toNat + 1 by omega, List.range_succ, List.map_append, List.append_assoc, Int.toNat_one, Nat.add_assoc]
        rfl
      · rw [cnt_app, cnt_app]; simp [cnt, k]; omega
      · rw [cnt_app, cnt_app]; simp [cnt, k]
      · rw [cnt_app, cnt_app]; simp [cnt, k]
      · intro y hy
        rcases List.mem_append.1 hy with q | q
        · exact h.ok y (List.mem_append_left _ q)
        · rw [List.mem_singleton] at q; subst q
          exact ⟨by simp, by simp, by simp only; omega, fun k => by simp at k, fun _ => hl⟩
    · rw [if_neg k]
      refine key _ ?_ ?_ ?_ ?_ ?_ ?_
      · rw [appO_snoc]; rfl
      · rw [oldO_snoc]; rfl
      · rw [cnt_app 1 (l' ++ [x])]; simp [cnt]
      · rw [cnt_app 2 (l' ++ [x])]; simp [cnt]
      · rw [cnt_app 3 (l' ++ [x])]; simp [cnt]
      · intro y hy
        rcases List.mem_append.1 hy with q | q
        · exact h.ok y q
        · rw [List.mem_singleton] at q; subst q
          exact ⟨by simp, by simp, by simp, fun k => by simp at k, fun _ => rfl⟩
theorem OfI.fold {old nw : List ByteArray} : ∀ {ps : List (Nat × Nat)} {st : List Hk × Nat × Nat} {qs : List (Nat × Nat)}, OfI old nw st.1 st.2.1 st.2.2 qs → Rise old.length nw.length st.2.1 st.2.2 ps → (∀ p ∈ ps, nw[p.2]? = old[p.1]?) → OfI old nw (ps.foldl (ofS nw) st).1 (ps.foldl (ofS nw) st).2.1 (ps.foldl (ofS nw) st).2.2 (qs ++ ps) ∧ (ps.foldl (ofS nw) st).2.1 ≤ max st.2.1 old.length
  | [], st, qs, h, _, _ => ⟨by rw [List.append_nil]; exact h, by simp only [List.foldl_nil]; omega⟩
  | p :: r, st, qs, h, hr, hm => by
    obtain ⟨r1, r2, r3, r4, r5⟩ := hr
    have h1 := (h.emit r1 r2 (by omega)).bump r4 (hm p (by simp))
    obtain ⟨h2, h3⟩ := OfI.fold (ps := r) (st := ofS nw st p) (qs := qs ++ [p]) h1 r5 (fun q hq => hm q (by simp [hq]))
    rw [List.append_assoc] at h2
    refine ⟨h2, ?_⟩
    have e : (ofS nw st p).2.1 = p.1 + 1 := rfl
    rw [e] at h3
    rw [List.foldl_cons]; omega
theorem ofV_ok {old nw : List ByteArray} {ps : List (Nat × Nat)} (hr : Rise old.length nw.length 0 0 ps) (hm : ∀ p ∈ ps, nw[p.2]? = old[p.1]?) : OfI old nw (ofV nw old.length ps) old.length nw.length ps := by
  have h0 : OfI old nw [] 0 0 [] := ⟨by rw [List.take_zero]; rfl, rfl, rfl, rfl, rfl, rfl, rfl, fun _ h => (by cases h), Nat.zero_le _⟩
  obtain ⟨h1, h2⟩ := OfI.fold (st := ([], 0, 0)) h0 hr hm
  rw [List.nil_append] at h1
  exact h1.emit (by have h3 : (ps.foldl (ofS nw) (([] : List Hk), 0, 0)).2.1 ≤ max 0 old.length := h2; omega) h1.tn (Nat.le_refl _)
end Go.Proofs.YtfeknjpinboknaaGreatDoor

namespace Go.Proofs.YtfeknjpinboknaaGreatDoor
open Go Go.RowKit Go.Joins
set_option linter.unusedSimpArgs false
set_option linter.unusedVariables false

/-! ### a patch, built again -/
def rebS (b : Bs) (h : Hk) : Bs := if h.kind = 1 then b.keep h.n.toNat else if h.kind = 2 then ⟨b.l, b.d + h.n.toNat, b.a⟩ else ⟨b.l, b.d, b.a ++ h.lines⟩
def rebO (l : List Hk) : Bs := l.foldl rebS ⟨[], 0, []⟩
theorem rebO_snoc (l : List Hk) (h : Hk) : rebO (l ++ [h]) = rebS (rebO l) h := by rw [rebO, List.foldl_append]; rfl
def lastK : Int → List Hk → Int
  | p, [] => p
  | _, h :: r => lastK h.kind r
theorem lastK_snoc : ∀ (l : List Hk) (p : Int) (h : Hk), lastK p (l ++ [h]) = h.kind
  | [], _, _ => rfl
  | x :: r, p, h => lastK_snoc r x.kind h
theorem okGo_snoc : ∀ (l : List Hk) (p : Int) (h : Hk), okGo p (l ++ [h]) = (okGo p l && (okH h && !badAdj (lastK p l) h.kind))
  | [], p, h => by simp [okGo, lastK]
  | x :: r, p, h => by
    rw [List.cons_append, okGo, okGo, okGo_snoc r x.kind h, lastK, Bool.and_assoc (okH x && !badAdj p x.kind)]
theorem reb_same : ∀ l : List Hk, okGo 0 l = true → (rebO l).flush.l = l := by
  intro l
  induction l using snoc_ind with
  | h0 => intro _; rfl
  | h1 l h ih =>
    intro hg
    rw [okGo_snoc, Bool.and_eq_true, Bool.and_eq_true, Bool.not_eq_true'] at hg
    obtain ⟨g1, g2, g3⟩ := hg
    have ih := ih g1
    have h2 := okH_iff.1 g2
    have hn := h2.n1
    rw [rebO_snoc, rebS]
    generalize rebO l = b at *
    obtain ⟨bl, bd, ba⟩ := b
    simp only [Bs.flush] at ih
    have ha : h.kind ≠ 1 → ba = [] ∧ (h.kind = 2 → bd = 0) := by
      intro k
      have key : ba = [] := by
        refine Classical.byContradiction fun q => ?_
        have e : addH ba = [⟨3, ba.length, ba⟩] := by unfold addH; rw [if_neg (by intro e; exact q (List.eq_nil_of_length_eq_zero e))]
        rw [e] at ih
        rw [← ih, lastK_snoc] at g3
        have k2 := h2.k1; have k3 := h2.k3
        simp only [badAdj] at g3
        by_cases k4 : h.kind = 2
        · rw [k4] at g3; cases g3
        · have : h.kind = 3 := by omega
          rw [this] at g3; cases g3
      refine ⟨key, fun k2 => ?_⟩
      subst key
      refine Classical.byContradiction fun q => ?_
      have e : dropH bd = [⟨2, bd, []⟩] := by unfold dropH; rw [if_neg q]
      have e2 : addH ([] : List ByteArray) = [] := rfl
      rw [e, e2, List.append_nil] at ih
      rw [← ih, lastK_snoc, k2] at g3
      cases g3
    by_cases k1 : h.kind = 1
    · rw [if_pos k1, Bs.keep, if_neg (by omega)]
      simp only [Bs.flush]
      rw [ih]
      have hb : bump l h.n.toNat = l ++ [h] := by
        have eh : (⟨1, ((h.n.toNat : Nat) : Int), []⟩ : Hk) = h := by
          obtain ⟨hk, hnn, hl⟩ := h
          have l0 := h2.l0 (by simp only at k1 ⊢; omega)
          simp only at k1 l0 hn ⊢
          rw [k1, l0, Int.toNat_of_nonneg (by omega)]
        rcases List.eq_nil_or_concat l with rfl | ⟨l', x, rfl⟩
        · rw [bump_nil, eh]; rfl
        · rw [List.concat_eq_append] at g3 ⊢
          rw [bump_last]
          rw [lastK_snoc, k1] at g3
          have hx : ¬ x.kind = 1 := by
            intro q; rw [q] at g3; cases g3
          rw [if_neg hx, eh]
      rw [hb]
      simp [dropH, addH]
    · obtain ⟨rfl, hd⟩ := ha k1
      rw [if_neg k1]
      by_cases k2 : h.kind = 2
      · have hd := hd k2
        subst hd
        rw [if_pos k2]
        simp only [Bs.flush]
        have ih2 : bl = l := by simpa [dropH, addH] using ih
        rw [ih2, Nat.zero_add]
        have eh : dropH h.n.toNat = [h] := by
          unfold dropH
          rw [if_neg (by omega)]
          obtain ⟨hk, hnn, hl⟩ := h
          have l0 := h2.l0 (by simp only at k2 ⊢; omega)
          simp only at k2 l0 hn ⊢
          rw [k2, l0, Int.toNat_of_nonneg (by omega)]
        rw [eh]; simp [addH]
      · rw [if_neg k2]
        simp only [Bs.flush, List.nil_append]
        have k3 : h.kind = 3 := by have := h2.k1; have := h2.k3; omega
        have l3 := h2.l3 k3
        have eh : addH h.lines = [h] := by
          unfold addH
          rw [if_neg (by omega)]
          obtain ⟨hk, hnn, hl⟩ := h
          simp only at k3 l3 ⊢
          rw [k3, l3]
        have e2 : addH ([] : List ByteArray) = [] := rfl
        rw [e2, List.append_nil] at ih
        rw [eh, ih]
theorem fpairs_range : ∀ (n i j o : Nat), fpairs j ((List.range' i n).map fun i => some (o + i)) = (List.range' 0 n).map fun q => (o + i + q, j + q)
  | 0, _, _, _ => rfl
  | n + 1, i, j, o => by
    rw [List.range'_succ, List.map_cons, fpairs, fpairs_range n (i + 1) (j + 1) o, List.range'_succ, List.map_cons]
    refine congr (congrArg List.cons (by simp)) ?_
    apply List.ext_getElem
    · simp
    · intro k h1 h2
      simp
      omega
theorem fpairs_diag (j o n : Nat) : fpairs j ((List.range n).map fun i => some (o + i)) = diag o j n := by
  rw [List.range_eq_range', fpairs_range, diag, List.range_eq_range']; rfl
theorem reb_of (old out : List ByteArray) : ∀ l : List Hk, (∀ h ∈ l, OkH h) → cnt 1 l + cnt 2 l ≤ old.length → (appO old l).1 <+: out →
    (rebO l).l = (ofL out (fpairs 0 (oldO l).1)).1 ∧ (ofL out (fpairs 0 (oldO l).1)).2.1 + (rebO l).d = (oldO l).2 ∧ (rebO l).a = (out.drop (ofL out (fpairs 0 (oldO l).1)).2.2).take ((oldO l).1.length - (ofL out (fpairs 0 (oldO l).1)).2.2) ∧ (ofL out (fpairs 0 (oldO l).1)).2.2 ≤ (oldO l).1.length := by
  intro l
  induction l using snoc_ind with
  | h0 => intro _ _ _; exact ⟨rfl, rfl, rfl, Nat.le_refl _⟩
  | h1 l h ih =>
    intro ho hle hpre
    have ho1 : ∀ x ∈ l, OkH x := fun x hx => ho x (List.mem_append_left _ hx)
    have h2 := ho h (by simp)
    have hn := h2.n1
    have e1 : cnt 1 (l ++ [h]) = cnt 1 l + (if h.kind = 1 then h.n else 0) := by rw [cnt_app]; simp [cnt]
    have e2 : cnt 2 (l ++ [h]) = cnt 2 l + (if h.kind = 2 then h.n else 0) := by rw [cnt_app]; simp [cnt]
    rw [e1, e2] at hle
    have hle1 : cnt 1 l + cnt 2 l ≤ old.length := by split at hle <;> split at hle <;> omega
    have hlen := (old_mt old l ho1 hle1).2.1
    have hp1 : (appO old l).1 <+: (appO old (l ++ [h])).1 := by
      rw [appO_snoc, appS]
      split
      · exact List.prefix_append _ _
      · split
        · exact List.prefix_refl _
        · exact List.prefix_append _ _
    obtain ⟨i1, i2, i3, i4⟩ := ih ho1 hle1 (hp1.trans hpre)
    rw [rebO_snoc, oldO_snoc, rebS, oldS]
    rw [appO_snoc, appS] at hpre
    generalize rebO l = b at *
    generalize oldO l = q at *
    generalize appO old l = r at *
    obtain ⟨bl, bd, ba⟩ := b
    obtain ⟨xs, o⟩ := q
    obtain ⟨os, o'⟩ := r
    simp only at i1 i2 i3 i4 hlen hpre
    by_cases k1 : h.kind = 1
    · have k3 : ¬ h.kind = 3 := by omega
      rw [if_pos k1, if_neg k3, if_pos k1]
      obtain ⟨n, hn1⟩ : ∃ n, h.n.toNat = n + 1 := ⟨h.n.toNat - 1, by omega⟩
      simp only [hn1]
      rw [fpairs_app, Nat.zero_add, fpairs_diag]
      rw [show ofL out (fpairs 0 xs ++ diag o xs.length (n + 1)) = (diag o xs.length (n + 1)).foldl (ofS out) (ofL out (fpairs 0 xs)) from List.foldl_append, ofL_diag]
      simp only [Int.toNat_natCast, List.length_append, List.length_map, List.length_range]
      refine ⟨?_, ?_, ?_, Nat.le_refl _⟩
      · rw [Bs.keep, if_neg (by omega)]
        simp only [Bs.flush, emit]
        rw [i1, i3, show o - (ofL out (fpairs 0 xs)).2.1 = bd by omega]
      · rw [Bs.keep, if_neg (by omega)]; rfl
      · rw [Bs.keep, if_neg (by omega), Nat.sub_self]; rfl
    · by_cases k2 : h.kind = 2
      · have k3 : ¬ h.kind = 3 := by omega
        rw [if_neg k1, if_neg k3, if_neg k1, if_pos k2]
        exact ⟨i1, by simp only; omega, i3, i4⟩
      · have k3 : h.kind = 3 := by have := h2.k1; have := h2.k3; omega
        have l3 := h2.l3 k3
        rw [if_neg k1, if_pos k3, if_neg k2]
        rw [if_neg k1, if_neg k2] at hpre
        simp only
        rw [fpairs_app, fpairs_nones, List.append_nil, List.length_append, List.length_replicate]
        refine ⟨i1, i2, ?_, by omega⟩
        obtain ⟨rest, hrest⟩ := hpre
        have e3 : h.lines = (out.drop xs.length).take h.n.toNat := by
          rw [← hrest, List.append_assoc, List.drop_left' (by omega), List.take_left' (by omega)]
        rw [i3, e3]
        exact take_more _ _ _ _ i4
theorem reb_V {old : List ByteArray} {l : List Hk} (hg : okGo 0 l = true) (hc : cnt 1 l + cnt 2 l = old.length) : ofV (appO old l).1 old.length (fpairs 0 (oldO l).1) = l := by
  have ho : ∀ h ∈ l, OkH h := fun h hh => okH_iff.1 (okGo_ok hg h hh)
  obtain ⟨i1, i2, i3, i4⟩ := reb_of old (appO old l).1 l ho (by omega) (List.prefix_refl _)
  have hm := old_mt old l ho (by omega)
  have h3 := (old_cnt l ho).2.2
  conv => rhs; rw [← reb_same l hg]
  rw [ofV, emit, Bs.flush, i1, i3, ← hm.2.1, show old.length - (ofL (appO old l).1 (fpairs 0 (oldO l).1)).2.1 = (rebO l).d by omega]
theorem pairs_ok {old : List ByteArray} {l : List Hk} (ho : ∀ h ∈ l, OkH h) (hc : cnt 1 l + cnt 2 l = old.length) : Rise old.length (appO old l).1.length 0 0 (fpairs 0 (oldO l).1) ∧ (∀ p ∈ fpairs 0 (oldO l).1, (appO old l).1[p.2]? = old[p.1]?) ∧ UpF old.length 0 (oldO l).1 := by
  have hm := old_mt old l ho (by omega)
  have h3 := (old_cnt l ho).2.2
  have hu := old_up l
  rw [show (oldO l).2 = old.length by omega] at hu
  have hr := rise_up 0 hu
  rw [Nat.zero_add, hm.2.1] at hr
  refine ⟨hr, fun p hp => ?_, hu⟩
  obtain ⟨h1, h2⟩ := fpairs_mem hp
  exact hm.2.2 _ _ h2

theorem rise_mem {m n : Nat} : ∀ {ps : List (Nat × Nat)} {i j : Nat}, Rise m n i j ps → ∀ p ∈ ps, p.1 < m ∧ p.2 < n
  | [], _, _, _, _, h => by cases h
  | q :: r, i, j, h, p, hp => by
    rcases List.mem_cons.1 hp with rfl | hp
    · exact ⟨h.2.2.1, h.2.2.2.1⟩
    · exact rise_mem h.2.2.2.2 p hp
theorem rise_len {m n : Nat} : ∀ {ps : List (Nat × Nat)} {i j : Nat}, Rise m n i j ps → ps.length ≤ m - i ∧ ps.length ≤ n - j
  | [], _, _, _ => ⟨Nat.zero_le _, Nat.zero_le _⟩
  | q :: r, i, j, h => by
    obtain ⟨h1, h2, h3, h4, h5⟩ := h
    have := rise_len h5
    rw [List.length_cons]; omega
theorem pairs_take {P : List (Int × Int)} {k : Nat} {p : Int × Int} (h : P[k]? = some p) : pairsFrom 0 (P.take (k + 1)) = pairsFrom 0 (P.take k) ++ (if 0 ≤ p.1 then [(k, p.1.toNat)] else []) := by
  obtain ⟨hi, rfl⟩ := List.getElem?_eq_some_iff.1 h
  rw [List.take_succ_eq_append_getElem hi, pairs_app, List.length_take, Nat.zero_add, Nat.min_eq_left (by omega), pairsFrom]
  rfl
theorem pairs_len (P : List (Int × Int)) : ∀ j, (pairsFrom j P).length ≤ P.length := by
  induction P with
  | nil => intro j; exact Nat.le_refl _
  | cons p r ih =>
    intro j
    have := ih (j + 1)
    rw [pairsFrom]
    split <;> simp only [List.length_cons] <;> omega
theorem tr_rise (base : ByteArray) {old : List ByteArray} {l : List Hk} (ho : ∀ h ∈ l, OkH h) (hc : cnt 1 l + cnt 2 l = old.length) : Rise (appO old l).1.length old.length 0 0 (pairsFrom 0 (trO base l).1) ∧ (trO base l).1.length = (appO old l).1.length := by
  obtain ⟨h1, _, _⟩ := pairs_ok ho hc
  have e := olds_tr base l
  have hm := old_mt old l ho (by omega)
  have e1 : (oldO l).1 = olds (trO base l).1 := by rw [e]
  have h2 := swap_rise h1
  rw [e1, fpairs_olds, List.map_map, show (Prod.swap ∘ Prod.swap : Nat × Nat → Nat × Nat) = id from funext fun x => rfl, List.map_id] at h2
  exact ⟨h2, by rw [← hm.2.1, e1, olds, List.length_map]⟩
/-! ### inverting -/
theorem inv_ofV (old : List ByteArray) (l : List Hk) (ho : ∀ h ∈ l, OkH h) (hc : cnt 1 l + cnt 2 l = old.length) : (invO old l).1.flush.l = ofV old (appO old l).1.length ((fpairs 0 (oldO l).1).map Prod.swap) := by
  have h := inv_V ⟨#[]⟩ old l ho hc
  have e := olds_tr ⟨#[]⟩ l
  have hm := old_mt old l ho (by omega)
  have e1 : (oldO l).1 = olds (trO ⟨#[]⟩ l).1 := by rw [e]
  have e2 : (trO ⟨#[]⟩ l).1.length = (appO old l).1.length := by rw [← hm.2.1, e1, olds, List.length_map]
  rw [h, e1, fpairs_olds, List.map_map, e2]
  congr 1
  rw [show (Prod.swap ∘ Prod.swap : Nat × Nat → Nat × Nat) = id from funext fun x => rfl, List.map_id]
theorem inv_ok {old : List ByteArray} {l : List Hk} (ho : ∀ h ∈ l, OkH h) (hc : cnt 1 l + cnt 2 l = old.length) : OfI (appO old l).1 old (invO old l).1.flush.l (appO old l).1.length old.length ((fpairs 0 (oldO l).1).map Prod.swap) := by
  obtain ⟨h1, h2, _⟩ := pairs_ok ho hc
  rw [inv_ofV old l ho hc]
  refine ofV_ok (swap_rise h1) (fun p hp => ?_)
  obtain ⟨q, hq, rfl⟩ := List.mem_map.1 hp
  exact (h2 q hq).symm
theorem inv_inv {old : List ByteArray} {l : List Hk} (hg : okGo 0 l = true) (hc : cnt 1 l + cnt 2 l = old.length) (hi : ∀ h ∈ (invO old l).1.flush.l, OkH h) : (invO (appO old l).1 (invO old l).1.flush.l).1.flush.l = l := by
  have ho : ∀ h ∈ l, OkH h := fun h hh => okH_iff.1 (okGo_ok hg h hh)
  have hI := inv_ok ho hc
  have hr := reb_V hg hc
  generalize (invO old l).1.flush.l = l2 at *
  have hc2 : cnt 1 l2 + cnt 2 l2 = (appO old l).1.length := hI.c2
  rw [inv_ofV _ _ hi hc2, hI.app, hI.prs, List.take_length, List.map_map, show (Prod.swap ∘ Prod.swap : Nat × Nat → Nat × Nat) = id from funext fun x => rfl, List.map_id]
  exact hr

/-! ### joining -/
def compS (xs : List (Option Nat)) (y : Option Nat) : Option Nat := y.bind fun b => (xs[b]?).getD none
def comp (xs ys : List (Option Nat)) : List (Option Nat) := ys.map (compS xs)
theorem comp_up {m : Nat} {xs : List (Option Nat)} : ∀ {ys : List (Option Nat)} {b i : Nat}, UpF xs.length b ys → UpF m i (xs.drop b) → UpF m i (comp xs ys)
  | [], _, _, _, _ => trivial
  | none :: r, b, i, hy, hx => comp_up (ys := r) (b := b) hy hx
  | some c :: r, b, i, hy, hx => by
    obtain ⟨h1, h2, h3⟩ := hy
    have hx2 : UpF m i (xs.drop c) := by
      have := UpF.drop (c - b) hx
      rw [List.drop_drop, show b + (c - b) = c by omega] at this
      exact this
    rw [List.drop_eq_getElem_cons h2] at hx2
    have e : comp xs (some c :: r) = xs[c] :: comp xs r := by
      show compS xs (some c) :: comp xs r = _
      rw [compS, Option.bind_some, List.getElem?_eq_getElem h2, Option.getD_some]
    rw [e]
    cases hv : xs[c] with
    | none => rw [hv] at hx2; exact comp_up (ys := r) (b := c + 1) h3 hx2
    | some a =>
      rw [hv] at hx2
      exact ⟨hx2.1, hx2.2.1, comp_up (ys := r) (b := c + 1) h3 hx2.2.2⟩
theorem comp_mt {xs ys : List (Option Nat)} {old mid new : List ByteArray} (h1 : Mt xs old mid) (h2 : Mt ys mid new) : Mt (comp xs ys) old new := by
  intro j a hj
  rw [comp, List.getElem?_map] at hj
  cases hy : ys[j]? with
  | none => rw [hy] at hj; cases hj
  | some y =>
    rw [hy] at hj
    cases y with
    | none => cases hj
    | some b =>
      have h3 := h2 j b hy
      have e : (xs[b]?).getD none = some a := by injection hj
      cases hx : xs[b]? with
      | none => rw [hx] at e; cases e
      | some x =>
        rw [hx] at e
        have e2 : x = some a := e
        rw [e2] at hx
        rw [h3]
        exact h1 b a hx
def noneC : List (Option Nat) → Nat
  | [] => 0
  | none :: r => noneC r + 1
  | some _ :: r => noneC r
theorem noneC_len : ∀ (xs : List (Option Nat)) (k : Nat), (fpairs k xs).length + noneC xs = xs.length
  | [], _ => rfl
  | none :: r, k => by rw [fpairs, noneC, List.length_cons]; have := noneC_len r (k + 1); omega
  | some a :: r, k => by rw [fpairs, noneC, List.length_cons, List.length_cons]; have := noneC_len r (k + 1); omega
theorem noneC_drop (xs : List (Option Nat)) : ∀ k, noneC (xs.drop k) ≤ noneC xs := by
  induction xs with
  | nil => intro k; rw [List.drop_nil]; exact Nat.le_refl _
  | cons x r ih =>
    intro k
    cases k with
    | zero => exact Nat.le_refl _
    | succ k =>
      have := ih k
      rw [List.drop_succ_cons]
      cases x with
      | none => rw [noneC]; omega
      | some a => rw [noneC]; omega
theorem comp_none {xs : List (Option Nat)} : ∀ {ys : List (Option Nat)} {b : Nat}, UpF xs.length b ys → noneC (comp xs ys) ≤ noneC ys + noneC (xs.drop b)
  | [], _, _ => Nat.zero_le _
  | none :: r, b, hy => by
    have := comp_none (ys := r) (b := b) hy
    have e : comp xs (none :: r) = none :: comp xs r := rfl
    rw [e, noneC, noneC]; omega
  | some c :: r, b, hy => by
    obtain ⟨h1, h2, h3⟩ := hy
    have ih := comp_none (ys := r) (b := c + 1) h3
    have hd : noneC (xs.drop c) ≤ noneC (xs.drop b) := by
      have := noneC_drop (xs.drop b) (c - b)
      rw [List.drop_drop, show b + (c - b) = c by omega] at this
      exact this
    rw [List.drop_eq_getElem_cons h2] at hd
    have e : comp xs (some c :: r) = xs[c] :: comp xs r := by
      show compS xs (some c) :: comp xs r = _
      rw [compS, Option.bind_some, List.getElem?_eq_getElem h2, Option.getD_some]
    rw [e]
    cases hv : xs[c] with
    | none => rw [hv] at hd; rw [noneC, noneC]; rw [noneC] at hd; omega
    | some a => rw [hv] at hd; rw [noneC, noneC]; rw [noneC] at hd; omega
theorem comp_id {xs : List (Option Nat)} : comp xs ((List.range xs.length).map fun i => some (0 + i)) = xs := by
  apply List.ext_getElem
  · simp [comp]
  · intro i h1 h2
    simp only [comp, List.getElem_map, List.getElem_range, compS, Option.bind_some, Nat.zero_add]
    rw [List.getElem?_eq_getElem h2, Option.getD_some]

/-! ### the best -/
theorem lcs_mono (A B : List ByteArray) {i j u v : Nat} (hu : i ≤ u) (hv : j ≤ v) : lcs (A.drop u) (B.drop v) ≤ lcs (A.drop i) (B.drop j) := by
  have h1 : ∀ (n : Nat) (C : List ByteArray), lcs (C.drop n) (B.drop v) ≤ lcs C (B.drop v) := by
    intro n
    induction n with
    | zero => intro C; exact Nat.le_refl _
    | succ n ih =>
      intro C
      cases C with
      | nil => exact Nat.le_refl _
      | cons x C => rw [List.drop_succ_cons]; exact Nat.le_trans (ih C) (lcs_left x C _)
  have h2 : ∀ (n : Nat) (C : List ByteArray), lcs (A.drop i) (C.drop n) ≤ lcs (A.drop i) C := by
    intro n
    induction n with
    | zero => intro C; exact Nat.le_refl _
    | succ n ih =>
      intro C
      cases C with
      | nil => exact Nat.le_refl _
      | cons x C => rw [List.drop_succ_cons]; exact Nat.le_trans (ih C) (lcs_down x _ C)
  have a := h1 (u - i) (A.drop i)
  have b := h2 (v - j) (B.drop j)
  rw [List.drop_drop, show i + (u - i) = u by omega] at a
  rw [List.drop_drop, show j + (v - j) = v by omega] at b
  exact Nat.le_trans a b
theorem rise_lcs {A B : List ByteArray} : ∀ {ps : List (Nat × Nat)} {i j : Nat}, Rise A.length B.length i j ps → (∀ p ∈ ps, B[p.2]? = A[p.1]?) → ps.length ≤ lcs (A.drop i) (B.drop j)
  | [], _, _, _, _ => Nat.zero_le _
  | p :: r, i, j, h, hm => by
    obtain ⟨h1, h2, h3, h4, h5⟩ := h
    have ih := rise_lcs h5 (fun q hq => hm q (by simp [hq]))
    have hp := hm p (by simp)
    have hpair := lcs_pair A[p.1] (A.drop (p.1 + 1)) (B.drop p.2) 0 (by rw [List.getElem?_drop, Nat.add_zero, hp, List.getElem?_eq_getElem h3])
    rw [Nat.zero_add, List.drop_drop, ← List.drop_eq_getElem_cons h3] at hpair
    have := lcs_mono A B h1 h2
    rw [List.length_cons]; omega
theorem kept_rise (A B : List ByteArray) : ∀ (n i j : Nat), (keptL (A.drop i) (B.drop j) i j).length = n → Rise A.length B.length i j (keptL (A.drop i) (B.drop j) i j) ∧ ∀ p ∈ keptL (A.drop i) (B.drop j) i j, B[p.2]? = A[p.1]?
  | 0, i, j, h => by rw [List.eq_nil_of_length_eq_zero h]; exact ⟨trivial, fun _ h => by cases h⟩
  | n + 1, i, j, h => by
    cases hk : keptL (A.drop i) (B.drop j) i j with
    | nil => rw [hk] at h; cases h
    | cons p r =>
      obtain ⟨h1, h2, h3, h4, h5, h6, _⟩ := kept_next A B _ i j rfl hk
      rw [hk, List.length_cons] at h
      have ih := kept_rise A B n (p.1 + 1) (p.2 + 1) (by rw [← h6]; omega)
      rw [← h6] at ih
      refine ⟨⟨h1, h3, h2, h4, ih.1⟩, fun q hq => ?_⟩
      rcases List.mem_cons.1 hq with rfl | hq
      · obtain ⟨⟨x, hx, hy⟩, _⟩ := h5
        rw [hx, hy]
      · exact ih.2 q hq
theorem make_ok (A B : List ByteArray) : OfI A B (ofV B A.length (keptL A B 0 0)) A.length B.length (keptL A B 0 0) := by
  have := kept_rise A B _ 0 0 rfl
  simp only [List.drop_zero] at this
  exact ofV_ok this.1 this.2
theorem make_best {A B : List ByteArray} {l : List Hk} (ho : ∀ h ∈ l, OkH h) (hc : cnt 1 l + cnt 2 l = A.length) (hB : (appO A l).1 = B) : cnt 2 (ofV B A.length (keptL A B 0 0)) + cnt 3 (ofV B A.length (keptL A B 0 0)) ≤ cnt 2 l + cnt 3 l := by
  have hI := make_ok A B
  obtain ⟨h1, h2, _⟩ := pairs_ok ho hc
  rw [hB] at h1 h2
  have h3 := rise_lcs h1 h2
  have h4 := old_cnt l ho
  have h5 := (old_mt A l ho (by omega)).2.1
  rw [hB] at h5
  have h6 := kept_len A B 0 0
  have c1 := hI.c1
  have c2 := hI.c2
  have c3 := hI.c3
  simp only [List.drop_zero] at h3
  omega
theorem lcs_self (A : List ByteArray) : lcs A A = A.length := by
  induction A with
  | nil => rfl
  | cons x A ih =>
    have h1 := lcs_le (x :: A) (x :: A)
    rw [lcs_cons, if_pos rfl] at *
    rw [List.length_cons] at *
    omega
theorem make_zero (A B : List ByteArray) : cnt 2 (ofV B A.length (keptL A B 0 0)) + cnt 3 (ofV B A.length (keptL A B 0 0)) = 0 ↔ A = B := by
  have hI := make_ok A B
  have h6 := kept_len A B 0 0
  have c1 := hI.c1
  have c2 := hI.c2
  have c3 := hI.c3
  have hr := kept_rise A B _ 0 0 rfl
  simp only [List.drop_zero] at hr
  have hb := lcs_le A B
  constructor
  · intro h
    have n2 : 0 ≤ cnt 2 (ofV B A.length (keptL A B 0 0)) := by omega
    have e1 : (keptL A B 0 0).length = A.length ∧ (keptL A B 0 0).length = B.length := by omega
    have key : ∀ (ps : List (Nat × Nat)) (i : Nat), Rise A.length B.length i i ps → i + ps.length = A.length → A.length = B.length → (∀ p ∈ ps, B[p.2]? = A[p.1]?) → ∀ k, i ≤ k → k < A.length → B[k]? = A[k]? := by
      intro ps
      induction ps with
      | nil => intro i _ he _ _ k h1 h2; simp at he; omega
      | cons p r ih =>
        intro i h he hab hm k h1 h2
        obtain ⟨r1, r2, r3, r4, r5⟩ := h
        have hlen : ∀ (qs : List (Nat × Nat)) (a b : Nat), Rise A.length B.length a b qs → a + qs.length ≤ A.length ∨ qs = [] := by
          intro qs
          induction qs with
          | nil => intro a b _; exact Or.inr rfl
          | cons q s ihs =>
            intro a b h
            obtain ⟨s1, s2, s3, s4, s5⟩ := h
            left
            rcases ihs _ _ s5 with q1 | q1
            · rw [List.length_cons]; omega
            · subst q1; simp only [List.length_cons, List.length_nil]; omega
        have hlen2 : ∀ (qs : List (Nat × Nat)) (a b : Nat), Rise A.length B.length a b qs → b + qs.length ≤ B.length ∨ qs = [] := by
          intro qs
          induction qs with
          | nil => intro a b _; exact Or.inr rfl
          | cons q s ihs =>
            intro a b h
            obtain ⟨s1, s2, s3, s4, s5⟩ := h
            left
            rcases ihs _ _ s5 with q1 | q1
            · rw [List.length_cons]; omega
            · subst q1; simp only [List.length_cons, List.length_nil]; omega
        have q1 := hlen r _ _ r5
        have q2 := hlen2 r _ _ r5
        rw [List.length_cons] at he
        have e1 : p.1 = i := by
          rcases q1 with q1 | q1
          · omega
          · subst q1; simp only [List.length_nil] at he; omega
        have e2 : p.2 = i := by
          rcases q2 with q2 | q2
          · omega
          · subst q2; simp only [List.length_nil] at he; omega
        rw [e1, e2] at r5
        by_cases hk : k = i
        · have := hm p (by simp)
          rw [e1, e2] at this
          rw [hk]; exact this
        · exact ih (i + 1) r5 (by omega) hab (fun q hq => hm q (by simp [hq])) k (by omega) h2
    have hAB := key _ 0 hr.1 (by omega) (by omega) hr.2
    apply List.ext_getElem?
    intro k
    by_cases hk : k < A.length
    · exact (hAB k (Nat.zero_le _) hk).symm
    · rw [List.getElem?_eq_none (by omega), List.getElem?_eq_none (by omega)]
  · intro h
    subst h
    have := lcs_self A
    omega
end Go.Proofs.YtfeknjpinboknaaGreatDoor

namespace Go.Proofs.YtfeknjpinboknaaGreatDoor
open Go Go.RowKit Go.Joins
set_option linter.unusedSimpArgs false
set_option linter.unusedVariables false

def adjGo : Int → List Hk → Bool
  | _, [] => true
  | p, h :: r => !badAdj p h.kind && adjGo h.kind r
theorem adj_snoc : ∀ (l : List Hk) (p : Int) (h : Hk), adjGo p (l ++ [h]) = (adjGo p l && !badAdj (lastK p l) h.kind)
  | [], p, h => by simp [adjGo, lastK]
  | x :: r, p, h => by rw [List.cons_append, adjGo, adjGo, adj_snoc r x.kind h, lastK, Bool.and_assoc]
theorem okGo_adj : ∀ (l : List Hk) (p : Int), adjGo p l = true → (∀ h ∈ l, OkH h) → okGo p l = true
  | [], _, _, _ => rfl
  | x :: r, p, ha, ho => by
    rw [adjGo, Bool.and_eq_true] at ha
    rw [okGo, ha.1, okH_iff.2 (ho x (by simp)), okGo_adj r x.kind ha.2 (fun h hh => ho h (by simp [hh]))]; rfl
theorem adj_emit {nw : List ByteArray} {l : List Hk} {o t i j : Nat} (ha : adjGo 0 l = true) (hl : lastK 0 l = 0 ∨ lastK 0 l = 1) : adjGo 0 (emit nw l o t i j) = true := by
  have hd : adjGo 0 (l ++ dropH (i - o)) = true ∧ lastK 0 (l ++ dropH (i - o)) ≠ 3 := by
    unfold dropH
    split
    · rw [List.append_nil]; exact ⟨ha, by omega⟩
    · rw [adj_snoc, lastK_snoc, ha]
      refine ⟨?_, by simp⟩
      rcases hl with h | h <;> rw [h] <;> rfl
  rw [emit]
  unfold addH
  split
  · rw [List.append_nil]; exact hd.1
  · rw [adj_snoc, hd.1]
    have : badAdj (lastK 0 (l ++ dropH (i - o))) 3 = false := by
      simp only [badAdj, Bool.or_eq_false_iff, beq_eq_false_iff_ne, Bool.and_eq_false_iff]
      exact ⟨hd.2, Or.inr (by decide)⟩
    rw [this]; rfl
theorem adj_bump {l : List Hk} (ha : adjGo 0 l = true) : adjGo 0 (bump l 1) = true ∧ lastK 0 (bump l 1) = 1 := by
  rcases List.eq_nil_or_concat l with rfl | ⟨l', x, rfl⟩
  · exact ⟨rfl, rfl⟩
  · rw [List.concat_eq_append] at ha ⊢
    rw [bump_last]
    by_cases k : x.kind = 1
    · rw [if_pos k, adj_snoc, lastK_snoc]
      rw [adj_snoc, k] at ha
      exact ⟨ha, rfl⟩
    · rw [if_neg k, adj_snoc, lastK_snoc, lastK_snoc, ha]
      refine ⟨?_, rfl⟩
      have : badAdj x.kind 1 = false := by
        simp only [badAdj, Bool.or_eq_false_iff, beq_eq_false_iff_ne, Bool.and_eq_false_iff]
        exact ⟨k, Or.inr (by decide)⟩
      rw [this]; rfl
theorem adj_ofL (nw : List ByteArray) : ∀ ps : List (Nat × Nat), adjGo 0 (ofL nw ps).1 = true ∧ (lastK 0 (ofL nw ps).1 = 0 ∨ lastK 0 (ofL nw ps).1 = 1) := by
  intro ps
  induction ps using snoc_ind with
  | h0 => exact ⟨rfl, Or.inl rfl⟩
  | h1 ps p ih =>
    rw [ofL_snoc, ofS]
    have := adj_bump (adj_emit (nw := nw) (o := (ofL nw ps).2.1) (t := (ofL nw ps).2.2) (i := p.1) (j := p.2) ih.1 ih.2)
    exact ⟨this.1, Or.inr this.2⟩
theorem adj_ofV (nw : List ByteArray) (m : Nat) (ps : List (Nat × Nat)) : adjGo 0 (ofV nw m ps) = true := by
  rw [ofV]; exact adj_emit (adj_ofL nw ps).1 (adj_ofL nw ps).2
theorem len_bump (l : List Hk) (n : Nat) : (bump l n).length ≤ l.length + 1 := by
  rcases List.eq_nil_or_concat l with rfl | ⟨l', x, rfl⟩
  · exact Nat.le_refl _
  · rw [List.concat_eq_append, bump_last]
    split <;> simp
theorem len_emit (nw : List ByteArray) (l : List Hk) (o t i j : Nat) : (emit nw l o t i j).length ≤ l.length + 2 := by
  have h1 : (dropH (i - o)).length ≤ 1 := by unfold dropH; split <;> simp
  have h2 : (addH ((nw.drop t).take (j - t))).length ≤ 1 := by unfold addH; split <;> simp
  rw [emit, List.length_append, List.length_append]; omega
theorem len_ofL (nw : List ByteArray) : ∀ ps : List (Nat × Nat), (ofL nw ps).1.length ≤ 3 * ps.length := by
  intro ps
  induction ps using snoc_ind with
  | h0 => exact Nat.le_refl _
  | h1 ps p ih =>
    rw [ofL_snoc, ofS, List.length_append, List.length_singleton]
    have h1 := len_bump (emit nw (ofL nw ps).1 (ofL nw ps).2.1 (ofL nw ps).2.2 p.1 p.2) 1
    have h2 := len_emit nw (ofL nw ps).1 (ofL nw ps).2.1 (ofL nw ps).2.2 p.1 p.2
    simp only
    omega
theorem len_ofV (nw : List ByteArray) (m : Nat) (ps : List (Nat × Nat)) : (ofV nw m ps).length ≤ 3 * ps.length + 2 := by
  have h1 := len_ofL nw ps
  have h2 := len_emit nw (ofL nw ps).1 (ofL nw ps).2.1 (ofL nw ps).2.2 m nw.length
  rw [ofV]; omega
theorem len_cnt : ∀ {l : List Hk}, (∀ h ∈ l, OkN h) → (l.length : Int) ≤ cnt 1 l + cnt 2 l + cnt 3 l ∧ 0 ≤ cnt 1 l ∧ 0 ≤ cnt 2 l ∧ 0 ≤ cnt 3 l ∧ ∀ h ∈ l, h.n ≤ cnt h.kind l
  | [], _ => by simp [cnt]
  | x :: r, ho => by
    obtain ⟨i1, i2, i3, i4, i5⟩ := len_cnt (l := r) (fun h hh => ho h (by simp [hh]))
    have hx := ho x (by simp)
    have h1 := hx.k1
    have h3 := hx.k3
    have hn := hx.n1
    rw [List.length_cons, cnt, cnt, cnt]
    refine ⟨by split <;> split <;> split <;> omega, by split <;> omega, by split <;> omega, by split <;> omega, fun h hh => ?_⟩
    rcases List.mem_cons.1 hh with rfl | hh
    · rw [cnt, if_pos rfl]
      rcases (by omega : h.kind = 1 ∨ h.kind = 2 ∨ h.kind = 3) with k | k | k <;> rw [k] <;> omega
    · have := i5 h hh
      rw [cnt]
      split <;> omega
def szA (l : List Hk) : Nat := szL (l.flatMap Hk.lines)
theorem szL_app (a b : List ByteArray) : szL (a ++ b) = szL a + szL b := by simp [szL]
theorem lines_out (old : List ByteArray) : ∀ l : List Hk, (∀ h ∈ l, OkN h) → szA l ≤ szL (appO old l).1 ∧ ((l.flatMap Hk.lines).length : Int) = cnt 3 l ∧ ∀ s ∈ l.flatMap Hk.lines, s ∈ (appO old l).1 := by
  intro l
  induction l using snoc_ind with
  | h0 => intro _; exact ⟨Nat.le_refl _, rfl, fun s h => by cases h⟩
  | h1 l h ih =>
    intro ho
    obtain ⟨i1, i2, i3⟩ := ih (fun x hx => ho x (List.mem_append_left _ hx))
    have hx := ho h (by simp)
    have h1 := hx.k1
    have h3 := hx.k3
    have e3 : cnt 3 (l ++ [h]) = cnt 3 l + (if h.kind = 3 then h.n else 0) := by rw [cnt_app]; simp [cnt]
    have ef : (l ++ [h]).flatMap Hk.lines = l.flatMap Hk.lines ++ h.lines := by simp
    rw [szA, ef, e3, appO_snoc, appS, szL_app, List.length_append]
    rw [szA] at i1
    by_cases k3 : h.kind = 3
    · have hl := hx.l3 k3
      rw [if_neg (by omega), if_neg (by omega), if_pos k3]
      simp only
      rw [szL_app]
      refine ⟨by omega, by omega, fun s hs => ?_⟩
      rcases List.mem_append.1 hs with q | q
      · exact List.mem_append_left _ (i3 s q)
      · exact List.mem_append_right _ q
    · have hl := hx.l0 k3
      rw [hl, if_neg k3]
      have e0 : szL ([] : List ByteArray) = 0 := rfl
      split
      · simp only
        rw [szL_app]
        exact ⟨by omega, by simpa using i2, fun s hs => List.mem_append_left _ (i3 s (by simpa using hs))⟩
      · split
        · simp only
          exact ⟨by omega, by simpa using i2, fun s hs => i3 s (by simpa using hs)⟩
        · omega
theorem itoa_small {n : Int} (h1 : 1 ≤ n) (h2 : n ≤ 1024) : (Lib.itoa n).length ≤ 4 := by
  obtain ⟨k, rfl⟩ : ∃ k : Nat, n = (k : Int) := ⟨n.toNat, by omega⟩
  have key : ∀ k : Fin 1025, (Lib.itoa (k.val : Int)).length ≤ 4 := by decide +kernel
  exact key ⟨k, by omega⟩
theorem head_sz9 {h : Hk} (hn : 1 ≤ h.n) (hm : h.n ≤ 1024) : (headV h).size ≤ 9 := by
  have := itoa_small hn hm
  have hw : (wordL h.kind).length ≤ 5 := by
    unfold wordL; split
    · decide
    · split <;> decide
  rw [headV, size_S, List.length_append]; omega
theorem linesL_sz : ∀ (l : List Hk), (∀ h ∈ l, 1 ≤ h.n ∧ h.n ≤ 1024) → szL (linesL l) ≤ 9 * l.length + szA l ∧ (linesL l).length = l.length + (l.flatMap Hk.lines).length
  | [], _ => ⟨Nat.le_refl _, rfl⟩
  | x :: r, ho => by
    obtain ⟨h1, h2⟩ := linesL_sz r (fun h hh => ho h (by simp [hh]))
    have hx := ho x (by simp)
    have h3 := head_sz9 hx.1 hx.2
    have e : linesL (x :: r) = [headV x] ++ (x.lines ++ linesL r) := rfl
    have e2 : (x :: r).flatMap Hk.lines = x.lines ++ r.flatMap Hk.lines := rfl
    have e3 : szL [headV x] = (headV x).size := by simp [szL]
    rw [szA, e2, e, szL_app, szL_app, szL_app, e3, List.length_append, List.length_append, List.length_append, List.length_cons, List.length_singleton]
    rw [szA] at h1
    omega
theorem head_lf {h : Hk} (hn : 1 ≤ h.n) (hm : h.n ≤ 1024) : lfB (headV h) = false := by
  obtain ⟨k, n, l⟩ := h
  simp only at hn hm
  obtain ⟨m, rfl⟩ : ∃ m : Nat, n = (m : Int) := ⟨n.toNat, by omega⟩
  have key : ∀ m : Fin 1025, (Lib.itoa (m.val : Int)).contains 10 = false := by decide +kernel
  have h2 : (Lib.itoa (m : Int)).contains 10 = false := key ⟨m, by omega⟩
  have h1 : (wordL k).contains 10 = false := by
    unfold wordL; split
    · decide
    · split <;> decide
  show (wordL k ++ Lib.itoa (m : Int)).contains 10 = false
  rw [← Bool.not_eq_true, List.contains_iff_mem] at h1 h2 ⊢
  intro q
  rcases List.mem_append.1 q with q | q
  · exact h1 q
  · exact h2 q
theorem make_valid {A B : List ByteArray} (hA : 1 ≤ A.length) (hB : 1 ≤ B.length) (hA2 : A.length ≤ 501) (hB2 : B.length ≤ 501) (hs : szL B ≤ 500) (hlf : B.any lfB = false) : validV ⟨#[]⟩ (ofV B A.length (keptL A B 0 0)) = true := by
  have hI := make_ok A B
  have hc := len_cnt hI.ok
  have hl := len_ofV B A.length (keptL A B 0 0)
  have ha := adj_ofV B A.length (keptL A B 0 0)
  have ho := lines_out A _ hI.ok
  rw [hI.app, List.take_length] at ho
  simp only at ho
  have c1 := hI.c1
  have c2 := hI.c2
  have c3 := hI.c3
  have hok := hI.ok
  generalize ofV B A.length (keptL A B 0 0) = l at *
  generalize (keptL A B 0 0).length = K at *
  have hn2 : ∀ h ∈ l, h.n ≤ 1024 := fun h hh => by
    have h1 := hc.2.2.2.2 h hh
    have h2 := (hok h hh).k1
    have h3 := (hok h hh).k3
    rcases (by omega : h.kind = 1 ∨ h.kind = 2 ∨ h.kind = 3) with k | k | k <;> rw [k] at h1 <;> omega
  have hOK : ∀ h ∈ l, OkH h := fun h hh => ⟨(hok h hh).k1, (hok h hh).k3, (hok h hh).n1, hn2 h hh, (hok h hh).l3, (hok h hh).l0⟩
  have hgo := okGo_adj l 0 ha hOK
  have hlfA : lfAny l = false := by
    rw [lfAny, List.any_eq_false]
    intro h hh
    rw [Bool.not_eq_true, List.any_eq_false]
    intro s hs2
    have := ho.2.2 s (List.mem_flatMap.2 ⟨h, hh, hs2⟩)
    rw [List.any_eq_false] at hlf
    exact hlf s this
  have hL := linesL_sz l (fun h hh => ⟨(hok h hh).n1, hn2 h hh⟩)
  have hne : linesL l ≠ [] := by
    intro e
    have : (linesL l).length = 0 := by rw [e]; rfl
    have h0 : l = [] := List.eq_nil_of_length_eq_zero (by omega)
    subst h0
    simp [cnt] at c2
    omega
  have hlf2 : (linesL l).any lfB = false := by
    rw [List.any_eq_false]
    intro s hs2
    obtain ⟨h, hh, hs3⟩ := List.mem_flatMap.1 hs2
    rcases List.mem_cons.1 hs3 with rfl | hs3
    · rw [head_lf (hok h hh).n1 (hn2 h hh)]; decide
    · have := ho.2.2 s (List.mem_flatMap.2 ⟨h, hh, hs3⟩)
      rw [List.any_eq_false] at hlf
      exact hlf s this
  have ht : textL ⟨#[]⟩ l = linesL l := by
    rw [textL, baseL, if_pos (by rfl), List.nil_append]
  have hj : joinE (textL ⟨#[]⟩ l) = 0 := by
    rw [ht]
    unfold joinE
    rw [if_neg (by rintro (e | e); exact hne e; rw [hlf2] at e; cases e), if_neg (by omega)]
  have hz : sizesOK l = true := by
    simp only [sizesOK, Bool.and_eq_true, decide_eq_true_eq]
    omega
  simp only [validV, Bool.and_eq_true, Bool.or_eq_true, decide_eq_true_eq]
  refine ⟨⟨⟨Or.inl rfl, ?_⟩, hz⟩, hj⟩
  rw [goodGo_eq, hgo, hlfA]; rfl
end Go.Proofs.YtfeknjpinboknaaGreatDoor

