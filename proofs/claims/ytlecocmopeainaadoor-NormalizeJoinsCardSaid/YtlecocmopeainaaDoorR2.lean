/- The plain law of Forms: the reference's rounds of Print, Lines and Pack give what normalize's do, at a valid text. No program in sight. -/
import Derived.Test.YtlecocmopeainaaDoorP
namespace Go.Proofs.YtlecocmopeainaaDoor
open Go Go.RowKit Go.Joins Go.Shelf
set_option linter.unusedSimpArgs false
set_option linter.unusedVariables false

/-- The lines of the words rise. -/
theorem okFrom_next : ∀ {l : List Lz} {m : Int} {k : Nat} {x y : Lz}, okFrom m l = true → l[k]? = some x → l[k + 1]? = some y → x.2 ≤ y.2
  | [], _, _, _, _, _, h, _ => by simp at h
  | z :: l, m, 0, x, y, h, h1, h2 => by
    simp only [List.getElem?_cons_zero, Option.some.injEq] at h1
    subst h1
    match l, h2 with
    | [], h2 => simp at h2
    | u :: l, h2 =>
      simp at h2
      subst h2
      rw [okFrom, okFrom] at h
      simp only [Bool.and_eq_true, decide_eq_true_eq] at h
      exact h.2.1.1.2
  | z :: l, m, k + 1, x, y, h, h1, h2 => by
    rw [okFrom] at h
    simp only [Bool.and_eq_true] at h
    exact okFrom_next (l := l) h.2 (by simpa using h1) (by simpa using h2)
theorem valid_next {p : ByteArray} {ws : List Lz} (h : validV p ws = true) {k : Nat} {x y : Lz} (h1 : ws[k]? = some x) (h2 : ws[k + 1]? = some y) : x.2 ≤ y.2 := by
  rw [validV, Bool.and_eq_true] at h
  exact okFrom_next h.2 h1 h2
theorem prStep_pos (p : Option Int) (x : Lz) : 0 < (prStep p x).length := by
  unfold prStep; rw [List.length_append, List.length_cons]; omega
theorem prGo_nil {ws : List Lz} : prGo none ws = [] ↔ ws = [] := by
  cases ws with
  | nil => simp [prGo]
  | cons x r =>
    have := prStep_pos none x
    constructor
    · intro h
      rw [prGo] at h
      have h2 := congrArg List.length h
      rw [List.length_append, List.length_nil] at h2
      omega
    · intro h; cases h

/-! ### Pack -/
/-- The reference's Pack, one line more (all lines are of one file). -/
def rpk (acc : List (Int × Int)) (l : Int) : List (Int × Int) := match acc.getLast? with
  | some x => if l < x.2 then acc else if l = x.2 then acc.dropLast ++ [(x.1, x.2 + 1)] else acc ++ [(l, l + 1)]
  | none => [(l, l + 1)]
theorem rpk_keep (init : List (Int × Int)) (x : Int × Int) (l : Int) (h : l < x.2) : rpk (init ++ [x]) l = init ++ [x] := by simp [rpk, h]
theorem rpk_hit (init : List (Int × Int)) (x : Int × Int) (l : Int) (h : l = x.2) : rpk (init ++ [x]) l = init ++ [(x.1, x.2 + 1)] := by
  subst h; simp [rpk]
theorem rpk_miss (init : List (Int × Int)) (x : Int × Int) (l : Int) (h : x.2 < l) : rpk (init ++ [x]) l = init ++ [x] ++ [(l, l + 1)] := by
  have h1 : ¬ l < x.2 := by omega
  have h2 : ¬ l = x.2 := by omega
  simp [rpk, h1, h2]
theorem rpk_len (acc : List (Int × Int)) (l : Int) : (rpk acc l).length ≤ acc.length + 1 := by
  unfold rpk; split
  · split
    · simp
    · split <;> simp
  · simp
def rlinesV (ls : List Int) : List (Int × Int) := ls.foldl rpk []
theorem rlinesV_snoc (ls : List Int) (l : Int) : rlinesV (ls ++ [l]) = rpk (rlinesV ls) l := by simp [rlinesV]
theorem rlinesV_len (ls : List Int) : (rlinesV ls).length ≤ ls.length := by
  have : ∀ (ls : List Int) (acc : List (Int × Int)), (ls.foldl rpk acc).length ≤ acc.length + ls.length := by
    intro ls
    induction ls with
    | nil => intro acc; simp
    | cons l r ih =>
      intro acc
      have h1 := ih (rpk acc l)
      have h2 := rpk_len acc l
      rw [List.foldl_cons, List.length_cons]; omega
  have h := this ls []
  simpa [rlinesV] using h
theorem rlinesV_next {ls : List Int} {i : Nat} {x : Int} (h : ls[i]? = some x) : rlinesV (ls.take (i + 1)) = rpk (rlinesV (ls.take i)) x := by
  obtain ⟨hi, he⟩ := List.getElem?_eq_some_iff.1 h
  rw [List.take_succ_eq_append_getElem hi, rlinesV_snoc, he]
/-- Lines that rise. -/
def Up : List Int → Prop
  | [] => True
  | [_] => True
  | a :: b :: r => a ≤ b ∧ Up (b :: r)
theorem fold_pk : ∀ (ls : List Int) (init : List (Int × Int)) (f l : Int), Up (l :: ls) → ls.foldl rpk (init ++ [(f, l + 1)]) = ls.foldl pk (init ++ [(f, l + 1)])
  | [], _, _, _, _ => rfl
  | a :: r, init, f, l, h => by
    obtain ⟨h1, h2⟩ : l ≤ a ∧ Up (a :: r) := h
    rw [List.foldl_cons, List.foldl_cons]
    by_cases h3 : a ≤ l + 1
    · rw [pk_hit _ _ _ h3]
      by_cases h4 : a < l + 1
      · rw [rpk_keep _ _ _ h4]
        have : a = l := by omega
        subst this
        exact fold_pk r init f a h2
      · rw [rpk_hit _ _ _ (show a = (f, l + 1).2 by show a = l + 1; omega)]
        have : a = l + 1 := by omega
        subst this
        exact fold_pk r init f (l + 1) h2
    · rw [pk_miss _ _ _ h3, rpk_miss _ _ _ (show l + 1 < a by omega)]
      exact fold_pk r (init ++ [(f, l + 1)]) a a h2
theorem rlinesV_eq {ls : List Int} (h : Up ls) : rlinesV ls = linesV ls := by
  cases ls with
  | nil => rfl
  | cons l r => exact fold_pk r [] l l h
theorem up_of : ∀ {l : List Lz} {m : Int}, okFrom m l = true → Up (l.map Prod.snd)
  | [], _, _ => trivial
  | [_], _, _ => trivial
  | a :: b :: r, m, h => by
    rw [okFrom] at h
    simp only [Bool.and_eq_true] at h
    have h3 := up_of h.2
    have h2 := h.2
    rw [okFrom] at h2
    simp only [Bool.and_eq_true, decide_eq_true_eq] at h2
    exact ⟨h2.1.1.2, h3⟩
theorem up_tail : ∀ {a : Int} {l : List Int}, Up (a :: l) → Up l
  | _, [], _ => trivial
  | _, _ :: _, h => h.2
theorem up_drop : ∀ {l : List Int} (k : Nat), Up l → Up (l.drop k)
  | _, 0, h => h
  | [], k + 1, _ => by simp [Up]
  | a :: l, k + 1, h => up_drop k (up_tail h)
theorem up_take : ∀ {l : List Int} (k : Nat), Up l → Up (l.take k)
  | _, 0, _ => by simp [Up]
  | [], k + 1, _ => by simp [Up]
  | [a], k + 1, _ => by simp [Up]
  | a :: b :: r, 1, _ => by simp [Up]
  | a :: b :: r, k + 2, h => by
    have := up_take (k + 1) h.2
    rw [List.take_succ_cons] at this ⊢
    rw [List.take_succ_cons]
    exact ⟨h.1, this⟩
theorem run_up {p : ByteArray} {ws : List Lz} (h : validV p ws = true) (k n : Nat) : rlinesV (((ws.drop k).take n).map Prod.snd) = linesV (((ws.drop k).take n).map Prod.snd) := by
  rw [validV, Bool.and_eq_true] at h
  refine rlinesV_eq ?_
  rw [List.map_take, List.map_drop]
  exact up_take n (up_drop k (up_of h.2))
end Go.Proofs.YtlecocmopeainaaDoor
