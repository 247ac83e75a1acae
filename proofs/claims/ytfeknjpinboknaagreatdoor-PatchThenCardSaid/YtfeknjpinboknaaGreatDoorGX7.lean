/- Plain: what joining two patches gives. No conditions. -/
import Derived.Test.YtfeknjpinboknaaGreatDoorGW28
import Derived.Test.YtfeknjpinboknaaGreatDoorGX4

namespace Go.Proofs.YtfeknjpinboknaaGreatDoor
open Go Go.RowKit Go.Joins
set_option linter.unusedSimpArgs false
set_option linter.unusedVariables false

def thnX (l1 l2 : List Hk) : List (Option Nat) := comp (oldO l1).1 (oldO l2).1
def thnE (sum : ByteArray → ByteArray) (b1 : ByteArray) (l1 : List Hk) (b2 : ByteArray) (l2 : List Hk) (data : ByteArray) : Int := if appE sum b1 l1 data = 0 then appE sum b2 l2 (joinV (appOut data l1)) else appE sum b1 l1 data
def thnO (data : ByteArray) (l1 l2 : List Hk) : List ByteArray := appOut (joinV (appOut data l1)) l2
def thnL (data : ByteArray) (l1 l2 : List Hk) : List Hk := ofV (thnO data l1 l2) (parts 10 data).length (fpairs 0 (thnX l1 l2))
def ThnP (sum : ByteArray → ByteArray) (b1 : ByteArray) (l1 : List Hk) (b2 : ByteArray) (l2 : List Hk) (data : ByteArray) (w : World) (e : Ending) (w' : World) : Prop :=
  if thnE sum b1 l1 b2 l2 data = 0 then PatP w b1 (thnL data l1 l2) e w' else New w w' ∧ e = .returned (.tuple #[.agg #[.string ⟨#[]⟩, .slice none 0 0], .int .i64 (thnE sum b1 l1 b2 l2 data)])
theorem ok_of {base : ByteArray} {l : List Hk} (h : validV base l = true) : ∀ x ∈ l, OkH x := okA_of h
theorem thn_ok {old mid : List ByteArray} {l1 l2 : List Hk} (ho1 : ∀ h ∈ l1, OkH h) (hc1 : cnt 1 l1 + cnt 2 l1 = old.length) (hm : (appO old l1).1 = mid) (ho2 : ∀ h ∈ l2, OkH h) (hc2 : cnt 1 l2 + cnt 2 l2 = mid.length) :
    UpF old.length 0 (thnX l1 l2) ∧ (thnX l1 l2).length = (appO mid l2).1.length ∧ Mt (thnX l1 l2) old (appO mid l2).1 ∧ (oldO l1).1.length = mid.length := by
  subst hm
  have h1 := pairs_ok ho1 hc1
  have h2 := pairs_ok ho2 hc2
  have m1 := old_mt old l1 ho1 (by omega)
  have m2 := old_mt (appO old l1).1 l2 ho2 (by omega)
  refine ⟨?_, by rw [thnX, comp, List.length_map]; exact m2.2.1, comp_mt m1.2.2 m2.2.2, m1.2.1⟩
  have u2 := h2.2.2
  rw [← m1.2.1] at u2
  exact comp_up (b := 0) u2 h1.2.2
theorem fpairs_fst {m : Nat} {xs : List (Option Nat)} {i k : Nat} (h : UpF m i xs) : ∀ p ∈ fpairs k xs, p.1 < m := fun p hp => by
  have hr := rise_up k h
  have key : ∀ (ps : List (Nat × Nat)) (a b n : Nat), Rise m n a b ps → ∀ p ∈ ps, p.1 < m := by
    intro ps
    induction ps with
    | nil => intro _ _ _ _ p hp; cases hp
    | cons q r ih =>
      intro a b n h p hp
      rcases List.mem_cons.1 hp with rfl | hp
      · exact h.2.2.1
      · exact ih _ _ _ h.2.2.2.2 p hp
  exact key _ _ _ _ hr p hp
theorem fpairs_le : ∀ (xs : List (Option Nat)) (k : Nat), (fpairs k xs).length ≤ xs.length
  | [], _ => Nat.le_refl _
  | none :: r, k => by rw [fpairs, List.length_cons]; have := fpairs_le r (k + 1); omega
  | some a :: r, k => by rw [fpairs, List.length_cons, List.length_cons]; have := fpairs_le r (k + 1); omega
theorem then_bound {out : List ByteArray} (hs : ∀ s ∈ out, s.size ≤ 1000000) (hb : out.length ≤ 1024) {m : Nat} (hm : m ≤ 1024) {fs : List (Option Nat)} (hf : fs.length ≤ out.length) (hu : UpF m 0 fs) :
    NB 5000 (thenO out fs).1.l ∧ (thenO out fs).1.d = 0 ∧ (thenO out fs).1.a.length ≤ 1024 ∧ SzK (thenO out fs).1.l ∧ (∀ s ∈ (thenO out fs).1.a, s.size ≤ 1000000) ∧ (thenO out fs).1.l.length ≤ 4000 ∧ (thenO out fs).2.1 ≤ m ∧ (thenO out fs).2.2 = fs.length := by
  obtain ⟨t1, t2, t3, t4, t5, t6⟩ := then_of out fs
  have hpl := fpairs_le fs 0
  have hof := ofL_bound hs hb (fpairs 0 fs) (fun p hp => by
    have h1 := fpairs_fst hu p hp
    have h2 := fpairs_mem hp
    have h3 := (List.getElem?_eq_some_iff.1 h2.2).1
    exact ⟨by omega, by omega⟩) (by omega)
  refine ⟨?_, t2, ?_, by rw [t1]; exact hof.2.1, ?_, by rw [t1]; have := hof.2.2.1; omega, ?_, t6⟩
  · rw [t1]; exact hof.1.mono (by omega)
  · rw [t3]; simp only [List.length_take, List.length_drop]; omega
  · rw [t3]; exact fun s h => hs s (List.mem_of_mem_drop (List.mem_of_mem_take h))
  · rw [t5]
    rcases List.eq_nil_or_concat (fpairs 0 fs) with e | ⟨l, p, e⟩
    · rw [e]; exact Nat.zero_le _
    · rw [e, List.concat_eq_append, ofL_snoc, ofS]
      have := fpairs_fst hu p (by rw [e, List.concat_eq_append]; simp)
      simp only; omega
theorem up_take {m : Nat} : ∀ {xs : List (Option Nat)} {i : Nat} (k : Nat), UpF m i xs → UpF m i (xs.take k)
  | _, _, 0, _ => by rw [List.take_zero]; exact trivial
  | [], _, k + 1, _ => trivial
  | none :: r, i, k + 1, h => up_take (xs := r) k h
  | some a :: r, i, k + 1, h => ⟨h.1, h.2.1, up_take k h.2.2⟩
theorem then_at {out : List ByteArray} {m : Nat} : ∀ {xs : List (Option Nat)} {i a : Nat} {st : Bs × Nat × Nat}, st.2.1 ≤ i → UpF m i (xs ++ [some a]) → (xs.foldl (thenS out) st).2.1 ≤ a
  | [], i, a, st, h, hu => Nat.le_trans h hu.1
  | none :: r, i, a, st, h, hu => then_at (xs := r) (i := i) (st := thenS out st none) h hu
  | some c :: r, i, a, st, h, hu => then_at (xs := r) (i := c + 1) (st := thenS out st (some c)) (Nat.le_refl _) hu.2.2
theorem then_le {out : List ByteArray} {m : Nat} {fs : List (Option Nat)} (hu : UpF m 0 fs) {k a : Nat} (h : fs[k]? = some (some a)) : (thenO out (fs.take k)).2.1 ≤ a ∧ a < m := by
  obtain ⟨hk, he⟩ := List.getElem?_eq_some_iff.1 h
  have h1 := up_take (k + 1) hu
  rw [List.take_succ_eq_append_getElem hk, he] at h1
  refine ⟨then_at (i := 0) (st := (⟨[], 0, []⟩, 0, 0)) (Nat.le_refl _) h1, ?_⟩
  have key : ∀ (xs : List (Option Nat)) (i : Nat), UpF m i (xs ++ [some a]) → a < m := by
    intro xs
    induction xs with
    | nil => intro i h; exact h.2.1
    | cons x r ih =>
      intro i h
      cases x with
      | none => exact ih i h
      | some b => exact ih _ h.2.2
  exact key _ _ h1
theorem then_more {out : List ByteArray} {fs : List (Option Nat)} {k : Nat} {f : Option Nat} (h : fs[k]? = some f) : thenO out (fs.take (k + 1)) = thenS out (thenO out (fs.take k)) f := by
  obtain ⟨hk, rfl⟩ := List.getElem?_eq_some_iff.1 h
  rw [List.take_succ_eq_append_getElem hk, thenO_snoc]
theorem thn_at {b1 b2 : ByteArray} {l1 l2 : List Hk} {k : Nat} {p : Int × Int} (hp : (trO b2 l2).1[k]? = some p) : (thnX l1 l2)[k]? = some (if 0 ≤ p.1 then (match (trO b1 l1).1[p.1.toNat]? with | some q => if 0 ≤ q.1 then some q.1.toNat else none | none => none) else none) := by
  have e1 := olds_tr b1 l1
  have e2 := olds_tr b2 l2
  have e3 : (oldO l1).1 = olds (trO b1 l1).1 := by rw [e1]
  have e4 : (oldO l2).1 = olds (trO b2 l2).1 := by rw [e2]
  have e5 : (olds (trO b2 l2).1)[k]? = some (if 0 ≤ p.1 then some p.1.toNat else none) := by rw [olds, List.getElem?_map, hp]; rfl
  rw [thnX, comp, e3, e4, List.getElem?_map, e5]
  show some (compS _ _) = _
  congr 1
  by_cases h : 0 ≤ p.1
  · rw [if_pos h, if_pos h, compS, Option.bind_some, olds, List.getElem?_map]
    cases (trO b1 l1).1[p.1.toNat]? with
    | none => rfl
    | some q => rfl
  · rw [if_neg h, if_neg h]; rfl
end Go.Proofs.YtfeknjpinboknaaGreatDoor

