/- What Find finds is in order, apart, matched, and the best: plain facts. No conditions. -/
import Derived.Test.YtpoelhnceebmkaaGreatDoorE8
namespace Go.Proofs.YtpoelhnceebmkaaGreatDoor
open Go Go.RowKit Go.Shelf
set_option linter.unusedSimpArgs false
set_option linter.unusedVariables false

/-- What the best of the first k templates at place a is. -/
def BestOf (l : List Tm) (words : List ByteArray) (a k : Nat) (b : Fd) : Prop :=
  (b.2.2 = 0 → ∀ j t, j < k → l[j]? = some t → matchT t.2 words a = none) ∧
  (b.2.2 ≠ 0 → b.2.1 = a ∧ b.1 < k ∧ (∃ t, l[b.1]? = some t ∧ matchT t.2 words a = some b.2.2) ∧ ∀ j t e, j < k → l[j]? = some t → matchT t.2 words a = some e → e ≤ b.2.2 ∧ (e = b.2.2 → b.1 ≤ j))
theorem matchT_good {ps : List Pt} {words : List ByteArray} {a : Nat} (h : checkV ps = 0) (ha : a < words.length) : matchT ps words a = matchV ps words a := by
  unfold matchT
  rw [if_pos ⟨h, by omega, by omega⟩, Int.toNat_natCast]
theorem matchT_bad {ps : List Pt} {words : List ByteArray} {a : Int} (h : checkV ps ≠ 0) : matchT ps words a = none := matchT_no (fun q => h q.1)
theorem bestOf_step {l : List Tm} {words : List ByteArray} {a k : Nat} {b : Fd} {t : Tm} (ha : a < words.length) (ht : l[k]? = some t) (h : BestOf l words a k b) : BestOf l words a (k + 1) (if checkV t.2 = 0 then betterV l words a b k else b) := by
  have keep : matchT t.2 words a = none → BestOf l words a (k + 1) b := fun hn => by
    refine ⟨fun h0 j t' hj ht' => ?_, fun h0 => ?_⟩
    · by_cases e : j = k
      · subst e; rw [ht] at ht'; cases ht'; exact hn
      · exact h.1 h0 j t' (by omega) ht'
    · obtain ⟨h1, h2, h3, h4⟩ := h.2 h0
      refine ⟨h1, by omega, h3, fun j t' e hj ht' he => ?_⟩
      by_cases ej : j = k
      · subst ej; rw [ht] at ht'; cases ht'; rw [hn] at he; cases he
      · exact h4 j t' e (by omega) ht' he
  by_cases hc : checkV t.2 = 0
  · rw [if_pos hc]
    have hm := matchT_good (words := words) hc ha
    cases hv : matchV t.2 words a with
    | none => rw [better_none ht hv]; exact keep (hm.trans hv)
    | some e9 =>
      rw [better_some ht hv]
      have hm9 := hm.trans hv
      have hgt := matchV_gt hc hv
      by_cases hb : b.2.2 < e9
      · rw [if_pos hb]
        refine ⟨fun h0 => by have : e9 = 0 := h0; omega, fun _ => ⟨rfl, by show k < k + 1; omega, ⟨t, ht, hm9⟩, fun j t' e hj ht' he => ?_⟩⟩
        show e ≤ e9 ∧ (e = e9 → k ≤ j)
        by_cases ej : j = k
        · subst ej; rw [ht] at ht'; cases ht'; rw [hm9] at he; cases he; exact ⟨Nat.le_refl _, fun _ => Nat.le_refl _⟩
        · by_cases h0 : b.2.2 = 0
          · rw [h.1 h0 j t' (by omega) ht'] at he; cases he
          · have := (h.2 h0).2.2.2 j t' e (by omega) ht' he
            exact ⟨by omega, fun q => by omega⟩
      · rw [if_neg hb]
        have h0 : b.2.2 ≠ 0 := by omega
        obtain ⟨h1, h2, h3, h4⟩ := h.2 h0
        refine ⟨fun q => absurd q h0, fun _ => ⟨h1, by omega, h3, fun j t' e hj ht' he => ?_⟩⟩
        by_cases ej : j = k
        · subst ej; rw [ht] at ht'; cases ht'; rw [hm9] at he; cases he; exact ⟨by omega, fun _ => by omega⟩
        · exact h4 j t' e (by omega) ht' he
  · rw [if_neg hc]; exact keep (matchT_bad hc)
theorem bestOf_take {l : List Tm} {words : List ByteArray} {a : Nat} (ha : a < words.length) : ∀ k, k ≤ l.length → BestOf l words a k (bestV l words a (goodV 0 (l.take k)))
  | 0, _ => ⟨fun _ j t hj => by omega, fun h => absurd rfl h⟩
  | k + 1, hk => by
    have hk2 : k < l.length := by omega
    have ht : l[k]? = some l[k] := List.getElem?_eq_getElem hk2
    have ih := bestOf_take (l := l) ha k (by omega)
    rw [best_take ht]
    exact bestOf_step ha ht ih
theorem bestOf_all {l : List Tm} {words : List ByteArray} {a : Nat} (ha : a < words.length) : BestOf l words a l.length (bestV l words a (goodV 0 l)) := by
  have := bestOf_take (l := l) ha l.length (Nat.le_refl _)
  rwa [List.take_length] at this

/-- A find as the program has it: the template may be -1. -/
abbrev Fi := Int × Nat × Nat
def toI (b : Fd) : Fi := ((b.1 : Int), b.2.1, b.2.2)
/-- From place a on all is as it should be. -/
def Fine (l : List Tm) (words : List ByteArray) : Nat → List Fi → Prop
  | _, [] => True
  | a, m :: r => a ≤ m.2.1 ∧ m.2.1 ≤ m.2.2 ∧ m.2.2 ≤ words.length ∧ m.1 < l.length ∧ -1 ≤ m.1 ∧ (∀ i, a ≤ i → i < m.2.1 → ∀ (k : Nat) (t : Tm), l[k]? = some t → matchT t.2 words i = none) ∧
      (m.2.1 < words.length → ∀ (k : Nat) (t : Tm), l[k]? = some t → (∀ e, matchT t.2 words m.2.1 = some e → e ≤ m.2.2 ∧ (e = m.2.2 → m.1 ≤ k)) ∧ ((k : Int) = m.1 → matchT t.2 words m.2.1 = some m.2.2)) ∧ Fine l words m.2.2 r
theorem Fine.low {l : List Tm} {words : List ByteArray} {a : Nat} {m : Fi} {r : List Fi} (h : Fine l words (a + 1) (m :: r)) (hn : ∀ (k : Nat) (t : Tm), l[k]? = some t → matchT t.2 words a = none) : Fine l words a (m :: r) := by
  obtain ⟨h1, h2, h3, h4, h5, h6, h7, h8⟩ := h
  refine ⟨by omega, h2, h3, h4, h5, fun i hi hi2 k t ht => ?_, h7, h8⟩
  by_cases e : i = a
  · subst e; exact hn k t ht
  · exact h6 i (by omega) hi2 k t ht
theorem fine_find (l : List Tm) (words : List ByteArray) : ∀ (f a : Nat), a ≤ words.length → words.length - a ≤ f → Fine l words a ((findV l words (goodV 0 l) f a).map toI ++ [((-1 : Int), words.length, words.length)]) := by
  have stop : ∀ a, a = words.length → Fine l words a [((-1 : Int), words.length, words.length)] := fun a ha =>
    ⟨by show a ≤ words.length; omega, Nat.le_refl _, Nat.le_refl _, by show (-1 : Int) < _; omega, Int.le_refl _, fun i h1 h2 => by have : i < words.length := h2; omega, fun h => by have : words.length < words.length := h; omega, trivial⟩
  intro f
  induction f with
  | zero => intro a h1 h2; exact stop a (by omega)
  | succ f ih =>
    intro a h1 h2
    rw [findV]
    by_cases ha : a < words.length
    · rw [if_pos ha]
      have hB := bestOf_all (l := l) ha
      have hgt := bestV_gt (l := l) (words := words) (a := a) (good := goodV 0 l) (fun k hk => by obtain ⟨_, t, q1, q2⟩ := goodV_mem l 0 k hk; exact ⟨t, by simpa using q1, q2⟩)
      generalize bestV l words a (goodV 0 l) = b at *
      by_cases hb : b.2.2 = 0
      · rw [if_pos hb]
        have h3 := ih (a + 1) (by omega) (by omega)
        have hn : ∀ (k : Nat) (t : Tm), l[k]? = some t → matchT t.2 words a = none := fun k t ht => hB.1 hb k t (List.getElem?_eq_some_iff.1 ht).1 ht
        cases hq : (findV l words (goodV 0 l) f (a + 1)).map toI ++ [((-1 : Int), words.length, words.length)] with
        | nil => simp at hq
        | cons m r => rw [hq] at h3; exact h3.low hn
      · rw [if_neg hb, List.map_cons, List.cons_append]
        obtain ⟨q1, q2, ⟨t0, q3, q4⟩, q5⟩ := hB.2 hb
        obtain ⟨g1, g2⟩ := hgt hb
        refine ⟨by show a ≤ b.2.1; omega, by show b.2.1 ≤ b.2.2; omega, g2, by show (b.1 : Int) < _; omega, by show (-1 : Int) ≤ (b.1 : Int); omega, fun i h3 h4 => by have : i < b.2.1 := h4; omega, fun _ k t ht => ?_, ih b.2.2 g2 (by omega)⟩
        show (∀ e, matchT t.2 words (b.2.1 : Nat) = some e → e ≤ b.2.2 ∧ (e = b.2.2 → (b.1 : Int) ≤ k)) ∧ ((k : Int) = (b.1 : Int) → matchT t.2 words (b.2.1 : Nat) = some b.2.2)
        rw [q1]
        refine ⟨fun e he => ?_, fun hk => ?_⟩
        · have := q5 k t e (List.getElem?_eq_some_iff.1 ht).1 ht he
          exact ⟨this.1, fun h => by have := this.2 h; omega⟩
        · obtain rfl : k = b.1 := by omega
          rw [q3] at ht; cases ht; exact q4
    · rw [if_neg ha]; exact stop a (by omega)
end Go.Proofs.YtpoelhnceebmkaaGreatDoor
