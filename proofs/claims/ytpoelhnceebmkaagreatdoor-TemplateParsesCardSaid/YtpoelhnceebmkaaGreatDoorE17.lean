/- The reference's Parse: one step on the list of bytes. No conditions. -/
import Derived.Test.YtpoelhnceebmkaaGreatDoorE16
namespace Go.Proofs.YtpoelhnceebmkaaGreatDoor
open Go Go.RowKit Go.Shelf
set_option linter.unusedSimpArgs false
set_option linter.unusedVariables false

theorem wordsL_nil : wordsL [] = [] := by
  unfold wordsL spansV
  rfl
theorem wordsT_texts (t : ByteArray) : (wordsT t).map (·.1) = wordsL t.data.toList := by
  rw [wordsT, wordsL, S_data, List.map_map]
  rfl
theorem hole1_pos (a : UInt8) (h : (hole1 a).2 ≠ 0) : 1 ≤ (hole1 a).1 := by
  rw [hole1_eq] at h ⊢
  split at h
  · rename_i h1
    rw [if_pos h1]
    show 1 ≤ a.toNat - 48
    omega
  · exact absurd rfl h
theorem hole2_pos (a b : UInt8) (h : (hole2 a b).2 ≠ 0) : 1 ≤ (hole2 a b).1 := by
  rw [hole2_eq] at h ⊢
  split at h
  · rename_i h1
    rw [if_pos h1]
    show 1 ≤ (a.toNat - 48) * 10 + (b.toNat - 48)
    omega
  · exact absurd rfl h
theorem holeV_pos (l : List UInt8) (h : (holeV l).2 ≠ 0) : 1 ≤ (holeV l).1 := by
  unfold holeV at h ⊢
  split at h
  · rename_i h1
    rw [if_pos h1]
    exact hole1_pos _ h
  · rename_i h1
    rw [if_neg h1]
    split at h
    · rename_i h2
      rw [if_pos h2]
      exact hole2_pos _ _ h
    · exact absurd rfl h
theorem holeV_close (r : List UInt8) : (holeV (125 :: r)).2 = 0 := by
  have h0 := idx_hit r
  rw [holeV]
  rw [if_neg (fun h => by rw [h0] at h; have := h.1; simp at this), if_neg (fun h => by rw [h0] at h; have := h.1; simp at this)]
/-- The part's text is read up to n: no brace so far; n is 0, the end, or a brace. -/
structure St (L : List UInt8) (n : Nat) : Prop where
  le : n ≤ L.length
  no : Lib.NoAny L [123, 125] n
  at_ : n = 0 ∨ n = L.length ∨ L[n]? = some 123 ∨ L[n]? = some 125
theorem St.zero (L : List UInt8) : St L 0 := ⟨Nat.zero_le _, fun j b hj => by omega, .inl rfl⟩
theorem St.brkAt {L : List UInt8} {n : Nat} (h : St L n) (hb : L[n]? = some 123 ∨ L[n]? = some 125) : brk L = n := by
  rcases hb with hb | hb
  · exact Lib.indexAny_hit h.no hb (by decide)
  · exact Lib.indexAny_hit h.no hb (by decide)
theorem St.fin {L : List UInt8} {n f a last : Nat} {ps : List Pt} {h : Int} (H : St L n) (hn : n = L.length) (hf : 0 < f) : goV f L a last ps h = finV (ps ++ [(h, wordsL (L.take n))]) last (wordsL (L.take n)) := by
  subst hn
  have hb : brk L = -1 := Lib.indexAny_none H.no
  rw [goV_at hf, if_pos (by rw [hb]; decide), List.take_length]
theorem St.close {L : List UInt8} {n f a last : Nat} {ps : List Pt} {h : Int} (H : St L n) (hn : L[n]? = some 125) (hf : 0 < f) : goV f L a last ps h = (none, a + n, 4) := by
  have hb := H.brkAt (.inr hn)
  obtain ⟨hi, he⟩ := List.getElem?_eq_some_iff.1 hn
  rw [goV_at hf, hb, if_neg (by omega), if_pos (by rw [Int.toNat_natCast, List.drop_eq_getElem_cons hi, he]; exact holeV_close _), Int.toNat_natCast]
theorem St.bad {L : List UInt8} {n f a last : Nat} {ps : List Pt} {h : Int} (H : St L n) (hn : L[n]? = some 123) (hf : 0 < f) (h0 : (holeV (L.drop n)).2 = 0) : goV f L a last ps h = (none, a + n, 4) := by
  have hb := H.brkAt (.inl hn)
  rw [goV_at hf, hb, if_neg (by omega), if_pos (by rw [Int.toNat_natCast]; exact h0), Int.toNat_natCast]
theorem St.bare {L : List UInt8} {n f a last : Nat} {ps : List Pt} {h : Int} (H : St L n) (hn : L[n]? = some 123) (hf : 0 < f) (h0 : (holeV (L.drop n)).2 ≠ 0) (hw : wordsL (L.take n) = []) : goV f L a last ps h = (none, a + n, 5) := by
  have hb := H.brkAt (.inl hn)
  rw [goV_at hf, hb, if_neg (by omega), if_neg (by rw [Int.toNat_natCast]; exact h0), if_pos (by rw [Int.toNat_natCast]; exact hw), Int.toNat_natCast]
theorem St.next {L : List UInt8} {n f a last : Nat} {ps : List Pt} {h : Int} (H : St L n) (hn : L[n]? = some 123) (hf : 0 < f) (h0 : (holeV (L.drop n)).2 ≠ 0) (hw : wordsL (L.take n) ≠ []) :
    goV f L a last ps h = goV (f - 1) (L.drop (n + (holeV (L.drop n)).2)) (a + n + (holeV (L.drop n)).2) (a + n) (ps ++ [(h, wordsL (L.take n))]) ((holeV (L.drop n)).1 : Nat) := by
  have hb := H.brkAt (.inl hn)
  rw [goV_at hf, hb, if_neg (by omega), if_neg (by rw [Int.toNat_natCast]; exact h0), if_neg (by rw [Int.toNat_natCast]; exact hw), Int.toNat_natCast]
/-- The end: what the last part's words lead to, in the reference's order. -/
theorem finV_ref {ps : List Pt} {last : Nat} {h : Int} {ws : List ByteArray} (hp : ps ≠ [] → 0 < totW ps) : finV (ps ++ [(h, ws)]) last ws =
    if totW (ps ++ [(h, ws)]) = 0 then (none, 0, 1) else if ws = [] then (none, last, 5) else if 256 < totW (ps ++ [(h, ws)]) then (none, 0, 10) else (some (ps ++ [(h, ws)]), 0, 0) := by
  have e : totW (ps ++ [(h, ws)]) = totW ps + ws.length := by rw [totW_app]; simp [totW]
  have e2 : (ps ++ [(h, ws)]).length = ps.length + 1 := by simp
  rw [finV, e, e2]
  by_cases hps : ps = []
  · subst hps
    rw [if_neg (fun q => by simp at q)]
    by_cases hw : ws = []
    · subst hw
      rw [if_pos (by simp [totW]), if_pos (by simp [totW])]
    · have : 0 < ws.length := List.length_pos_iff.2 hw
      have h0 : totW [] = 0 := rfl
      rw [if_neg (show ¬ totW [] + ws.length = 0 by omega), if_neg (show ¬ totW [] + ws.length = 0 by omega), if_neg hw]
  · have h1 := hp hps
    have h2 : 0 < ps.length := List.length_pos_iff.2 hps
    by_cases hw : ws = []
    · rw [if_pos ⟨by omega, hw⟩, if_neg (by omega), if_pos hw]
    · rw [if_neg (fun q => hw q.2), if_neg (show ¬ totW ps + ws.length = 0 by omega), if_neg (show ¬ totW ps + ws.length = 0 by omega), if_neg hw]
end Go.Proofs.YtpoelhnceebmkaaGreatDoor
