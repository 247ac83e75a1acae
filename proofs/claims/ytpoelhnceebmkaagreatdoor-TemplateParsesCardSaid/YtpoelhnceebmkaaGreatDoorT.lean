/- template.Parse as a function on data. No conditions. -/
import Derived.Test.YtpoelhnceebmkaaGreatDoorS
namespace Go.Proofs.YtpoelhnceebmkaaGreatDoor
open Go Go.RowKit Go.Shelf
set_option linter.unusedSimpArgs false
set_option linter.unusedVariables false

abbrev PR := Option (List Pt) × Nat × Int
def wordsL (l : List UInt8) : List ByteArray := (spansV (S l)).map fun x => S x.2
def totW : List Pt → Nat
  | [] => 0
  | p :: r => p.2.length + totW r
theorem totW_app : ∀ (a b : List Pt), totW (a ++ b) = totW a + totW b
  | [], b => by simp [totW]
  | p :: a, b => by simp [totW, totW_app a b]; omega
def finV (ps : List Pt) (last : Nat) (ws : List ByteArray) : PR :=
  if 1 < ps.length ∧ ws = [] then (none, last, 5) else if totW ps = 0 then (none, 0, 1) else if 256 < totW ps then (none, 0, 10) else (some ps, 0, 0)
def brk (l : List UInt8) : Int := Lib.indexAny l [123, 125]
def goV : Nat → List UInt8 → Nat → Nat → List Pt → Int → PR
  | 0, _, _, _, _, _ => (none, 0, 0)
  | f + 1, l, at_, last, ps, h =>
    if brk l < 0 then finV (ps ++ [(h, wordsL l)]) last (wordsL l)
    else if (holeV (l.drop (brk l).toNat)).2 = 0 then (none, at_ + (brk l).toNat, 4)
    else if wordsL (l.take (brk l).toNat) = [] then (none, at_ + (brk l).toNat, 5)
    else goV f (l.drop ((brk l).toNat + (holeV (l.drop (brk l).toNat)).2)) (at_ + (brk l).toNat + (holeV (l.drop (brk l).toNat)).2) (at_ + (brk l).toNat) (ps ++ [(h, wordsL (l.take (brk l).toNat))]) ((holeV (l.drop (brk l).toNat)).1 : Nat)
def parseV (s : ByteArray) : PR := if 4096 < s.size then (none, 0, 10) else goV (s.size + 1) s.data.toList 0 0 [] 0

theorem hole1_le (a : UInt8) : (hole1 a).2 ≤ 3 := by unfold hole1; split <;> simp
theorem hole2_le (a b : UInt8) : (hole2 a b).2 ≤ 4 := by unfold hole2; split <;> simp
theorem holeV_len (l : List UInt8) : (holeV l).2 ≤ l.length := by
  unfold holeV
  split
  · rename_i h
    obtain ⟨x, a, r, rfl⟩ := idx_two h.1
    have := hole1_le ((x :: a :: 125 :: r).getD 1 0)
    simp only [List.length_cons]; omega
  · split
    · rename_i h
      obtain ⟨x, a, b, r, rfl⟩ := idx_three h.1
      have := hole2_le ((x :: a :: b :: 125 :: r).getD 1 0) ((x :: a :: b :: 125 :: r).getD 2 0)
      simp only [List.length_cons]; omega
    · simp
theorem hole1_val (a : UInt8) : (hole1 a).1 ≤ 99 := by
  unfold hole1
  split
  · rename_i h
    simp only [Bool.and_eq_true] at h
    obtain ⟨k, rfl⟩ := dg_val h.1
    have := k.2
    simp [UInt8.toNat_ofNat]; omega
  · simp
theorem hole2_val (a b : UInt8) : (hole2 a b).1 ≤ 99 := by
  unfold hole2
  split
  · rename_i h
    simp only [Bool.and_eq_true] at h
    obtain ⟨k, rfl⟩ := dg_val h.1.1
    obtain ⟨j, rfl⟩ := dg_val h.2
    have := k.2
    have := j.2
    simp [UInt8.toNat_ofNat]; omega
  · simp
theorem holeV_val (l : List UInt8) : (holeV l).1 ≤ 99 := by
  unfold holeV
  split
  · exact hole1_val _
  · split
    · exact hole2_val _ _
    · simp
theorem brk_lt : ∀ {l : List UInt8}, ¬ brk l < 0 → (brk l).toNat < l.length := by
  intro l h
  unfold brk at h ⊢
  induction l with
  | nil => simp [Lib.indexAny] at h
  | cons b l ih =>
    rw [Lib.indexAny] at h ⊢
    split at h
    · rename_i h1; rw [if_pos h1]; simp
    · rename_i h1
      rw [if_neg h1]
      split at h
      · omega
      · rename_i h2
        rw [if_neg h2]
        have h3 := Lib.indexAny_ge [123, 125] l
        simp at h2
        have := ih (by omega)
        simp only [List.length_cons]
        omega
end Go.Proofs.YtpoelhnceebmkaaGreatDoor
