/- licitref35.Match on data answers as template.Match does. No conditions. -/
import Derived.Test.YtpoelhnceebmkaaGreatDoorE4
namespace Go.Proofs.YtpoelhnceebmkaaGreatDoor
open Go Go.RowKit Go.Shelf
set_option linter.unusedSimpArgs false
set_option linter.unusedVariables false

def nearV (ends : List Nat) (h a : Nat) : Bool := ends.any fun e => decide (e ≤ a) && decide (a ≤ e + h)
def nextTo (ws words : List ByteArray) (h : Nat) (ends : List Nat) (k : Nat) : List Nat := ((List.range k).filter fun a => nearV ends h a && standsV ws words a).map (· + ws.length)
def endsL (words : List ByteArray) : List Pt → List Nat → List Nat
  | [], E => E
  | p :: r, E => if nextTo p.2 words p.1.toNat E (words.length + 1) = [] then [] else endsL words r (nextTo p.2 words p.1.toNat E (words.length + 1))
def headI (l : List Nat) : Int := match l with
  | [] => -1
  | e :: _ => (e : Int)
theorem nextTo_succ (ws words : List ByteArray) (h : Nat) (ends : List Nat) (k : Nat) : nextTo ws words h ends (k + 1) = nextTo ws words h ends k ++ if nearV ends h k && standsV ws words k then [k + ws.length] else [] := by
  unfold nextTo
  rw [List.range_succ, List.filter_append, List.map_append]
  congr 1
  simp only [List.filter_cons, List.filter_nil]
  split <;> simp
theorem nextTo_mem {ws words : List ByteArray} {h : Nat} {ends : List Nat} {k j : Nat} : j ∈ nextTo ws words h ends k ↔ ∃ a, a < k ∧ nearV ends h a = true ∧ standsV ws words a = true ∧ j = a + ws.length := by
  unfold nextTo
  simp only [List.mem_map, List.mem_filter, List.mem_range, Bool.and_eq_true]
  constructor
  · rintro ⟨a, ⟨h1, h2, h3⟩, h4⟩; exact ⟨a, h1, h2, h3, h4.symm⟩
  · rintro ⟨a, h1, h2, h3, h4⟩; exact ⟨a, ⟨h1, h2, h3⟩, h4.symm⟩
theorem nextTo_sorted (ws words : List ByteArray) (h : Nat) (ends : List Nat) (k : Nat) : (nextTo ws words h ends k).Pairwise (· < ·) := by
  unfold nextTo
  rw [List.pairwise_map]
  refine (List.Pairwise.filter _ List.pairwise_lt_range).imp ?_
  intro a b h; omega
theorem near_iff {ends : List Nat} {h a : Nat} : nearV ends h a = true ↔ ∃ e, e ∈ ends ∧ e ≤ a ∧ a ≤ e + h := by
  unfold nearV
  simp only [List.any_eq_true, Bool.and_eq_true, decide_eq_true_eq]
theorem next_step {ws words : List ByteArray} {h : Nat} {ends : List Nat} {T : Nat → Bool} (hT : ∀ j, T j = true ↔ j ∈ ends) (j : Nat) : stepE ws words h T j = true ↔ j ∈ nextTo ws words h ends (words.length + 1) := by
  rw [nextTo_mem]
  unfold stepE
  simp only [Bool.and_eq_true, decide_eq_true_eq, List.any_eq_true, List.mem_range]
  constructor
  · rintro ⟨⟨h1, h2⟩, d, h3, h4, h5⟩
    have hle := standsV_le h2
    exact ⟨j - ws.length, by omega, near_iff.2 ⟨_, (hT _).1 h5, by omega, by omega⟩, h2, by omega⟩
  · rintro ⟨a, h1, h2, h3, h4⟩
    obtain ⟨e, h5, h6, h7⟩ := near_iff.1 h2
    subst h4
    rw [Nat.add_sub_cancel]
    exact ⟨⟨by omega, h3⟩, a - e, by omega, by omega, by rw [show a - (a - e) = e by omega]; exact (hT e).2 h5⟩
theorem endsV_none {words : List ByteArray} : ∀ (r : List Pt) {T : Nat → Bool}, (∀ j, T j = false) → ∀ j, endsV words r T j = false
  | [], T, h, j => h j
  | p :: r, T, h, j => endsV_none r (fun k => by
      unfold stepE
      simp [h]) j
theorem endsL_spec {words : List ByteArray} : ∀ (r : List Pt) {T : Nat → Bool} {E : List Nat}, (∀ j, T j = true ↔ j ∈ E) → E.Pairwise (· < ·) →
    (∀ j, endsV words r T j = true ↔ j ∈ endsL words r E) ∧ (endsL words r E).Pairwise (· < ·)
  | [], T, E, h, hs => ⟨h, hs⟩
  | p :: r, T, E, h, hs => by
    rw [endsV, endsL]
    have hn := fun j => next_step (ws := p.2) (words := words) (h := p.1.toNat) h j
    split
    · rename_i he
      refine ⟨fun j => ?_, List.Pairwise.nil⟩
      have : ∀ k, stepE p.2 words p.1.toNat T k = false := fun k => by
        cases e : stepE p.2 words p.1.toNat T k with
        | false => rfl
        | true => have := (hn k).1 e; rw [he] at this; cases this
      rw [endsV_none r this j]
      simp
    · exact endsL_spec r hn (nextTo_sorted _ _ _ _ _)
theorem endsL_le {words : List ByteArray} : ∀ (r : List Pt) {E : List Nat}, (∀ j ∈ E, j ≤ words.length) → ∀ j ∈ endsL words r E, j ≤ words.length
  | [], E, h, j, hj => h j hj
  | p :: r, E, h, j, hj => by
    rw [endsL] at hj
    split at hj
    · cases hj
    · refine endsL_le r (fun k hk => ?_) j hj
      obtain ⟨a, h1, h2, h3, h4⟩ := nextTo_mem.1 hk
      have := standsV_le h3
      omega
theorem least_head {T : Nat → Bool} {M : Nat} {E : List Nat} (hT : ∀ j, T j = true ↔ j ∈ E) (hs : E.Pairwise (· < ·)) (hM : ∀ j ∈ E, j ≤ M) : headI E = match leastV T M with
    | some j => (j : Int)
    | none => -1 := by
  unfold leastV
  cases E with
  | nil =>
    have : (List.range (M + 1)).find? T = none := by
      rw [List.find?_eq_none]
      intro x _ hx
      have := (hT x).1 hx
      cases this
    rw [this]; rfl
  | cons e r =>
    have : (List.range (M + 1)).find? T = some e := by
      rw [List.find?_range_eq_some]
      refine ⟨(hT e).2 (by simp), by have := hM e (by simp); simp; omega, fun j hj => ?_⟩
      cases h : T j with
      | false => rfl
      | true =>
        have h1 := (hT j).1 h
        rcases List.mem_cons.1 h1 with rfl | h1
        · omega
        · have := (List.pairwise_cons.1 hs).1 j h1
          omega
    rw [this]; rfl
/-- What the reference's Match hands back. -/
def rmatchV (ps : List Pt) (words : List ByteArray) (a : Int) : Int := match matchT ps words a with
  | some j => (j : Int)
  | none => -1
theorem rmatch_head {p0 : Pt} {r : List Pt} {words : List ByteArray} {a : Nat} (hc : checkV (p0 :: r) = 0) (ha : a < words.length) (hs : standsV p0.2 words a = true) : rmatchV (p0 :: r) words a = headI (endsL words r [a + p0.2.length]) := by
  have hle := standsV_le hs
  have h0 : ∀ j, (fun j => decide (j = a + p0.2.length)) j = true ↔ j ∈ [a + p0.2.length] := fun j => by simp
  obtain ⟨h1, h2⟩ := endsL_spec (words := words) r h0 (List.pairwise_singleton _ _)
  rw [least_head (M := words.length) h1 h2 (endsL_le r (fun j hj => by rw [List.mem_singleton.1 hj]; exact hle))]
  unfold rmatchV matchT
  rw [if_pos ⟨hc, by omega, by omega⟩, Int.toNat_natCast, matchV, if_pos hs]
theorem rmatch_no {ps : List Pt} {words : List ByteArray} {a : Int} (h : ¬ (checkV ps = 0 ∧ 0 ≤ a ∧ a < words.length)) : rmatchV ps words a = -1 := by
  unfold rmatchV
  rw [matchT_no h]
theorem rmatch_stands {p0 : Pt} {r : List Pt} {words : List ByteArray} {a : Nat} (hs : standsV p0.2 words a = false) : rmatchV (p0 :: r) words a = -1 := by
  unfold rmatchV matchT
  split
  · rename_i h
    split at h
    · rw [Int.toNat_natCast, matchV, hs] at h; cases h
    · cases h
  · rfl
end Go.Proofs.YtpoelhnceebmkaaGreatDoor
