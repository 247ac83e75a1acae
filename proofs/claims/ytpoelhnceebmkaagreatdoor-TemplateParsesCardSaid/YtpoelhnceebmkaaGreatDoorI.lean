/- template.match. No conditions but the sizes' own. -/
import Derived.Test.YtpoelhnceebmkaaGreatDoorH
namespace Go.Proofs.YtpoelhnceebmkaaGreatDoor
open Go Go.RowKit
set_option linter.unusedSimpArgs false
set_option linter.unusedVariables false

theorem pCells_cons (p : Pt) (r : List Pt) (v : Value) (vs : List Value) : (pCells (p :: r) (v :: vs)).drop 2 = pCells r vs := rfl
theorem PRd.tail {w : World} {A : Option Addr} {n c : Nat} {p0 : Pt} {r : List Pt} (h : PRd w A (n + 1) (p0 :: r)) (hc : n + 1 ≤ c) : PRd w (if c = 1 then A else A.map (·.add (1 * 2))) n r := by
  obtain ⟨h0, vs, h1, hr, hw⟩ := h
  cases vs with
  | nil => simp at h1
  | cons v vs =>
    have hr2 := hr.cut (k := 1) (cap := c) (by omega) hc
    rw [show 1 * 2 = 2 from rfl, pCells_cons] at hr2
    refine ⟨by simpa using h0, vs, by simpa using h1, hr2, fun i hi hi' => ?_⟩
    exact hw (i + 1) (by simpa using hi) (by simpa using hi')
theorem slice_tail (A : Option Addr) (n c : Nat) (h1 : 1 ≤ n) (w : World) : (Instr.slice 23 (.slice A n c) (some (.int .i64 1)) none none).run Tryz.prog w = .ok (.slice (if c = 1 then A else A.map (·.add (1 * 2))) (n - 1) (c - 1)) w := by
  have hu : Tryz.prog.underlying 23 = some (.slice (Tryz.prog.elem 23)) := by kernel_rfl
  have hz : (Go.sizeOf (Tryz.prog.elem 23)).run Tryz.prog w = .ok 2 w := by kernel_rfl
  rw [run_slice_l w 23 A n c hu .i64 1 (by omega) (by omega), hz]
  rfl

/-! ### the form's ends -/
/-- From the ends T over a hole of at most h words and the words ws. -/
def stepE (ws words : List ByteArray) (h : Nat) (T : Nat → Bool) (j : Nat) : Bool :=
  decide (ws.length ≤ j) && standsV ws words (j - ws.length) && (List.range (h + 1)).any fun d => decide (d ≤ j - ws.length) && T (j - ws.length - d)
def endsV (words : List ByteArray) : List Pt → (Nat → Bool) → Nat → Bool
  | [], T => T
  | p :: r, T => endsV words r (stepE p.2 words p.1.toNat T)
def leastV (T : Nat → Bool) (M : Nat) : Option Nat := (List.range (M + 1)).find? T
def matchV (ps : List Pt) (words : List ByteArray) (i : Nat) : Option Nat :=
  match ps with
  | [] => none
  | p :: r => if standsV p.2 words i then leastV (endsV words r fun j => decide (j = i + p.2.length)) words.length else none

theorem standsV_le {part words : List ByteArray} {i : Nat} (h : standsV part words i = true) : i + part.length ≤ words.length := by
  simp only [standsV, Bool.and_eq_true, decide_eq_true_eq] at h; exact h.1
theorem stepE_le {ws words : List ByteArray} {h : Nat} {T : Nat → Bool} {j : Nat} (hj : stepE ws words h T j = true) : j ≤ words.length := by
  simp only [stepE, Bool.and_eq_true, decide_eq_true_eq] at hj
  have := standsV_le hj.1.2; omega
theorem stepE_congr {ws words : List ByteArray} {h : Nat} {T T' : Nat → Bool} (e : ∀ k, T k = T' k) : stepE ws words h T = stepE ws words h T' := by rw [show T = T' from funext e]

/-- The ends while the loop over the holes of e is under way: up to i all are in. -/
def partE (ws words : List ByteArray) (h : Nat) (T : Nat → Bool) (e i : Nat) (j : Nat) : Bool :=
  stepE ws words h T j || (decide (ws.length ≤ j) && standsV ws words (j - ws.length) && decide (e ≤ j - ws.length) && decide (j - ws.length < i))
theorem partE_start (ws words : List ByteArray) (h : Nat) (T : Nat → Bool) (e : Nat) : partE ws words h T e e = stepE ws words h T := by
  funext j
  unfold partE
  by_cases h1 : e ≤ j - ws.length
  · have : ¬ j - ws.length < e := by omega
    simp [this]
  · simp [h1]
theorem partE_le {ws words : List ByteArray} {h : Nat} {T : Nat → Bool} {e i j : Nat} (hj : partE ws words h T e i j = true) : j ≤ words.length := by
  unfold partE at hj
  rw [Bool.or_eq_true] at hj
  rcases hj with hj | hj
  · exact stepE_le hj
  · simp only [Bool.and_eq_true, decide_eq_true_eq] at hj
    have := standsV_le hj.1.1.2; omega
theorem partE_add (ws words : List ByteArray) (h : Nat) (T : Nat → Bool) (e i : Nat) (hs : standsV ws words i = true) (he : e ≤ i) :
    (fun j => partE ws words h T e i j || decide (j = i + ws.length)) = partE ws words h T e (i + 1) := by
  funext j
  unfold partE
  rw [Bool.or_assoc]
  congr 1
  by_cases h1 : j = i + ws.length
  · subst h1
    have e1 : i + ws.length - ws.length = i := by omega
    simp [e1, hs, he]
  · by_cases h2 : ws.length ≤ j
    · have : (j - ws.length < i) ↔ (j - ws.length < i + 1) := by omega
      simp [h1, this]
    · simp [h1, h2]
theorem partE_skip (ws words : List ByteArray) (h : Nat) (T : Nat → Bool) (e i : Nat) (hs : standsV ws words i = false) :
    partE ws words h T e i = partE ws words h T e (i + 1) := by
  funext j
  unfold partE
  congr 1
  by_cases h1 : ws.length ≤ j ∧ j - ws.length = i
  · rw [h1.2, hs]; simp
  · by_cases h2 : ws.length ≤ j
    · have : (j - ws.length < i) ↔ (j - ws.length < i + 1) := by omega
      simp [this]
    · simp [h2]
theorem partE_had (ws words : List ByteArray) (h : Nat) (T : Nat → Bool) (e i : Nat) (hs : partE ws words h T e i (i + ws.length) = true) :
    partE ws words h T e i = partE ws words h T e (i + 1) := by
  have e1 : i + ws.length - ws.length = i := by omega
  cases hst : standsV ws words i
  · exact partE_skip ws words h T e i hst
  · funext j
    by_cases h1 : j = i + ws.length
    · subst h1
      rw [hs]
      unfold partE at hs ⊢
      rw [Bool.or_eq_true] at hs
      rcases hs with hs | hs
      · rw [hs]; rfl
      · rw [e1] at hs
        have : ¬ i < i := by omega
        simp [this] at hs
    · unfold partE
      congr 1
      by_cases h2 : ws.length ≤ j
      · have : (j - ws.length < i) ↔ (j - ws.length < i + 1) := by omega
        simp [this]
      · simp [h2]
theorem partE_end (ws words : List ByteArray) (h : Nat) (T L : Nat → Bool) (e : Nat) (hT : T e = true) (hL : L e = true) :
    partE ws words h (fun j => T j && !L j) e (e + h + 1) = stepE ws words h (fun j => T j && !(L j && !decide (j = e))) := by
  funext j
  unfold partE stepE
  by_cases h1 : ws.length ≤ j
  · cases hst : standsV ws words (j - ws.length)
    · simp
    · simp only [h1, decide_true, Bool.true_and]
      rw [Bool.eq_iff_iff]
      simp only [Bool.or_eq_true, Bool.and_eq_true, decide_eq_true_eq, List.any_eq_true, List.mem_range, Bool.not_eq_true', Bool.and_eq_false_iff, Bool.not_eq_false']
      generalize j - ws.length = q
      constructor
      · rintro (⟨d, hd, hdq, h2, h3⟩ | ⟨h2, h3⟩)
        · exact ⟨d, hd, hdq, h2, Or.inl h3⟩
        · refine ⟨q - e, by omega, by omega, ?_⟩
          rw [show q - (q - e) = e by omega]
          exact ⟨hT, Or.inr (by simp)⟩
      · rintro ⟨d, hd, hdq, h2, h3⟩
        rcases h3 with h3 | h3
        · exact Or.inl ⟨d, hd, hdq, h2, h3⟩
        · have : q - d = e := by simpa using h3
          exact Or.inr ⟨by omega, by omega⟩
  · simp [h1]
/-- What the loop for the least end has so far. -/
def LstI (T L : Nat → Bool) (x : Int) : Prop := (x = -1 ∧ ∀ j, T j = true → L j = true) ∨ ∃ m : Nat, x = (m : Int) ∧ T m = true ∧ ∀ j, T j = true → L j = false → m ≤ j
theorem leastV_of {T : Nat → Bool} {M : Nat} (hM : ∀ j, T j = true → j ≤ M) {x : Int} (h : LstI T (fun _ => false) x) :
    (x = -1 ∧ leastV T M = none) ∨ ∃ m : Nat, x = (m : Int) ∧ leastV T M = some m ∧ m ≤ M := by
  rcases h with ⟨rfl, h⟩ | ⟨m, rfl, h1, h2⟩
  · left
    refine ⟨rfl, ?_⟩
    unfold leastV
    rw [List.find?_eq_none]
    intro j _ hj
    have := h j hj
    cases this
  · right
    refine ⟨m, rfl, ?_, hM m h1⟩
    unfold leastV
    rw [List.find?_range_eq_some]
    refine ⟨h1, ?_, fun j hj => ?_⟩
    · have := hM m h1; simp; omega
    · cases hT : T j
      · rfl
      · have := h2 j hT rfl; omega
end Go.Proofs.YtpoelhnceebmkaaGreatDoor
