/- template.Find. No conditions but the sizes' own. -/
import Derived.Test.YtpoelhnceebmkaaGreatDoorK
namespace Go.Proofs.YtpoelhnceebmkaaGreatDoor
open Go Go.RowKit
set_option linter.unusedSimpArgs false
set_option linter.unusedVariables false

/-! ### lists of templates -/
abbrev Tm := ByteArray × List Pt
def TsRd (w : World) (A : Option Addr) (n : Nat) (l : List Tm) : Prop :=
  l.length = n ∧ (0 < n → ∃ b o, A = some ⟨b, o, none⟩ ∧ ∀ i (h : i < l.length), ∃ v, w.cell? ⟨b, o + i * 2, none⟩ = some (.string l[i].1) ∧ w.cell? ⟨b, o + i * 2 + 1, none⟩ = some v ∧ TRd w (.agg #[.string l[i].1, v]) l[i].1 l[i].2)
theorem TsRd.new {w w' : World} {A : Option Addr} {n : Nat} {l : List Tm} (h : TsRd w A n l) (hn : New w w') : TsRd w' A n l :=
  ⟨h.1, fun h0 => by
    obtain ⟨b, o, e, hc⟩ := h.2 h0
    refine ⟨b, o, e, fun i hi => ?_⟩
    obtain ⟨v, c1, c2, ht⟩ := hc i hi
    exact ⟨v, cell_new hn c1, cell_new hn c2, ht.new hn⟩⟩
theorem TsRd.at {w : World} {A : Option Addr} {n : Nat} {l : List Tm} (h : TsRd w A n l) {i : Nat} (hi : i < n) : ∃ b o v t, A = some ⟨b, o, none⟩ ∧ l[i]? = some t ∧ w.cell? ⟨b, o + i * 2, none⟩ = some (.string t.1) ∧ w.cell? ⟨b, o + i * 2 + 1, none⟩ = some v ∧ TRd w (.agg #[.string t.1, v]) t.1 t.2 := by
  obtain ⟨b, o, rfl, hc⟩ := h.2 (by omega)
  obtain ⟨v, c1, c2, ht⟩ := hc i (by rw [h.1]; exact hi)
  exact ⟨b, o, v, l[i]'(by rw [h.1]; exact hi), rfl, List.getElem?_eq_getElem _, c1, c2, ht⟩

/-! ### what Find finds -/
/-- The good ones from place i on. -/
def goodV : Nat → List Tm → List Nat
  | _, [] => []
  | i, t :: r => if checkV t.2 = 0 then i :: goodV (i + 1) r else goodV (i + 1) r
theorem goodV_at {l : List Tm} {i : Nat} {t : Tm} (h : l[i]? = some t) : goodV i (l.drop i) = if checkV t.2 = 0 then i :: goodV (i + 1) (l.drop (i + 1)) else goodV (i + 1) (l.drop (i + 1)) := by
  obtain ⟨hi, he⟩ := List.getElem?_eq_some_iff.1 h
  rw [List.drop_eq_getElem_cons hi, goodV, he]
theorem goodV_mem : ∀ (l : List Tm) (i : Nat), ∀ k ∈ goodV i l, i ≤ k ∧ ∃ t, l[k - i]? = some t ∧ checkV t.2 = 0
  | [], _, k, hk => by cases hk
  | t :: r, i, k, hk => by
    rw [goodV] at hk
    have go : k ∈ goodV (i + 1) r → i ≤ k ∧ ∃ t', (t :: r)[k - i]? = some t' ∧ checkV t'.2 = 0 := fun hk => by
      obtain ⟨h1, t', h2, h3⟩ := goodV_mem r (i + 1) k hk
      refine ⟨by omega, t', ?_, h3⟩
      rw [show k - i = (k - (i + 1)) + 1 by omega, List.getElem?_cons_succ]
      exact h2
    split at hk
    · rename_i hc
      rcases List.mem_cons.1 hk with rfl | hk
      · exact ⟨Nat.le_refl _, t, by simp, hc⟩
      · exact go hk
    · exact go hk
/-- A find: the template, from, to. -/
abbrev Fd := Nat × Nat × Nat
def betterV (l : List Tm) (words : List ByteArray) (a : Nat) (b : Fd) (k : Nat) : Fd :=
  match l[k]? with
  | none => b
  | some t => match matchV t.2 words a with
    | none => b
    | some e => if b.2.2 < e then (k, a, e) else b
def bestV (l : List Tm) (words : List ByteArray) (a : Nat) (good : List Nat) : Fd := good.foldl (betterV l words a) (0, 0, 0)
def findV (l : List Tm) (words : List ByteArray) (good : List Nat) : Nat → Nat → List Fd
  | 0, _ => []
  | f + 1, a => if a < words.length then
      if (bestV l words a good).2.2 = 0 then findV l words good f (a + 1) else bestV l words a good :: findV l words good f (bestV l words a good).2.2
    else []
def mCells : List Fd → List Value
  | [] => []
  | x :: r => .int .i64 x.1 :: .int .i64 x.2.1 :: .int .i64 x.2.2 :: mCells r
theorem mCells_app : ∀ (a b : List Fd), mCells (a ++ b) = mCells a ++ mCells b
  | [], _ => rfl
  | x :: a, b => by rw [List.cons_append, mCells, mCells_app a b]; rfl
theorem mCells_len : ∀ (a : List Fd), (mCells a).length = a.length * 3
  | [] => rfl
  | x :: a => by simp only [mCells, List.length_cons, mCells_len a]; omega

theorem stepE_from {ws words : List ByteArray} {h : Nat} {T : Nat → Bool} {m : Nat} (hT : ∀ j, T j = true → m ≤ j) {j : Nat} (hj : stepE ws words h T j = true) : m ≤ j := by
  simp only [stepE, Bool.and_eq_true, decide_eq_true_eq, List.any_eq_true] at hj
  obtain ⟨_, d, _, _, hd⟩ := hj
  have := hT _ hd; omega
theorem endsV_from (words : List ByteArray) (m : Nat) : ∀ (r : List Pt) (T : Nat → Bool), (∀ j, T j = true → m ≤ j) → ∀ j, endsV words r T j = true → m ≤ j
  | [], T, hT, j, hj => hT j hj
  | p :: r, T, hT, j, hj => endsV_from words m r _ (fun i hi => stepE_from hT hi) j hj
theorem endsV_to (words : List ByteArray) : ∀ (r : List Pt) (T : Nat → Bool), (∀ j, T j = true → j ≤ words.length) → ∀ j, endsV words r T j = true → j ≤ words.length
  | [], T, hT, j, hj => hT j hj
  | p :: r, T, hT, j, hj => endsV_to words r _ (fun i hi => stepE_le hi) j hj
theorem matchV_gt {ps : List Pt} {words : List ByteArray} {a e : Nat} (hc : checkV ps = 0) (h : matchV ps words a = some e) : a < e ∧ e ≤ words.length := by
  obtain ⟨p0, r, rfl, _, hne, _⟩ := check_ok hc
  unfold matchV at h
  simp only at h
  split at h
  · rename_i hs
    have hT := List.find?_some h
    have hl := List.length_pos_iff.2 hne
    have hle := standsV_le hs
    have h1 := endsV_from words (a + p0.2.length) r _ (fun j hj => by have : j = a + p0.2.length := by simpa using hj
                                                                      omega) e hT
    have h2 := endsV_to words r _ (fun j hj => by have : j = a + p0.2.length := by simpa using hj
                                                  omega) e hT
    omega
  · cases h
theorem foldl_best {l : List Tm} {words : List ByteArray} {a : Nat} : ∀ (good : List Nat) (b : Fd), (∀ k ∈ good, ∃ t, l[k]? = some t ∧ checkV t.2 = 0) → (b.2.2 = 0 ∨ (a < b.2.2 ∧ b.2.2 ≤ words.length)) →
    ((good.foldl (betterV l words a) b).2.2 = 0 ∨ (a < (good.foldl (betterV l words a) b).2.2 ∧ (good.foldl (betterV l words a) b).2.2 ≤ words.length))
  | [], b, _, hb => hb
  | k :: g, b, hg, hb => by
    refine foldl_best g _ (fun j hj => hg j (List.mem_cons_of_mem _ hj)) ?_
    obtain ⟨t, ht, hc⟩ := hg k (by simp)
    unfold betterV
    rw [ht]
    simp only
    split
    · exact hb
    · rename_i e he
      split
      · have := matchV_gt hc he
        exact Or.inr this
      · exact hb
theorem bestV_gt {l : List Tm} {words : List ByteArray} {a : Nat} {good : List Nat} (hg : ∀ k ∈ good, ∃ t, l[k]? = some t ∧ checkV t.2 = 0) (h : (bestV l words a good).2.2 ≠ 0) : a < (bestV l words a good).2.2 ∧ (bestV l words a good).2.2 ≤ words.length := by
  rcases foldl_best good (0, 0, 0) hg (Or.inl rfl) with h1 | h1
  · exact absurd h1 h
  · exact h1
theorem goodV_le : ∀ (l : List Tm) (i : Nat), (goodV i l).length ≤ l.length
  | [], _ => Nat.le_refl _
  | t :: r, i => by
    have := goodV_le r (i + 1)
    rw [goodV]
    split
    · simp; omega
    · simp; omega
end Go.Proofs.YtpoelhnceebmkaaGreatDoor
