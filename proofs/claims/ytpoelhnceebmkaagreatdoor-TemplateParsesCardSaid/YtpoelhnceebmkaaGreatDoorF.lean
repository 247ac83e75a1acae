/- Templates as data; stands, Check, texts. No conditions but that a template is small. -/
import Derived.Test.YtpoelhnceebmkaaGreatDoorE
namespace Go.Proofs.YtpoelhnceebmkaaGreatDoor
open Go Go.RowKit Go.Shelf
set_option linter.unusedSimpArgs false
set_option linter.unusedVariables false

/-! ### templates as data -/
abbrev Pt := Int × List ByteArray
/-- A list of strings as a value. -/
def WRd (w : World) (v : Value) (ws : List ByteArray) : Prop := ∃ A c, v = .slice A ws.length c ∧ ws.length ≤ c ∧ c ≤ maxLen ∧ Rd w 1 A ws.length (ws.map Value.string)
theorem WRd.new {w w' : World} {v : Value} {ws : List ByteArray} (h : WRd w v ws) (hn : New w w') : WRd w' v ws :=
  let ⟨A, c, e, h1, h2, hr⟩ := h
  ⟨A, c, e, h1, h2, hr.below hn⟩
def pCells : List Pt → List Value → List Value
  | p :: ps, v :: vs => .int .i64 p.1 :: v :: pCells ps vs
  | _, _ => []
theorem pCells_at : ∀ (ps : List Pt) (vs : List Value) (i : Nat) (h : i < ps.length) (h' : i < vs.length), (pCells ps vs)[i * 2]? = some (.int .i64 ps[i].1) ∧ (pCells ps vs)[i * 2 + 1]? = some vs[i]
  | [], _, _, h, _ => by simp at h
  | _ :: _, [], _, _, h => by simp at h
  | p :: ps, v :: vs, 0, _, _ => ⟨rfl, rfl⟩
  | p :: ps, v :: vs, i + 1, h, h' => by
    have ih := pCells_at ps vs i (by simpa using h) (by simpa using h')
    have e1 : (i + 1) * 2 = i * 2 + 2 := by omega
    have e2 : pCells (p :: ps) (v :: vs) = .int .i64 p.1 :: v :: pCells ps vs := rfl
    rw [e1, e2]
    simpa using ih
theorem pCells_len : ∀ (ps : List Pt) (vs : List Value), vs.length = ps.length → (pCells ps vs).length = ps.length * 2
  | [], _, _ => by simp [pCells]
  | _ :: _, [], h => by simp at h
  | p :: ps, v :: vs, h => by
    have ih := pCells_len ps vs (by simpa using h)
    simp only [pCells, List.length_cons, ih]; omega
/-- The parts of a template as a value. -/
def PRd (w : World) (A : Option Addr) (n : Nat) (ps : List Pt) : Prop := ps.length = n ∧ ∃ vs, vs.length = n ∧ Rd w 2 A n (pCells ps vs) ∧ ∀ i (h : i < ps.length) (h' : i < vs.length), WRd w vs[i] ps[i].2
theorem PRd.new {w w' : World} {A : Option Addr} {n : Nat} {ps : List Pt} (h : PRd w A n ps) (hn : New w w') : PRd w' A n ps :=
  let ⟨h0, vs, h1, hr, hw⟩ := h
  ⟨h0, vs, h1, hr.below hn, fun i h h' => (hw i h h').new hn⟩
theorem PRd.at {w : World} {A : Option Addr} {n : Nat} {ps : List Pt} (h : PRd w A n ps) {i : Nat} (hi : i < n) : ∃ b o v p, A = some ⟨b, o, none⟩ ∧ ps[i]? = some p ∧ w.cell? ⟨b, o + i * 2, none⟩ = some (.int .i64 p.1) ∧ w.cell? ⟨b, o + i * 2 + 1, none⟩ = some v ∧ WRd w v p.2 := by
  obtain ⟨h0, vs, h1, hr, hw⟩ := h
  obtain ⟨b, o, rfl, _, hc⟩ := hr.2 (by omega)
  obtain ⟨q1, q2⟩ := pCells_at ps vs i (by omega) (by omega)
  exact ⟨b, o, vs[i], ps[i], rfl, List.getElem?_eq_getElem (by omega), hc _ _ q1, hc _ _ q2, hw i (by omega) (by omega)⟩
def TRd (w : World) (v : Value) (nm : ByteArray) (ps : List Pt) : Prop := ∃ A c, v = .agg #[.string nm, .slice A ps.length c] ∧ ps.length ≤ c ∧ c ≤ maxLen ∧ PRd w A ps.length ps
theorem TRd.new {w w' : World} {v : Value} {nm : ByteArray} {ps : List Pt} (h : TRd w v nm ps) (hn : New w w') : TRd w' v nm ps :=
  let ⟨A, c, e, h1, h2, hr⟩ := h
  ⟨A, c, e, h1, h2, hr.new hn⟩
/-- A template of a size that does not matter. -/
def SmT (ps : List Pt) : Prop := ps.length ≤ 1000 ∧ ∀ p ∈ ps, p.2.length ≤ 1000

/-! ### slices.Equal at strings -/
theorem eqStr (A A' : Option Addr) (n n' c c' : Nat) (xs ys : List ByteArray) (hx : xs.length = n) (hy : ys.length = n') (w : World) (hr : Rd w 1 A n (xs.map Value.string)) (hr' : Rd w 1 A' n' (ys.map Value.string)) (hz : n ≤ 4294967295) :
    Calls Tryz.prog 35 #[.slice A n c, .slice A' n' c'] w fun e w' => e = .returned (.bool (decide (xs = ys))) ∧ New w w' := by
  subst hx hy
  by_cases hl : xs.length = ys.length
  · by_cases h0 : 0 < xs.length
    · obtain ⟨b, o, rfl, _, hc⟩ := hr.2 h0
      obtain ⟨b', o', rfl, _, hc'⟩ := hr'.2 (by omega)
      have := Tryz.slices_Equal_string b o xs.length c b' o' ys.length c' xs ys w (Nat.le_refl _) (Nat.le_refl _) (by omega) (by omega)
        (fun j hj => hc j _ (by simp [List.getD, hj])) (fun j hj => hc' j _ (by simp [List.getD, hj]))
      refine this.mono ?_
      rintro e w' ⟨rfl, q, rfl⟩
      refine ⟨?_, (New.refl w).drewN q⟩
      rw [List.take_of_length_le (Nat.le_refl _), List.take_of_length_le (Nat.le_refl _)]
    · obtain rfl : xs = [] := List.eq_nil_of_length_eq_zero (by omega)
      obtain rfl : ys = [] := List.eq_nil_of_length_eq_zero (by simpa using hl.symm)
      refine (Tryz.slices_Equal_string_empty A A' c 0 c' w (by omega)).mono ?_
      rintro e w' ⟨rfl, rfl⟩
      exact ⟨rfl, New.refl _⟩
  · refine (Tryz.slices_Equal_string_lens A A' xs.length c ys.length c' w hl).mono ?_
    rintro e w' ⟨rfl, rfl⟩
    exact ⟨by rw [decide_eq_false (fun e => hl (by rw [e]))], New.refl _⟩

/-! ### stands -/
def standsV (part words : List ByteArray) (i : Nat) : Bool := decide (i + part.length ≤ words.length) && decide (part = (words.drop i).take part.length)
set_option maxRecDepth 100000 in
set_option maxHeartbeats 1000000 in
theorem stands_any (v v' : Value) (part words : List ByteArray) (i : Nat) (w : World) (h : WRd w v part) (h' : WRd w v' words) (h1 : part.length ≤ 100000) (h2 : words.length ≤ 100000) (h3 : i ≤ 1000000) :
    Calls Tryz.prog 76 #[v, v', .int .i64 i] w fun e w' => e = .returned (.bool (standsV part words i)) ∧ New w w' := by
  obtain ⟨A, c, rfl, hc1, hc2, hr⟩ := h
  obtain ⟨A', c', rfl, hc1', hc2', hr'⟩ := h'
  have u1 : IntKind.i64.wrap ((i : Int) + (part.length : Int)) = (i : Int) + (part.length : Int) := IntWalk.i64_in _ (by omega)
  by_cases hle : i + part.length ≤ words.length
  · have hv : standsV part words i = decide (part = (words.drop i).take part.length) := by rw [standsV, decide_eq_true hle, Bool.true_and]
    rw [hv]
    have t1 : decide ((i : Int) + (part.length : Int) ≤ (words.length : Int)) = true := decide_eq_true (by omega)
    have t2 : (i : Int) + (part.length : Int) ≤ (words.length : Int) := by omega
    clear hv
    have i0 : (0 : Int) ≤ (i : Int) := by omega
    have i1 : (i : Int) ≤ (i : Int) + (part.length : Int) := by omega
    have i2 : (i : Int) + (part.length : Int) ≤ (c' : Int) := by omega
    have i3 : ((i : Int) + (part.length : Int)).toNat = i + part.length := by omega
    have i4 : i + part.length ≤ c' := by omega
    have i5 : i ≤ i + part.length := by omega
    by_cases hp0 : 0 < part.length
    · obtain ⟨b', o', rfl, hb', hc'⟩ := hr'.2 (by omega)
      have hci : ¬ c' = i := by omega
      have hR : Rd w 1 (some ⟨b', o' + i, none⟩) part.length (((words.drop i).take part.length).map Value.string) := ⟨by simp; omega, fun _ => ⟨b', o' + i, rfl, hb', fun j u hu => by
        have hj : j < part.length := by have := (List.getElem?_eq_some_iff.1 hu).1; simp at this; omega
        rw [List.getElem?_map, List.getElem?_take_of_lt hj, List.getElem?_drop] at hu
        rw [Nat.add_assoc]
        exact hc' (i + j) u (by rw [List.getElem?_map]; exact hu)⟩⟩
      have HE := Lib.hid (fun c c' => eqStr A (some ⟨b', o' + i, none⟩) part.length part.length c c' part ((words.drop i).take part.length) rfl (by simp; omega) w hr hR (by omega))
      clear hR hc'
      generalize decide (part = (words.drop i).take part.length) = bb at *
      go_enter Tryz.func76, Tryz.ntmps76
      go_wp2_with (go_at_call 35; refine (HE.out _ _).mono ?_; rintro e w' ⟨rfl, hn⟩)
      go_ret
      exact ⟨rfl, hn⟩
    · obtain rfl : part = [] := List.eq_nil_of_length_eq_zero (by omega)
      rw [show decide (([] : List ByteArray) = (words.drop i).take ([] : List ByteArray).length) = true by simp]
      have HE := Lib.hid (fun (a1 a2 : Option Addr) (c d : Nat) (w : World) => Tryz.slices_Equal_string_empty a1 a2 c 0 d w (by omega))
      simp only [List.length_nil, Int.natCast_zero, Int.add_zero, Nat.add_zero] at *
      cases A' with
      | none =>
        go_enter Tryz.func76, Tryz.ntmps76
        go_wp2_with (go_at_call 35; refine (HE.out _ _ _ _ _).mono ?_; rintro e w' ⟨rfl, rfl⟩)
        all_goals (go_ret; exact ⟨rfl, New.refl _⟩)
      | some ad =>
        go_enter Tryz.func76, Tryz.ntmps76
        go_wp2_with (go_at_call 35; refine (HE.out _ _ _ _ _).mono ?_; rintro e w' ⟨rfl, rfl⟩)
        all_goals (go_ret; exact ⟨rfl, New.refl _⟩)
  · have hv : standsV part words i = false := by rw [standsV, decide_eq_false hle, Bool.false_and]
    rw [hv]
    have t1 : decide ((i : Int) + (part.length : Int) ≤ (words.length : Int)) = false := decide_eq_false (by omega)
    have t2 : ¬ (i : Int) + (part.length : Int) ≤ (words.length : Int) := by omega
    clear hv
    go_enter Tryz.func76, Tryz.ntmps76
    go_wp2
    go_ret
    exact ⟨rfl, New.refl _⟩
end Go.Proofs.YtpoelhnceebmkaaGreatDoor
