/- The reference's hole answers as the program's does. No conditions. -/
import Derived.Test.YtpoelhnceebmkaaGreatDoorE13
namespace Go.Proofs.YtpoelhnceebmkaaGreatDoor
open Go Go.RowKit Go.Shelf
set_option linter.unusedSimpArgs false
set_option linter.unusedVariables false

theorem dg_iff (x : UInt8) : dgs.contains x = true ↔ 48 ≤ x.toNat ∧ x.toNat ≤ 57 := by
  constructor
  · intro h
    obtain ⟨k, rfl⟩ := dg_val h
    have := k.2
    simp [UInt8.toNat_ofNat]; omega
  · intro h
    have : x = UInt8.ofNat x.toNat := by simp
    have hk : ∀ k : Fin 10, dgs.contains (UInt8.ofNat (48 + k.1)) = true := by decide
    have := hk ⟨x.toNat - 48, by omega⟩
    rw [show 48 + (x.toNat - 48) = x.toNat by omega] at this
    simpa using this
theorem num1 (x : UInt8) : numR [x] = if 48 ≤ x.toNat ∧ x.toNat ≤ 57 then ((x.toNat - 48 : Nat) : Int) else -1 := by
  unfold numR
  rw [if_neg (by simp), foldD]
  split
  · rw [foldD, optI]; simp
  · rfl
theorem num2 (x y : UInt8) : numR [x, y] = if x.toNat = 48 then -1 else if (48 ≤ x.toNat ∧ x.toNat ≤ 57) ∧ 48 ≤ y.toNat ∧ y.toNat ≤ 57 then (((x.toNat - 48) * 10 + (y.toNat - 48) : Nat) : Int) else -1 := by
  unfold numR
  by_cases h : x.toNat = 48
  · have hx : x = 48 := UInt8.toNat_inj.1 h
    rw [if_pos ⟨by simp, by rw [hx]; rfl⟩, if_pos h]
  · have hx : x ≠ 48 := fun e => h (by rw [e]; rfl)
    rw [if_neg (fun q => hx (by simpa using q.2)), if_neg h, foldD]
    split
    · rename_i h1
      rw [foldD]
      split
      · rename_i h2
        rw [if_pos ⟨h1, h2⟩, foldD, optI]
        congr 1; omega
      · rename_i h2
        rw [if_neg (fun q => h2 q.2)]; rfl
    · rename_i h1
      rw [if_neg (fun q => h1 q.1)]; rfl
theorem hole1_eq (x : UInt8) : hole1 x = if 49 ≤ x.toNat ∧ x.toNat ≤ 57 then (x.toNat - 48, 3) else (0, 0) := by
  unfold hole1
  have h1 := dg_iff x
  have h2 : (x != 48) = true ↔ x.toNat ≠ 48 := by
    rw [bne_iff_ne, Ne, ← UInt8.toNat_inj]; rfl
  by_cases h : 49 ≤ x.toNat ∧ x.toNat ≤ 57
  · rw [if_pos h, if_pos (by rw [Bool.and_eq_true]; exact ⟨h1.2 (by omega), h2.2 (by omega)⟩)]
  · rw [if_neg h, if_neg (by rw [Bool.and_eq_true]; intro q; have := h1.1 q.1; have := h2.1 q.2; omega)]
theorem hole2_eq (x y : UInt8) : hole2 x y = if (49 ≤ x.toNat ∧ x.toNat ≤ 57) ∧ 48 ≤ y.toNat ∧ y.toNat ≤ 57 then ((x.toNat - 48) * 10 + (y.toNat - 48), 4) else (0, 0) := by
  unfold hole2
  have h1 := dg_iff x
  have h3 := dg_iff y
  have h2 : (x != 48) = true ↔ x.toNat ≠ 48 := by
    rw [bne_iff_ne, Ne, ← UInt8.toNat_inj]; rfl
  by_cases h : (49 ≤ x.toNat ∧ x.toNat ≤ 57) ∧ 48 ≤ y.toNat ∧ y.toNat ≤ 57
  · rw [if_pos h, if_pos (by rw [Bool.and_eq_true, Bool.and_eq_true]; exact ⟨⟨h1.2 (by omega), h2.2 (by omega)⟩, h3.2 h.2⟩)]
  · rw [if_neg h, if_neg (by rw [Bool.and_eq_true, Bool.and_eq_true]; intro q; have := h1.1 q.1.1; have := h2.1 q.1.2; have := h3.1 q.2; exact h ⟨by omega, this⟩)]
def rhL (l : List UInt8) (a : Nat) : Int × Int :=
  if l[2]? = some 125 ∧ 0 < numR ((l.drop 1).take 1) then (numR ((l.drop 1).take 1), ((a + 3 : Nat) : Int))
  else if l[3]? = some 125 ∧ 0 < numR ((l.drop 1).take 2) then (numR ((l.drop 1).take 2), ((a + 4 : Nat) : Int)) else (0, 0)
theorem rhV_list (s : ByteArray) (a : Nat) : rhV s a 2 = rhL (s.data.toList.drop a) a := by
  have e1 : (s.extract (a + 1) (a + 1 + 1)).data.toList = ((s.data.toList.drop a).drop 1).take 1 := by rw [ext_take, List.drop_drop]
  have e2 : (s.extract (a + 1) (a + 2 + 1)).data.toList = ((s.data.toList.drop a).drop 1).take 2 := by rw [show a + 2 + 1 = a + 1 + 2 by omega, ext_take, List.drop_drop]
  have e3 : s.data.toList[a + 1 + 1]? = (s.data.toList.drop a)[2]? := by rw [List.getElem?_drop]
  have e4 : s.data.toList[a + 2 + 1]? = (s.data.toList.drop a)[3]? := by rw [List.getElem?_drop]
  unfold rhL
  rw [← e1, ← e2, ← e3, ← e4]
  rfl
def holeOut (v : Nat × Nat) (a : Nat) : Int × Int := if v.2 = 0 then (0, 0) else ((v.1 : Int), ((a + v.2 : Nat) : Int))
theorem idx_hit (l : List UInt8) : Lib.indexByte (125 :: l) 125 = 0 := by rw [Lib.indexByte]; rfl
theorem idx_skip {b : UInt8} {l : List UInt8} (h : b ≠ 125) : (Lib.indexByte l 125 = -1 ∧ Lib.indexByte (b :: l) 125 = -1) ∨ (0 ≤ Lib.indexByte l 125 ∧ Lib.indexByte (b :: l) 125 = Lib.indexByte l 125 + 1) := by
  have hg := Lib.indexByte_ge l 125
  have hb : (b == 125) = false := by simpa using h
  have e : Lib.indexByte (b :: l) 125 = if Lib.indexByte l 125 == -1 then -1 else Lib.indexByte l 125 + 1 := by rw [Lib.indexByte, hb]; rfl
  by_cases hq : Lib.indexByte l 125 = -1
  · left; exact ⟨hq, by rw [e, hq]; rfl⟩
  · right
    refine ⟨by omega, ?_⟩
    have hb2 : (Lib.indexByte l 125 == -1) = false := by simpa using hq
    rw [e, hb2]; rfl
theorem holeV_other {l : List UInt8} (h2 : Lib.indexByte l 125 ≠ 2) (h3 : Lib.indexByte l 125 ≠ 3) : holeV l = (0, 0) := by
  unfold holeV
  rw [if_neg (fun q => h2 q.1), if_neg (fun q => h3 q.1)]
theorem num1_pos {x : UInt8} : 0 < numR [x] ↔ 49 ≤ x.toNat ∧ x.toNat ≤ 57 := by
  rw [num1]
  split <;> constructor <;> intro h <;> omega
theorem num2_pos {x y : UInt8} : 0 < numR [x, y] ↔ (49 ≤ x.toNat ∧ x.toNat ≤ 57) ∧ 48 ≤ y.toNat ∧ y.toNat ≤ 57 := by
  rw [num2]
  split
  · constructor <;> intro h <;> omega
  · split <;> constructor <;> intro h <;> omega
theorem rhL_none {x : UInt8} {l : List UInt8} {a : Nat} (h2 : l[2]? = some 125 → ¬ 0 < numR ((l.drop 1).take 1)) (h3 : l[3]? = some 125 → ¬ 0 < numR ((l.drop 1).take 2)) : rhL l a = (0, 0) := by
  unfold rhL
  rw [if_neg (fun q => h2 q.1 q.2), if_neg (fun q => h3 q.1 q.2)]
theorem rhL_hole (r : List UInt8) (a : Nat) : rhL (123 :: r) a = holeOut (holeV (123 :: r)) a := by
  have h123 : (123 : UInt8) ≠ 125 := by decide
  have n125 : (125 : UInt8).toNat = 125 := rfl
  have out0 : holeOut (0, 0) a = (0, 0) := rfl
  match r with
  | [] =>
    have : holeV [123] = (0, 0) := by decide
    rw [this, out0]
    exact rhL_none (x := 0) (fun h => by simp at h) (fun h => by simp at h)
  | [x] =>
    rw [rhL_none (x := 0) (fun h => by simp at h) (fun h => by simp at h), holeV_other, out0]
    · intro h
      obtain ⟨p, q, t, e⟩ := idx_two h
      simp at e
    · intro h
      obtain ⟨p, q, t, u, e⟩ := idx_three h
      simp at e
  | [x, y] =>
    by_cases hx : x = 125
    · subst hx
      have hi : Lib.indexByte [123, 125, y] 125 = 1 := by
        rcases idx_skip (l := [125, y]) h123 with ⟨q, _⟩ | ⟨_, q⟩
        · rw [idx_hit] at q; omega
        · rw [q, idx_hit]; rfl
      rw [holeV_other (by omega) (by omega), out0]
      exact rhL_none (x := 0) (fun _ h => by have := num1_pos.1 h; omega) (fun h => by simp at h)
    · by_cases hy : y = 125
      · subst hy
        have hi : Lib.indexByte [123, x, 125] 125 = 2 := by
          rcases idx_skip (l := [125]) hx with ⟨q, _⟩ | ⟨_, q⟩
          · rw [idx_hit] at q; omega
          · rw [idx_hit] at q
            rcases idx_skip (l := [x, 125]) h123 with ⟨q', _⟩ | ⟨_, q'⟩ <;> omega
        have hv : holeV [123, x, 125] = hole1 x := by unfold holeV; rw [if_pos ⟨hi, rfl⟩]; rfl
        rw [hv, hole1_eq]
        by_cases hd : 49 ≤ x.toNat ∧ x.toNat ≤ 57
        · rw [if_pos hd]
          unfold rhL
          rw [if_pos ⟨rfl, num1_pos.2 hd⟩]
          show (numR [x], _) = _
          rw [num1, if_pos ⟨by omega, by omega⟩]; rfl
        · rw [if_neg hd, out0]
          exact rhL_none (x := 0) (fun _ h => hd (num1_pos.1 h)) (fun h => by simp at h)
      · rw [rhL_none (x := 0) (l := [123, x, y]) (fun h => absurd (by simpa using h) hy) (fun h => by simp at h), holeV_other, out0]
        · intro h
          obtain ⟨p, q, t, e⟩ := idx_two h
          simp at e
          exact hy e.2.2.1
        · intro h
          obtain ⟨p, q, t, u, e⟩ := idx_three h
          simp at e
  | x :: y :: z :: t =>
    by_cases hx : x = 125
    · subst hx
      have hi : Lib.indexByte (123 :: 125 :: y :: z :: t) 125 = 1 := by
        rcases idx_skip (l := 125 :: y :: z :: t) h123 with ⟨q, _⟩ | ⟨_, q⟩
        · rw [idx_hit] at q; omega
        · rw [q, idx_hit]; rfl
      rw [holeV_other (by omega) (by omega), out0]
      exact rhL_none (x := 0) (fun _ h => by have := num1_pos.1 h; omega) (fun _ h => by have := num2_pos.1 h; omega)
    · by_cases hy : y = 125
      · subst hy
        have hi : Lib.indexByte (123 :: x :: 125 :: z :: t) 125 = 2 := by
          rcases idx_skip (l := 125 :: z :: t) hx with ⟨q, _⟩ | ⟨_, q⟩
          · rw [idx_hit] at q; omega
          · rw [idx_hit] at q
            rcases idx_skip (l := x :: 125 :: z :: t) h123 with ⟨q', _⟩ | ⟨_, q'⟩ <;> omega
        have hv : holeV (123 :: x :: 125 :: z :: t) = hole1 x := by unfold holeV; rw [if_pos ⟨hi, rfl⟩]; rfl
        rw [hv, hole1_eq]
        by_cases hd : 49 ≤ x.toNat ∧ x.toNat ≤ 57
        · rw [if_pos hd]
          unfold rhL
          rw [if_pos ⟨rfl, num1_pos.2 hd⟩]
          show (numR [x], _) = _
          rw [num1, if_pos ⟨by omega, by omega⟩]; rfl
        · rw [if_neg hd, out0]
          exact rhL_none (x := 0) (fun _ h => hd (num1_pos.1 h)) (fun _ h => by have := num2_pos.1 h; omega)
      · by_cases hz : z = 125
        · subst hz
          have hi : Lib.indexByte (123 :: x :: y :: 125 :: t) 125 = 3 := by
            rcases idx_skip (l := 125 :: t) hy with ⟨q, _⟩ | ⟨_, q⟩
            · rw [idx_hit] at q; omega
            · rw [idx_hit] at q
              rcases idx_skip (l := y :: 125 :: t) hx with ⟨q', _⟩ | ⟨_, q'⟩
              · omega
              · rcases idx_skip (l := x :: y :: 125 :: t) h123 with ⟨q'', _⟩ | ⟨_, q''⟩ <;> omega
          have hv : holeV (123 :: x :: y :: 125 :: t) = hole2 x y := by unfold holeV; rw [if_neg (fun q => by omega), if_pos ⟨hi, rfl⟩]; rfl
          rw [hv, hole2_eq]
          unfold rhL
          rw [if_neg (fun q => hy (by simpa using q.1))]
          by_cases hd : (49 ≤ x.toNat ∧ x.toNat ≤ 57) ∧ 48 ≤ y.toNat ∧ y.toNat ≤ 57
          · rw [if_pos hd, if_pos ⟨rfl, num2_pos.2 hd⟩]
            show (numR [x, y], _) = _
            rw [num2, if_neg (by omega), if_pos ⟨by omega, by omega⟩]; rfl
          · rw [if_neg hd, out0, if_neg (fun q => hd (num2_pos.1 q.2))]
        · rw [rhL_none (x := 0) (fun h => absurd (by simpa using h) hy) (fun h => absurd (by simpa using h) hz), holeV_other, out0]
          · intro h
            obtain ⟨p, q, t', e⟩ := idx_two h
            simp at e
            exact hy e.2.2.1
          · intro h
            obtain ⟨p, q, t', u, e⟩ := idx_three h
            simp at e
            exact hz e.2.2.2.1
end Go.Proofs.YtpoelhnceebmkaaGreatDoor
