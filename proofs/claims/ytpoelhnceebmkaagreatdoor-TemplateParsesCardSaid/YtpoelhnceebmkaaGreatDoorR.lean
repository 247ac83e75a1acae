/- template.hole: the size and the length of the hole that begins a text; plain part and walk. No conditions but the text's size. -/
import Derived.Test.YtpoelhnceebmkaaGreatDoorQ
import Derived.Shelf.Strings.SlTrimAscii
import Derived.Lib.SmallJoins
namespace Go.Proofs.YtpoelhnceebmkaaGreatDoor
open Go Go.RowKit
set_option linter.unusedSimpArgs false
set_option linter.unusedVariables false

def dgs : List UInt8 := [48, 49, 50, 51, 52, 53, 54, 55, 56, 57]
def hole1 (a : UInt8) : Nat × Nat := if dgs.contains a && a != 48 then (a.toNat - 48, 3) else (0, 0)
def hole2 (a b : UInt8) : Nat × Nat := if dgs.contains a && a != 48 && dgs.contains b then ((a.toNat - 48) * 10 + (b.toNat - 48), 4) else (0, 0)
def holeV (l : List UInt8) : Nat × Nat :=
  if Lib.indexByte l 125 = 2 ∧ l.head? = some 123 then hole1 (l.getD 1 0)
  else if Lib.indexByte l 125 = 3 ∧ l.head? = some 123 then hole2 (l.getD 1 0) (l.getD 2 0)
  else (0, 0)

theorem drop_nil {p : UInt8 → Bool} : ∀ {l : List UInt8}, l.dropWhile p = [] ↔ ∀ x ∈ l, p x = true
  | [] => by simp
  | a :: l => by
    rw [List.dropWhile_cons]
    by_cases h : p a = true
    · rw [if_pos h, drop_nil]; simp [h]
    · rw [if_neg h]; simp [h]
theorem trimS_nil {l cs : List UInt8} : Lib.trimS l cs = [] ↔ ∀ x ∈ l, cs.contains x = true := by
  unfold Lib.trimS Lib.trimLeftS Lib.trimRightS
  rw [drop_nil]
  constructor
  · intro h
    have h1 : ∀ x ∈ l.reverse.dropWhile (cs.contains ·), cs.contains x = true := fun x hx => h x (by simpa using hx)
    have h2 : l.reverse.dropWhile (cs.contains ·) = [] := by
      cases e : l.reverse.dropWhile (cs.contains ·) with
      | nil => rfl
      | cons a r =>
        have h3 := List.head?_dropWhile_not (cs.contains ·) l.reverse
        rw [e] at h3 h1
        have := h1 a (by simp)
        simp at h3
        simp [h3] at this
    rw [drop_nil] at h2
    exact fun x hx => h2 x (by simpa using hx)
  · intro h x hx
    have h1 : x ∈ l.reverse.dropWhile (cs.contains ·) := by simpa using hx
    exact h x (by simpa using (List.dropWhile_sublist _).subset h1)
theorem dg_val {a : UInt8} (h : dgs.contains a = true) : ∃ k : Fin 10, a = UInt8.ofNat (48 + k.1) := by
  simp only [dgs, List.contains_eq_mem, List.mem_cons, List.not_mem_nil, or_false, decide_eq_true_eq] at h
  rcases h with h | h | h | h | h | h | h | h | h | h
  · exact ⟨0, h⟩
  · exact ⟨1, h⟩
  · exact ⟨2, h⟩
  · exact ⟨3, h⟩
  · exact ⟨4, h⟩
  · exact ⟨5, h⟩
  · exact ⟨6, h⟩
  · exact ⟨7, h⟩
  · exact ⟨8, h⟩
  · exact ⟨9, h⟩
theorem atoi1 {a : UInt8} (h : dgs.contains a = true) : Lib.atoi [a] = some ((a.toNat - 48 : Nat) : Int) := by
  obtain ⟨k, rfl⟩ := dg_val h
  revert k; decide
theorem atoi2 {a b : UInt8} (h : dgs.contains a = true) (h' : dgs.contains b = true) : Lib.atoi [a, b] = some (((a.toNat - 48) * 10 + (b.toNat - 48) : Nat) : Int) := by
  obtain ⟨k, rfl⟩ := dg_val h
  obtain ⟨j, rfl⟩ := dg_val h'
  revert k j; decide
theorem idx_two {l : List UInt8} {c : UInt8} (h : Lib.indexByte l c = 2) : ∃ x a r, l = x :: a :: c :: r := by
  match l, Lib.indexByte_some (o := 2) h with
  | [], h => simp at h
  | [_], h => simp at h
  | [_, _], h => simp at h
  | x :: a :: d :: r, h => exact ⟨x, a, r, by have := h.1; simp at this; rw [this]⟩
theorem idx_three {l : List UInt8} {c : UInt8} (h : Lib.indexByte l c = 3) : ∃ x a b r, l = x :: a :: b :: c :: r := by
  match l, Lib.indexByte_some (o := 3) h with
  | [], h => simp at h
  | [_], h => simp at h
  | [_, _], h => simp at h
  | [_, _, _], h => simp at h
  | x :: a :: b :: d :: r, h => exact ⟨x, a, b, r, by have := h.1; simp at this; rw [this]⟩

theorem Tryz.trim_any (s : ByteArray) (w : World) (hs : s.size ≤ 4096) : Calls Tryz.prog 65 #[.string s, .string ⟨#[48, 49, 50, 51, 52, 53, 54, 55, 56, 57]⟩] w fun e w' => e = .returned (.string ⟨(Lib.trimS s.data.toList dgs).toArray⟩) ∧ New w w' :=
  Any.strings_Trim_laid Tryz.lays160 (by kernel_rfl) s _ w (by omega) (by decide) (ascii_of_all (by decide))
theorem holeV_low {s : ByteArray} (h : Lib.indexByte s.data.toList 125 < 2) : holeV s.data.toList = (0, 0) := by
  unfold holeV; rw [if_neg (by omega), if_neg (by omega)]
theorem holeV_high {s : ByteArray} (h : 3 < Lib.indexByte s.data.toList 125) : holeV s.data.toList = (0, 0) := by
  unfold holeV; rw [if_neg (by omega), if_neg (by omega)]

theorem new_bytes (w : World) (e : TypeId) (s : ByteArray) : New w (Lib.bytesWorld w e s) := Go.Joins.below_bytesWorld _ _ _ _ (Nat.le_refl _)
set_option maxRecDepth 100000 in
set_option maxHeartbeats 2000000 in
theorem hole_walk (s : ByteArray) (en : Nat) (w : World) (hs : s.size ≤ 4096) (he : Lib.indexByte s.data.toList 125 = (en : Int)) (h1 : 2 ≤ en) (h2 : en ≤ 3) (hz : en < s.size) (V1 V2 : Nat)
    (c0 : s[0].toNat ≠ 123 → (V1, V2) = (0, 0)) (c1 : s[0].toNat = 123 → s[1].toNat = 48 → (V1, V2) = (0, 0)) (c2 : s[0].toNat = 123 → s[1].toNat ≠ 48 → Lib.trimS (s.extract 1 en).data.toList dgs ≠ [] → (V1, V2) = (0, 0))
    (c3 : s[0].toNat = 123 → s[1].toNat ≠ 48 → Lib.trimS (s.extract 1 en).data.toList dgs = [] → ∃ n : Nat, Lib.atoi (s.extract 1 en).data.toList = some (n : Int) ∧ (V1, V2) = (n, en + 1)) :
    Calls Tryz.prog 39 #[.string s] w fun e w' => e = .returned (.tuple #[.int .i64 V1, .int .i64 V2]) ∧ New w w' := by
  have HI := Lib.hid (fun W => Tryz.strings_IndexByte s 125 W)
  rw [show (125 : Int).toNat.toUInt8 = 125 from rfl, he] at HI
  have t1 : decide ((en : Int) < 2) = false := decide_eq_false (by omega)
  have t2 : decide (3 < (en : Int)) = false := decide_eq_false (by omega)
  have z0 : 0 < s.size := by omega
  have z1 : 1 < s.size := by omega
  have l1 : (1 : Int) ≤ (en : Int) := by omega
  have l2 : 1 ≤ en := by omega
  have l3 : (en : Int) ≤ (s.size : Int) := by omega
  have l4 : en ≤ s.size := by omega
  have hsz : (s.extract 1 en).size ≤ 18 := by simp; omega
  have C0 := Lib.hid c0
  have C1 := Lib.hid c1
  have C2 := Lib.hid c2
  have C3 := Lib.hid c3
  clear c0 c1 c2 c3 he
  by_cases q0 : s[0].toNat = 123
  · have q0b : ((s[0].toNat : Int) != 123) = false := by rw [q0]; rfl
    by_cases q1 : s[1].toNat = 48
    · have q1b : ((s[1].toNat : Int) == 48) = true := by rw [q1]; rfl
      have e := C1.out q0 q1
      injection e with e1 e2
      subst e1 e2
      clear q0 q1
      go_enter Tryz.func39, Tryz.ntmps39
      go_wp2_with (go_at_call 64; refine (HI.out _).mono ?_; rintro e w' ⟨rfl, rfl⟩)
      exact bodyPost_ret (v := .tuple #[.int .i64 0, .int .i64 0]) (by simp [results, Tryz.results39, go_sem]) rfl ⟨rfl, New.refl _⟩
    · have q1b : ((s[1].toNat : Int) == 48) = false := beq_eq_false_iff_ne.2 (by omega)
      have HT := Lib.hid (fun W => Tryz.trim_any (s.extract 1 en) W (by omega))
      by_cases q2 : Lib.trimS (s.extract 1 en).data.toList dgs = []
      · obtain ⟨n, ha, e⟩ := C3.out q0 q1 q2
        injection e with e1 e2
        subst e1 e2
        rw [q2] at HT
        have HA := Lib.hid (fun W => Tryz.strconv_Atoi (s.extract 1 en) V1 hsz ha W)
        have u1 : IntKind.i64.wrap ((en : Int) + 1) = ((en + 1 : Nat) : Int) := by rw [IntWalk.i64_in _ (by omega)]; omega
        clear ha q0 q1 q2
        go_enter Tryz.func39, Tryz.ntmps39
        go_wp2_with (first | (go_at_call 66; refine (HA.out _).mono ?_; rintro e w' ⟨rfl, t, rfl⟩) | (go_at_call 65; refine (HT.out _).mono ?_; rintro e w2 ⟨rfl, hn2⟩) | (go_at_call 64; refine (HI.out _).mono ?_; rintro e w' ⟨rfl, rfl⟩))
        exact bodyPost_ret (v := .tuple #[.int .i64 V1, .int .i64 (en + 1 : Nat)]) (by simp [results, Tryz.results39, go_sem]) rfl ⟨rfl, hn2.trans (new_bytes _ _ _)⟩
      · have e := C2.out q0 q1 q2
        injection e with e1 e2
        subst e1 e2
        have q2b : ((⟨(Lib.trimS (s.extract 1 en).data.toList dgs).toArray⟩ : ByteArray).toList == []) = false := by
          rw [toList_eq]; simpa using q2
        generalize (⟨(Lib.trimS (s.extract 1 en).data.toList dgs).toArray⟩ : ByteArray) = z at *
        clear q0 q1 q2
        go_enter Tryz.func39, Tryz.ntmps39
        go_wp2_with (first | (go_at_call 65; refine (HT.out _).mono ?_; rintro e w2 ⟨rfl, hn2⟩) | (go_at_call 64; refine (HI.out _).mono ?_; rintro e w' ⟨rfl, rfl⟩))
        exact bodyPost_ret (v := .tuple #[.int .i64 0, .int .i64 0]) (by simp [results, Tryz.results39, go_sem]) rfl ⟨rfl, hn2⟩
  · have q0b : ((s[0].toNat : Int) != 123) = true := bne_iff_ne.2 (by omega)
    have e := C0.out q0
    injection e with e1 e2
    subst e1 e2
    clear q0
    go_enter Tryz.func39, Tryz.ntmps39
    go_wp2_with (go_at_call 64; refine (HI.out _).mono ?_; rintro e w' ⟨rfl, rfl⟩)
    exact bodyPost_ret (v := .tuple #[.int .i64 0, .int .i64 0]) (by simp [results, Tryz.results39, go_sem]) rfl ⟨rfl, New.refl _⟩

set_option maxRecDepth 100000 in
set_option maxHeartbeats 2000000 in
theorem hole_any (s : ByteArray) (w : World) (hs : s.size ≤ 4096) :
    Calls Tryz.prog 39 #[.string s] w fun e w' => e = .returned (.tuple #[.int .i64 (holeV s.data.toList).1, .int .i64 (holeV s.data.toList).2]) ∧ New w w' := by
  have HI := Lib.hid (fun W => Tryz.strings_IndexByte s 125 W)
  by_cases h2 : Lib.indexByte s.data.toList 125 < 2
  · rw [holeV_low h2]
    rw [show (125 : Int).toNat.toUInt8 = 125 from rfl] at HI
    generalize Lib.indexByte s.data.toList 125 = e at *
    have t1 : decide (e < 2) = true := decide_eq_true h2
    go_enter Tryz.func39, Tryz.ntmps39
    go_wp2_with (go_at_call 64; refine (HI.out _).mono ?_; rintro e w' ⟨rfl, rfl⟩)
    exact bodyPost_ret (v := .tuple #[.int .i64 0, .int .i64 0]) (by simp [results, Tryz.results39, go_sem]) rfl ⟨rfl, New.refl _⟩
  by_cases h3 : 3 < Lib.indexByte s.data.toList 125
  · rw [holeV_high h3]
    rw [show (125 : Int).toNat.toUInt8 = 125 from rfl] at HI
    generalize Lib.indexByte s.data.toList 125 = e at *
    have t1 : decide (e < 2) = false := decide_eq_false h2
    have t2 : decide (3 < e) = true := decide_eq_true h3
    go_enter Tryz.func39, Tryz.ntmps39
    go_wp2_with (go_at_call 64; refine (HI.out _).mono ?_; rintro e w' ⟨rfl, rfl⟩)
    exact bodyPost_ret (v := .tuple #[.int .i64 0, .int .i64 0]) (by simp [results, Tryz.results39, go_sem]) rfl ⟨rfl, New.refl _⟩
  have hge : 2 ≤ Lib.indexByte s.data.toList 125 := by omega
  by_cases h4 : Lib.indexByte s.data.toList 125 = 2
  · obtain ⟨x, a, r, hl⟩ := idx_two h4
    have hsz : s.size = r.length + 3 := by rw [size_eq, hl]; simp
    have g0 : s[0]'(by omega) = x := by rw [get_eq]; simp [hl]
    have g1 : s[1]'(by omega) = a := by rw [get_eq]; simp [hl]
    have ge : (s.extract 1 2).data.toList = [a] := by rw [extract_S, data_S, hl]; simp
    have hv : holeV s.data.toList = if x = 123 then hole1 a else (0, 0) := by
      unfold holeV
      rw [h4, hl]
      by_cases hx : x = 123
      · simp [hx]
      · simp [hx]
    rw [hv]
    obtain ⟨V, hV⟩ : ∃ V, (if x = 123 then hole1 a else (0, 0)) = V := ⟨_, rfl⟩
    rw [hV]
    refine hole_walk s 2 w hs h4 (by omega) (by omega) (by omega) V.1 V.2 ?_ ?_ ?_ ?_
    · intro h
      rw [g0] at h
      rw [← hV, if_neg (fun e => h (by rw [e]; rfl))]
    · intro h h'
      rw [g1] at h'
      have h5 : a = 48 := UInt8.toNat_inj.1 h'
      rw [← hV, h5]; split <;> simp [hole1]
    · intro h h' h5
      rw [ge, Ne, trimS_nil] at h5
      have h6 : dgs.contains a = false := by cases e : dgs.contains a with
        | false => rfl
        | true => exact absurd (fun x hx => by obtain rfl := List.mem_singleton.1 hx; exact e) h5
      have h7 : hole1 a = (0, 0) := by
        unfold hole1
        rw [if_neg (by rw [h6]; simp)]
      rw [← hV, h7]; split <;> rfl
    · intro h h' h5
      rw [ge, trimS_nil] at h5
      rw [g0] at h
      rw [g1] at h'
      have h6 := h5 a (by simp)
      have h7 : x = 123 := UInt8.toNat_inj.1 h
      have h8 : a ≠ 48 := fun e => h' (by rw [e]; rfl)
      refine ⟨a.toNat - 48, by rw [ge]; exact atoi1 h6, ?_⟩
      rw [← hV, if_pos h7, hole1, if_pos (by simp only [h6, Bool.true_and]; exact bne_iff_ne.2 h8)]
  · have h5 : Lib.indexByte s.data.toList 125 = 3 := by omega
    obtain ⟨x, a, b, r, hl⟩ := idx_three h5
    have hsz : s.size = r.length + 4 := by rw [size_eq, hl]; simp
    have g0 : s[0]'(by omega) = x := by rw [get_eq]; simp [hl]
    have g1 : s[1]'(by omega) = a := by rw [get_eq]; simp [hl]
    have ge : (s.extract 1 3).data.toList = [a, b] := by rw [extract_S, data_S, hl]; simp
    have hv : holeV s.data.toList = if x = 123 then hole2 a b else (0, 0) := by
      unfold holeV
      rw [h5, hl]
      by_cases hx : x = 123
      · simp [hx]
      · simp [hx]
    rw [hv]
    obtain ⟨V, hV⟩ : ∃ V, (if x = 123 then hole2 a b else (0, 0)) = V := ⟨_, rfl⟩
    rw [hV]
    refine hole_walk s 3 w hs h5 (by omega) (by omega) (by omega) V.1 V.2 ?_ ?_ ?_ ?_
    · intro h
      rw [g0] at h
      rw [← hV, if_neg (fun e => h (by rw [e]; rfl))]
    · intro h h'
      rw [g1] at h'
      have h5 : a = 48 := UInt8.toNat_inj.1 h'
      rw [← hV, h5]; split <;> simp [hole2]
    · intro h h' h5
      rw [ge, Ne, trimS_nil] at h5
      have h6 : (dgs.contains a && dgs.contains b) = false := by cases e : dgs.contains a && dgs.contains b with
        | false => rfl
        | true => exact absurd (fun x hx => by simp only [Bool.and_eq_true] at e; rcases List.mem_cons.1 hx with rfl | hx; exact e.1; obtain rfl := List.mem_singleton.1 hx; exact e.2) h5
      have h7 : hole2 a b = (0, 0) := by
        unfold hole2
        rw [if_neg (fun h => by simp only [Bool.and_eq_true] at h; rw [h.1.1, h.2] at h6; cases h6)]
      rw [← hV, h7]; split <;> rfl
    · intro h h' h5
      rw [ge, trimS_nil] at h5
      rw [g0] at h
      rw [g1] at h'
      have h6 := h5 a (by simp)
      have h6b := h5 b (by simp)
      have h7 : x = 123 := UInt8.toNat_inj.1 h
      have h8 : a ≠ 48 := fun e => h' (by rw [e]; rfl)
      refine ⟨(a.toNat - 48) * 10 + (b.toNat - 48), by rw [ge]; exact atoi2 h6 h6b, ?_⟩
      rw [← hV, if_pos h7, hole2, if_pos (by simp only [h6, h6b, Bool.true_and, Bool.and_true]; exact bne_iff_ne.2 h8)]
end Go.Proofs.YtpoelhnceebmkaaGreatDoor
