/- template.hole: the size and the length of the hole that begins a text; plain part and walk. No conditions but the text's size. What stays where two blocks turn; the words of a text are put into the last part of a template. No conditions but the sizes' own. template.Parse as a function on data. No conditions. template.Parse: the walk. Conditions: the text's size; strings.IndexAny answers on the text's ends. -/
import Derived.Test.YtpoelhnceebmkaaGreatDoorGQ
import Derived.Shelf.Strings.SlTrimAscii
import Derived.Lib.SmallJoins

namespace Go.Proofs.YtpoelhnceebmkaaGreatDoor
open Go Go.RowKit
set_option linter.unusedSimpArgs false
set_option linter.unusedVariables false

def dgs : List UInt8 := [48, 49, 50, 51, 52, 53, 54, 55, 56, 57]
def hole1 (a : UInt8) : Nat × Nat := if dgs.contains a && a != 48 then (a.toNat - 48, 3) else (0, 0)
def hole2 (a b : UInt8) : Nat × Nat := if dgs.contains a && a != 48 && dgs.contains b then ((a.toNat - 48) * 10 + (b.toNat - 48), 4) else (0, 0)
def holeV (l : List UInt8) : Nat × Nat :=
  if Lib.indexByte l 125 = 2 ∧ l.head? = some 123 then hole1 (l.getD 1 0)
  else if Lib.indexByte l 125 = 3 ∧ l.head? = some 123 then hole2 (l.getD 1 0) (l.getD 2 0)
  else (0, 0)

theorem drop_nil {p : UInt8 → Bool} : ∀ {l : List UInt8}, l.dropWhile p = [] ↔ ∀ x ∈ l, p x = true
  | [] => by simp
  | a :: l => by
    rw [List.dropWhile_cons]
    by_cases h : p a = true
    · rw [if_pos h, drop_nil]; simp [h]
    · rw [if_neg h]; simp [h]
theorem trimS_nil {l cs : List UInt8} : Lib.trimS l cs = [] ↔ ∀ x ∈ l, cs.contains x = true := by
  unfold Lib.trimS Lib.trimLeftS Lib.trimRightS
  rw [drop_nil]
  constructor
  · intro h
    have h1 : ∀ x ∈ l.reverse.dropWhile (cs.contains ·), cs.contains x = true := fun x hx => h x (by simpa using hx)
    have h2 : l.reverse.dropWhile (cs.contains ·) = [] := by
      cases e : l.reverse.dropWhile (cs.contains ·) with
      | nil => rfl
      | cons a r =>
        have h3 := List.head?_dropWhile_not (cs.contains ·) l.reverse
        rw [e] at h3 h1
        have := h1 a (by simp)
        simp at h3
        simp [h3] at this
    rw [drop_nil] at h2
    exact fun x hx => h2 x (by simpa using hx)
  · intro h x hx
    have h1 : x ∈ l.reverse.dropWhile (cs.contains ·) := by simpa using hx
    exact h x (by simpa using (List.dropWhile_sublist _).subset h1)
theorem dg_val {a : UInt8} (h : dgs.contains a = true) : ∃ k : Fin 10, a = UInt8.ofNat (48 + k.1) := by
  simp only [dgs, List.contains_eq_mem, List.mem_cons, List.not_mem_nil, or_false, decide_eq_true_eq] at h
  rcases h with h | h | h | h | h | h | h | h | h | h
  · exact ⟨0, h⟩
  · exact ⟨1, h⟩
  · exact ⟨2, h⟩
  · exact ⟨3, h⟩
  · exact ⟨4, h⟩
  · exact ⟨5, h⟩
  · exact ⟨6, h⟩
  · exact ⟨7, h⟩
  · exact ⟨8, h⟩
  · exact ⟨9, h⟩
theorem atoi1 {a : UInt8} (h : dgs.contains a = true) : Lib.atoi [a] = some ((a.toNat - 48 : Nat) : Int) := by
  obtain ⟨k, rfl⟩ := dg_val h
  revert k; decide
theorem atoi2 {a b : UInt8} (h : dgs.contains a = true) (h' : dgs.contains b = true) : Lib.atoi [a, b] = some (((a.toNat - 48) * 10 + (b.toNat - 48) : Nat) : Int) := by
  obtain ⟨k, rfl⟩ := dg_val h
  obtain ⟨j, rfl⟩ := dg_val h'
  revert k j; decide
theorem idx_two {l : List UInt8} {c : UInt8} (h : Lib.indexByte l c = 2) : ∃ x a r, l = x :: a :: c :: r := by
  match l, Lib.indexByte_some (o := 2) h with
  | [], h => simp at h
  | [_], h => simp at h
  | [_, _], h => simp at h
  | x :: a :: d :: r, h => exact ⟨x, a, r, by have := h.1; simp at this; rw [this]⟩
theorem idx_three {l : List UInt8} {c : UInt8} (h : Lib.indexByte l c = 3) : ∃ x a b r, l = x :: a :: b :: c :: r := by
  match l, Lib.indexByte_some (o := 3) h with
  | [], h => simp at h
  | [_], h => simp at h
  | [_, _], h => simp at h
  | [_, _, _], h => simp at h
  | x :: a :: b :: d :: r, h => exact ⟨x, a, b, r, by have := h.1; simp at this; rw [this]⟩

theorem Tryz.trim_any (s : ByteArray) (w : World) (hs : s.size ≤ 4096) : Calls Tryz.prog 65 #[.string s, .string ⟨#[48, 49, 50, 51, 52, 53, 54, 55, 56, 57]⟩] w fun e w' => e = .returned (.string ⟨(Lib.trimS s.data.toList dgs).toArray⟩) ∧ New w w' :=
  Any.strings_Trim_laid Tryz.lays160 (by kernel_rfl) s _ w (by omega) (by decide) (ascii_of_all (by decide))
theorem holeV_low {s : ByteArray} (h : Lib.indexByte s.data.toList 125 < 2) : holeV s.data.toList = (0, 0) := by
  unfold holeV; rw [if_neg (by omega), if_neg (by omega)]
theorem holeV_high {s : ByteArray} (h : 3 < Lib.indexByte s.data.toList 125) : holeV s.data.toList = (0, 0) := by
  unfold holeV; rw [if_neg (by omega), if_neg (by omega)]

theorem new_bytes (w : World) (e : TypeId) (s : ByteArray) : New w (Lib.bytesWorld w e s) := Go.Joins.below_bytesWorld _ _ _ _ (Nat.le_refl _)
set_option maxRecDepth 100000 in
set_option maxHeartbeats 2000000 in
theorem hole_walk (s : ByteArray) (en : Nat) (w : World) (hs : s.size ≤ 4096) (he : Lib.indexByte s.data.toList 125 = (en : Int)) (h1 : 2 ≤ en) (h2 : en ≤ 3) (hz : en < s.size) (V1 V2 : Nat)
    (c0 : s[0].toNat ≠ 123 → (V1, V2) = (0, 0)) (c1 : s[0].toNat = 123 → s[1].toNat = 48 → (V1, V2) = (0, 0)) (c2 : s[0].toNat = 123 → s[1].toNat ≠ 48 → Lib.trimS (s.extract 1 en).data.toList dgs ≠ [] → (V1, V2) = (0, 0))
    (c3 : s[0].toNat = 123 → s[1].toNat ≠ 48 → Lib.trimS (s.extract 1 en).data.toList dgs = [] → ∃ n : Nat, Lib.atoi (s.extract 1 en).data.toList = some (n : Int) ∧ (V1, V2) = (n, en + 1)) :
    Calls Tryz.prog 39 #[.string s] w fun e w' => e = .returned (.tuple #[.int .i64 V1, .int .i64 V2]) ∧ New w w' := by
  have HI := Lib.hid (fun W => Tryz.strings_IndexByte s 125 W)
  rw [show (125 : Int).toNat.toUInt8 = 125 from rfl, he] at HI
  have t1 : decide ((en : Int) < 2) = false := decide_eq_false (by omega)
  have t2 : decide (3 < (en : Int)) = false := decide_eq_false (by omega)
  have z0 : 0 < s.size := by omega
  have z1 : 1 < s.size := by omega
  have l1 : (1 : Int) ≤ (en : Int) := by omega
  have l2 : 1 ≤ en := by omega
  have l3 : (en : Int) ≤ (s.size : Int) := by omega
  have l4 : en ≤ s.size := by omega
  have hsz : (s.extract 1 en).size ≤ 18 := by simp; omega
  have C0 := Lib.hid c0
  have C1 := Lib.hid c1
  have C2 := Lib.hid c2
  have C3 := Lib.hid c3
  clear c0 c1 c2 c3 he
  by_cases q0 : s[0].toNat = 123
  · have q0b : ((s[0].toNat : Int) != 123) = false := by rw [q0]; rfl
    by_cases q1 : s[1].toNat = 48
    · have q1b : ((s[1].toNat : Int) == 48) = true := by rw [q1]; rfl
      have e := C1.out q0 q1
      injection e with e1 e2
      subst e1 e2
      clear q0 q1
      go_enter Tryz.func39, Tryz.ntmps39
      go_wp2_with (go_at_call 64; refine (HI.out _).mono ?_; rintro e w' ⟨rfl, rfl⟩)
      exact bodyPost_ret (v := .tuple #[.int .i64 0, .int .i64 0]) (by simp [results, Tryz.results39, go_sem]) rfl ⟨rfl, New.refl _⟩
    · have q1b : ((s[1].toNat : Int) == 48) = false := beq_eq_false_iff_ne.2 (by omega)
      have HT := Lib.hid (fun W => Tryz.trim_any (s.extract 1 en) W (by omega))
      by_cases q2 : Lib.trimS (s.extract 1 en).data.toList dgs = []
      · obtain ⟨n, ha, e⟩ := C3.out q0 q1 q2
        injection e with e1 e2
        subst e1 e2
        rw [q2] at HT
        have HA := Lib.hid (fun W => Tryz.strconv_Atoi (s.extract 1 en) V1 hsz ha W)
        have u1 : IntKind.i64.wrap ((en : Int) + 1) = ((en + 1 : Nat) : Int) := by rw [IntWalk.i64_in _ (by omega)]; omega
        clear ha q0 q1 q2
        go_enter Tryz.func39, Tryz.ntmps39
        go_wp2_with (first | (go_at_call 66; refine (HA.out _).mono ?_; rintro e w' ⟨rfl, t, rfl⟩) | (go_at_call 65; refine (HT.out _).mono ?_; rintro e w2 ⟨rfl, hn2⟩) | (go_at_call 64; refine (HI.out _).mono ?_; rintro e w' ⟨rfl, rfl⟩))
        exact bodyPost_ret (v := .tuple #[.int .i64 V1, .int .i64 (en + 1 : Nat)]) (by simp [results, Tryz.results39, go_sem]) rfl ⟨rfl, hn2.trans (new_bytes _ _ _)⟩
      · have e := C2.out q0 q1 q2
        injection e with e1 e2
        subst e1 e2
        have q2b : ((⟨(Lib.trimS (s.extract 1 en).data.toList dgs).toArray⟩ : ByteArray).toList == []) = false := by
          rw [toList_eq]; simpa using q2
        generalize (⟨(Lib.trimS (s.extract 1 en).data.toList dgs).toArray⟩ : ByteArray) = z at *
        clear q0 q1 q2
        go_enter Tryz.func39, Tryz.ntmps39
        go_wp2_with (first | (go_at_call 65; refine (HT.out _).mono ?_; rintro e w2 ⟨rfl, hn2⟩) | (go_at_call 64; refine (HI.out _).mono ?_; rintro e w' ⟨rfl, rfl⟩))
        exact bodyPost_ret (v := .tuple #[.int .i64 0, .int .i64 0]) (by simp [results, Tryz.results39, go_sem]) rfl ⟨rfl, hn2⟩
  · have q0b : ((s[0].toNat : Int) != 123) = true := bne_iff_ne.2 (by omega)
    have e := C0.out q0
    injection e with e1 e2
    subst e1 e2
    clear q0
    go_enter Tryz.func39, Tryz.ntmps39
    go_wp2_with (go_at_call 64; refine (HI.out _).mono ?_; rintro e w' ⟨rfl, rfl⟩)
    exact bodyPost_ret (v := .tuple #[.int .i64 0, .int .i64 0]) (by simp [results, Tryz.results39, go_sem]) rfl ⟨rfl, New.refl _⟩

set_option maxRecDepth 100000 in
set_option maxHeartbeats 2000000 in
theorem hole_any (s : ByteArray) (w : World) (hs : s.size ≤ 4096) :
    Calls Tryz.prog 39 #[.string s] w fun e w' => e = .returned (.tuple #[.int .i64 (holeV s.data.toList).1, .int .i64 (holeV s.data.toList).2]) ∧ New w w' := by
  have HI := Lib.hid (fun W => Tryz.strings_IndexByte s 125 W)
  by_cases h2 : Lib.indexByte s.data.toList 125 < 2
  · rw [holeV_low h2]
    rw [show (125 : Int).toNat.toUInt8 = 125 from rfl] at HI
    generalize Lib.indexByte s.data.toList 125 = e at *
    have t1 : decide (e < 2) = true := decide_eq_true h2
    go_enter Tryz.func39, Tryz.ntmps39
    go_wp2_with (go_at_call 64; refine (HI.out _).mono ?_; rintro e w' ⟨rfl, rfl⟩)
    exact bodyPost_ret (v := .tuple #[.int .i64 0, .int .i64 0]) (by simp [results, Tryz.results39, go_sem]) rfl ⟨rfl, New.refl _⟩
  by_cases h3 : 3 < Lib.indexByte s.data.toList 125
  · rw [holeV_high h3]
    rw [show (125 : Int).toNat.toUInt8 = 125 from rfl] at HI
    generalize Lib.indexByte s.data.toList 125 = e at *
    have t1 : decide (e < 2) = false := decide_eq_false h2
    have t2 : decide (3 < e) = true := decide_eq_true h3
    go_enter Tryz.func39, Tryz.ntmps39
    go_wp2_with (go_at_call 64; refine (HI.out _).mono ?_; rintro e w' ⟨rfl, rfl⟩)
    exact bodyPost_ret (v := .tuple #[.int .i64 0, .int .i64 0]) (by simp [results, Tryz.results39, go_sem]) rfl ⟨rfl, New.refl _⟩
  have hge : 2 ≤ Lib.indexByte s.data.toList 125 := by omega
  by_cases h4 : Lib.indexByte s.data.toList 125 = 2
  · obtain ⟨x, a, r, hl⟩ := idx_two h4
    have hsz : s.size = r.length + 3 := by rw [size_eq, hl]; simp
    have g0 : s[0]'(by omega) = x := by rw [get_eq]; simp [hl]
    have g1 : s[1]'(by omega) = a := by rw [get_eq]; simp [hl]
    have ge : (s.extract 1 2).data.toList = [a] := by rw [extract_S, data_S, hl]; simp
    have hv : holeV s.data.toList = if x = 123 then hole1 a else (0, 0) := by
      unfold holeV
      rw [h4, hl]
      by_cases hx : x = 123
      · simp [hx]
      · simp [hx]
    rw [hv]
    obtain ⟨V, hV⟩ : ∃ V, (if x = 123 then hole1 a else (0, 0)) = V := ⟨_, rfl⟩
    rw [hV]
    refine hole_walk s 2 w hs h4 (by omega) (by omega) (by omega) V.1 V.2 ?_ ?_ ?_ ?_
    · intro h
      rw [g0] at h
      rw [← hV, if_neg (fun e => h (by rw [e]; rfl))]
    · intro h h'
      rw [g1] at h'
      have h5 : a = 48 := UInt8.toNat_inj.1 h'
      rw [← hV, h5]; split <;> simp [hole1]
    · intro h h' h5
      rw [ge, Ne, trimS_nil] at h5
      have h6 : dgs.contains a = false := by cases e : dgs.contains a with
        | false => rfl
        | true => exact absurd (fun x hx => by obtain rfl := List.mem_singleton.1 hx; exact e) h5
      have h7 : hole1 a = (0, 0) := by
        unfold hole1
        rw [if_neg (by rw [h6]; simp)]
      rw [← hV, h7]; split <;> rfl
    · intro h h' h5
      rw [ge, trimS_nil] at h5
      rw [g0] at h
      rw [g1] at h'
      have h6 := h5 a (by simp)
      have h7 : x = 123 := UInt8.toNat_inj.1 h
      have h8 : a ≠ 48 := fun e => h' (by rw [e]; rfl)
      refine ⟨a.toNat - 48, by rw [ge]; exact atoi1 h6, ?_⟩
      rw [← hV, if_pos h7, hole1, if_pos (by simp only [h6, Bool.true_and]; exact bne_iff_ne.2 h8)]
  · have h5 : Lib.indexByte s.data.toList 125 = 3 := by omega
    obtain ⟨x, a, b, r, hl⟩ := idx_three h5
    have hsz : s.size = r.length + 4 := by rw [size_eq, hl]; simp
    have g0 : s[0]'(by omega) = x := by rw [get_eq]; simp [hl]
    have g1 : s[1]'(by omega) = a := by rw [get_eq]; simp [hl]
    have ge : (s.extract 1 3).data.toList = [a, b] := by rw [extract_S, data_S, hl]; simp
    have hv : holeV s.data.toList = if x = 123 then hole2 a b else (0, 0) := by
      unfold holeV
      rw [h5, hl]
      by_cases hx : x = 123
      · simp [hx]
      · simp [hx]
    rw [hv]
    obtain ⟨V, hV⟩ : ∃ V, (if x = 123 then hole2 a b else (0, 0)) = V := ⟨_, rfl⟩
    rw [hV]
    refine hole_walk s 3 w hs h5 (by omega) (by omega) (by omega) V.1 V.2 ?_ ?_ ?_ ?_
    · intro h
      rw [g0] at h
      rw [← hV, if_neg (fun e => h (by rw [e]; rfl))]
    · intro h h'
      rw [g1] at h'
      have h5 : a = 48 := UInt8.toNat_inj.1 h'
      rw [← hV, h5]; split <;> simp [hole2]
    · intro h h' h5
      rw [ge, Ne, trimS_nil] at h5
      have h6 : (dgs.contains a && dgs.contains b) = false := by cases e : dgs.contains a && dgs.contains b with
        | false => rfl
        | true => exact absurd (fun x hx => by simp only [Bool.and_eq_true] at e; rcases List.mem_cons.1 hx with rfl | hx; exact e.1; obtain rfl := List.mem_singleton.1 hx; exact e.2) h5
      have h7 : hole2 a b = (0, 0) := by
        unfold hole2
        rw [if_neg (fun h => by simp only [Bool.and_eq_true] at h; rw [h.1.1, h.2] at h6; cases h6)]
      rw [← hV, h7]; split <;> rfl
    · intro h h' h5
      rw [ge, trimS_nil] at h5
      rw [g0] at h
      rw [g1] at h'
      have h6 := h5 a (by simp)
      have h6b := h5 b (by simp)
      have h7 : x = 123 := UInt8.toNat_inj.1 h
      have h8 : a ≠ 48 := fun e => h' (by rw [e]; rfl)
      refine ⟨(a.toNat - 48) * 10 + (b.toNat - 48), by rw [ge]; exact atoi2 h6 h6b, ?_⟩
      rw [← hV, if_pos h7, hole2, if_pos (by simp only [h6, h6b, Bool.true_and, Bool.and_true]; exact bne_iff_ne.2 h8)]
end Go.Proofs.YtpoelhnceebmkaaGreatDoor

namespace Go.Proofs.YtpoelhnceebmkaaGreatDoor
open Go Go.RowKit Go.Shelf
set_option linter.unusedSimpArgs false
set_option linter.unusedVariables false
attribute [local go_sem] Oper.semAt_some

/-- Only new memory, but for two blocks. -/
structure Two (p c : Nat) (w W : World) : Prop where
  os : W.os = w.os
  tape : W.tape = w.tape
  output : W.output = w.output
  size : w.heap.size ≤ W.heap.size
  block : ∀ k, k < w.heap.size → k ≠ p → k ≠ c → W.heap[k]? = w.heap[k]?
section
variable {p c : Nat} {a b d : World}
theorem Two.refl (p c : Nat) (w : World) : Two p c w w := ⟨rfl, rfl, rfl, Nat.le_refl _, fun _ _ _ _ => rfl⟩
theorem Two.trans (h : Two p c a b) (k : Two p c b d) : Two p c a d := ⟨k.os.trans h.os, k.tape.trans h.tape, k.output.trans h.output, Nat.le_trans h.size k.size, fun i hi hp hc => (k.block i (Nat.lt_of_lt_of_le hi h.size) hp hc).trans (h.block i hi hp hc)⟩
theorem Two.of_new (h : New a b) : Two p c a b := ⟨h.os, h.tape, h.output, h.size, fun k hk _ _ => h.block k hk⟩
theorem Two.new (h : Two p c a b) (k : New b d) : Two p c a d := h.trans (Two.of_new k)
theorem Two.drew (h : Two p c a b) : Two p c a b.drew := h.new (New.refl b).drew
theorem Two.alloc (h : Two p c a b) (o : Obj) : Two p c a (b.alloc o) := h.new ((New.refl b).alloc o)
theorem Two.grown (h : Two p c a b) {row : Option Nat} (k : b.grownBy d row) (hr : ∀ r, row = some r → a.heap.size ≤ r ∨ r = p ∨ r = c) : Two p c a d :=
  ⟨k.os.trans h.os, k.tape.trans h.tape, k.output.trans h.output, Nat.le_trans h.size k.size, fun i hi hp hc => (k.block i (Nat.lt_of_lt_of_le hi h.size) (fun e => by rcases hr i e.symm with h | h | h <;> omega)).trans (h.block i hi hp hc)⟩
theorem Two.set (h : Two p c a b) {q : Addr} (hq : a.heap.size ≤ q.block ∨ q.block = p ∨ q.block = c) (u : Value) : Two p c a (b.setCell q u) :=
  ⟨h.os, h.tape, h.output, by simpa [World.setCell] using h.size, fun i hi hp hc => (Below.heap_setCell b q u i (by rcases hq with h | h | h <;> omega)).trans (h.block i hi hp hc)⟩
theorem Two.putObj (h : Two p c a b) {D : Nat} (o : Obj) (hD : a.heap.size ≤ D) : Two p c a (b.putObj D o) :=
  h.grown (grownBy_putObj' b D o) (fun r e => by cases e; exact .inl hD)
theorem Blk.two {g : Nat} {t : TypeId} {cs : Array Value} (h : Blk a g t cs) (k : Two p c a b) (hp : g ≠ p) (hc : g ≠ c) : Blk b g t cs := (k.block g h.lt hp hc).trans h
theorem own_two {base s n : Nat} {e : TypeId} {v : Value} {xs : List Value} (h : a.ownsRow base e s v n xs) (k : Two p c a b) (hp : v.ownBlock ≠ some p) (hc : v.ownBlock ≠ some c) : b.ownsRow base e s v n xs := by
  refine ⟨h.1, ?_⟩
  rcases h.2 with h1 | ⟨g, cap, cur, rfl, hg, hh, rest⟩
  · exact .inl h1
  · refine .inr ⟨g, cap, cur, rfl, hg, (k.block g (Array.getElem?_eq_some_iff.1 hh).1 (fun e => hp (by rw [e]; rfl)) (fun e => hc (by rw [e]; rfl))).trans hh, rest⟩
end
/-- Two owned rows of different kinds lie apart. -/
theorem own_off {w : World} {b1 b2 s1 s2 n1 n2 : Nat} {e1 e2 : TypeId} {v1 v2 : Value} {xs1 xs2 : List Value} (h1 : w.ownsRow b1 e1 s1 v1 n1 xs1) (h2 : w.ownsRow b2 e2 s2 v2 n2 xs2) (he : e1 ≠ e2) {g : Nat} (hg : v2.ownBlock = some g) : v1.ownBlock ≠ some g := by
  intro h
  rcases h2.2 with ⟨rfl, _⟩ | ⟨g2, cap2, cur2, rfl, _, hh2, _⟩
  · simp [Value.ownBlock] at hg
  · have : g2 = g := by simpa [Value.ownBlock] using hg
    subst this
    rcases h1.2 with ⟨rfl, _⟩ | ⟨g1, cap1, cur1, rfl, _, hh1, _⟩
    · simp [Value.ownBlock] at h
    · have : g1 = g2 := by simpa [Value.ownBlock] using h
      subst this
      rw [hh1] at hh2
      injection hh2 with hh2
      injection hh2 with _ h3
      exact he h3
theorem own_off_blk {w : World} {b1 s1 n1 g : Nat} {e1 t : TypeId} {v1 : Value} {xs1 : List Value} {cs : Array Value} (h1 : w.ownsRow b1 e1 s1 v1 n1 xs1) (h2 : Blk w g t cs) (he : e1 ≠ t) : v1.ownBlock ≠ some g := by
  intro h
  exact blk_apart h2 h1 (Ne.symm he) h.symm

theorem grown_set (w : World) (p : Addr) (u : Value) : w.grownBy (w.setCell p u) (some p.block) := ⟨rfl, rfl, rfl, by simp [World.setCell], fun k _ hk => Below.heap_setCell w p u k (fun e => hk (by rw [e]))⟩
theorem blk_putObj {W : World} {D g : Nat} {o : Obj} {t : TypeId} {cs : Array Value} (h : Blk W g t cs) (hD : W.heap[D]? = some (.deferred (some []))) : Blk (W.putObj D o) g t cs :=
  h.others (grownBy_putObj' W D o) (fun r e => by cases e; exact ⟨_, hD, fun _ _ _ h => by cases h⟩)
/-- Between two rounds: 'pre' has come. -/
structure InvP (bp g C cP m k : Nat) (cs : List Value) (h : Int) (w : World) (pre : List (Nat × List UInt8)) (W : World) : Prop where
  two : Two g C w W
  size : w.heap.size + 2 ≤ W.heap.size
  row : ∃ v, W.ownsRow bp 58 2 (.slice (some ⟨g, 0, none⟩) (m + 1) cP) (m + 1) (cs ++ [.int .i64 h, v]) ∧ W.ownsRow (w.heap.size + 2) 9 1 v pre.length (sCells (pre.map fun x => S x.2))
  pc : Blk W w.heap.size 64 #[.pointer (some ⟨g, m * 2, none⟩)]
  cnt : Blk W C 3 #[.int .i64 (k + pre.length : Nat)]
theorem InvP.own {bp g C cP m k B : Nat} {cs : List Value} {h : Int} {w : World} (hB : w.heap.size ≤ B) : OwnFrom B (InvP bp g C cP m k cs h w) := by
  intro pre W W' row hs hg hr
  have hc : ∀ r, row = some r → ∃ o : Obj, W.heap[r]? = some o ∧ (∀ c e f, o ≠ .cells c e f) := fun r e => by
    obtain ⟨_, o, ho, hn⟩ := hr r e
    exact ⟨o, ho, fun c e f h => by subst h; simp [Obj.isCells] at hn⟩
  obtain ⟨v, hp, hw⟩ := hs.row
  exact ⟨hs.two.grown hg (fun r e => .inl (Nat.le_trans hB (hr r e).1)), Nat.le_trans hs.size hg.size, ⟨v, own_others hp hg hc, own_others hw hg hc⟩, hs.pc.others hg hc, hs.cnt.others hg hc⟩
theorem InvP.ownT {bp g C cP m k B : Nat} {cs : List Value} {h : Int} {w : World} (hB : w.heap.size ≤ B) : AbidesT 21 B (InvP bp g C cP m k cs h w) := by
  intro pre W W' row hs hg hr
  obtain ⟨v, hp, hw⟩ := hs.row
  exact ⟨hs.two.grown hg (fun r e => .inl (Nat.le_trans hB (hr r e).1)), Nat.le_trans hs.size hg.size, ⟨v, own_kind' hp hg hr (by decide), own_kind' hw hg hr (by decide)⟩, blk_kind hs.pc hg hr (by decide), blk_kind hs.cnt hg hr (by decide)⟩

set_option maxRecDepth 100000 in
set_option maxHeartbeats 4000000 in
theorem put_any (s nm : ByteArray) (w : World) (T C g cP m bp k : Nat) (cs : List Value) (h : Int) (hs : s.size ≤ 10000) (hk : k ≤ 100000) (hm : m ≤ 10000) (hcs : cs.length = m * 2)
    (hT : Blk w T 25 #[.string nm, .slice (some ⟨g, 0, none⟩) (m + 1) cP]) (hP : w.ownsRow bp 58 2 (.slice (some ⟨g, 0, none⟩) (m + 1) cP) (m + 1) (cs ++ [.int .i64 h, .slice none 0 0])) (hC : Blk w C 3 #[.int .i64 (k : Nat)]) :
    Calls Tryz.prog 36 #[.string s, .pointer (some ⟨T, 0, none⟩), .pointer (some ⟨C, 0, none⟩)] w fun e w' => e = .returned (.tuple #[]) ∧ ∃ v, w'.ownsRow bp 58 2 (.slice (some ⟨g, 0, none⟩) (m + 1) cP) (m + 1) (cs ++ [.int .i64 h, v]) ∧ w'.ownsRow (w.heap.size + 2) 9 1 v (spansV s).length (sCells ((spansV s).map fun x => S x.2)) ∧ Blk w' C 3 #[.int .i64 (k + (spansV s).length : Nat)] ∧ Two g C w w' := by
  have hgT : g ≠ T := fun e => own_off_blk hP hT (by decide) (by rw [← e]; rfl)
  have hgC : g ≠ C := fun e => own_off_blk hP hC (by decide) (by rw [← e]; rfl)
  have hgl : bp ≤ g ∧ g < w.heap.size := hP.lt g rfl
  have hCl := hC.lt
  have t1 := hT.cell' 1 _ rfl
  have u1 : IntKind.i64.wrap (((m + 1 : Nat) : Int) - 1) = (m : Int) := by rw [IntWalk.i64_in _ (by omega)]; omega
  have u2 : (0 : Int) ≤ (m : Int) := by omega
  have u3 : (m : Int) < ((m + 1 : Nat) : Int) := by omega
  have u4 : (m : Int).toNat = m := by omega
  have u5 : m < m + 1 := by omega
  have HT := Lib.hid hT
  have HP := Lib.hid hP
  have HC := Lib.hid hC
  clear hT hP hC
  refine (callsIn_wide (n := 9)).1 (callsIn_of_wp_marks Tryz.func36 rfl trivial ?_ rfl)
  simp only [Tryz.ntmps36, List.size_toArray, List.length_cons, List.length_nil, Nat.reduceAdd, Nat.reduceSub, Array.replicate_succ, Array.replicate_zero, List.push_toArray, List.append_toArray, List.nil_append, List.cons_append]
  gi_wp2_with (first | (refine ⟨trivial, ?_⟩; gi_at_call 37; refine (callsIn_wide.2 (spans_any s _)).mono ?_; rintro e w3 ⟨rfl, rfl⟩))
  obtain ⟨wS, hwS⟩ : ∃ x, x = (w.alloc (.cells #[.pointer (some ⟨g, m * 2, none⟩)] 64)).alloc (.cells #[.string s] 9) := ⟨_, rfl⟩
  rw [← hwS]
  have hwz : wS.heap.size = w.heap.size + 2 := by rw [hwS]; simp
  have hnw : New w wS := by rw [hwS]; exact ((New.refl w).alloc _).alloc _
  have b0 : Blk wS w.heap.size 64 #[.pointer (some ⟨g, m * 2, none⟩)] := by rw [hwS]; exact (Blk.made w _ _).alloc _
  have b1 : Blk wS (w.heap.size + 1) 9 #[.string s] := by rw [hwS]; have := Blk.made (w.alloc (.cells #[.pointer (some ⟨g, m * 2, none⟩)] 64)) 9 #[.string s]; rw [World.size_alloc] at this; exact this
  have hiter := spans_iter 8 s (w.heap.size + 1) wS (by omega) (by omega) (b1.cell' 0 _ rfl)
  have hsl := spans_len s
  clear hwS b1
  apply wpIn_rangeFunc_T (gf := 58) (lb := #[.pointer (some ⟨w.heap.size + 1, 0, none⟩)]) rfl (enters_of Tryz.func58 (by kernel_rfl) rfl) hiter (New.refl _) (by omega) (fun x => rfl)
    (InvP bp g C cP m k cs h w) (InvP.own (by omega)) (InvP.ownT (by omega))
    ⟨Two.of_new hnw, by omega, ⟨_, own_new HP.out hnw, World.ownsRow_nil _ _ _ _⟩, b0, HC.out.new hnw⟩
  case hassign =>
    intro l x W K hK
    simp only [spEnc]
    gi_wp2
    exact hK
  case hbody =>
    intro l pre x W hpx hI
    obtain ⟨two, hsz, ⟨v, ownP, ownW⟩, bpc, bcnt⟩ := hI
    have hpl : pre.length + 1 ≤ s.size := by
      have := hpx.length_le
      rw [List.length_append, List.length_singleton] at this
      omega
    have e0 : W.cell? ⟨w.heap.size, 0, none⟩ = some (.pointer (some ⟨g, m * 2, none⟩)) := bpc.cell' 0 _ rfl
    have eW : W.cell? ⟨g, m * 2 + 1, none⟩ = some v := by rw [ownP.cellAt (m * 2 + 1) (by omega), List.getElem?_append_right (by omega), hcs]; simp
    have hgW : g < W.heap.size := by have := two.size; omega
    have eW2 : (W.alloc (.cells #[.string (S x.2)] 9)).cell? ⟨g, m * 2 + 1, none⟩ = some v := (World.cell?_alloc_lt W _ ⟨g, m * 2 + 1, none⟩ hgW).trans eW
    have e1 : (W.alloc (.cells #[.string (S x.2)] 9)).cell? ⟨w.heap.size, 0, none⟩ = some (.pointer (some ⟨g, m * 2, none⟩)) := (World.cell?_alloc_lt W _ ⟨w.heap.size, 0, none⟩ bpc.lt).trans e0
    obtain ⟨i0, hi, hz0, hz1, hz2⟩ := info_parts Tryz.info9'
    obtain ⟨v2, w2, hrun, hown3, hgrow, _, _⟩ := run_append_own_at (P := Tryz.prog) (W.alloc (.cells #[.string (S x.2)] 9)).drew (w.heap.size + 2) 37 37 9 i0 _ 1 16 Tryz.underlying37 hi hz0 hz1 hz2 rfl (by decide)
      v _ _ (ownW.alloc _) ⟨W.heap.size, 0, none⟩ 1 1 [.string (S x.2)] rfl (cell_one_new _ _ _) (by simp [Value.oneCell']) (by simp [maxLen]; omega) (by omega) (by show _ ≤ (W.alloc _).heap.size; simp; omega)
    have bpc2 : Blk w2 w.heap.size 64 #[.pointer (some ⟨g, m * 2, none⟩)] := ((bpc.alloc _).drew).grown hgrow (blk_apart bpc ownW (by decide))
    have bcnt2 : Blk w2 C 3 #[.int .i64 (k + pre.length : Nat)] := ((bcnt.alloc _).drew).grown hgrow (blk_apart bcnt ownW (by decide))
    have ownP2 : w2.ownsRow bp 58 2 (.slice (some ⟨g, 0, none⟩) (m + 1) cP) (m + 1) (cs ++ [.int .i64 h, v]) := ((ownP.alloc _).drew).kept hgrow (.inr (fun e => own_off ownP ownW (by decide) e.symm rfl))
    have hlow := ownW.lt
    have two2 : Two g C w w2 := ((two.alloc _).drew).grown hgrow (fun r e => .inl (by have := (hlow r e).1; omega))
    have hz9 : W.heap.size + 1 ≤ w2.heap.size := by have := hgrow.size; simpa using this
    have hrow : ∀ g', v.ownBlock = some g' → ∃ cs', W.heap[g']? = some (.cells cs' 9 (0, 0)) := fun g' e => by
      rcases ownW.2 with ⟨rfl, _⟩ | ⟨g'', cap, cur, rfl, _, hh, _⟩
      · simp [Value.ownBlock] at e
      · have : g'' = g' := by simpa [Value.ownBlock] using e
        subst this
        exact ⟨_, hh⟩
    have KO2 : KeepsOthers W w2 := ((KeepsOthers.alloc W _).trans (KeepsOthers.drew _)).trans (KeepsOthers.of_grownBy hgrow fun g' o' e ho => by
      obtain ⟨cs', hcs'⟩ := hrow g' e
      have := (Below.heap_alloc W (.cells #[.string (S x.2)] 9) g' (Array.getElem?_eq_some_iff.1 hcs').1).trans hcs'
      rw [show (W.alloc (.cells #[.string (S x.2)] 9)).drew.heap = (W.alloc (.cells #[.string (S x.2)] 9)).heap from rfl, this] at ho
      cases ho; rfl)
    have KT2 : KpT (w.heap.size + 1) (w.heap.size + 1 + 1) W w2 := ⟨fun i h1 h2 => by
      refine (hgrow.block i (by show i < (W.alloc _).heap.size; rw [World.size_alloc]; omega) (fun e => by have := (hlow i e.symm).1; omega)).trans (Below.heap_alloc W _ i (by omega)), by omega⟩
    have hst := (ownP2.stored (m * 2 + 1) v2).1
    have hgs := (ownP2.stored (m * 2 + 1) v2).2
    rw [show (cs ++ [.int .i64 h, v]).set (m * 2 + 1) v2 = cs ++ [.int .i64 h, v2] by rw [List.set_append, if_neg (by omega), hcs]; simp] at hst
    have ownW3 := hown3.kept hgs (.inr (fun e => own_off hown3 ownP2 (by decide) (g := g) rfl e))
    have two3 := two2.set (q := ⟨g, m * 2 + 1, none⟩) (.inr (.inl rfl)) v2
    have bpc3 := bpc2.far (p := ⟨g, m * 2 + 1, none⟩) (by show w.heap.size ≠ g; omega) v2
    have bcnt3 := bcnt2.far (p := ⟨g, m * 2 + 1, none⟩) (Ne.symm hgC) v2
    have KO3 := KO2.trans (KeepsOthers.setCell w2 ⟨g, m * 2 + 1, none⟩ v2)
    have KT3 := KT2.trans (⟨fun i h1 h2 => Below.heap_setCell w2 ⟨g, m * 2 + 1, none⟩ v2 i (by show i ≠ g; omega), by simp [World.setCell]⟩ : KpT (w.heap.size + 1) (w.heap.size + 1 + 1) w2 (w2.setCell ⟨g, m * 2 + 1, none⟩ v2))
    have c5 := bcnt3.cell' 0 _ rfl
    have c6 := bcnt3.free 0
    have u6 : IntKind.i64.wrap (((k + pre.length : Nat) : Int) + 1) = ((k + (pre.length + 1) : Nat) : Int) := by rw [IntWalk.i64_in _ (by omega)]; omega
    have sz3 : w.heap.size + 2 ≤ (w2.setCell ⟨g, m * 2 + 1, none⟩ v2).heap.size := by simp [World.setCell]; omega
    have HF : Hid (KeepsOthers W ((w2.setCell ⟨g, m * 2 + 1, none⟩ v2).setCell ⟨C, 0, none⟩ (.int .i64 (k + (pre.length + 1) : Nat))) ∧ KpT (w.heap.size + 1) (w.heap.size + 1 + 1) W ((w2.setCell ⟨g, m * 2 + 1, none⟩ v2).setCell ⟨C, 0, none⟩ (.int .i64 (k + (pre.length + 1) : Nat))) ∧
        InvP bp g C cP m k cs h w (pre ++ [x]) ((w2.setCell ⟨g, m * 2 + 1, none⟩ v2).setCell ⟨C, 0, none⟩ (.int .i64 (k + (pre.length + 1) : Nat)))) := by
      refine Lib.hid ⟨KO3.trans (KeepsOthers.setCell _ _ _), KT3.trans ⟨fun i h1 h2 => Below.heap_setCell _ ⟨C, 0, none⟩ _ i (by show i ≠ C; omega), by simp [World.setCell]⟩, two3.set (q := ⟨C, 0, none⟩) (.inr (.inr rfl)) _, by simpa [World.setCell] using sz3, ⟨v2, ?_, ?_⟩, bpc3.far (by show w.heap.size ≠ C; omega) _, ?_⟩
      · exact hst.kept (grown_set _ _ _) (.inr (by simp only [Value.ownBlock]; intro e; exact hgC (Option.some.inj e)))
      · refine own_to (ownW3.kept (grown_set _ _ _) (.inr (fun e => own_off_blk ownW3 bcnt3 (by decide) e))) (by simp) (by simp [sCells])
      · rw [List.length_append, List.length_singleton]
        exact (bcnt3.put 0 _).same (by simp)
    have e5 : w2.cell? ⟨g, m * 2 + 1, none⟩ = some v := by rw [ownP2.cellAt (m * 2 + 1) (by omega), List.getElem?_append_right (by omega), hcs]; simp
    have e6 : w2.frozen? ⟨g, m * 2 + 1, none⟩ = false := ownP2.frozenAt _
    have hS2 : (W.alloc (.cells #[.string (S x.2)] 9)).drew.cell? ⟨w.heap.size, 0, none⟩ = some (.pointer (some ⟨g, m * 2, none⟩)) := e1
    have hS3 : w2.cell? ⟨w.heap.size, 0, none⟩ = some (.pointer (some ⟨g, m * 2, none⟩)) := bpc2.cell' 0 _ rfl
    obtain ⟨gv, cv, hv2, _, _⟩ := hown3.form (by omega)
    subst hv2
    have hS4 : (w2.setCell ⟨g, m * 2 + 1, none⟩ (.slice (some ⟨gv, 0, none⟩) (pre.length + 1) cv)).cell? ⟨w.heap.size, 0, none⟩ = some (.pointer (some ⟨g, m * 2, none⟩)) := bpc3.cell' 0 _ rfl
    clear hst hgs ownW3 two3 bpc3 bcnt3 KO3 KT3 KO2 KT2 hrow hown3 hgrow bpc2 bcnt2 ownP2 two2 ownP ownW bpc bcnt two hlow
    gi_wp2
    refine wpIn_region_held (fun w' => w'.cell? ⟨w.heap.size, 0, none⟩ = some (.pointer (some ⟨g, m * 2, none⟩))) (by kernel_rfl) (by kernel_rfl) e0 (fun hS => ?_)
    refine wpAnyH_take (i := 0) (v := .pointer (some ⟨g, m * 2, none⟩)) rfl (by kernel_rfl) (by kernel_rfl) (by kernel_rfl) (fun _ _ _ h => h) (Or.inl ⟨by rfl, fun w hS => by go_simp⟩) hS ?_
    simp only [Act.put, List.setIfInBounds_toArray, List.set_cons_zero, List.set_cons_succ]
    refine wpAnyH_take (i := 1) (v := .pointer (some ⟨g, m * 2, none⟩)) rfl (by kernel_rfl) (by kernel_rfl) (by kernel_rfl) (fun _ _ _ h => h) (Or.inl ⟨by rfl, fun w hS => by go_simp⟩) hS ?_
    simp only [Act.put, List.setIfInBounds_toArray, List.set_cons_zero, List.set_cons_succ]
    refine wpAnyH_take (i := 2) (v := .pointer (some ⟨g, m * 2, none⟩)) rfl (by kernel_rfl) (by kernel_rfl) (by kernel_rfl) (fun _ _ _ h => h) (Or.inl ⟨by rfl, fun w hS => by go_simp⟩) hS ?_
    simp only [Act.put, List.setIfInBounds_toArray, List.set_cons_zero, List.set_cons_succ]
    refine wpAnyH_take (i := 3) (v := .pointer (some ⟨g, m * 2 + 1, none⟩)) rfl (by kernel_rfl) (by kernel_rfl) (by kernel_rfl) (fun _ _ _ h => h) (Or.inl ⟨by rfl, fun w hS => by go_simp⟩) hS ?_
    simp only [Act.put, List.setIfInBounds_toArray, List.set_cons_zero, List.set_cons_succ]
    refine wpAnyH_take (i := 5) (v := .string (S x.2)) rfl (by kernel_rfl) (by kernel_rfl) (by kernel_rfl) (fun _ _ _ h => h) (Or.inl ⟨by rfl, fun w hS => by go_simp⟩) hS ?_
    simp only [Act.put, List.setIfInBounds_toArray, List.set_cons_zero, List.set_cons_succ]
    refine wpAnyH_ready (rs := [4, 6]) (by kernel_rfl) (by simp) ?_
    refine AllReadyH.cons rfl (fun K hK => ?_) (AllReadyH.cons rfl (fun K hK => ?_) AllReadyH.nil)
    · go_simp
      refine hK.out _ _ hS (fun _ => ?_)
      clear hK K
      refine wpAnyH_ready (rs := [6]) (by kernel_rfl) (by simp) ?_
      refine AllReadyH.cons rfl (fun K hK => ?_) AllReadyH.nil
      go_simp
      refine hK.out _ _ hS2 (fun _ => ?_)
      clear hK K
      refine wpAnyH_ready (rs := [7]) (by kernel_rfl) (by simp) ?_
      refine AllReadyH.cons rfl (fun K hK => ?_) AllReadyH.nil
      rw [if_pos (by rfl)]
      refine wp_run_append (.tmp 22) (.tmp 24) 37 rfl rfl rfl hrun ?_
      simp only [Act.put, List.setIfInBounds_toArray, List.set_cons_zero, List.set_cons_succ]
      refine hK.out _ _ hS3 (fun _ => ?_)
      clear hK K
      refine wpAnyH_take (i := 8) (v := .pointer (some ⟨g, m * 2, none⟩)) rfl (by kernel_rfl) (by kernel_rfl) (by kernel_rfl) (fun _ _ _ h => h) (Or.inl ⟨by rfl, fun w hS => by go_simp⟩) hS3 ?_
      simp only [Act.put, List.setIfInBounds_toArray, List.set_cons_zero, List.set_cons_succ]
      refine wpAnyH_take (i := 9) (v := .pointer (some ⟨g, m * 2 + 1, none⟩)) rfl (by kernel_rfl) (by kernel_rfl) (by kernel_rfl) (fun _ _ _ h => h) (Or.inl ⟨by rfl, fun w hS => by go_simp⟩) hS3 ?_
      simp only [Act.put, List.setIfInBounds_toArray, List.set_cons_zero, List.set_cons_succ]
      refine wpAnyH_ready (rs := [10]) (by kernel_rfl) (by simp) ?_
      refine AllReadyH.cons rfl (fun K hK => ?_) AllReadyH.nil
      go_simp
      refine hK.out _ _ hS4 (fun _ => ?_)
      clear hK K
      refine wpAnyH_done (by kernel_rfl) ?_ _
      rw [noOut_normal]
      gi_wp2
      exact HF.out
    · go_simp
      refine hK.out _ _ hS2 (fun _ => ?_)
      clear hK K
      refine wpAnyH_ready (rs := [4]) (by kernel_rfl) (by simp) ?_
      refine AllReadyH.cons rfl (fun K hK => ?_) AllReadyH.nil
      go_simp
      refine hK.out _ _ hS2 (fun _ => ?_)
      clear hK K
      refine wpAnyH_ready (rs := [7]) (by kernel_rfl) (by simp) ?_
      refine AllReadyH.cons rfl (fun K hK => ?_) AllReadyH.nil
      rw [if_pos (by rfl)]
      refine wp_run_append (.tmp 22) (.tmp 24) 37 rfl rfl rfl hrun ?_
      simp only [Act.put, List.setIfInBounds_toArray, List.set_cons_zero, List.set_cons_succ]
      refine hK.out _ _ hS3 (fun _ => ?_)
      clear hK K
      refine wpAnyH_take (i := 8) (v := .pointer (some ⟨g, m * 2, none⟩)) rfl (by kernel_rfl) (by kernel_rfl) (by kernel_rfl) (fun _ _ _ h => h) (Or.inl ⟨by rfl, fun w hS => by go_simp⟩) hS3 ?_
      simp only [Act.put, List.setIfInBounds_toArray, List.set_cons_zero, List.set_cons_succ]
      refine wpAnyH_take (i := 9) (v := .pointer (some ⟨g, m * 2 + 1, none⟩)) rfl (by kernel_rfl) (by kernel_rfl) (by kernel_rfl) (fun _ _ _ h => h) (Or.inl ⟨by rfl, fun w hS => by go_simp⟩) hS3 ?_
      simp only [Act.put, List.setIfInBounds_toArray, List.set_cons_zero, List.set_cons_succ]
      refine wpAnyH_ready (rs := [10]) (by kernel_rfl) (by simp) ?_
      refine AllReadyH.cons rfl (fun K hK => ?_) AllReadyH.nil
      go_simp
      refine hK.out _ _ hS4 (fun _ => ?_)
      clear hK K
      refine wpAnyH_done (by kernel_rfl) ?_ _
      rw [noOut_normal]
      gi_wp2
      exact HF.out
  case hdone =>
    intro D W hD hI hk
    obtain ⟨two, hsz, ⟨v, ownP, ownW⟩, bpc, bcnt⟩ := hI
    gi_wp2
    refine ⟨by simp, .inl ⟨_, _, rfl, run_takeDeferred hk, ?_⟩⟩
    exact ⟨.tuple #[], by simp [results, Tryz.results36, go_sem], rfl, v, own_putObj ownP hk, own_putObj ownW hk, blk_putObj bcnt hk, two.putObj _ (by omega)⟩
end Go.Proofs.YtpoelhnceebmkaaGreatDoor

namespace Go.Proofs.YtpoelhnceebmkaaGreatDoor
open Go Go.RowKit Go.Shelf
set_option linter.unusedSimpArgs false
set_option linter.unusedVariables false

abbrev PR := Option (List Pt) × Nat × Int
def wordsL (l : List UInt8) : List ByteArray := (spansV (S l)).map fun x => S x.2
def totW : List Pt → Nat
  | [] => 0
  | p :: r => p.2.length + totW r
theorem totW_app : ∀ (a b : List Pt), totW (a ++ b) = totW a + totW b
  | [], b => by simp [totW]
  | p :: a, b => by simp [totW, totW_app a b]; omega
def finV (ps : List Pt) (last : Nat) (ws : List ByteArray) : PR :=
  if 1 < ps.length ∧ ws = [] then (none, last, 5) else if totW ps = 0 then (none, 0, 1) else if 256 < totW ps then (none, 0, 10) else (some ps, 0, 0)
def brk (l : List UInt8) : Int := Lib.indexAny l [123, 125]
def goV : Nat → List UInt8 → Nat → Nat → List Pt → Int → PR
  | 0, _, _, _, _, _ => (none, 0, 0)
  | f + 1, l, at_, last, ps, h =>
    if brk l < 0 then finV (ps ++ [(h, wordsL l)]) last (wordsL l)
    else if (holeV (l.drop (brk l).toNat)).2 = 0 then (none, at_ + (brk l).toNat, 4)
    else if wordsL (l.take (brk l).toNat) = [] then (none, at_ + (brk l).toNat, 5)
    else goV f (l.drop ((brk l).toNat + (holeV (l.drop (brk l).toNat)).2)) (at_ + (brk l).toNat + (holeV (l.drop (brk l).toNat)).2) (at_ + (brk l).toNat) (ps ++ [(h, wordsL (l.take (brk l).toNat))]) ((holeV (l.drop (brk l).toNat)).1 : Nat)
def parseV (s : ByteArray) : PR := if 4096 < s.size then (none, 0, 10) else goV (s.size + 1) s.data.toList 0 0 [] 0

theorem hole1_le (a : UInt8) : (hole1 a).2 ≤ 3 := by unfold hole1; split <;> simp
theorem hole2_le (a b : UInt8) : (hole2 a b).2 ≤ 4 := by unfold hole2; split <;> simp
theorem holeV_len (l : List UInt8) : (holeV l).2 ≤ l.length := by
  unfold holeV
  split
  · rename_i h
    obtain ⟨x, a, r, rfl⟩ := idx_two h.1
    have := hole1_le ((x :: a :: 125 :: r).getD 1 0)
    simp only [List.length_cons]; omega
  · split
    · rename_i h
      obtain ⟨x, a, b, r, rfl⟩ := idx_three h.1
      have := hole2_le ((x :: a :: b :: 125 :: r).getD 1 0) ((x :: a :: b :: 125 :: r).getD 2 0)
      simp only [List.length_cons]; omega
    · simp
theorem hole1_val (a : UInt8) : (hole1 a).1 ≤ 99 := by
  unfold hole1
  split
  · rename_i h
    simp only [Bool.and_eq_true] at h
    obtain ⟨k, rfl⟩ := dg_val h.1
    have := k.2
    simp [UInt8.toNat_ofNat]; omega
  · simp
theorem hole2_val (a b : UInt8) : (hole2 a b).1 ≤ 99 := by
  unfold hole2
  split
  · rename_i h
    simp only [Bool.and_eq_true] at h
    obtain ⟨k, rfl⟩ := dg_val h.1.1
    obtain ⟨j, rfl⟩ := dg_val h.2
    have := k.2
    have := j.2
    simp [UInt8.toNat_ofNat]; omega
  · simp
theorem holeV_val (l : List UInt8) : (holeV l).1 ≤ 99 := by
  unfold holeV
  split
  · exact hole1_val _
  · split
    · exact hole2_val _ _
    · simp
theorem brk_lt : ∀ {l : List UInt8}, ¬ brk l < 0 → (brk l).toNat < l.length := by
  intro l h
  unfold brk at h ⊢
  induction l with
  | nil => simp [Lib.indexAny] at h
  | cons b l ih =>
    rw [Lib.indexAny] at h ⊢
    split at h
    · rename_i h1; rw [if_pos h1]; simp
    · rename_i h1
      rw [if_neg h1]
      split at h
      · omega
      · rename_i h2
        rw [if_neg h2]
        have h3 := Lib.indexAny_ge [123, 125] l
        simp at h2
        have := ih (by omega)
        simp only [List.length_cons]
        omega
end Go.Proofs.YtpoelhnceebmkaaGreatDoor

namespace Go.Proofs.YtpoelhnceebmkaaGreatDoor
open Go Go.RowKit Go.Shelf
set_option linter.unusedSimpArgs false
set_option linter.unusedVariables false

theorem goV_at {f : Nat} {l : List UInt8} {a last : Nat} {ps : List Pt} {h : Int} (hf : 0 < f) : goV f l a last ps h =
    if brk l < 0 then finV (ps ++ [(h, wordsL l)]) last (wordsL l)
    else if (holeV (l.drop (brk l).toNat)).2 = 0 then (none, a + (brk l).toNat, 4)
    else if wordsL (l.take (brk l).toNat) = [] then (none, a + (brk l).toNat, 5)
    else goV (f - 1) (l.drop ((brk l).toNat + (holeV (l.drop (brk l).toNat)).2)) (a + (brk l).toNat + (holeV (l.drop (brk l).toNat)).2) (a + (brk l).toNat) (ps ++ [(h, wordsL (l.take (brk l).toNat))]) ((holeV (l.drop (brk l).toNat)).1 : Nat) := by
  cases f with
  | zero => omega
  | succ f => rw [goV, Nat.add_sub_cancel]
abbrev QV := Pt × Value
def qCells (qs : List QV) : List Value := qs.flatMap fun q => [.int .i64 q.1.1, q.2]
theorem qCells_app (a b : List QV) : qCells (a ++ b) = qCells a ++ qCells b := by simp [qCells]
theorem qCells_len (l : List QV) : (qCells l).length = l.length * 2 := by
  induction l with
  | nil => rfl
  | cons x l ih => simp [qCells] at ih ⊢; omega
theorem qCells_pt : ∀ (qs : List QV), qCells qs = pCells (qs.map (·.1)) (qs.map (·.2))
  | [] => rfl
  | q :: qs => by
    have := qCells_pt qs
    simp only [qCells, List.flatMap_cons, List.map_cons, pCells, List.cons_append, List.nil_append] at this ⊢
    rw [this]
def pts (qs : List QV) : List Pt := qs.map (·.1)

/-- The parts so far are qs; the last one has the hole h, the words ws. -/
structure InvG (nm : ByteArray) (w : World) (m g cP : Nat) (qs : List QV) (h : Int) (ws : List ByteArray) (u : Value) (wr : World) : Prop where
  new : New w wr
  len : qs.length = m
  res : Blk wr w.heap.size 25 #[.string ⟨#[]⟩, .slice none 0 0]
  tpl : Blk wr (w.heap.size + 2) 25 #[.string nm, .slice (some ⟨g, 0, none⟩) (m + 1) cP]
  row : wr.ownsRow w.heap.size 58 2 (.slice (some ⟨g, 0, none⟩) (m + 1) cP) (m + 1) (qCells qs ++ [.int .i64 h, u])
  own : ∀ q ∈ qs, wr.ownsRow w.heap.size 9 1 q.2 q.1.2.length (sCells q.1.2)
  last : wr.ownsRow w.heap.size 9 1 u ws.length (sCells ws)
  cnt : Blk wr (w.heap.size + 3) 3 #[.int .i64 (totW (pts qs) + ws.length : Nat)]
theorem InvG.turn {nm : ByteArray} {w : World} {m g cP : Nat} {qs : List QV} {h : Int} {ws : List ByteArray} {u : Value} {wr W : World} (I : InvG nm w m g cP qs h ws u wr) (hn : New wr W) : InvG nm w m g cP qs h ws u W :=
  ⟨I.new.trans hn, I.len, I.res.new hn, I.tpl.new hn, own_new I.row hn, fun q hq => own_new (I.own q hq) hn, own_new I.last hn, I.cnt.new hn⟩
theorem InvG.put {nm : ByteArray} {w : World} {m g cP : Nat} {qs : List QV} {h : Int} {ws : List ByteArray} {v : Value} {wr W : World} (I : InvG nm w m g cP qs h [] (.slice none 0 0) wr)
    (h1 : W.ownsRow w.heap.size 58 2 (.slice (some ⟨g, 0, none⟩) (m + 1) cP) (m + 1) (qCells qs ++ [.int .i64 h, v])) (h2 : W.ownsRow (wr.heap.size + 2) 9 1 v ws.length (sCells ws)) (h3 : Blk W (w.heap.size + 3) 3 #[.int .i64 (totW (pts qs) + ws.length : Nat)])
    (h4 : Two g (w.heap.size + 3) wr W) : InvG nm w m g cP qs h ws v W := by
  have hg : w.heap.size ≤ g ∧ g < wr.heap.size := I.row.lt g rfl
  have hz := I.new.size
  have e1 : w.heap.size ≠ g := fun e => own_off_blk I.row I.res (by decide) (by rw [e]; rfl)
  have e2 : w.heap.size + 2 ≠ g := fun e => own_off_blk I.row I.tpl (by decide) (by rw [e]; rfl)
  exact ⟨⟨h4.os.trans I.new.os, h4.tape.trans I.new.tape, h4.output.trans I.new.output, Nat.le_trans hz h4.size, fun k hk => (h4.block k (by omega) (by omega) (by omega)).trans (I.new.block k hk)⟩, I.len,
    I.res.two h4 e1 (by omega), I.tpl.two h4 e2 (by omega), h1, fun q hq => own_two (I.own q hq) h4 (own_off (I.own q hq) I.row (by decide) rfl) (own_off_blk (I.own q hq) I.cnt (by decide)), own_down h2 (by omega), h3⟩
theorem Tryz.info58 : (Tryz.prog.info? 58).map (fun i => (i.zero, i.size, i.bytes)) = some (some (.agg #[.int .i64 0, .slice none 0 0]), 2, 32) := by kernel_rfl
/-- The template that is handed back. -/
theorem InvG.done {nm : ByteArray} {w : World} {m g cP : Nat} {qs : List QV} {h : Int} {ws : List ByteArray} {u : Value} {wr W : World} (I : InvG nm w m g cP qs h ws u wr) (hn : Below w.heap.size wr W) (hk : ∀ k, k ≠ w.heap.size → k < wr.heap.size → W.heap[k]? = wr.heap[k]?) (hz : wr.heap.size ≤ W.heap.size) :
    TRd W (.agg #[.string nm, .slice (some ⟨g, 0, none⟩) (m + 1) cP]) nm (pts qs ++ [(h, ws)]) := by
  have hgr : wr.grownBy W (some w.heap.size) := ⟨hn.os, hn.tape, hn.output, hz, fun k h1 h2 => hk k (fun e => h2 (by rw [e])) h1⟩
  have row := I.row.kept hgr (.inr (fun e => own_off_blk I.row I.res (by decide) e))
  have last := I.last.kept hgr (.inr (fun e => own_off_blk I.last I.res (by decide) e))
  have own : ∀ q ∈ qs, W.ownsRow w.heap.size 9 1 q.2 q.1.2.length (sCells q.1.2) := fun q hq => (I.own q hq).kept hgr (.inr (fun e => own_off_blk (I.own q hq) I.res (by decide) e))
  have wrd : ∀ {v : Value} {ws : List ByteArray}, W.ownsRow w.heap.size 9 1 v ws.length (sCells ws) → WRd W v ws := fun h => by
    obtain ⟨A, c, rfl, h1, h2, h3⟩ := own_form h
    exact ⟨A, c, rfl, h1, h2, h3⟩
  have hl : (pts qs ++ [(h, ws)]).length = m + 1 := by simp [pts, I.len]
  obtain ⟨A, c, e, h1, h2, h3⟩ := own_form row
  injection e with e1 e2 e3
  subst e1 e3
  refine ⟨some ⟨g, 0, none⟩, cP, by rw [hl], by rw [hl]; exact h1, h2, rfl, (qs ++ [((h, ws), u)]).map (·.2), by simp [pts], ?_, ?_⟩
  · have e : pts qs ++ [(h, ws)] = (qs ++ [((h, ws), u)]).map (·.1) := by simp [pts]
    rw [hl, e, ← qCells_pt, qCells_app]
    exact h3
  · intro i h4 h5
    have hi : i < (qs ++ [((h, ws), u)]).length := by simpa using h5
    have e : (pts qs ++ [(h, ws)])[i] = ((qs ++ [((h, ws), u)])[i]).1 := by
      have : pts qs ++ [(h, ws)] = (qs ++ [((h, ws), u)]).map (·.1) := by simp [pts]
      simp only [this, List.getElem_map]
    rw [List.getElem_map, e]
    have hm : (qs ++ [((h, ws), u)])[i] ∈ qs ++ [((h, ws), u)] := List.getElem_mem _
    rcases List.mem_append.1 hm with h6 | h6
    · exact wrd (own _ h6)
    · rw [List.mem_singleton.1 h6]; exact wrd last
end Go.Proofs.YtpoelhnceebmkaaGreatDoor

