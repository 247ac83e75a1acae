/- Plain laws for normalize: bytes, words of a line, lines, notes, paths. No Go here. No conditions. -/
import Derived.Test.YtlecocmopeainaaDoorBase
import Derived.Shelf.GgClosure.StringsIndexFunc
namespace Go.Proofs.YtlecocmopeainaaDoor
open Go.RowKit

/-! ### bytes -/
def blankB (n : Int) : Bool := decide (n ≤ 32) || n == 127
def digitB (n : Int) : Bool := decide (48 ≤ n) && decide (n ≤ 57)
def partB (n : Int) : Bool := (decide (97 ≤ n) && decide (n ≤ 122)) || (decide (65 ≤ n) && decide (n ≤ 90)) || digitB n || n == 95
def blank (c : UInt8) : Bool := blankB c.toNat
def digit (c : UInt8) : Bool := digitB c.toNat
def part (c : UInt8) : Bool := partB c.toNat

theorem part_not_blank {n : Int} (h : partB n = true) : blankB n = false := by
  simp only [partB, digitB, Bool.or_eq_true, Bool.and_eq_true, decide_eq_true_eq, beq_iff_eq] at h
  simp only [blankB, Bool.or_eq_false_iff, decide_eq_false_iff_not, beq_eq_false_iff_ne]
  omega

/-! ### the words of a line -/
def splitF : Nat → List UInt8 → List (List UInt8)
  | 0, _ => []
  | _ + 1, [] => []
  | n + 1, c :: r => if blank c then splitF n r else if part c then (c :: r.takeWhile part) :: splitF n (r.dropWhile part) else [c] :: splitF n r
def split (l : List UInt8) : List (List UInt8) := splitF l.length l

theorem dropWhile_len {p : UInt8 → Bool} (l : List UInt8) : (l.dropWhile p).length ≤ l.length := by
  have := congrArg List.length (List.takeWhile_append_dropWhile (p := p) (l := l))
  rw [List.length_append] at this
  omega

theorem splitF_more : ∀ (n m : Nat) (l : List UInt8), l.length ≤ n → l.length ≤ m → splitF n l = splitF m l
  | 0, m, l, h, _ => by
    have : l = [] := List.eq_nil_of_length_eq_zero (by omega)
    subst this
    cases m <;> rfl
  | n + 1, 0, l, _, h => by
    have : l = [] := List.eq_nil_of_length_eq_zero (by omega)
    subst this
    rfl
  | n + 1, m + 1, [], _, _ => rfl
  | n + 1, m + 1, c :: r, h, h' => by
    simp only [List.length_cons] at h h'
    have hd := dropWhile_len (p := part) r
    simp only [splitF]
    rw [splitF_more n m r (by omega) (by omega), splitF_more n m (r.dropWhile part) (by omega) (by omega)]

theorem split_nil : split [] = [] := rfl
theorem split_cons (c : UInt8) (r : List UInt8) :
    split (c :: r) = if blank c then split r else if part c then (c :: r.takeWhile part) :: split (r.dropWhile part) else [c] :: split r := by
  have hd := dropWhile_len (p := part) r
  simp only [split, List.length_cons, splitF]
  rw [splitF_more r.length (r.dropWhile part).length (r.dropWhile part) (by omega) (Nat.le_refl _)]

/-- The words as strings. -/
def wds (s : ByteArray) : List ByteArray := (split s.data.toList).map S

theorem data_cons {s : ByteArray} (h : 0 < s.size) : s.data.toList = s[0] :: s.data.toList.drop 1 := by
  rw [get_eq s 0 h]
  have hl : 0 < s.data.toList.length := by rw [← size_eq]; exact h
  have := List.drop_eq_getElem_cons (l := s.data.toList) (i := 0) hl
  simpa using this

theorem ext_from (s : ByteArray) (k : Nat) : s.extract k s.size = S (s.data.toList.drop k) := by
  rw [extract_S, List.take_of_length_le (by rw [List.length_drop, size_eq]; exact Nat.le_refl _)]
theorem ext_to (s : ByteArray) (k : Nat) : s.extract 0 k = S (s.data.toList.take k) := by
  rw [extract_S]; simp

theorem wds_nil {s : ByteArray} (h : s.size = 0) : wds s = [] := by
  have : s.data.toList = [] := List.eq_nil_of_length_eq_zero (by rw [← size_eq]; exact h)
  rw [wds, this]; rfl
theorem wds_blank {s : ByteArray} (h : 0 < s.size) (hb : blankB s[0].toNat = true) : wds s = wds (s.extract 1 s.size) := by
  rw [ext_from, wds, wds, data_S, data_cons h, split_cons, if_pos (by exact hb)]; rfl
theorem wds_one {s : ByteArray} (h : 0 < s.size) (hb : blankB s[0].toNat = false) (hp : partB s[0].toNat = false) : wds s = s.extract 0 1 :: wds (s.extract 1 s.size) := by
  have e1 : s.data.toList.take 1 = [s[0]] := by rw [data_cons h]; rfl
  rw [ext_from, ext_to, e1, wds, wds, data_S, data_cons h, split_cons, if_neg (by simp [blank, hb]), if_neg (by simp [part, hp])]; rfl
/-- How many of the first bytes are parts of a word. -/
def run (s : ByteArray) : Nat := (s.data.toList.takeWhile part).length
theorem run_le (s : ByteArray) : run s ≤ s.size := by
  rw [run, size_eq]; exact List.Sublist.length_le (List.takeWhile_sublist _)
theorem takeWhile_split {p : UInt8 → Bool} : ∀ l : List UInt8, l.takeWhile p = l.take (l.takeWhile p).length ∧ l.dropWhile p = l.drop (l.takeWhile p).length
  | [] => ⟨rfl, rfl⟩
  | c :: r => by
    have ih := takeWhile_split (p := p) r
    by_cases h : p c
    · rw [List.takeWhile_cons_of_pos h, List.dropWhile_cons_of_pos h, List.length_cons, List.take_succ_cons, List.drop_succ_cons, ← ih.1, ← ih.2]
      exact ⟨rfl, rfl⟩
    · rw [List.takeWhile_cons_of_neg h, List.dropWhile_cons_of_neg h]
      exact ⟨rfl, rfl⟩
theorem wds_run {s : ByteArray} (h : 0 < s.size) (hp : partB s[0].toNat = true) : 0 < run s ∧ wds s = s.extract 0 (run s) :: wds (s.extract (run s) s.size) := by
  have hb := part_not_blank hp
  have hpc : part s[0] = true := hp
  have hd := data_cons h
  have hs := takeWhile_split (p := part) (s.data.toList.drop 1)
  have er : run s = ((s.data.toList.drop 1).takeWhile part).length + 1 := by
    conv => lhs; rw [run, hd, List.takeWhile_cons_of_pos hpc, List.length_cons]
  refine ⟨by omega, ?_⟩
  rw [ext_from, ext_to, wds, wds, data_S]
  conv => lhs; rw [hd, split_cons, if_neg (by simp [blank, hb]), if_pos hpc, List.map_cons]
  have e1 : s.data.toList.take (run s) = s[0] :: (s.data.toList.drop 1).takeWhile part := by
    conv => lhs; rw [hd, er, List.take_succ_cons, ← hs.1]
  have e2 : s.data.toList.drop (run s) = (s.data.toList.drop 1).dropWhile part := by
    rw [hs.2, List.drop_drop, er, Nat.add_comm]
  rw [e1, e2]

/-! ### strings.IndexFunc at a predicate that holds of all that is not ASCII -/
theorem decode_big (s : ByteArray) (pos : Nat) (h : pos < s.size) (ha : 128 ≤ (s[pos]'h).toNat) : 128 ≤ (Utf8.decode s pos).1 := by
  have e : s.get! (pos + 0) = s[pos]'h := by
    show s.get! pos = _
    simp [ByteArray.get!, getElem!_pos, h]
    rfl
  have hn : ¬ (s[pos]'h).toNat < 128 := by omega
  simp only [Utf8.decode, e, hn, if_false, Utf8.runeError]
  repeat' split
  all_goals first | omega | (simp_all; omega)

theorem idxFrom_bytes (p : Nat → Bool) (hp : ∀ r, 128 ≤ r → p r = true) (s : ByteArray) : ∀ (f pos : Nat), pos ≤ s.size → s.size ≤ pos + f →
    Lib.idxFuncFrom p true s f pos = (if pos + ((s.data.toList.drop pos).takeWhile fun c => !p c.toNat).length < s.size then ((pos + ((s.data.toList.drop pos).takeWhile fun c => !p c.toNat).length : Nat) : Int) else -1)
  | 0, pos, h, h' => by
    rw [Lib.idxFuncFrom, if_neg (by omega)]
  | f + 1, pos, h, h' => by
    unfold Lib.idxFuncFrom
    by_cases hlt : pos < s.size
    · have hl : pos < s.data.toList.length := by rw [← size_eq]; exact hlt
      rw [if_pos hlt, List.drop_eq_getElem_cons hl, ← get_eq s pos hlt]
      by_cases ha : (s[pos]'hlt).toNat < 128
      · rw [decode_ascii s pos hlt ha]
        by_cases hq : p (s[pos]'hlt).toNat = true
        · rw [if_pos hq, List.takeWhile_cons_of_neg (by simp [hq])]
          simp [hlt]
        · rw [if_neg hq, List.takeWhile_cons_of_pos (by simpa using hq), idxFrom_bytes p hp s f (pos + 1) (by omega) (by omega), List.length_cons]
          rw [show pos + (((s.data.toList.drop (pos + 1)).takeWhile fun c => !p c.toNat).length + 1) = pos + 1 + ((s.data.toList.drop (pos + 1)).takeWhile fun c => !p c.toNat).length from by omega]
      · have hq : p (s[pos]'hlt).toNat = true := hp _ (by omega)
        rw [if_pos (hp _ (decode_big s pos hlt (by omega))), List.takeWhile_cons_of_neg (by simp [hq])]
        simp [hlt]
    · rw [if_neg hlt, if_neg (by omega)]
theorem idx_bytes (p : Nat → Bool) (hp : ∀ r, 128 ≤ r → p r = true) (s : ByteArray) :
    Lib.idxFunc p true s = (if (s.data.toList.takeWhile fun c => !p c.toNat).length < s.size then (((s.data.toList.takeWhile fun c => !p c.toNat).length : Nat) : Int) else -1) := by
  rw [Lib.idxFunc, idxFrom_bytes p hp s s.size 0 (Nat.zero_le _) (by omega)]
  simp only [List.drop_zero, Nat.zero_add]

end Go.Proofs.YtlecocmopeainaaDoor
