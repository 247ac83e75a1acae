/- The library's variables (Env), strings and lists of strings, tree.Lines and tree.Join. Conditions: sizes. Patches as data: what they read as; valid patches and their texts. No conditions. The program's counts of lines (sizes) and the reference's (Counts). Conditions: the hunks are in form. The reference's counts of lines (Counts). Conditions: the hunks are in form. -/
import Derived.Test.YtfeknjpinboknaaGreatDoorGBase
import Derived.Test.YtfeknjpinboknaaGreatDoorGSh
import Derived.Deep.RegionWith
import Derived.Deep.QuietTactic
import Derived.BigQuiet
import Derived.Lib.SmallJoins
import Derived.Lib.SplitLaws
import Derived.Lib.Split
import Derived.Lib.Hide
import Derived.Lib.ItoaNum
import Derived.IntWalk
import Derived.StillTailTactics

namespace Go.Proofs.YtfeknjpinboknaaGreatDoor
open Go Go.RowKit Go.Joins
set_option linter.unusedSimpArgs false
set_option linter.unusedVariables false

theorem ret_b {a b : Bool} (h : a = b) : Ending.returned (.bool a) = .returned (.bool b) := by rw [h]
theorem ret_i {k : IntKind} {a b : Int} (h : a = b) : Ending.returned (.int k a) = .returned (.int k b) := by rw [h]
theorem ret_s {a b : ByteArray} (h : a = b) : Ending.returned (.string a) = .returned (.string b) := by rw [h]
theorem data_cons {s : ByteArray} (h : 0 < s.size) : s.data.toList = s[0] :: s.data.toList.drop 1 := by
  rw [get_eq s 0 h]
  have hl : 0 < s.data.toList.length := by rw [← size_eq]; exact h
  have := List.drop_eq_getElem_cons (l := s.data.toList) (i := 0) hl
  simpa using this
theorem ext_from (s : ByteArray) (k : Nat) : s.extract k s.size = S (s.data.toList.drop k) := by
  rw [extract_S, List.take_of_length_le (by rw [List.length_drop, size_eq]; exact Nat.le_refl _)]
theorem ext_to (s : ByteArray) (k : Nat) : s.extract 0 k = S (s.data.toList.take k) := by
  rw [extract_S]; simp
theorem S_append (a b : List UInt8) : S (a ++ b) = S a ++ S b := by
  apply ByteArray.ext
  simp [S]
theorem str_eq (a b : ByteArray) : (a.toList == b.toList) = decide (a = b) := by
  rw [Bool.eq_iff_iff, beq_iff_eq, decide_eq_true_iff, toList_eq, toList_eq]
  exact ⟨bytes_ext, fun h => by rw [h]⟩

structure Env (w : World) : Prop where
  maxlen : ∃ m, w.cell? ⟨0, 0, none⟩ = some (.int .i64 m)
  esyn : ∃ te pe, w.cell? ⟨1, 0, none⟩ = some (.iface te pe)
  erange : ∃ te pe, w.cell? ⟨2, 0, none⟩ = some (.iface te pe)
  pow10 : Lib.TabIs Tryz.prog w "internal/strconv.uint64pow10" .u64 Lib.pow10Tab
theorem cell_lt {w : World} {b o : Nat} {v : Value} (h : w.cell? ⟨b, o, none⟩ = some v) : b < w.heap.size := World.block_lt_of_cell? w ⟨b, o, none⟩ h
theorem cell_new {w w' : World} (hn : New w w') {b o : Nat} {v : Value} (h : w.cell? ⟨b, o, none⟩ = some v) : w'.cell? ⟨b, o, none⟩ = some v := (hn.cell (p := ⟨b, o, none⟩) (cell_lt h)).trans h
theorem gPow10 : Tryz.prog.globalNamed "internal/strconv.uint64pow10" = some 3 := by kernel_rfl
theorem Env.new {w w' : World} (h : Env w) (hn : New w w') : Env w' := by
  obtain ⟨⟨m, hm⟩, ⟨te, pe, hs⟩, ⟨te2, pe2, hr⟩, hp⟩ := h
  have h5 : 3 < w.heap.size := cell_lt (hp.cell gPow10 0 (by decide))
  exact ⟨⟨m, cell_new hn hm⟩, ⟨te, pe, cell_new hn hs⟩, ⟨te2, pe2, cell_new hn hr⟩, var?_below hn gPow10 h5 hp⟩
theorem new_bytes (w : World) (e : TypeId) (s : ByteArray) : New w (Lib.bytesWorld w e s) := below_bytesWorld _ _ _ _ (Nat.le_refl _)
theorem new_grow (w : World) (k : Nat) (os : Array Obj) : New w («Sort».grow (w.drewN k) os) :=
  ⟨rfl, rfl, rfl, by show w.heap.size ≤ (w.heap ++ os).size; rw [Array.size_append]; omega, fun _ hj => «Sort».heap_grow_old (w.drewN k) os hj⟩
theorem itoa_any (n : Int) (w : World) (h0 : -9223372036854775808 ≤ n) (h1 : n ≤ 9223372036854775807) (hE : Env w) :
    Calls Tryz.prog 87 #[.int .i64 n] w fun e w' => e = .returned (.string (S (Lib.itoa n))) ∧ New w w' :=
  (Tryz.strconv_Itoa n h0 h1 w hE.pow10).mono fun _ _ ⟨he, k, os, hw⟩ => ⟨he, hw ▸ new_grow w k os⟩

/-! ### the parts between the places of a byte -/
def cut (c : UInt8) : List UInt8 → List (List UInt8)
  | [] => [[]]
  | b :: r => if b = c then [] :: cut c r else match cut c r with
    | [] => [[b]]
    | h :: t => (b :: h) :: t
theorem cut_ne (c : UInt8) (l : List UInt8) : cut c l ≠ [] := by
  cases l with
  | nil => simp [cut]
  | cons b r =>
    unfold cut
    split
    · simp
    · split <;> simp
theorem cut_length (c : UInt8) : ∀ l : List UInt8, (cut c l).length = l.count c + 1
  | [] => rfl
  | b :: r => by
    have ih := cut_length c r
    unfold cut
    by_cases h : b = c
    · subst h; rw [if_pos rfl, List.length_cons, ih, List.count_cons_self]
    · rw [if_neg h, List.count_cons_of_ne h]
      cases e : cut c r with
      | nil => exact absurd e (cut_ne c r)
      | cons x t => rw [e] at ih; simpa using ih
theorem cut_none (c : UInt8) : ∀ l : List UInt8, Lib.indexByte l c = -1 → cut c l = [l]
  | [], _ => rfl
  | b :: r, h => by
    have hg := Lib.indexByte_ge r c
    unfold Lib.indexByte at h
    by_cases hb : b = c
    · subst hb; simp at h
    · rw [if_neg (by simpa using hb)] at h
      by_cases hr : Lib.indexByte r c = -1
      · unfold cut
        rw [if_neg hb, cut_none c r hr]
      · rw [if_neg (by simpa using hr)] at h
        omega
theorem cut_some (c : UInt8) : ∀ (l : List UInt8) (i : Nat), Lib.indexByte l c = i → cut c l = l.take i :: cut c (l.drop (i + 1))
  | [], i, h => by simp [Lib.indexByte] at h
  | b :: r, i, h => by
    have hg := Lib.indexByte_ge r c
    unfold Lib.indexByte at h
    by_cases hb : b = c
    · subst hb
      rw [if_pos (by simp)] at h
      obtain rfl : i = 0 := by omega
      simp [cut]
    · rw [if_neg (by simpa using hb)] at h
      by_cases hr : Lib.indexByte r c = -1
      · rw [if_pos (by simpa using hr)] at h; omega
      · rw [if_neg (by simpa using hr)] at h
        obtain ⟨j, rfl⟩ : ∃ j, i = j + 1 := ⟨i - 1, by omega⟩
        conv => lhs; unfold cut
        rw [if_neg hb, cut_some c r j (by omega)]
        simp
def parts (c : UInt8) (s : ByteArray) : List ByteArray := (cut c s.data.toList).map S
theorem parts_length (c : UInt8) (s : ByteArray) : (parts c s).length = s.data.toList.count c + 1 := by rw [parts, List.length_map, cut_length]
theorem splitB_cut (c : UInt8) : ∀ (k : Nat) (s : ByteArray), Lib.countB s ⟨#[c]⟩ = k → Lib.splitB ⟨#[c]⟩ 0 k s = parts c s := by
  intro k
  induction k with
  | zero =>
    intro s h
    have hi : Lib.indexByte s.data.toList c = -1 := by
      rcases Lib.indexB_cases s ⟨#[c]⟩ with hm | ⟨i, hi, _⟩
      · rw [← Lib.index_one]; exact hm
      · have := Lib.countB_hit s ⟨#[c]⟩ i (by simp [ByteArray.size]) hi
        omega
    rw [Lib.splitB_zero, parts, cut_none c _ hi]
    simp [S_data]
  | succ k ih =>
    intro s h
    rcases Lib.indexB_cases s ⟨#[c]⟩ with hm | ⟨i, hi, _⟩
    · have := Lib.countB_miss s ⟨#[c]⟩ hm; omega
    · have hc := Lib.countB_hit s ⟨#[c]⟩ i (by simp [ByteArray.size]) hi
      have hib : Lib.indexByte s.data.toList c = i := by rw [← Lib.index_one]; exact hi
      have e1 : (⟨#[c]⟩ : ByteArray).size = 1 := rfl
      rw [e1] at hc
      rw [Lib.splitB_hit _ _ _ _ _ hi, e1, ih _ (by omega), parts, parts, cut_some c _ i hib, List.map_cons, ext_from, data_S, ext_to]
      rfl
theorem countB_one (c : UInt8) (s : ByteArray) : Lib.countB s ⟨#[c]⟩ + 1 = (parts c s).length := by
  rw [← splitB_cut c _ s rfl, Lib.splitB_all _ (by simp [ByteArray.size]) _ _ s rfl]

/-! ### lists of strings -/
def sCells (ws : List ByteArray) : List Value := ws.map Value.string
theorem sCells_app (a b : List ByteArray) : sCells (a ++ b) = sCells a ++ sCells b := List.map_append
theorem sCells_len (a : List ByteArray) : (sCells a).length = a.length := List.length_map _
def lfB (s : ByteArray) : Bool := s.data.toList.contains 10
theorem contains_lf (l : List UInt8) : Lib.contains l [10] = l.contains 10 := by
  unfold Lib.contains
  rw [show ([10] : List UInt8) = [(10 : UInt8)] from rfl, Lib.index_one]
  induction l with
  | nil => rfl
  | cons b r ih =>
    have hg := Lib.indexByte_ge r 10
    unfold Lib.indexByte
    by_cases hb : b = 10
    · subst hb; simp
    · rw [if_neg (by simpa using hb), List.contains_cons]
      have hb' : ((10 : UInt8) == b) = false := by simpa using fun e => hb e.symm
      rw [hb', Bool.false_or, ← ih]
      by_cases hr : Lib.indexByte r 10 = -1
      · rw [if_pos (by simpa using hr), hr]
      · rw [if_neg (by simpa using hr)]
        have : (0 ≤ Lib.indexByte r 10) := by omega
        simp [this]; omega
theorem contains_lfB (s : ByteArray) (w : World) (hE : Env w) (hs : s.size < 4294967281) :
    Calls Tryz.prog 83 #[.string s, .string ⟨#[10]⟩] w fun e w' => e = .returned (.bool (lfB s)) ∧ w = w' := by
  obtain ⟨m, hm⟩ := hE.maxlen
  have h := Tryz.strings_Contains s ⟨#[10]⟩ m w hs hm
  have e : Lib.contains s.data.toList (ByteArray.mk #[10]).data.toList = lfB s := contains_lf _
  rw [e] at h
  exact h.mono fun e w' ⟨he, hw⟩ => ⟨he, hw.symm⟩
def joinV (ws : List ByteArray) : ByteArray := ⟨(Lib.join (ws.map (·.data.toList)) [10]).toArray⟩
def szL (ws : List ByteArray) : Nat := (ws.map ByteArray.size).sum
theorem szL_snoc (ws : List ByteArray) (s : ByteArray) : szL (ws ++ [s]) = szL ws + s.size := by simp [szL]
theorem szL_le (m : Nat) : ∀ (ws : List ByteArray), (∀ x ∈ ws, x.size ≤ m) → szL ws ≤ ws.length * m
  | [], _ => by simp [szL]
  | x :: l, h => by
    have h1 := szL_le m l (fun y hy => h y (List.mem_cons_of_mem _ hy))
    have h2 := h x (by simp)
    have e : szL (x :: l) = x.size + szL l := by simp [szL]
    rw [e, List.length_cons, Nat.add_mul]; omega
theorem joinTail_sz : ∀ (l : List ByteArray), (Lib.joinTail [10] (l.map (·.data.toList))).length = l.length + szL l
  | [] => by simp [Lib.joinTail, szL]
  | x :: l => by
    have h1 := joinTail_sz l
    have e : Lib.joinTail [10] ((x :: l).map (·.data.toList)) = ([10] ++ x.data.toList) ++ Lib.joinTail [10] (l.map (·.data.toList)) := by simp [Lib.joinTail]
    have e2 : szL (x :: l) = x.size + szL l := by simp [szL]
    rw [e, List.length_append, List.length_append, h1, e2, size_eq]
    simp only [List.length_cons, List.length_nil]; omega
theorem joinV_sz {l : List ByteArray} (h : l ≠ []) : (joinV l).size = l.length - 1 + szL l := by
  cases l with
  | nil => exact absurd rfl h
  | cons x r =>
    have e2 : szL (x :: r) = x.size + szL r := by simp [szL]
    show (S _).size = _
    rw [size_S, List.map_cons, Lib.join_cons, List.length_append, joinTail_sz, e2, size_eq]
    simp only [List.length_cons]; omega
def joinE (ws : List ByteArray) : Int := if ws = [] ∨ ws.any lfB = true then 1 else if 1024 < ws.length ∨ 65536 < ws.length - 1 + szL ws then 10 else 0
def joinT (ws : List ByteArray) : ByteArray := if joinE ws = 0 then joinV ws else ⟨#[]⟩
theorem join_strings (A : Option Addr) (n c : Nat) (ws : List ByteArray) (hl : ws.length = n) (w : World) (hr : Rd w 1 A n (sCells ws)) (hc : n ≤ c) (hn : n ≤ 100000) (hb : ∀ x ∈ ws, x.size ≤ 1000000) :
    Calls Tryz.prog 50 #[.slice A n c, .string ⟨#[10]⟩] w fun e w' => e = .returned (.string (joinV ws)) ∧ New w w' := by
  subst hl
  by_cases h0 : 0 < ws.length
  · obtain ⟨b, o, rfl, hbk, hcell⟩ := hr.2 h0
    have hz := szL_le 1000000 ws hb
    have hjl : (Lib.join (ws.map (·.data.toList)) [10]).length ≤ 200000000000 := by
      have := joinV_sz (l := ws) (by rintro rfl; simp at h0)
      rw [show (joinV ws).size = (Lib.join (ws.map (·.data.toList)) [10]).length from size_S _] at this
      have : ws.length * 1000000 ≤ 100000 * 1000000 := Nat.mul_le_mul_right _ hn
      omega
    exact Tryz.strings_Join b o c ws ⟨#[10]⟩ w (fun j x hx => hcell j (.string x) (by rw [sCells, List.getElem?_map, hx]; rfl)) hbk (by omega) hc (Nat.le_trans hjl (by omega))
  · obtain rfl : ws = [] := List.eq_nil_of_length_eq_zero (by omega)
    refine (Tryz.strings_Join_none A c ⟨#[10]⟩ w).mono ?_
    rintro e w' ⟨rfl, rfl⟩
    exact ⟨rfl, New.refl _⟩
theorem rd_new (w : World) (vs : List Value) (t : TypeId) (n : Nat) (hn : vs.length = n * 1) : Rd (w.alloc (.cells vs.toArray t)) 1 (some ⟨w.heap.size, 0, none⟩) n vs := by
  refine ⟨hn, fun _ => ⟨_, 0, rfl, by simp, fun j u hu => ?_⟩⟩
  rw [Nat.zero_add, cell_of_row _ w.heap.size j vs.toArray t (0, 0) (heap_alloc_new w _)]
  simpa using hu
def linesE (s : ByteArray) : Int := if 65536 < s.size ∨ 1024 < (parts 10 s).length then 10 else 0
set_option maxHeartbeats 1000000 in
theorem lines_eq (s : ByteArray) (w : World) (hs : s.size < 4294967281) (hE : Env w) (h : linesE s = 0) :
    Calls Tryz.prog 39 #[.string s] w fun e w' => e = .returned (.tuple #[.slice (some ⟨w.heap.size, 0, none⟩) (parts 10 s).length (parts 10 s).length, .int .i64 0]) ∧ w' = w.alloc (.cells (sCells (parts 10 s)).toArray 9) := by
  obtain ⟨m, hm⟩ := hE.maxlen
  have hsp := Tryz.strings_Split s ⟨#[10]⟩ m w hs hm (by simp [ByteArray.size])
  have hct := Tryz.strings_Count_any s ⟨#[10]⟩ m w hs hm (by simp [ByteArray.size])
  rw [splitB_cut 10 _ s rfl, countB_one 10 s] at hsp
  have hc1 := countB_one 10 s
  generalize hw : parts 10 s = ws at *
  have hz : s.size ≤ 65536 ∧ ws.length ≤ 1024 := by
    unfold linesE at h
    rw [hw] at h
    split at h
    · cases h
    · omega
  have HSP := Lib.hid hsp; have HCT := Lib.hid hct
  generalize Lib.countB s ⟨#[10]⟩ = k at *
  have hk : k < 1024 := by omega
  clear hsp hct hw h hc1
  go_enter Tryz.func39, Tryz.ntmps39
  go_wp2_with (first | (go_at_call 65; (with_reducible refine HSP.out.mono ?_); rintro e w' ⟨rfl, rfl⟩) | (go_at_call 64; (with_reducible refine HCT.out.mono ?_); rintro e w' ⟨rfl, rfl⟩))
  go_ret2
  exact ⟨rfl, rfl⟩
theorem lines_ok (s : ByteArray) (w : World) (hs : s.size < 4294967281) (hE : Env w) (h : linesE s = 0) :
    Calls Tryz.prog 39 #[.string s] w fun e w' => e = .returned (.tuple #[.slice (some ⟨w.heap.size, 0, none⟩) (parts 10 s).length (parts 10 s).length, .int .i64 0]) ∧ Rd w' 1 (some ⟨w.heap.size, 0, none⟩) (parts 10 s).length (sCells (parts 10 s)) ∧ New w w' :=
  (lines_eq s w hs hE h).mono fun e w' ⟨he, hw⟩ => ⟨he, hw ▸ rd_new w (sCells (parts 10 s)) 9 _ (by simp [sCells]), hw ▸ (New.refl w).alloc _⟩
end Go.Proofs.YtfeknjpinboknaaGreatDoor

namespace Go.Proofs.YtfeknjpinboknaaGreatDoor
open Go Go.RowKit Go.Joins
set_option linter.unusedSimpArgs false
set_option linter.unusedVariables false

/-! ### rows of structs -/
theorem flat_at {α : Type} {f : α → List Value} {k : Nat} (hf : ∀ x, (f x).length = k) : ∀ (l : List α) (i j : Nat) (h : i < l.length), j < k → (l.flatMap f)[i * k + j]? = (f l[i])[j]?
  | x :: r, 0, j, _, hj => by rw [List.flatMap_cons, Nat.zero_mul, Nat.zero_add, List.getElem?_append_left (by rw [hf]; exact hj)]; rfl
  | x :: r, i + 1, j, h, hj => by
    have ih := flat_at hf r i j (by simpa using h) hj
    rw [List.flatMap_cons, List.getElem?_append_right (by rw [hf, Nat.add_mul]; omega), hf, show (i + 1) * k + j - k = i * k + j by rw [Nat.add_mul]; omega, ih]
    rfl
theorem rd_row {α : Type} {f : α → List Value} {k : Nat} (hf : ∀ x, (f x).length = k) {w : World} {A : Option Addr} {n : Nat} {l : List α} (hl : l.length = n) (h : Rd w k A n (l.flatMap f)) {i : Nat} (hi : i < n) :
    ∃ b o, A = some ⟨b, o, none⟩ ∧ b < w.heap.size ∧ ∃ x, l[i]? = some x ∧ ∀ j u, j < k → (f x)[j]? = some u → w.cell? ⟨b, o + (i * k + j), none⟩ = some u := by
  obtain ⟨b, o, rfl, hb, hc⟩ := h.2 (by omega)
  have hil : i < l.length := by omega
  refine ⟨b, o, rfl, hb, l[i], List.getElem?_eq_getElem hil, fun j u hj hu => hc _ u ?_⟩
  rw [flat_at hf l i j hil hj]; exact hu

/-! ### hunks -/
structure Hk where
  kind : Int
  n : Int
  lines : List ByteArray
structure Hm where
  kind : Int
  n : Int
  lines : List ByteArray
  adr : Option Addr
  cap : Nat
def Hm.d (h : Hm) : Hk := ⟨h.kind, h.n, h.lines⟩
def hmC (h : Hm) : List Value := [.int .i64 h.kind, .int .i64 h.n, .slice h.adr h.lines.length h.cap]
structure PRd (w : World) (A : Option Addr) (n : Nat) (hs : List Hm) : Prop where
  len : hs.length = n
  rd : Rd w 3 A n (hs.flatMap hmC)
  ln : ∀ h ∈ hs, Rd w 1 h.adr h.lines.length (sCells h.lines) ∧ h.lines.length ≤ h.cap
theorem PRd.new {w w' : World} {A : Option Addr} {n : Nat} {hs : List Hm} (h : PRd w A n hs) (hn : New w w') : PRd w' A n hs :=
  ⟨h.len, h.rd.below hn, fun x hx => ⟨(h.ln x hx).1.below hn, (h.ln x hx).2⟩⟩
structure SzH (hs : List Hm) : Prop where
  l : hs.length ≤ 100000
  ll : ∀ h ∈ hs, h.lines.length ≤ 9223372036854775807
  ls : ∀ h ∈ hs, ∀ s ∈ h.lines, s.size ≤ 1000000

def okH (h : Hk) : Bool := decide (1 ≤ h.kind) && decide (h.kind ≤ 3) && decide (1 ≤ h.n) && decide (h.n ≤ 1024) && (if h.kind = 3 then decide ((h.lines.length : Int) = h.n) else decide (h.lines.length = 0))
def formH (h : Hk) : Bool := okH h && !(h.lines.any lfB)
def badAdj (p c : Int) : Bool := p == c || (p == 3 && c == 2)
def goodGo : Int → List Hk → Bool
  | _, [] => true
  | p, h :: r => formH h && !badAdj p h.kind && goodGo h.kind r
def okGo : Int → List Hk → Bool
  | _, [] => true
  | p, h :: r => okH h && !badAdj p h.kind && okGo h.kind r
def lfAny (l : List Hk) : Bool := l.any fun h => h.lines.any lfB
theorem goodGo_eq : ∀ (p : Int) (l : List Hk), goodGo p l = (okGo p l && !lfAny l)
  | _, [] => rfl
  | p, h :: r => by
    have e : lfAny (h :: r) = (h.lines.any lfB || lfAny r) := rfl
    rw [goodGo, okGo, goodGo_eq h.kind r, formH, e]
    cases okH h <;> cases h.lines.any lfB <;> cases badAdj p h.kind <;> simp
theorem okGo_ok : ∀ {l : List Hk} {p : Int}, okGo p l = true → ∀ h ∈ l, okH h = true
  | h :: r, p, hg, x, hx => by
    simp only [okGo, Bool.and_eq_true] at hg
    rcases List.mem_cons.1 hx with rfl | hr
    · exact hg.1.1
    · exact okGo_ok hg.2 x hr
structure OkH (h : Hk) : Prop where
  k1 : 1 ≤ h.kind
  k3 : h.kind ≤ 3
  n1 : 1 ≤ h.n
  n2 : h.n ≤ 1024
  l3 : h.kind = 3 → (h.lines.length : Int) = h.n
  l0 : h.kind ≠ 3 → h.lines = []
theorem okH_iff {h : Hk} : okH h = true ↔ OkH h := by
  simp only [okH, Bool.and_eq_true, decide_eq_true_eq]
  constructor
  · rintro ⟨⟨⟨⟨a, b⟩, c⟩, d⟩, e⟩
    refine ⟨a, b, c, d, fun hk => ?_, fun hk => ?_⟩
    · rw [if_pos hk] at e; simpa using e
    · rw [if_neg hk] at e; exact List.eq_nil_of_length_eq_zero (by simpa using e)
  · rintro ⟨a, b, c, d, e, f⟩
    refine ⟨⟨⟨⟨a, b⟩, c⟩, d⟩, ?_⟩
    by_cases hk : h.kind = 3
    · rw [if_pos hk]; simpa using e hk
    · rw [if_neg hk, f hk]; rfl
def cnt (k : Int) : List Hk → Int
  | [] => 0
  | h :: r => (if h.kind = k then h.n else 0) + cnt k r
theorem cnt_app (k : Int) : ∀ a b : List Hk, cnt k (a ++ b) = cnt k a + cnt k b
  | [], b => by simp [cnt]
  | h :: r, b => by rw [List.cons_append, cnt, cnt, cnt_app k r b]; omega
theorem cnt_bound (k : Int) : ∀ {l : List Hk}, (∀ h ∈ l, OkH h) → 0 ≤ cnt k l ∧ cnt k l ≤ 1024 * l.length
  | [], _ => by simp [cnt]
  | h :: r, ho => by
    have h1 := cnt_bound k (fun x hx => ho x (List.mem_cons_of_mem _ hx))
    have h2 := ho h (by simp)
    have := h2.n1; have := h2.n2
    rw [cnt, List.length_cons]
    split <;> omega

/-! ### texts -/
def hexd (n : Nat) : UInt8 := if n < 10 then UInt8.ofNat (48 + n) else UInt8.ofNat (87 + n)
def hexL : List UInt8 → List UInt8
  | [] => []
  | b :: r => hexd (b.toNat / 16) :: hexd (b.toNat % 16) :: hexL r
theorem hexL_length : ∀ l : List UInt8, (hexL l).length = 2 * l.length
  | [] => rfl
  | b :: r => by rw [hexL, List.length_cons, List.length_cons, hexL_length r, List.length_cons]; omega
def wordL (k : Int) : List UInt8 := if k = 2 then [100, 114, 111, 112, 32] else if k = 3 then [97, 100, 100, 32] else [107, 101, 101, 112, 32]
def headV (h : Hk) : ByteArray := S (wordL h.kind ++ Lib.itoa h.n)
def linesL (l : List Hk) : List ByteArray := l.flatMap fun h => headV h :: h.lines
def baseL (base : ByteArray) : List ByteArray := if base.size = 0 then [] else [S ([98, 97, 115, 101, 32] ++ hexL base.data.toList)]
def textL (base : ByteArray) (l : List Hk) : List ByteArray := baseL base ++ linesL l
def textV (base : ByteArray) (l : List Hk) : ByteArray := joinV (textL base l)
def sizesOK (l : List Hk) : Bool := decide (1 ≤ cnt 1 l + cnt 2 l) && decide (cnt 1 l + cnt 2 l ≤ 1024) && decide (1 ≤ cnt 1 l + cnt 3 l) && decide (cnt 1 l + cnt 3 l ≤ 1024)
def validV (base : ByteArray) (l : List Hk) : Bool := (decide (base.size = 0) || decide (base.size = 32)) && goodGo 0 l && sizesOK l && decide (joinE (textL base l) = 0)
theorem linesL_length : ∀ l : List Hk, l.length ≤ (linesL l).length
  | [] => Nat.le_refl _
  | h :: r => by
    have := linesL_length r
    have e : linesL (h :: r) = headV h :: (h.lines ++ linesL r) := rfl
    rw [e, List.length_cons, List.length_cons, List.length_append]; omega
theorem joinE_len {ws : List ByteArray} (h : joinE ws = 0) : ws.length ≤ 1024 := by
  unfold joinE at h
  split at h
  · cases h
  · split at h
    · cases h
    · omega
theorem valid_len {base : ByteArray} {l : List Hk} (h : validV base l = true) : l.length ≤ 1024 := by
  simp only [validV, Bool.and_eq_true, decide_eq_true_eq] at h
  have h1 := joinE_len h.2
  have h2 := linesL_length l
  rw [textL, List.length_append] at h1; omega
end Go.Proofs.YtfeknjpinboknaaGreatDoor

namespace Go.Proofs.YtfeknjpinboknaaGreatDoor
open Go Go.RowKit Go.Joins
set_option linter.unusedSimpArgs false
set_option linter.unusedVariables false

def OkA (hs : List Hm) : Prop := ∀ h ∈ hs, OkH h.d
theorem cnt_next {hs : List Hm} {k : Nat} {h : Hm} (hk : hs[k]? = some h) (j : Int) : cnt j ((hs.take (k + 1)).map Hm.d) = cnt j ((hs.take k).map Hm.d) + if h.kind = j then h.n else 0 := by
  obtain ⟨hi, he⟩ := List.getElem?_eq_some_iff.1 hk
  rw [List.take_succ_eq_append_getElem hi, List.map_append, cnt_app, he]
  simp [cnt, Hm.d]
theorem cnt_take {hs : List Hm} (ho : OkA hs) (hl : hs.length ≤ 4000) (k : Nat) (j : Int) : 0 ≤ cnt j ((hs.take k).map Hm.d) ∧ cnt j ((hs.take k).map Hm.d) ≤ 4096000 := by
  have := cnt_bound j (l := (hs.take k).map Hm.d) (fun x hx => by
    obtain ⟨y, hy, rfl⟩ := List.mem_map.1 hx
    exact ho y (List.mem_of_mem_take hy))
  rw [List.length_map] at this
  have h2 := List.length_take_le k hs
  have h3 := List.length_take_le' k hs
  omega
set_option maxRecDepth 100000 in
set_option maxHeartbeats 2000000 in
theorem sizes_any (base : ByteArray) (A : Option Addr) (n c : Nat) (hs : List Hm) (w : World) (hr : PRd w A n hs) (ho : OkA hs) (hl : n ≤ 4000) :
    Calls Tryz.prog 37 #[.agg #[.string base, .slice A n c]] w fun e w' => e = .returned (.tuple #[.int .i64 (cnt 1 (hs.map Hm.d)), .int .i64 (cnt 2 (hs.map Hm.d)), .int .i64 (cnt 3 (hs.map Hm.d))]) ∧ New w w' := by
  have HR := Lib.hid hr
  have HO := Lib.hid ho
  have HL := Lib.hid hr.len
  clear hr ho
  have hnX := (New.refl w).alloc (.cells #[.string base, .slice A n c] 24)
  go_enter Tryz.func37, Tryz.ntmps37
  go_wp2
  go_loopw [2, 3, 4, 10] (fun v2 v3 v4 v10 wr => ∃ k : Nat, v10 = .int .i64 k ∧ k ≤ n ∧ New w wr ∧ v2 = .int .i64 (cnt 1 ((hs.take k).map Hm.d)) ∧ v3 = .int .i64 (cnt 2 ((hs.take k).map Hm.d)) ∧ v4 = .int .i64 (cnt 3 ((hs.take k).map Hm.d))) (fun _ _ _ v10 _ => n - (intOf v10).toNat)
  case atStart => exact ⟨0, rfl, by omega, hnX, rfl, rfl, rfl⟩
  case round =>
    obtain ⟨k, rfl, hk, hnr, rfl, rfl, rfl⟩ := hrel
    by_cases hlt : k < n
    · obtain ⟨bk, o, rfl, hbk, p, hp, hcell⟩ := rd_row (f := hmC) (k := 3) (fun _ => rfl) HL.out (HR.out.new hnr).rd hlt
      have hok := HO.out p (List.mem_of_getElem? hp)
      have c1 := cnt_take HO.out (by rw [HL.out]; exact hl) k 1
      have c2 := cnt_take HO.out (by rw [HL.out]; exact hl) k 2
      have c3 := cnt_take HO.out (by rw [HL.out]; exact hl) k 3
      have HN1 := Lib.hid (cnt_next hp 1)
      have HN2 := Lib.hid (cnt_next hp 2)
      have HN3 := Lib.hid (cnt_next hp 3)
      obtain ⟨pk, pn, pl, pa, pc⟩ := p
      have q0 := hcell 0 (.int .i64 pk) (by omega) rfl
      have q1 := hcell 1 (.int .i64 pn) (by omega) rfl
      have q2 := hcell 2 (.slice pa pl.length pc) (by omega) rfl
      simp only [Nat.add_zero] at q0
      rw [← Nat.add_assoc] at q1 q2
      have i0 : (0 : Int) ≤ (k : Int) := by omega
      have i1 : (k : Int) < (n : Int) := by omega
      have k1 : 1 ≤ pk := hok.k1
      have k3 : pk ≤ 3 := hok.k3
      have n1 : 1 ≤ pn := hok.n1
      have n2 : pn ≤ 1024 := hok.n2
      clear hcell hp hok
      simp only at HN1 HN2 HN3
      generalize pl.length = nl at *
      generalize cnt 1 ((hs.take k).map Hm.d) = s1 at *
      generalize cnt 2 ((hs.take k).map Hm.d) = s2 at *
      generalize cnt 3 ((hs.take k).map Hm.d) = s3 at *
      have hnr1 := hnr.alloc (.cells #[.int .i64 pk, .int .i64 pn, .slice pa nl pc] 55)
      by_cases e1 : pk = 1
      · subst e1
        go_wp2
        go_roundw
        case rel => exact ⟨k + 1, by go_num, by omega, hnr1, by rw [HN1.out]; simp, by rw [HN2.out]; simp, by rw [HN3.out]; simp⟩
        case measure => simp [intOf]; omega
      · by_cases e2 : pk = 2
        · subst e2
          go_wp2
          go_roundw
          case rel => exact ⟨k + 1, by go_num, by omega, hnr1, by rw [HN1.out]; simp, by rw [HN2.out]; simp, by rw [HN3.out]; simp⟩
          case measure => simp [intOf]; omega
        · obtain rfl : pk = 3 := by omega
          go_wp2
          go_roundw
          case rel => exact ⟨k + 1, by go_num, by omega, hnr1, by rw [HN1.out]; simp, by rw [HN2.out]; simp, by rw [HN3.out]; simp⟩
          case measure => simp [intOf]; omega
    · obtain rfl : k = n := by omega
      have e : hs.take k = hs := List.take_of_length_le (by rw [HL.out]; exact Nat.le_refl _)
      rw [e]
      go_wp2
      go_ret3
      exact ⟨rfl, hnr⟩
end Go.Proofs.YtfeknjpinboknaaGreatDoor

namespace Go.Proofs.YtfeknjpinboknaaGreatDoor
open Go Go.RowKit Go.Joins
set_option linter.unusedSimpArgs false
set_option linter.unusedVariables false

set_option maxRecDepth 100000 in
set_option maxHeartbeats 4000000 in
theorem counts_any (base : ByteArray) (A : Option Addr) (n c : Nat) (hs : List Hm) (w : World) (hr : PRd w A n hs) (ho : OkA hs) (hl : n ≤ 4000) :
    Calls Tryz.prog 38 #[.agg #[.string base, .slice A n c]] w fun e w' => e = .returned (.tuple #[.int .i64 (cnt 1 (hs.map Hm.d)), .int .i64 (cnt 2 (hs.map Hm.d)), .int .i64 (cnt 3 (hs.map Hm.d))]) ∧ New w w' := by
  have HR := Lib.hid hr
  have HO := Lib.hid ho
  have HL := Lib.hid hr.len
  clear hr ho
  have hnX := ((New.refl w).alloc (.cells #[.string base, .slice A n c] 24)).alloc (.cells #[.int .i64 0, .int .i64 0, .int .i64 0, .int .i64 0] 89)
  have hBX := Blk.made (w.alloc (.cells #[.string base, .slice A n c] 24)) 89 #[.int .i64 0, .int .i64 0, .int .i64 0, .int .i64 0]
  rw [World.size_alloc] at hBX
  obtain ⟨g, hg⟩ : ∃ g, w.heap.size + 1 = g := ⟨_, rfl⟩
  have HG := Lib.hid hg
  have hgw : w.heap.size ≤ g := by omega
  clear hg
  go_enter Tryz.func38, Tryz.ntmps38
  go_wp2
  rw [HG.out] at hBX
  rw [HG.out]
  go_loopw [11] (fun v11 wr => ∃ k : Nat, v11 = .int .i64 k ∧ k ≤ n ∧ New w wr ∧ Blk wr g 89 #[.int .i64 0, .int .i64 (cnt 1 ((hs.take k).map Hm.d)), .int .i64 (cnt 2 ((hs.take k).map Hm.d)), .int .i64 (cnt 3 ((hs.take k).map Hm.d))]) (fun v11 _ => n - (intOf v11).toNat)
  case atStart => exact ⟨0, rfl, by omega, hnX, hBX⟩
  case round =>
    obtain ⟨k, rfl, hk, hnr, hB⟩ := hrel
    by_cases hlt : k < n
    · obtain ⟨bk, o, rfl, hbk, p, hp, hcell⟩ := rd_row (f := hmC) (k := 3) (fun _ => rfl) HL.out (HR.out.new hnr).rd hlt
      have hok := HO.out p (List.mem_of_getElem? hp)
      have c1 := cnt_take HO.out (by rw [HL.out]; exact hl) k 1
      have c2 := cnt_take HO.out (by rw [HL.out]; exact hl) k 2
      have c3 := cnt_take HO.out (by rw [HL.out]; exact hl) k 3
      have HN1 := Lib.hid (cnt_next hp 1)
      have HN2 := Lib.hid (cnt_next hp 2)
      have HN3 := Lib.hid (cnt_next hp 3)
      obtain ⟨pk, pn, pl, pa, pc⟩ := p
      have q0 := hcell 0 (.int .i64 pk) (by omega) rfl
      have q1 := hcell 1 (.int .i64 pn) (by omega) rfl
      have q2 := hcell 2 (.slice pa pl.length pc) (by omega) rfl
      simp only [Nat.add_zero] at q0
      rw [← Nat.add_assoc] at q1 q2
      have i0 : (0 : Int) ≤ (k : Int) := by omega
      have i1 : (k : Int) < (n : Int) := by omega
      have k1 : 1 ≤ pk := hok.k1
      have k3 : pk ≤ 3 := hok.k3
      have n1 : 1 ≤ pn := hok.n1
      have n2 : pn ≤ 1024 := hok.n2
      clear hcell hp hok
      simp only at HN1 HN2 HN3
      generalize pl.length = nl at *
      generalize cnt 1 ((hs.take k).map Hm.d) = s1 at *
      generalize cnt 2 ((hs.take k).map Hm.d) = s2 at *
      generalize cnt 3 ((hs.take k).map Hm.d) = s3 at *
      have hnr1 := hnr.alloc (.cells #[.int .i64 pk, .int .i64 pn, .slice pa nl pc] 55)
      have hB1 := hB.alloc (.cells #[.int .i64 pk, .int .i64 pn, .slice pa nl pc] 55)
      have hne : g ≠ wr.heap.size := by have := hB.lt; omega
      have hne2 : wr.heap.size ≠ g := fun e => hne e.symm
      have b1 := hB1.cell' 1 _ rfl
      have b2 := hB1.cell' 2 _ rfl
      have b3 := hB1.cell' 3 _ rfl
      have f1 := hB1.free 1
      have f2 := hB1.free 2
      have f3 := hB1.free 3
      have hB2 := Blk.made wr 55 #[.int .i64 pk, .int .i64 pn, .slice pa nl pc]
      have d0 := hB2.cell' 0 _ rfl
      have d1 := hB2.cell' 1 _ rfl
      clear hB2
      by_cases e1 : pk = 1
      · subst e1
        go_wp2
        generalize wr.alloc (.cells #[.int .i64 1, .int .i64 pn, .slice pa nl pc] 55) = W at *
        go_still_tail 10, (by kernel_rfl)
        go_wp2
        go_roundw
        case rel => exact ⟨k + 1, by go_num, by omega, (hnr1.setCell (p := ⟨g, 1, none⟩) hgw _).drew, (hB1.put 1 _).drew.same (by rw [HN1.out, HN2.out, HN3.out]; simp)⟩
        case measure => simp [intOf]; omega
      · by_cases e2 : pk = 2
        · subst e2
          go_wp2
          generalize wr.alloc (.cells #[.int .i64 2, .int .i64 pn, .slice pa nl pc] 55) = W at *
          go_still_tail 10, (by kernel_rfl)
          go_wp2
          go_roundw
          case rel => exact ⟨k + 1, by go_num, by omega, (hnr1.setCell (p := ⟨g, 2, none⟩) hgw _).drew, (hB1.put 2 _).drew.same (by rw [HN1.out, HN2.out, HN3.out]; simp)⟩
          case measure => simp [intOf]; omega
        · obtain rfl : pk = 3 := by omega
          go_wp2
          generalize wr.alloc (.cells #[.int .i64 3, .int .i64 pn, .slice pa nl pc] 55) = W at *
          go_still_tail 10, (by kernel_rfl)
          go_wp2
          go_roundw
          case rel => exact ⟨k + 1, by go_num, by omega, (hnr1.setCell (p := ⟨g, 3, none⟩) hgw _).drew, (hB1.put 3 _).drew.same (by rw [HN1.out, HN2.out, HN3.out]; simp)⟩
          case measure => simp [intOf]; omega
    · obtain rfl : k = n := by omega
      have e : hs.take k = hs := List.take_of_length_le (by rw [HL.out]; exact Nat.le_refl _)
      rw [e] at hB
      have b1 := hB.cell' 1 _ rfl
      have b2 := hB.cell' 2 _ rfl
      have b3 := hB.cell' 3 _ rfl
      go_wp2
      go_quiet (fail)
      go_wp2
      go_ret3
      exact ⟨rfl, hnr.drewN _⟩
end Go.Proofs.YtfeknjpinboknaaGreatDoor

