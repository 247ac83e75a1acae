/- The library's variables (Env), strconv.Itoa, tree.Path. The strings are shorter than 2^32 - 15 bytes (a bound of the model's for strings.Split). token.Name: which strings it accepts. No conditions but the string's own length. token.Number and token.next: that they return, and what for a name. No conditions but the string's own length. -/
import Derived.Test.YtnjampfhkojbnaaGreatDoorGBase
import Derived.Test.YtnjampfhkojbnaaGreatDoorGSh
import Derived.Deep.RegionWith
import Derived.Deep.QuietTactic
import Derived.BigQuiet
import Derived.Lib.SmallJoins
import Derived.Lib.SplitLaws
import Derived.Lib.Split
import Derived.Lib.Hide
import Derived.Shelf.GgClosure.StringsIndexFunc
import Derived.WalkMore
import Derived.Laws.RangeAny
import Derived.Laws.Runes

namespace Go.Proofs.YtnjampfhkojbnaaGreatDoor
open Go Go.RowKit Go.Joins
set_option linter.unusedSimpArgs false
set_option linter.unusedVariables false

theorem ret_b {a b : Bool} (h : a = b) : Ending.returned (.bool a) = .returned (.bool b) := by rw [h]
theorem ret_i {k : IntKind} {a b : Int} (h : a = b) : Ending.returned (.int k a) = .returned (.int k b) := by rw [h]
theorem ret_s {a b : ByteArray} (h : a = b) : Ending.returned (.string a) = .returned (.string b) := by rw [h]
theorem data_cons {s : ByteArray} (h : 0 < s.size) : s.data.toList = s[0] :: s.data.toList.drop 1 := by
  rw [get_eq s 0 h]
  have hl : 0 < s.data.toList.length := by rw [← size_eq]; exact h
  have := List.drop_eq_getElem_cons (l := s.data.toList) (i := 0) hl
  simpa using this

theorem ext_from (s : ByteArray) (k : Nat) : s.extract k s.size = S (s.data.toList.drop k) := by
  rw [extract_S, List.take_of_length_le (by rw [List.length_drop, size_eq]; exact Nat.le_refl _)]
theorem ext_to (s : ByteArray) (k : Nat) : s.extract 0 k = S (s.data.toList.take k) := by
  rw [extract_S]; simp

theorem decode_big (s : ByteArray) (pos : Nat) (h : pos < s.size) (ha : 128 ≤ (s[pos]'h).toNat) : 128 ≤ (Utf8.decode s pos).1 := by
  have e : s.get! (pos + 0) = s[pos]'h := by
    show s.get! pos = _
    simp [ByteArray.get!, getElem!_pos, h]
    rfl
  have hn : ¬ (s[pos]'h).toNat < 128 := by omega
  simp only [Utf8.decode, e, hn, if_false, Utf8.runeError]
  repeat' split
  all_goals first | omega | (simp_all; omega)

theorem idxFrom_bytes (p : Nat → Bool) (hp : ∀ r, 128 ≤ r → p r = true) (s : ByteArray) : ∀ (f pos : Nat), pos ≤ s.size → s.size ≤ pos + f →
    Lib.idxFuncFrom p true s f pos = (if pos + ((s.data.toList.drop pos).takeWhile fun c => !p c.toNat).length < s.size then ((pos + ((s.data.toList.drop pos).takeWhile fun c => !p c.toNat).length : Nat) : Int) else -1)
  | 0, pos, h, h' => by
    rw [Lib.idxFuncFrom, if_neg (by omega)]
  | f + 1, pos, h, h' => by
    unfold Lib.idxFuncFrom
    by_cases hlt : pos < s.size
    · have hl : pos < s.data.toList.length := by rw [← size_eq]; exact hlt
      rw [if_pos hlt, List.drop_eq_getElem_cons hl, ← get_eq s pos hlt]
      by_cases ha : (s[pos]'hlt).toNat < 128
      · rw [decode_ascii s pos hlt ha]
        by_cases hq : p (s[pos]'hlt).toNat = true
        · rw [if_pos hq, List.takeWhile_cons_of_neg (by simp [hq])]
          simp [hlt]
        · rw [if_neg hq, List.takeWhile_cons_of_pos (by simpa using hq), idxFrom_bytes p hp s f (pos + 1) (by omega) (by omega), List.length_cons]
          rw [show pos + (((s.data.toList.drop (pos + 1)).takeWhile fun c => !p c.toNat).length + 1) = pos + 1 + ((s.data.toList.drop (pos + 1)).takeWhile fun c => !p c.toNat).length from by omega]
      · have hq : p (s[pos]'hlt).toNat = true := hp _ (by omega)
        rw [if_pos (hp _ (decode_big s pos hlt (by omega))), List.takeWhile_cons_of_neg (by simp [hq])]
        simp [hlt]
    · rw [if_neg hlt, if_neg (by omega)]
theorem idx_bytes (p : Nat → Bool) (hp : ∀ r, 128 ≤ r → p r = true) (s : ByteArray) :
    Lib.idxFunc p true s = (if (s.data.toList.takeWhile fun c => !p c.toNat).length < s.size then (((s.data.toList.takeWhile fun c => !p c.toNat).length : Nat) : Int) else -1) := by
  rw [Lib.idxFunc, idxFrom_bytes p hp s s.size 0 (Nat.zero_le _) (by omega)]
  simp only [List.drop_zero, Nat.zero_add]

structure Env (w : World) : Prop where
  maxlen : ∃ m, w.cell? ⟨0, 0, none⟩ = some (.int .i64 m)
theorem cell_lt {w : World} {b o : Nat} {v : Value} (h : w.cell? ⟨b, o, none⟩ = some v) : b < w.heap.size := World.block_lt_of_cell? w ⟨b, o, none⟩ h
theorem cell_new {w w' : World} (hn : New w w') {b o : Nat} {v : Value} (h : w.cell? ⟨b, o, none⟩ = some v) : w'.cell? ⟨b, o, none⟩ = some v := (hn.cell (p := ⟨b, o, none⟩) (cell_lt h)).trans h
theorem Env.new {w w' : World} (h : Env w) (hn : New w w') : Env w' := by
  obtain ⟨m, hm⟩ := h
  exact ⟨⟨m, (hn.cell (p := ⟨0, 0, none⟩) (cell_lt hm)).trans hm⟩⟩
theorem new_grow (w : World) (k : Nat) (os : Array Obj) : New w («Sort».grow (w.drewN k) os) :=
  ⟨rfl, rfl, rfl, by show w.heap.size ≤ (w.heap ++ os).size; rw [Array.size_append]; omega, fun _ hj => «Sort».heap_grow_old (w.drewN k) os hj⟩
theorem str_eq (a b : ByteArray) : (a.toList == b.toList) = decide (a = b) := by
  rw [Bool.eq_iff_iff, beq_iff_eq, decide_eq_true_iff, toList_eq, toList_eq]
  exact ⟨bytes_ext, fun h => by rw [h]⟩

/-! ### the parts between the places of a byte -/
def cut (c : UInt8) : List UInt8 → List (List UInt8)
  | [] => [[]]
  | b :: r => if b = c then [] :: cut c r else match cut c r with
    | [] => [[b]]
    | h :: t => (b :: h) :: t
theorem cut_ne (c : UInt8) (l : List UInt8) : cut c l ≠ [] := by
  cases l with
  | nil => simp [cut]
  | cons b r =>
    unfold cut
    split
    · simp
    · split <;> simp
theorem cut_length (c : UInt8) : ∀ l : List UInt8, (cut c l).length = l.count c + 1
  | [] => rfl
  | b :: r => by
    have ih := cut_length c r
    unfold cut
    by_cases h : b = c
    · subst h; rw [if_pos rfl, List.length_cons, ih, List.count_cons_self]
    · rw [if_neg h, List.count_cons_of_ne h]
      cases e : cut c r with
      | nil => exact absurd e (cut_ne c r)
      | cons x t => rw [e] at ih; simpa using ih
theorem cut_none (c : UInt8) : ∀ l : List UInt8, Lib.indexByte l c = -1 → cut c l = [l]
  | [], _ => rfl
  | b :: r, h => by
    have hg := Lib.indexByte_ge r c
    unfold Lib.indexByte at h
    by_cases hb : b = c
    · subst hb; simp at h
    · rw [if_neg (by simpa using hb)] at h
      by_cases hr : Lib.indexByte r c = -1
      · unfold cut
        rw [if_neg hb, cut_none c r hr]
      · rw [if_neg (by simpa using hr)] at h
        omega
theorem cut_some (c : UInt8) : ∀ (l : List UInt8) (i : Nat), Lib.indexByte l c = i → cut c l = l.take i :: cut c (l.drop (i + 1))
  | [], i, h => by simp [Lib.indexByte] at h
  | b :: r, i, h => by
    have hg := Lib.indexByte_ge r c
    unfold Lib.indexByte at h
    by_cases hb : b = c
    · subst hb
      rw [if_pos (by simp)] at h
      obtain rfl : i = 0 := by omega
      simp [cut]
    · rw [if_neg (by simpa using hb)] at h
      by_cases hr : Lib.indexByte r c = -1
      · rw [if_pos (by simpa using hr)] at h; omega
      · rw [if_neg (by simpa using hr)] at h
        obtain ⟨j, rfl⟩ : ∃ j, i = j + 1 := ⟨i - 1, by omega⟩
        conv => lhs; unfold cut
        rw [if_neg hb, cut_some c r j (by omega)]
        simp

def parts (c : UInt8) (s : ByteArray) : List ByteArray := (cut c s.data.toList).map S
theorem parts_length (c : UInt8) (s : ByteArray) : (parts c s).length = s.data.toList.count c + 1 := by rw [parts, List.length_map, cut_length]
theorem splitB_cut (c : UInt8) : ∀ (k : Nat) (s : ByteArray), Lib.countB s ⟨#[c]⟩ = k → Lib.splitB ⟨#[c]⟩ 0 k s = parts c s := by
  intro k
  induction k with
  | zero =>
    intro s h
    have hi : Lib.indexByte s.data.toList c = -1 := by
      rcases Lib.indexB_cases s ⟨#[c]⟩ with hm | ⟨i, hi, _⟩
      · rw [← Lib.index_one]; exact hm
      · have := Lib.countB_hit s ⟨#[c]⟩ i (by simp [ByteArray.size]) hi
        omega
    rw [Lib.splitB_zero, parts, cut_none c _ hi]
    simp [S_data]
  | succ k ih =>
    intro s h
    rcases Lib.indexB_cases s ⟨#[c]⟩ with hm | ⟨i, hi, _⟩
    · have := Lib.countB_miss s ⟨#[c]⟩ hm; omega
    · have hc := Lib.countB_hit s ⟨#[c]⟩ i (by simp [ByteArray.size]) hi
      have hib : Lib.indexByte s.data.toList c = i := by rw [← Lib.index_one]; exact hi
      have e1 : (⟨#[c]⟩ : ByteArray).size = 1 := rfl
      rw [e1] at hc
      rw [Lib.splitB_hit _ _ _ _ _ hi, e1, ih _ (by omega), parts, parts, cut_some c _ i hib, List.map_cons, ext_from, data_S, ext_to]
      rfl
theorem countB_one (c : UInt8) (s : ByteArray) : Lib.countB s ⟨#[c]⟩ + 1 = (parts c s).length := by
  rw [← splitB_cut c _ s rfl, Lib.splitB_all _ (by simp [ByteArray.size]) _ _ s rfl]

/-! ### paths -/
def okc (n : Int) : Bool := (decide (97 ≤ n) && decide (n ≤ 122)) || (decide (48 ≤ n) && decide (n ≤ 57)) || n == 46 || n == 95 || n == 45
def okb (c : UInt8) : Bool := okc c.toNat
def okAll (s : ByteArray) : Bool := s.data.toList.all okb
def nameOK (s : ByteArray) : Bool := match s.data.toList with
  | [] => false
  | c :: _ => decide (s.size ≤ 32) && !((c.toNat : Int) == 46) && !((c.toNat : Int) == 45) && okAll s
def pathOK (s : ByteArray) : Bool := decide (s.size ≤ 128) && decide ((parts 47 s).length ≤ 8) && (parts 47 s).all nameOK

theorem okc_any (r : Nat) (w : World) : Calls Tryz.prog 122 (#[.int .i32 (r : Int)] ++ #[]) w fun e w' => e = .returned (.bool (!okc r)) ∧ ∃ q, w' = w.drewN q := by
  go_enter Tryz.func122, Tryz.ntmps122
  go_wp2
  all_goals go_ret
  all_goals refine ⟨?_, 0, rfl⟩
  all_goals simp only [Array.getD, List.size_toArray, List.length_cons, List.length_nil, Nat.reduceAdd, Nat.reduceLT, dif_pos, List.getElem_toArray, Array.getInternal_eq_getElem, List.getElem_cons_succ, List.getElem_cons_zero]
  all_goals refine ret_b ?_
  all_goals (rw [Bool.eq_iff_iff]; simp [okc] <;> omega)
theorem contains_any (s : ByteArray) (w : World) :
    Calls Tryz.prog 121 #[.string s, .func (.func 122) #[] #[]] w fun e w' => e = .returned (.bool (!okAll s)) ∧ New w w' := by
  have h := Tryz.strings_ContainsFunc 122 #[] (enters_of Tryz.func122 (by kernel_rfl) rfl) (fun r => !okc r) s w (fun W r _ => okc_any r W)
  have hb : ∀ r, 128 ≤ r → (!okc (r : Nat)) = true := fun r hr => by
    simp only [okc, Bool.not_eq_true', Bool.or_eq_false_iff, Bool.and_eq_false_iff, decide_eq_false_iff_not, beq_eq_false_iff_ne]; omega
  rw [idx_bytes _ hb] at h
  have e : decide (0 ≤ (if (s.data.toList.takeWhile fun c => !!okc c.toNat).length < s.size then ((s.data.toList.takeWhile fun c => !!okc c.toNat).length : Int) else -1)) = !okAll s := by
    unfold okAll
    rw [show (fun c : UInt8 => !!okc c.toNat) = okb from funext fun c => by simp [okb], size_eq]
    generalize s.data.toList = l
    have hl := List.Sublist.length_le (List.takeWhile_sublist okb (l := l))
    by_cases ha : l.all okb = true
    · have : l.takeWhile okb = l := by
        clear hl h
        induction l with
        | nil => rfl
        | cons c r ih =>
          simp only [List.all_cons, Bool.and_eq_true] at ha
          rw [List.takeWhile_cons_of_pos ha.1, ih ha.2]
      rw [this, if_neg (by omega), ha]; rfl
    · have hlt : (l.takeWhile okb).length < l.length := by
        rcases Nat.lt_or_ge (l.takeWhile okb).length l.length with h1 | h1
        · exact h1
        · exfalso
          have e1 : l.takeWhile okb = l := (List.takeWhile_sublist okb).eq_of_length (by omega)
          apply ha
          rw [← e1]
          clear hl h h1 ha e1
          induction l with
          | nil => rfl
          | cons c r ih =>
            by_cases hc : okb c
            · rw [List.takeWhile_cons_of_pos hc, List.all_cons, hc, ih]; rfl
            · rw [List.takeWhile_cons_of_neg hc]; rfl
      rw [if_pos hlt]
      simp only [Bool.not_eq_true] at ha
      rw [ha]
      simp
  rw [e] at h
  exact h

set_option maxHeartbeats 1000000 in
theorem part_tree (s : ByteArray) (w : World) : Calls Tryz.prog 85 #[.string s] w fun e w' => e = .returned (.bool (nameOK s)) ∧ New w w' := by
  by_cases h0 : 0 < s.size
  · have hne : s.toList.isEmpty = false := by rw [toList_eq, data_cons h0]; rfl
    have hv : nameOK s = (decide (s.size ≤ 32) && !((s[0].toNat : Int) == 46) && !((s[0].toNat : Int) == 45) && okAll s) := by
      unfold nameOK
      rw [data_cons h0]
    have HV := Lib.hid hv; clear hv
    go_enter Tryz.func85, Tryz.ntmps85
    go_wp2_with (go_at_call 121; refine (contains_any _ _).mono ?_; rintro e w' ⟨rfl, hn⟩)
    all_goals go_ret
    all_goals refine ⟨ret_b ?_, by first | exact New.refl _ | assumption⟩
    all_goals try simp only [Array.getD, List.size_toArray, List.length_cons, List.length_nil, Nat.reduceAdd, Nat.reduceLT, dif_pos, List.getElem_toArray, Array.getInternal_eq_getElem, List.getElem_cons_succ, List.getElem_cons_zero]
    all_goals rw [HV.out]
    all_goals simp_all
    all_goals omega
  · have h0 : s.size = 0 := by omega
    have hd : s.data.toList = [] := List.eq_nil_of_length_eq_zero (by rw [← size_eq]; exact h0)
    have hne : s.toList.isEmpty = true := by rw [toList_eq, hd]; rfl
    have hv : nameOK s = false := by unfold nameOK; rw [hd]
    have HV := Lib.hid hv; clear hv hd
    go_enter Tryz.func85, Tryz.ntmps85
    go_wp2
    go_ret
    exact ⟨ret_b HV.out.symm, New.refl _⟩

theorem notPart_tree (s : ByteArray) (w : World) : Calls Tryz.prog 84 #[.string s] w fun e w' => e = .returned (.bool (!nameOK s)) ∧ New w w' := by
  go_enter Tryz.func84, Tryz.ntmps84
  go_wp2_with (go_at_call 85; refine (part_tree _ _).mono ?_; rintro e w' ⟨rfl, hn⟩)
  go_ret
  exact ⟨rfl, hn⟩

set_option maxRecDepth 100000 in
set_option maxHeartbeats 1000000 in
theorem indexFunc_parts (A : Option Addr) (c : Nat) (ws : List ByteArray) (w : World) (hl : ws.length ≤ 4294967295) (hr : Rd w 1 A ws.length (ws.map Value.string)) :
    Calls Tryz.prog 120 #[.slice A ws.length c, .func (.func 84) #[] #[]] w fun e w' => (∃ i : Int, e = .returned (.int .i64 i) ∧ decide (0 ≤ i) = ws.any (fun s => !nameOK s)) ∧ New w w' := by
  go_enter Tryz.func120, Tryz.ntmps120
  go_wp2
  go_loopw [8] (fun v wr => ∃ k : Nat, k ≤ ws.length ∧ v = .int .i64 k ∧ New w wr ∧ Hid ((ws.take k).any (fun s => !nameOK s) = false)) (fun v _ => ws.length - (intOf v).toNat)
  case atStart => exact ⟨0, Nat.zero_le _, rfl, New.refl _, rfl⟩
  case round =>
    obtain ⟨k, hk, rfl, hn, H⟩ := hrel
    by_cases hlt : k < ws.length
    · obtain ⟨bk, o, rfl, _, hc⟩ := (hr.below hn).2 (by omega)
      have hck : wr.cell? ⟨bk, o + k, none⟩ = some (.string ws[k]) := hc k _ (by simp [hlt])
      have ht : (ws.take (k + 1)).any (fun s => !nameOK s) = (!nameOK ws[k]) := by
        rw [List.take_succ_eq_append_getElem hlt, List.any_append, H.out]; simp
      generalize hs : ws[k] = s at *
      have HS := Lib.hid hs
      have HT := Lib.hid ht
      clear hc hs ht
      cases hb : nameOK s
      · have HB := Lib.hid hb; clear hb
        go_wp2_with (first | (go_at_call 84; refine (notPart_tree _ _).mono ?_; rw [HB.out]; rintro e w' ⟨rfl, hn2⟩))
        go_ret
        refine ⟨⟨k, rfl, ?_⟩, hn.trans hn2⟩
        rw [← List.take_append_drop (k + 1) ws, List.any_append, HT.out, HB.out]; simp
      · have HB := Lib.hid hb; clear hb
        go_wp2_with (first | (go_at_call 84; refine (notPart_tree _ _).mono ?_; rw [HB.out]; rintro e w' ⟨rfl, hn2⟩))
        go_roundw
        case rel => exact ⟨k + 1, by omega, by go_num, hn.trans hn2, by rw [HT.out, HB.out]; rfl⟩
        case measure => simp [intOf]; omega
    · have : k = ws.length := by omega
      subst this
      go_wp2
      go_ret
      exact ⟨⟨-1, rfl, by have := H.out; rw [List.take_length] at this; rw [this]; rfl⟩, hn⟩
theorem containsFunc_parts (A : Option Addr) (c : Nat) (ws : List ByteArray) (bb : Bool) (hbb : Hid (ws.any (fun s => !nameOK s) = bb)) (w : World) (hl : ws.length ≤ 4294967295) (hr : Rd w 1 A ws.length (ws.map Value.string)) :
    Calls Tryz.prog 83 #[.slice A ws.length c, .func (.func 84) #[] #[]] w fun e w' => e = .returned (.bool bb) ∧ New w w' := by
  go_enter Tryz.func83, Tryz.ntmps83
  go_wp2_with (go_at_call 120; refine (indexFunc_parts _ _ _ _ hl hr).mono ?_; rintro e w' ⟨⟨i, rfl, hi⟩, hn⟩; have HI := Lib.hid hi; clear hi)
  go_ret
  exact ⟨ret_b (HI.out.trans hbb.out), hn⟩

def pathE (s : ByteArray) : Int := if pathOK s then 0 else 2
theorem rd_new (w : World) (vs : List Value) (t : TypeId) (n : Nat) (hn : vs.length = n * 1) : Rd (w.alloc (.cells vs.toArray t)) 1 (some ⟨w.heap.size, 0, none⟩) n vs := by
  refine ⟨hn, fun _ => ⟨_, 0, rfl, by simp, fun j u hu => ?_⟩⟩
  rw [Nat.zero_add, cell_of_row _ w.heap.size j vs.toArray t (0, 0) (heap_alloc_new w _)]
  simpa using hu
set_option maxRecDepth 100000 in
set_option maxHeartbeats 1000000 in
theorem path_any (s : ByteArray) (w : World) (hs : s.size < 4294967281) (hE : Env w) : Calls Tryz.prog 55 #[.string s] w fun e w' => e = .returned (.int .i64 (pathE s)) ∧ New w w' := by
  obtain ⟨m, hm⟩ := hE.maxlen
  have hsp := Tryz.strings_Split s ⟨#[47]⟩ m w hs hm (by simp [ByteArray.size])
  rw [splitB_cut 47 _ s rfl, countB_one 47 s] at hsp
  have hpl : (parts 47 s).length ≤ s.size + 1 := by rw [parts_length, size_eq]; have := List.count_le_length (a := (47 : UInt8)) (l := s.data.toList); omega
  generalize hw : parts 47 s = ws at *
  have HW := Lib.hid hw; clear hw
  have HSP := Lib.hid hsp; clear hsp
  have hr : Rd (w.alloc (.cells (ws.map Value.string).toArray 9)) 1 (some ⟨w.heap.size, 0, none⟩) ws.length (ws.map Value.string) := by
    exact rd_new w _ 9 _ (by simp)
  obtain ⟨bb, hbb⟩ : ∃ bb, ws.any (fun s => !nameOK s) = bb := ⟨_, rfl⟩
  have hp : pathE s = if decide (s.size ≤ 128) && decide (ws.length ≤ 8) && !bb then 0 else 2 := by
    rw [pathE, pathOK, HW.out, ← hbb]
    congr 2
    rw [List.any_eq_not_all_not]; simp
  have HB := Lib.hid hbb
  have HP := Lib.hid hp; clear hp hbb
  cases bb
  all_goals
    go_enter Tryz.func55, Tryz.ntmps55
    go_wp2_with (first | (go_at_call 82; refine HSP.out.mono ?_; rintro e w' ⟨rfl, rfl⟩) | (go_at_call 83; refine (containsFunc_parts _ _ ws _ HB _ (by omega) hr).mono ?_; rintro e w' ⟨rfl, hn⟩))
    all_goals go_ret
    all_goals refine ⟨ret_i ?_, by first | exact (New.refl _).alloc _ | exact ((New.refl _).alloc _).trans hn⟩
    all_goals rw [HP.out]
    all_goals clear HP HW HSP hr
    all_goals first | exact (if_neg (by simp <;> omega)).symm | exact (if_pos (by simp <;> omega)).symm
end Go.Proofs.YtnjampfhkojbnaaGreatDoor

namespace Go.Proofs.YtnjampfhkojbnaaGreatDoor
open Go Go.RowKit Go.Joins
set_option linter.unusedSimpArgs false
set_option linter.unusedVariables false

def letR (r : Int) : Bool := (decide (97 ≤ r) && decide (r ≤ 122)) || r == 95
def digR (r : Int) : Bool := decide (48 ≤ r) && decide (r ≤ 57)
theorem letter_any (r : Int) (w : World) : Calls Tryz.prog 155 #[.int .i32 r] w fun e w' => e = .returned (.bool (letR r)) ∧ w' = w := by
  go_enter Tryz.func155, Tryz.ntmps155
  go_wp2
  all_goals go_ret
  all_goals refine ⟨?_, rfl⟩
  all_goals simp only [Array.getD, List.size_toArray, List.length_cons, List.length_nil, Nat.reduceAdd, Nat.reduceLT, dif_pos, List.getElem_toArray, Array.getInternal_eq_getElem, List.getElem_cons_succ, List.getElem_cons_zero]
  all_goals refine ret_b ?_
  all_goals (rw [Bool.eq_iff_iff]; simp [letR] <;> omega)
theorem digit_any (r : Int) (w : World) : Calls Tryz.prog 157 #[.int .i32 r] w fun e w' => e = .returned (.bool (digR r)) ∧ w' = w := by
  go_enter Tryz.func157, Tryz.ntmps157
  go_wp2
  all_goals go_ret
  all_goals refine ⟨?_, rfl⟩
  all_goals simp only [Array.getD, List.size_toArray, List.length_cons, List.length_nil, Nat.reduceAdd, Nat.reduceLT, dif_pos, List.getElem_toArray, Array.getInternal_eq_getElem, List.getElem_cons_succ, List.getElem_cons_zero]
  all_goals refine ret_b ?_
  all_goals (rw [Bool.eq_iff_iff]; simp [digR] <;> omega)
def stopR (names : Bool) (r : Nat) : Bool := !digR r && !(names && letR r)
theorem stop_any (names : Bool) (r : Nat) (g : Nat) (w : World) (hc : w.cell? ⟨g, 0, none⟩ = some (.bool names)) :
    Calls Tryz.prog 167 (#[.int .i32 (r : Int)] ++ #[.pointer (some ⟨g, 0, none⟩)]) w fun e w' => e = .returned (.bool (stopR names r)) ∧ ∃ q, w' = w.drewN q := by
  obtain ⟨B, hB⟩ : ∃ B, stopR names r = B := ⟨_, rfl⟩
  rw [hB]
  unfold stopR at hB
  have HD := Lib.hid (digit_any (r : Int))
  have HLt := Lib.hid (letter_any (r : Int))
  cases hd : digR r <;> cases names <;> cases hl : letR r
  all_goals
    rw [hd, hl] at hB
    rw [hd] at HD
    rw [hl] at HLt
    have HS := Lib.hid hB
    clear hB hd hl
    go_enter Tryz.func167, Tryz.ntmps167
    go_wp2_with (first | (go_at_call 157; refine (HD.out _).mono ?_; rintro e w' ⟨rfl, hw⟩; rw [hw]) | (go_at_call 155; refine (HLt.out _).mono ?_; rintro e w' ⟨rfl, hw⟩; rw [hw]))
    go_ret
    exact ⟨ret_b HS.out, 0, rfl⟩
def runV (names : Bool) (s : ByteArray) : Nat := (s.data.toList.takeWhile fun c => !stopR names c.toNat).length
theorem runV_le (names : Bool) (s : ByteArray) : runV names s ≤ s.size := by
  rw [runV, size_eq]; exact List.Sublist.length_le (List.takeWhile_sublist _)
theorem stop_big (names : Bool) (r : Nat) (h : 128 ≤ r) : stopR names r = true := by
  unfold stopR digR letR
  have h1 : decide ((r : Int) ≤ 57) = false := decide_eq_false (by omega)
  have h2 : decide ((r : Int) ≤ 122) = false := decide_eq_false (by omega)
  have h3 : ((r : Int) == 95) = false := beq_eq_false_iff_ne.2 (by omega)
  rw [h1, h2, h3]; simp
set_option maxRecDepth 100000 in
set_option maxHeartbeats 1000000 in
theorem run_any (names : Bool) (s : ByteArray) (w : World) : Calls Tryz.prog 156 #[.string s, .bool names] w fun e w' => e = .returned (.int .i64 (runV names s : Nat)) ∧ New w w' := by
  have hnA := (New.refl w).alloc (.cells #[.bool names] 4)
  have hB := Blk.made w 4 #[.bool names]
  have h := Tryz.strings_IndexFunc 167 #[.pointer (some ⟨w.heap.size, 0, none⟩)] (enters_of Tryz.func167 (by kernel_rfl) rfl) (stopR names) s (w.alloc (.cells #[.bool names] 4)) (fun W r hW => stop_any names r w.heap.size W ((hB.new hW).cell' 0 _ rfl))
  rw [idx_bytes _ (fun r hr => stop_big names r hr)] at h
  have hrl := runV_le names s
  have hv : (s.data.toList.takeWhile fun c => !stopR names c.toNat).length = runV names s := rfl
  rw [hv] at h
  generalize runV names s = n at *
  by_cases hn : n < s.size
  · rw [if_pos hn] at h
    have H := Lib.hid h
    have t1 : ¬ ((n : Int) < 0) := by omega
    clear h hv
    go_enter Tryz.func156, Tryz.ntmps156
    go_wp2_with (go_at_call 142; refine H.out.mono ?_; rintro e w' ⟨rfl, hw⟩)
    go_ret
    exact ⟨rfl, hnA.trans hw⟩
  · rw [if_neg hn] at h
    have H := Lib.hid h
    obtain rfl : n = s.size := by omega
    clear h hv
    go_enter Tryz.func156, Tryz.ntmps156
    go_wp2_with (go_at_call 142; refine H.out.mono ?_; rintro e w' ⟨rfl, hw⟩)
    go_ret
    exact ⟨rfl, hnA.trans hw⟩
end Go.Proofs.YtnjampfhkojbnaaGreatDoor

namespace Go.Proofs.YtnjampfhkojbnaaGreatDoor
open Go Go.RowKit Go.Joins
set_option linter.unusedSimpArgs false
set_option linter.unusedVariables false

theorem take_all {p : UInt8 → Bool} : ∀ {l : List UInt8}, (l.takeWhile p).length = l.length → ∀ b ∈ l, p b = true
  | [], _, b, hb => by cases hb
  | c :: l, h, b, hb => by
    cases hc : p c with
    | false => rw [List.takeWhile_cons_of_neg (by rw [hc]; decide)] at h; simp at h
    | true =>
      rw [List.takeWhile_cons_of_pos hc] at h
      rcases List.mem_cons.1 hb with rfl | hb
      · exact hc
      · exact take_all (by simpa using h) b hb
theorem run_digits {s : ByteArray} (h : runV false s = s.size) (k : Nat) (hk : k < s.size) : 48 ≤ (s[k]'hk).toNat ∧ (s[k]'hk).toNat ≤ 57 := by
  have hm : s[k] ∈ s.data.toList := by rw [get_eq s k hk]; exact List.getElem_mem _
  have := take_all (p := fun c => !stopR false c.toNat) (l := s.data.toList) (by rw [← size_eq]; exact h) _ hm
  unfold stopR digR at this
  simp at this
  omega
set_option maxRecDepth 100000 in
set_option maxHeartbeats 2000000 in
theorem number_weak (s : ByteArray) (w : World) (hs : s.size ≤ 9223372036854775807) : Calls Tryz.prog 158 #[.string s] w fun e w' => (∃ v x : Int, e = .returned (.tuple #[.int .u32 v, .int .i64 x])) ∧ New w w' := by
  have HR := Lib.hid (run_any false s)
  by_cases h0 : 0 < s.size
  · have hne : s.toList.isEmpty = false := by rw [toList_eq, data_cons h0]; rfl
    by_cases hr : runV false s = s.size
    · have hd0 := run_digits hr 0 h0
      have HD := Lib.hid (fun k hk => run_digits hr k hk)
      rw [hr] at HR
      have t1 : ((s.size : Int) != (s.size : Int)) = false := by simp
      clear hr
      by_cases hz : 1 < s.size ∧ s[0].toNat = 48
      · obtain ⟨z1, z2⟩ := hz
        have t2 : ((s[0].toNat : Int) == 48) = true := beq_iff_eq.2 (by omega)
        have t3 : (1 : Int) < (s.size : Int) := by omega
        go_enter Tryz.func158, Tryz.ntmps158
        go_wp2_with (go_at_call 156; refine (HR.out _).mono ?_; rintro e w1 ⟨rfl, n1⟩)
        exact bodyPost_ret (v := .tuple #[.int .u32 0, .int .i64 4]) (by simp [results, Tryz.results158, go_sem]) rfl ⟨⟨_, _, rfl⟩, n1⟩
      · by_cases z1 : 1 < s.size
        · have z2 : s[0].toNat ≠ 48 := fun q => hz ⟨z1, q⟩
          have t2 : ((s[0].toNat : Int) == 48) = false := beq_eq_false_iff_ne.2 (by omega)
          have t3 : (1 : Int) < (s.size : Int) := by omega
          clear hz hd0
          go_enter Tryz.func158, Tryz.ntmps158
          go_wp2_with (go_at_call 156; refine (HR.out _).mono ?_; rintro e w1 ⟨rfl, n1⟩)
          go_loopw [4, 6] (fun v4 v6 wr => ∃ (k : Nat) (n : Int), k ≤ s.size ∧ v4 = .int .u64 n ∧ 0 ≤ n ∧ n ≤ 4294967295 ∧ wr = w1.iter s k) (fun _ _ wr => s.size - wr.iterPos w1.heap.size)
          case atStart => exact ⟨0, 0, by omega, rfl, by omega, by omega, rfl⟩
          case round =>
            obtain ⟨k, n, hk, rfl, hn0, hn1, rfl⟩ := hrel
            by_cases hlt : k < s.size
            · obtain ⟨d1, d2⟩ := HD.out k hlt
              have hnx := fun ty => run_next_ascii (P := Tryz.prog) w1 s k ty hlt (by omega)
              generalize (s[k]'hlt).toNat = c at *
              have e1 : IntKind.i32.wrap ((c : Int) - 48) = (c : Int) - 48 := IntWalk.i32_in _ (by omega)
              have e2 : IntKind.u64.wrap ((c : Int) - 48) = (c : Int) - 48 := IntWalk.u64_in _ (by omega)
              have e3 : IntKind.u64.wrap (10 * n) = 10 * n := IntWalk.u64_in _ (by omega)
              have e4 : IntKind.u64.wrap (10 * n + ((c : Int) - 48)) = 10 * n + ((c : Int) - 48) := IntWalk.u64_in _ (by omega)
              by_cases hbig : 4294967295 < 10 * n + ((c : Int) - 48)
              · go_wp2
                exact bodyPost_ret (v := .tuple #[.int .u32 0, .int .i64 3]) (by simp [results, Tryz.results158, go_sem]) rfl ⟨⟨_, _, rfl⟩, n1.alloc _⟩
              · go_wp2
                go_roundw
                case rel => exact ⟨k + 1, 10 * n + ((c : Int) - 48), by omega, rfl, by omega, by omega, rfl⟩
                case measure => simp; omega
            · obtain rfl : k = s.size := by omega
              have hnx := fun ty => run_next_end (P := Tryz.prog) w1 s s.size ty (by omega)
              go_wp2
              exact bodyPost_ret (v := .tuple #[.int .u32 _, .int .i64 0]) (by simp [results, Tryz.results158, go_sem]; rfl) rfl ⟨⟨_, _, rfl⟩, n1.alloc _⟩
        · have t3 : ¬ (1 : Int) < (s.size : Int) := by omega
          clear hz hd0
          go_enter Tryz.func158, Tryz.ntmps158
          go_wp2_with (go_at_call 156; refine (HR.out _).mono ?_; rintro e w1 ⟨rfl, n1⟩)
          go_loopw [4, 6] (fun v4 v6 wr => ∃ (k : Nat) (n : Int), k ≤ s.size ∧ v4 = .int .u64 n ∧ 0 ≤ n ∧ n ≤ 4294967295 ∧ wr = w1.iter s k) (fun _ _ wr => s.size - wr.iterPos w1.heap.size)
          case atStart => exact ⟨0, 0, by omega, rfl, by omega, by omega, rfl⟩
          case round =>
            obtain ⟨k, n, hk, rfl, hn0, hn1, rfl⟩ := hrel
            by_cases hlt : k < s.size
            · obtain ⟨d1, d2⟩ := HD.out k hlt
              have hnx := fun ty => run_next_ascii (P := Tryz.prog) w1 s k ty hlt (by omega)
              generalize (s[k]'hlt).toNat = c at *
              have e1 : IntKind.i32.wrap ((c : Int) - 48) = (c : Int) - 48 := IntWalk.i32_in _ (by omega)
              have e2 : IntKind.u64.wrap ((c : Int) - 48) = (c : Int) - 48 := IntWalk.u64_in _ (by omega)
              have e3 : IntKind.u64.wrap (10 * n) = 10 * n := IntWalk.u64_in _ (by omega)
              have e4 : IntKind.u64.wrap (10 * n + ((c : Int) - 48)) = 10 * n + ((c : Int) - 48) := IntWalk.u64_in _ (by omega)
              by_cases hbig : 4294967295 < 10 * n + ((c : Int) - 48)
              · go_wp2
                exact bodyPost_ret (v := .tuple #[.int .u32 0, .int .i64 3]) (by simp [results, Tryz.results158, go_sem]) rfl ⟨⟨_, _, rfl⟩, n1.alloc _⟩
              · go_wp2
                go_roundw
                case rel => exact ⟨k + 1, 10 * n + ((c : Int) - 48), by omega, rfl, by omega, by omega, rfl⟩
                case measure => simp; omega
            · obtain rfl : k = s.size := by omega
              have hnx := fun ty => run_next_end (P := Tryz.prog) w1 s s.size ty (by omega)
              go_wp2
              exact bodyPost_ret (v := .tuple #[.int .u32 _, .int .i64 0]) (by simp [results, Tryz.results158, go_sem]; rfl) rfl ⟨⟨_, _, rfl⟩, n1.alloc _⟩
    · have hle := runV_le false s
      have t1 : ((runV false s : Int) != (s.size : Int)) = true := bne_iff_ne.2 (by omega)
      generalize runV false s = rn at *
      clear hr
      go_enter Tryz.func158, Tryz.ntmps158
      go_wp2_with (go_at_call 156; refine (HR.out _).mono ?_; rintro e w1 ⟨rfl, n1⟩)
      exact bodyPost_ret (v := .tuple #[.int .u32 0, .int .i64 4]) (by simp [results, Tryz.results158, go_sem]) rfl ⟨⟨_, _, rfl⟩, n1⟩
  · have h0 : s.size = 0 := by omega
    have hd : s.data.toList = [] := List.eq_nil_of_length_eq_zero (by rw [← size_eq]; exact h0)
    have hne : s.toList.isEmpty = true := by rw [toList_eq, hd]; rfl
    clear hd
    go_enter Tryz.func158, Tryz.ntmps158
    go_wp2
    exact bodyPost_ret (v := .tuple #[.int .u32 0, .int .i64 4]) (by simp [results, Tryz.results158, go_sem]) rfl ⟨⟨_, _, rfl⟩, New.refl _⟩
set_option maxRecDepth 100000 in
set_option maxHeartbeats 2000000 in
theorem symbol_weak (s : ByteArray) (w : World) (hs : s.size ≤ 9223372036854775807) (h0 : 0 < s.size) : Calls Tryz.prog 159 #[.string s] w fun e w' => (∃ v, e = .returned (.string v)) ∧ New w w' := by
  have HI := Lib.hid (fun c w => Tryz.strings_IndexByte ⟨#[124, 94, 38, 60, 62, 43, 45, 42, 47, 37, 126, 33, 40, 41, 44, 61]⟩ c w)
  have hne : s.toList.isEmpty = false := by rw [toList_eq, data_cons h0]; rfl
  by_cases h1 : 1 < s.size
  · have t3 : (1 : Int) < (s.size : Int) := by omega
    obtain ⟨t, ht⟩ : ∃ t, s.extract 0 2 = t := ⟨_, rfl⟩
    obtain ⟨t', ht'⟩ : ∃ t, s.extract 0 1 = t := ⟨_, rfl⟩
    go_enter Tryz.func159, Tryz.ntmps159
    go_wp2_with (go_at_call 168; refine (HI.out _ _).mono ?_; rintro e w1 ⟨rfl, hw⟩; rw [hw])
    all_goals go_ret
    all_goals exact ⟨⟨_, rfl⟩, New.refl _⟩
  · have t3 : ¬ (1 : Int) < (s.size : Int) := by omega
    go_enter Tryz.func159, Tryz.ntmps159
    go_wp2_with (go_at_call 168; refine (HI.out _ _).mono ?_; rintro e w1 ⟨rfl, hw⟩; rw [hw])
    all_goals go_ret
    all_goals exact ⟨⟨_, rfl⟩, New.refl _⟩
end Go.Proofs.YtnjampfhkojbnaaGreatDoor

