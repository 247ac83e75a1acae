/- tree.Path: which strings it accepts. The strings are shorter than 2^32 - 15 bytes (a bound of the model's for strings.Split). -/
import Derived.Test.YtlecocmopeainaaDoorB
import Derived.Lib.SplitLaws
import Derived.Lib.Split
namespace Go.Proofs.YtlecocmopeainaaDoor
open Go.RowKit Go.Joins

/-! ### the parts between the places of a byte -/
def cut (c : UInt8) : List UInt8 → List (List UInt8)
  | [] => [[]]
  | b :: r => if b = c then [] :: cut c r else match cut c r with
    | [] => [[b]]
    | h :: t => (b :: h) :: t
theorem cut_ne (c : UInt8) (l : List UInt8) : cut c l ≠ [] := by
  cases l with
  | nil => simp [cut]
  | cons b r =>
    unfold cut
    split
    · simp
    · split <;> simp
theorem cut_length (c : UInt8) : ∀ l : List UInt8, (cut c l).length = l.count c + 1
  | [] => rfl
  | b :: r => by
    have ih := cut_length c r
    unfold cut
    by_cases h : b = c
    · subst h; rw [if_pos rfl, List.length_cons, ih, List.count_cons_self]
    · rw [if_neg h, List.count_cons_of_ne h]
      cases e : cut c r with
      | nil => exact absurd e (cut_ne c r)
      | cons x t => rw [e] at ih; simpa using ih
theorem cut_none (c : UInt8) : ∀ l : List UInt8, Lib.indexByte l c = -1 → cut c l = [l]
  | [], _ => rfl
  | b :: r, h => by
    have hg := Lib.indexByte_ge r c
    unfold Lib.indexByte at h
    by_cases hb : b = c
    · subst hb; simp at h
    · rw [if_neg (by simpa using hb)] at h
      by_cases hr : Lib.indexByte r c = -1
      · unfold cut
        rw [if_neg hb, cut_none c r hr]
      · rw [if_neg (by simpa using hr)] at h
        omega
theorem cut_some (c : UInt8) : ∀ (l : List UInt8) (i : Nat), Lib.indexByte l c = i → cut c l = l.take i :: cut c (l.drop (i + 1))
  | [], i, h => by simp [Lib.indexByte] at h
  | b :: r, i, h => by
    have hg := Lib.indexByte_ge r c
    unfold Lib.indexByte at h
    by_cases hb : b = c
    · subst hb
      rw [if_pos (by simp)] at h
      obtain rfl : i = 0 := by omega
      simp [cut]
    · rw [if_neg (by simpa using hb)] at h
      by_cases hr : Lib.indexByte r c = -1
      · rw [if_pos (by simpa using hr)] at h; omega
      · rw [if_neg (by simpa using hr)] at h
        obtain ⟨j, rfl⟩ : ∃ j, i = j + 1 := ⟨i - 1, by omega⟩
        conv => lhs; unfold cut
        rw [if_neg hb, cut_some c r j (by omega)]
        simp

/-- The parts as strings. -/
def parts (c : UInt8) (s : ByteArray) : List ByteArray := (cut c s.data.toList).map S
theorem parts_length (c : UInt8) (s : ByteArray) : (parts c s).length = s.data.toList.count c + 1 := by rw [parts, List.length_map, cut_length]
theorem splitB_cut (c : UInt8) : ∀ (k : Nat) (s : ByteArray), Lib.countB s ⟨#[c]⟩ = k → Lib.splitB ⟨#[c]⟩ 0 k s = parts c s := by
  intro k
  induction k with
  | zero =>
    intro s h
    have hi : Lib.indexByte s.data.toList c = -1 := by
      rcases Lib.indexB_cases s ⟨#[c]⟩ with hm | ⟨i, hi, _⟩
      · rw [← Lib.index_one]; exact hm
      · have := Lib.countB_hit s ⟨#[c]⟩ i (by simp [ByteArray.size]) hi
        omega
    rw [Lib.splitB_zero, parts, cut_none c _ hi]
    simp [S_data]
  | succ k ih =>
    intro s h
    rcases Lib.indexB_cases s ⟨#[c]⟩ with hm | ⟨i, hi, _⟩
    · have := Lib.countB_miss s ⟨#[c]⟩ hm; omega
    · have hc := Lib.countB_hit s ⟨#[c]⟩ i (by simp [ByteArray.size]) hi
      have hib : Lib.indexByte s.data.toList c = i := by rw [← Lib.index_one]; exact hi
      have e1 : (⟨#[c]⟩ : ByteArray).size = 1 := rfl
      rw [e1] at hc
      rw [Lib.splitB_hit _ _ _ _ _ hi, e1, ih _ (by omega), parts, parts, cut_some c _ i hib, List.map_cons, ext_from, data_S, ext_to]
      rfl
theorem countB_one (c : UInt8) (s : ByteArray) : Lib.countB s ⟨#[c]⟩ + 1 = (parts c s).length := by
  rw [← splitB_cut c _ s rfl, Lib.splitB_all _ (by simp [ByteArray.size]) _ _ s rfl]

/-! ### paths -/
def okc (n : Int) : Bool := (decide (97 ≤ n) && decide (n ≤ 122)) || (decide (48 ≤ n) && decide (n ≤ 57)) || n == 46 || n == 95 || n == 45
def okb (c : UInt8) : Bool := okc c.toNat
def okAll (s : ByteArray) : Bool := s.data.toList.all okb
def nameOK (s : ByteArray) : Bool := match s.data.toList with
  | [] => false
  | c :: _ => decide (s.size ≤ 32) && !((c.toNat : Int) == 46) && !((c.toNat : Int) == 45) && okAll s
def pathOK (s : ByteArray) : Bool := decide (s.size ≤ 128) && decide ((parts 47 s).length ≤ 8) && (parts 47 s).all nameOK

theorem okc_any (r : Nat) (w : World) : Calls Tryd.prog 101 (#[.int .i32 (r : Int)] ++ #[]) w fun e w' => e = .returned (.bool (!okc r)) ∧ ∃ q, w' = w.drewN q := by
  go_enter Tryd.func101, Tryd.ntmps101
  go_wp2
  all_goals go_ret
  all_goals refine ⟨?_, 0, rfl⟩
  all_goals simp only [Array.getD, List.size_toArray, List.length_cons, List.length_nil, Nat.reduceAdd, Nat.reduceLT, dif_pos, List.getElem_toArray, Array.getInternal_eq_getElem, List.getElem_cons_succ, List.getElem_cons_zero]
  all_goals refine ret_b ?_
  all_goals (rw [Bool.eq_iff_iff]; simp [okc] <;> omega)
theorem contains_any (s : ByteArray) (w : World) :
    Calls Tryd.prog 100 #[.string s, .func (.func 101) #[] #[]] w fun e w' => e = .returned (.bool (!okAll s)) ∧ New w w' := by
  have h := Tryd.strings_ContainsFunc 101 #[] (enters_of Tryd.func101 (by kernel_rfl) rfl) (fun r => !okc r) s w (fun W r _ => okc_any r W)
  have hb : ∀ r, 128 ≤ r → (!okc (r : Nat)) = true := fun r hr => by
    simp only [okc, Bool.not_eq_true', Bool.or_eq_false_iff, Bool.and_eq_false_iff, decide_eq_false_iff_not, beq_eq_false_iff_ne]; omega
  rw [idx_bytes _ hb] at h
  have e : decide (0 ≤ (if (s.data.toList.takeWhile fun c => !!okc c.toNat).length < s.size then ((s.data.toList.takeWhile fun c => !!okc c.toNat).length : Int) else -1)) = !okAll s := by
    unfold okAll
    rw [show (fun c : UInt8 => !!okc c.toNat) = okb from funext fun c => by simp [okb], size_eq]
    generalize s.data.toList = l
    have hl := List.Sublist.length_le (List.takeWhile_sublist okb (l := l))
    by_cases ha : l.all okb = true
    · have : l.takeWhile okb = l := by
        clear hl h
        induction l with
        | nil => rfl
        | cons c r ih =>
          simp only [List.all_cons, Bool.and_eq_true] at ha
          rw [List.takeWhile_cons_of_pos ha.1, ih ha.2]
      rw [this, if_neg (by omega), ha]; rfl
    · have hlt : (l.takeWhile okb).length < l.length := by
        rcases Nat.lt_or_ge (l.takeWhile okb).length l.length with h1 | h1
        · exact h1
        · exfalso
          have e1 : l.takeWhile okb = l := (List.takeWhile_sublist okb).eq_of_length (by omega)
          apply ha
          rw [← e1]
          clear hl h h1 ha e1
          induction l with
          | nil => rfl
          | cons c r ih =>
            by_cases hc : okb c
            · rw [List.takeWhile_cons_of_pos hc, List.all_cons, hc, ih]; rfl
            · rw [List.takeWhile_cons_of_neg hc]; rfl
      rw [if_pos hlt]
      simp only [Bool.not_eq_true] at ha
      rw [ha]
      simp
  rw [e] at h
  exact h

set_option maxHeartbeats 1000000 in
theorem part_tree (s : ByteArray) (w : World) : Calls Tryd.prog 73 #[.string s] w fun e w' => e = .returned (.bool (nameOK s)) ∧ New w w' := by
  by_cases h0 : 0 < s.size
  · have hne : s.toList.isEmpty = false := by rw [toList_eq, data_cons h0]; rfl
    have hv : nameOK s = (decide (s.size ≤ 32) && !((s[0].toNat : Int) == 46) && !((s[0].toNat : Int) == 45) && okAll s) := by
      unfold nameOK
      rw [data_cons h0]
    have HV := Lib.hid hv; clear hv
    go_enter Tryd.func73, Tryd.ntmps73
    go_wp2_with (go_at_call 100; refine (contains_any _ _).mono ?_; rintro e w' ⟨rfl, hn⟩)
    all_goals go_ret
    all_goals refine ⟨ret_b ?_, by first | exact New.refl _ | assumption⟩
    all_goals try simp only [Array.getD, List.size_toArray, List.length_cons, List.length_nil, Nat.reduceAdd, Nat.reduceLT, dif_pos, List.getElem_toArray, Array.getInternal_eq_getElem, List.getElem_cons_succ, List.getElem_cons_zero]
    all_goals rw [HV.out]
    all_goals simp_all
    all_goals omega
  · have h0 : s.size = 0 := by omega
    have hd : s.data.toList = [] := List.eq_nil_of_length_eq_zero (by rw [← size_eq]; exact h0)
    have hne : s.toList.isEmpty = true := by rw [toList_eq, hd]; rfl
    have hv : nameOK s = false := by unfold nameOK; rw [hd]
    have HV := Lib.hid hv; clear hv hd
    go_enter Tryd.func73, Tryd.ntmps73
    go_wp2
    go_ret
    exact ⟨ret_b HV.out.symm, New.refl _⟩

theorem notPart_tree (s : ByteArray) (w : World) : Calls Tryd.prog 72 #[.string s] w fun e w' => e = .returned (.bool (!nameOK s)) ∧ New w w' := by
  go_enter Tryd.func72, Tryd.ntmps72
  go_wp2_with (go_at_call 73; refine (part_tree _ _).mono ?_; rintro e w' ⟨rfl, hn⟩)
  go_ret
  exact ⟨rfl, hn⟩

set_option maxRecDepth 100000 in
set_option maxHeartbeats 1000000 in
theorem indexFunc_parts (A : Option Addr) (c : Nat) (ws : List ByteArray) (w : World) (hl : ws.length ≤ 4294967295) (hr : Rd w 1 A ws.length (ws.map Value.string)) :
    Calls Tryd.prog 99 #[.slice A ws.length c, .func (.func 72) #[] #[]] w fun e w' => (∃ i : Int, e = .returned (.int .i64 i) ∧ decide (0 ≤ i) = ws.any (fun s => !nameOK s)) ∧ New w w' := by
  go_enter Tryd.func99, Tryd.ntmps99
  go_wp2
  go_loopw [8] (fun v wr => ∃ k : Nat, k ≤ ws.length ∧ v = .int .i64 k ∧ New w wr ∧ Hid ((ws.take k).any (fun s => !nameOK s) = false)) (fun v _ => ws.length - (intOf v).toNat)
  case atStart => exact ⟨0, Nat.zero_le _, rfl, New.refl _, rfl⟩
  case round =>
    obtain ⟨k, hk, rfl, hn, H⟩ := hrel
    by_cases hlt : k < ws.length
    · obtain ⟨bk, o, rfl, _, hc⟩ := (hr.below hn).2 (by omega)
      have hck : wr.cell? ⟨bk, o + k, none⟩ = some (.string ws[k]) := hc k _ (by simp [hlt])
      have ht : (ws.take (k + 1)).any (fun s => !nameOK s) = (!nameOK ws[k]) := by
        rw [List.take_succ_eq_append_getElem hlt, List.any_append, H.out]; simp
      generalize hs : ws[k] = s at *
      have HS := Lib.hid hs
      have HT := Lib.hid ht
      clear hc hs ht
      cases hb : nameOK s
      · have HB := Lib.hid hb; clear hb
        go_wp2_with (first | (go_at_call 72; refine (notPart_tree _ _).mono ?_; rw [HB.out]; rintro e w' ⟨rfl, hn2⟩))
        go_ret
        refine ⟨⟨k, rfl, ?_⟩, hn.trans hn2⟩
        rw [← List.take_append_drop (k + 1) ws, List.any_append, HT.out, HB.out]; simp
      · have HB := Lib.hid hb; clear hb
        go_wp2_with (first | (go_at_call 72; refine (notPart_tree _ _).mono ?_; rw [HB.out]; rintro e w' ⟨rfl, hn2⟩))
        go_roundw
        case rel => exact ⟨k + 1, by omega, by go_num, hn.trans hn2, by rw [HT.out, HB.out]; rfl⟩
        case measure => simp [intOf]; omega
    · have : k = ws.length := by omega
      subst this
      go_wp2
      go_ret
      exact ⟨⟨-1, rfl, by have := H.out; rw [List.take_length] at this; rw [this]; rfl⟩, hn⟩
theorem containsFunc_parts (A : Option Addr) (c : Nat) (ws : List ByteArray) (bb : Bool) (hbb : Hid (ws.any (fun s => !nameOK s) = bb)) (w : World) (hl : ws.length ≤ 4294967295) (hr : Rd w 1 A ws.length (ws.map Value.string)) :
    Calls Tryd.prog 71 #[.slice A ws.length c, .func (.func 72) #[] #[]] w fun e w' => e = .returned (.bool bb) ∧ New w w' := by
  go_enter Tryd.func71, Tryd.ntmps71
  go_wp2_with (go_at_call 99; refine (indexFunc_parts _ _ _ _ hl hr).mono ?_; rintro e w' ⟨⟨i, rfl, hi⟩, hn⟩; have HI := Lib.hid hi; clear hi)
  go_ret
  exact ⟨ret_b (HI.out.trans hbb.out), hn⟩

/-- The error of a path: 0, or ErrName. -/
def pathE (s : ByteArray) : Int := if pathOK s then 0 else 2
/-- A new block of cells reads as its cells. -/
theorem rd_new (w : World) (vs : List Value) (t : TypeId) (n : Nat) (hn : vs.length = n * 1) : Rd (w.alloc (.cells vs.toArray t)) 1 (some ⟨w.heap.size, 0, none⟩) n vs := by
  refine ⟨hn, fun _ => ⟨_, 0, rfl, by simp, fun j u hu => ?_⟩⟩
  rw [Nat.zero_add, cell_of_row _ w.heap.size j vs.toArray t (0, 0) (heap_alloc_new w _)]
  simpa using hu
set_option maxRecDepth 100000 in
set_option maxHeartbeats 1000000 in
theorem path_any (s : ByteArray) (w : World) (hs : s.size < 4294967281) (hE : Env w) : Calls Tryd.prog 38 #[.string s] w fun e w' => e = .returned (.int .i64 (pathE s)) ∧ New w w' := by
  obtain ⟨m, hm⟩ := hE.maxlen
  have hsp := Tryd.strings_Split s ⟨#[47]⟩ m w hs hm (by simp [ByteArray.size])
  rw [splitB_cut 47 _ s rfl, countB_one 47 s] at hsp
  have hpl : (parts 47 s).length ≤ s.size + 1 := by rw [parts_length, size_eq]; have := List.count_le_length (a := (47 : UInt8)) (l := s.data.toList); omega
  generalize hw : parts 47 s = ws at *
  have HW := Lib.hid hw; clear hw
  have HSP := Lib.hid hsp; clear hsp
  have hr : Rd (w.alloc (.cells (ws.map Value.string).toArray 9)) 1 (some ⟨w.heap.size, 0, none⟩) ws.length (ws.map Value.string) := by
    exact rd_new w _ 9 _ (by simp)
  obtain ⟨bb, hbb⟩ : ∃ bb, ws.any (fun s => !nameOK s) = bb := ⟨_, rfl⟩
  have hp : pathE s = if decide (s.size ≤ 128) && decide (ws.length ≤ 8) && !bb then 0 else 2 := by
    rw [pathE, pathOK, HW.out, ← hbb]
    congr 2
    rw [List.any_eq_not_all_not]; simp
  have HB := Lib.hid hbb
  have HP := Lib.hid hp; clear hp hbb
  cases bb
  all_goals
    go_enter Tryd.func38, Tryd.ntmps38
    go_wp2_with (first | (go_at_call 31; refine HSP.out.mono ?_; rintro e w' ⟨rfl, rfl⟩) | (go_at_call 71; refine (containsFunc_parts _ _ ws _ HB _ (by omega) hr).mono ?_; rintro e w' ⟨rfl, hn⟩))
    all_goals go_ret
    all_goals refine ⟨ret_i ?_, by first | exact (New.refl _).alloc _ | exact ((New.refl _).alloc _).trans hn⟩
    all_goals rw [HP.out]
    all_goals clear HP HW HSP hr
    all_goals first | exact (if_neg (by simp <;> omega)).symm | exact (if_pos (by simp <;> omega)).symm
end Go.Proofs.YtlecocmopeainaaDoor
