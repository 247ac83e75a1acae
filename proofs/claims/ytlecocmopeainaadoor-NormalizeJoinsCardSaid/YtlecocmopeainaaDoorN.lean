/- normalize.Valid and the reference's: which texts of words are valid. No conditions but the lengths' own. -/
import Derived.Test.YtlecocmopeainaaDoorK
namespace Go.Proofs.YtlecocmopeainaaDoor
open Go Go.RowKit Go.Joins Go.Shelf
set_option linter.unusedSimpArgs false

/-! ### texts with any lines -/
abbrev Lz := ByteArray × Int
def zCells (l : List Lz) : List Value := l.flatMap fun x => [.string x.1, .int .i64 x.2]
theorem zCells_at : ∀ (l : List Lz) (k : Nat) (h : k < l.length), (zCells l)[k * 2]? = some (.string l[k].1) ∧ (zCells l)[k * 2 + 1]? = some (.int .i64 l[k].2)
  | [], k, h => by simp at h
  | x :: l, 0, _ => ⟨rfl, rfl⟩
  | x :: l, k + 1, h => by
    have ih := zCells_at l k (by simpa using h)
    have e1 : (k + 1) * 2 = k * 2 + 2 := by omega
    have e2 : zCells (x :: l) = .string x.1 :: .int .i64 x.2 :: zCells l := rfl
    rw [e1, e2]
    simpa using ih
def toZ (l : List Lx) : List Lz := l.map fun x => (x.1, (x.2 : Int))
theorem toZ_cells (l : List Lx) : zCells (toZ l) = lxCells l := by simp [zCells, toZ, lxCells, List.flatMap_map]
/-- A text of words as a value, with any lines. -/
def ZText (w : World) (v : Value) (p : ByteArray) (ws : List Lz) : Prop :=
  ∃ A c, v = .agg #[.string p, .slice A ws.length c] ∧ ws.length ≤ c ∧ c ≤ maxLen ∧ Rd w 2 A ws.length (zCells ws)
theorem ZText.new {w w' : World} {v : Value} {p : ByteArray} {ws : List Lz} (h : ZText w v p ws) (hn : New w w') : ZText w' v p ws :=
  let ⟨A, c, e, h1, h2, hr⟩ := h
  ⟨A, c, e, h1, h2, hr.below hn⟩
theorem RText.z {w : World} {v : Value} {p : ByteArray} {ws : List Lx} (h : RText w v p ws) : ZText w v p (toZ ws) := by
  obtain ⟨A, c, e, h1, h2, hr⟩ := h
  have hl : (toZ ws).length = ws.length := List.length_map _
  exact ⟨A, c, by rw [hl]; exact e, by rw [hl]; exact h1, h2, by rw [hl, toZ_cells]; exact hr⟩

/-! ### valid words -/
def wordOK (s : ByteArray) : Bool := decide (0 < s.size) && s.data.toList.all fun c => !blank c
def okFrom : Int → List Lz → Bool
  | _, [] => true
  | m, x :: l => wordOK x.1 && decide (m ≤ x.2) && decide (x.2 < 1024) && okFrom x.2 l
def validV (p : ByteArray) (ws : List Lz) : Bool := decide (ws.length ≤ 8192) && pathOK p && okFrom 0 ws

/-! ### slices.ContainsFunc over bytes, at blank -/
def byCells (s : ByteArray) : List Value := s.data.toList.map fun c => .int .u8 (c.toNat : Nat)
def anyBlank (s : ByteArray) : Bool := s.data.toList.any blank
set_option maxRecDepth 100000 in
set_option maxHeartbeats 1000000 in
theorem indexFunc_bytes (A : Option Addr) (c n : Nat) (s : ByteArray) (hsz : s.data.toList.length = n) (w : World) (hl : n ≤ 9223372036854775806) (hr : Rd w 1 A n (byCells s)) :
    Calls Tryd.prog 84 #[.slice A n c, .func (.func 49) #[] #[]] w fun e w' => (∃ i : Int, e = .returned (.int .i64 i) ∧ decide (0 ≤ i) = anyBlank s) ∧ New w w' := by
  have HZ := Lib.hid hsz
  clear hsz
  go_enter Tryd.func84, Tryd.ntmps84
  go_wp2
  go_loopw [8] (fun v wr => ∃ k : Nat, k ≤ n ∧ v = .int .i64 k ∧ New w wr ∧ Hid ((s.data.toList.take k).any blank = false)) (fun v _ => n - (intOf v).toNat)
  case atStart => exact ⟨0, Nat.zero_le _, rfl, New.refl _, Lib.hid rfl⟩
  case round =>
    obtain ⟨k, hk, rfl, hn, H⟩ := hrel
    by_cases hlt : k < n
    · obtain ⟨bk, o, rfl, _, hc⟩ := (hr.below hn).2 (by omega)
      have hkl : k < s.data.toList.length := by rw [HZ.out]; exact hlt
      have hck : wr.cell? ⟨bk, o + k, none⟩ = some (.int .u8 ((s.data.toList[k]).toNat : Nat)) := hc k _ (by rw [byCells, List.getElem?_map, List.getElem?_eq_getElem hkl]; rfl)
      have ht : (s.data.toList.take (k + 1)).any blank = blank (s.data.toList[k]) := by
        rw [List.take_succ_eq_append_getElem hkl, List.any_append, H.out]; simp
      have hB : blankB (s.data.toList[k]).toNat = blank (s.data.toList[k]) := rfl
      generalize hs : s.data.toList[k] = b at *
      have HT := Lib.hid ht
      clear hc hs ht hkl
      cases hb : blank b
      · have HB := Lib.hid hb
        have HB2 := Lib.hid (hB.trans hb)
        clear hb hB
        go_wp2_with (go_at_call 49; refine (blank_any _ _).mono ?_; rw [HB2.out]; rintro e w' ⟨rfl, rfl⟩)
        go_roundw
        case rel => exact ⟨k + 1, by omega, by go_num, hn, Lib.hid (by rw [HT.out, HB.out])⟩
        case measure => simp [intOf]; omega
      · have HB := Lib.hid hb
        have HB2 := Lib.hid (hB.trans hb)
        clear hb hB
        go_wp2_with (go_at_call 49; refine (blank_any _ _).mono ?_; rw [HB2.out]; rintro e w' ⟨rfl, rfl⟩)
        go_ret
        refine ⟨⟨k, rfl, ?_⟩, hn⟩
        have : anyBlank s = true := by
          rw [anyBlank, ← List.take_append_drop (k + 1) s.data.toList, List.any_append, HT.out, HB.out]; rfl
        rw [this]; simp
    · have : k = n := by omega
      subst this
      go_wp2
      go_ret
      refine ⟨⟨-1, rfl, ?_⟩, hn⟩
      have h2 := H.out
      rw [List.take_of_length_le (by rw [HZ.out]; exact Nat.le_refl _)] at h2
      rw [anyBlank, h2]; rfl
theorem containsFunc_bytes (A : Option Addr) (c n : Nat) (s : ByteArray) (bb : Bool) (hbb : Hid (anyBlank s = bb)) (hsz : s.data.toList.length = n) (w : World) (hl : n ≤ 9223372036854775806) (hr : Rd w 1 A n (byCells s)) :
    Calls Tryd.prog 48 #[.slice A n c, .func (.func 49) #[] #[]] w fun e w' => e = .returned (.bool bb) ∧ New w w' := by
  have HZ := Lib.hid hsz
  clear hsz
  go_enter Tryd.func48, Tryd.ntmps48
  go_wp2_with (go_at_call 84; refine (indexFunc_bytes _ _ _ s HZ.out _ hl hr).mono ?_; rintro e w' ⟨⟨i, rfl, hi⟩, hn⟩; have HI := Lib.hid hi; clear hi)
  go_ret
  exact ⟨ret_b (HI.out.trans hbb.out), hn⟩

theorem wordOK_eq (s : ByteArray) (h : 0 < s.size) : wordOK s = !anyBlank s := by
  rw [wordOK, anyBlank, decide_eq_true h, Bool.true_and, List.any_eq_not_all_not, Bool.not_not]
theorem okFrom_drop {m : Int} {l : List Lz} {i : Nat} (h : i < l.length) : okFrom m (l.drop i) = (wordOK l[i].1 && decide (m ≤ l[i].2) && decide (l[i].2 < 1024) && okFrom l[i].2 (l.drop (i + 1))) := by
  rw [List.drop_eq_getElem_cons h]; rfl
theorem rd_bytes (w : World) (s : ByteArray) : Rd (Lib.bytesWorld w 5 s) 1 (some ⟨w.heap.size, 0, none⟩) s.size (byCells s) := by
  refine ⟨by rw [byCells, List.length_map, ← size_eq, Nat.mul_one], fun _ => ⟨_, 0, rfl, by rw [Lib.bytesWorld_size]; omega, fun k u hu => ?_⟩⟩
  obtain ⟨hk, rfl⟩ := List.getElem?_eq_some_iff.1 hu
  have hk' : k < s.data.toList.length := by simpa [byCells] using hk
  rw [Nat.zero_add, Lib.bytesWorld_cell _ _ _ _ (by rw [size_eq]; exact hk')]
  simp [byCells, List.getD, List.getElem?_eq_getElem hk']
theorem rd_bytes' (w : World) (o : Obj) (s : ByteArray) : Rd (Lib.bytesWorld (w.alloc o) 5 s) 1 (some ⟨w.heap.size + 1, 0, none⟩) s.size (byCells s) := by
  have := rd_bytes (w.alloc o) s
  rwa [World.size_alloc] at this
end Go.Proofs.YtlecocmopeainaaDoor
