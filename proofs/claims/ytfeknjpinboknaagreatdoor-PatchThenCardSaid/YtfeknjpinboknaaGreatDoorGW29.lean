/- Pairs' row; a patch of one's own put into the result's block; empty rows. No conditions. The law's few: every string is short; what the two Makes return. Conditions: none but the model's own sizes. -/
import Derived.Test.YtfeknjpinboknaaGreatDoorGW25
import Derived.Test.YtfeknjpinboknaaGreatDoorGW28
import Derived.Test.YtfeknjpinboknaaGreatDoorGV
import Derived.Test.YtfeknjpinboknaaGreatDoorGW9

namespace Go.Proofs.YtfeknjpinboknaaGreatDoor
open Go Go.RowKit Go.Joins Go.Shelf
set_option linter.unusedSimpArgs false
set_option linter.unusedVariables false

theorem Tryz.underlying80' : Tryz.prog.underlying 80 = some (.slice 81) := by kernel_rfl
theorem Tryz.info81' : (Tryz.prog.info? 81).map (fun i => (i.zero, i.size, i.bytes)) = some (some (.agg #[.int .i64 0, .int .i64 0]), 2, 16) := by kernel_rfl
theorem kept_snd {α : Type} [DecidableEq α] : ∀ (a b : List α) (i j : Nat), ∀ p ∈ keptL a b i j, p.2 < j + b.length
  | [], b, i, j, p, h => by cases h
  | x :: a, b, i, j, p, h => by
    rw [keptL] at h
    split at h
    · rename_i k hf
      have hk := (List.getElem?_eq_some_iff.1 (firstK_some hf).1).1
      rcases List.mem_cons.1 h with rfl | h
      · simp only; omega
      · have := kept_snd a _ _ _ p h; rw [List.length_drop] at this; omega
    · exact kept_snd a _ _ _ p h
theorem BP.ret {w1 w' w : World} {base : ByteArray} {g b1 r c : Nat} {A : Option Addr} {hs : List Hm} (h : BP w1 w' g b1 hs (.slice A hs.length c)) (hw : New w w1) (B : Blk w' r 24 #[.string ⟨#[]⟩, .slice none 0 0]) (hr : w.heap.size ≤ r) :
    New w ((w'.setCell ⟨r, 0, none⟩ (.string base)).setCell ⟨r, 1, none⟩ (.slice A hs.length c)) ∧ PRd ((w'.setCell ⟨r, 0, none⟩ (.string base)).setCell ⟨r, 1, none⟩ (.slice A hs.length c)) A hs.length hs ∧ LnOK ((w'.setCell ⟨r, 0, none⟩ (.string base)).setCell ⟨r, 1, none⟩ (.slice A hs.length c)) hs ∧ hs.length ≤ c := by
  have nn := ((hw.trans h.nw).setCell (p := ⟨r, 0, none⟩) hr (.string base)).setCell (p := ⟨r, 1, none⟩) hr (.slice A hs.length c)
  have o1 := h.own.kept (grown_set w' r 0 (.string base)) (Or.inr (ne_kind (cs := []) h.own B (by decide)))
  have l1 := h.ln.keep (grown_set w' r 0 (.string base)) (fun q e => by injection e with e; subst e; exact ⟨_, 24, _, B, by decide⟩)
  have B1 := B.put 0 (.string base)
  have o2 := o1.kept (grown_set (w'.setCell ⟨r, 0, none⟩ (.string base)) r 1 (.slice A hs.length c)) (Or.inr (ne_kind (cs := []) o1 B1 (by decide)))
  have l2 := l1.keep (grown_set (w'.setCell ⟨r, 0, none⟩ (.string base)) r 1 (.slice A hs.length c)) (fun q e => by injection e with e; subst e; exact ⟨_, 24, _, B1, by decide⟩)
  obtain ⟨A', c', hq, hc, hp'⟩ := own_prd o2 l2
  obtain ⟨rfl, rfl⟩ : A = A' ∧ c = c' := by injection hq with q1 q2 q3; exact ⟨q1, q3⟩
  exact ⟨nn, hp', l2, hc⟩
theorem prd_nil (w : World) : PRd w none 0 [] := ⟨rfl, ⟨rfl, fun h => absurd h (by omega)⟩, fun _ h => by cases h⟩
theorem szh_nil : SzH [] := ⟨by decide, fun _ h => absurd h List.not_mem_nil, fun _ h => absurd h List.not_mem_nil⟩
end Go.Proofs.YtfeknjpinboknaaGreatDoor

namespace Go.Proofs.YtfeknjpinboknaaGreatDoor
open Go Go.RowKit Go.Joins Go.Shelf
set_option linter.unusedSimpArgs false
set_option linter.unusedVariables false

set_option maxRecDepth 100000 in
set_option maxHeartbeats 16000000 in
theorem fews_any (A : Option Addr) (n c : Nat) (ls : List ByteArray) (w : World) (hr : Rd w 1 A n (sCells ls)) (hl : ls.length = n) (hn : n ≤ maxLen) :
    Calls Tryz.prog 20 #[.slice A n c] w fun e w' => ∃ b, e = .returned (.bool b) ∧ w' = w ∧ (b = true → ∀ s ∈ ls, s.size ≤ 500) := by
  have HR := Lib.hid hr
  have HL := Lib.hid hl
  have hn' : n ≤ 9223372036854775807 := by simp only [maxLen] at hn; omega
  clear hr hl hn
  go_enter Tryz.func20, Tryz.ntmps20
  go_wp2
  go_loopw [4, 7] (fun _ v7 wr => ∃ k : Nat, v7 = .int .i64 (k : Int) ∧ k ≤ n ∧ wr = w ∧ Hid (∀ s ∈ ls.take k, s.size ≤ 500)) (fun _ v7 _ => n - (intOf v7).toNat)
  case atStart => exact ⟨0, rfl, Nat.zero_le _, rfl, Lib.hid (fun s hs => by simp at hs)⟩
  case round =>
    obtain ⟨k, rfl, hk, rfl, HS⟩ := hrel
    by_cases hlt : k < n
    · obtain ⟨b1, o1, s, rfl, hs1, y0⟩ := rd_str HL.out HR.out hlt
      have HTK : Hid (ls.take (k + 1) = ls.take k ++ [s]) := Lib.hid (by rw [List.take_add_one, hs1]; rfl)
      have i0 : (0 : Int) ≤ (k : Int) := by omega
      have i1 : (k : Int) < (n : Int) := by omega
      clear hs1
      by_cases hs2 : 500 < s.size
      · have x3 : (500 : Int) < (s.size : Int) := by omega
        go_wp2
        go_ret
        exact ⟨false, rfl, rfl, fun h => by cases h⟩
      · have x3 : ¬ (500 : Int) < (s.size : Int) := by omega
        have HS2 : Hid (∀ u ∈ ls.take (k + 1), u.size ≤ 500) := Lib.hid (fun u hu => by
          rw [HTK.out] at hu
          rcases List.mem_append.1 hu with hu | hu
          · exact HS.out u hu
          · rw [List.mem_singleton] at hu; subst hu; omega)
        go_wp2
        go_roundw
        case rel => exact ⟨k + 1, by go_num, by omega, by first | rfl | trivial, HS2⟩
        case measure => simp [intOf]; omega
    · obtain rfl : k = n := by omega
      have HS3 := HS.out
      rw [List.take_of_length_le (by rw [HL.out]; exact Nat.le_refl _)] at HS3
      have HS4 := Lib.hid HS3
      clear HS3
      go_wp2
      go_ret
      exact ⟨true, rfl, rfl, fun _ => HS4.out⟩
def mkD (s1 s2 : ByteArray) : List Hk := if (linesE s1 = 0 ∧ linesE s2 = 0) ∧ validV ⟨#[]⟩ (mkL s1 s2) = true then mkL s1 s2 else []
def mkR (s1 s2 : ByteArray) : Int := if (linesE s1 = 0 ∧ linesE s2 = 0) ∧ validV ⟨#[]⟩ (mkL s1 s2) = true then 0 else 10
theorem mkL_sz {s1 s2 : ByteArray} (h1 : linesE s1 = 0) (h2 : linesE s2 = 0) (hs : s2.size ≤ 1000000) : SzK (mkL s1 s2) ∧ (mkL s1 s2).length ≤ 90000 := by
  have hla := lines_len h1
  have hlb := lines_len h2
  have hk := kept_len (parts 10 s1) (parts 10 s2) 0 0
  have hk2 := (lcs_le (parts 10 s1) (parts 10 s2)).1
  have hb := ofL_bound (parts_sz hs) hlb (keptL (parts 10 s1) (parts 10 s2) 0 0) (fun p hp => by
    have h1 := kept_fst _ _ 0 0 p hp
    have h2 := kept_snd _ _ 0 0 p hp
    exact ⟨by omega, by omega⟩) (by omega)
  refine ⟨?_, ?_⟩
  · rw [mkL, ofV, emit]
    exact (hb.2.1.app (SzK.dropH _)).app (SzK.addH (by simp only [List.length_take, List.length_drop]; omega) (fun s h => parts_sz hs s (List.mem_of_mem_drop (List.mem_of_mem_take h))))
  · rw [mkL, ofV, emit, List.length_append, List.length_append]
    have h3 := hb.2.2.1
    have h4 : (dropH ((parts 10 s1).length - (ofL (parts 10 s2) (keptL (parts 10 s1) (parts 10 s2) 0 0)).2.1)).length ≤ 1 := by unfold dropH; split <;> simp
    have h5 : (addH (((parts 10 s2).drop (ofL (parts 10 s2) (keptL (parts 10 s1) (parts 10 s2) 0 0)).2.2).take ((parts 10 s2).length - (ofL (parts 10 s2) (keptL (parts 10 s1) (parts 10 s2) 0 0)).2.2))).length ≤ 1 := by unfold addH; split <;> simp
    omega
theorem mk_out {s1 s2 : ByteArray} {w w' : World} {e : Ending} (h : MkP s1 s2 w e w') (hs : s2.size ≤ 1000000) : New w w' ∧ ∃ A n c hs', e = .returned (.tuple #[.agg #[.string ⟨#[]⟩, .slice A n c], .int .i64 (mkR s1 s2)]) ∧ n = (mkD s1 s2).length ∧ PRd w' A n hs' ∧ SzH hs' ∧ hs'.map Hm.d = mkD s1 s2 := by
  unfold MkP at h
  by_cases hl : linesE s1 = 0 ∧ linesE s2 = 0
  · rw [if_pos hl] at h
    obtain ⟨hn, h⟩ := h
    refine ⟨hn, ?_⟩
    by_cases hv : validV ⟨#[]⟩ (mkL s1 s2) = true
    · rw [if_pos hv] at h
      obtain ⟨A, c, hs', he, hp, _, _, hm⟩ := h
      have hz := mkL_sz hl.1 hl.2 hs
      rw [mkR, mkD, if_pos ⟨hl, hv⟩, if_pos ⟨hl, hv⟩]
      refine ⟨A, hs'.length, c, hs', he, by rw [← hm, List.length_map], hp, SzK.szh (by rw [hm]; exact hz.1) ?_, hm⟩
      have := hz.2
      rw [← hm, List.length_map] at this
      omega
    · rw [if_neg hv] at h
      rw [mkR, mkD, if_neg (fun q => hv q.2), if_neg (fun q => hv q.2)]
      exact ⟨none, 0, 0, [], h, rfl, prd_nil _, szh_nil, rfl⟩
  · rw [if_neg hl] at h
    refine ⟨h.1, ?_⟩
    rw [mkR, mkD, if_neg (fun q => hl q.1), if_neg (fun q => hl q.1)]
    exact ⟨none, 0, 0, [], h.2, rfl, prd_nil _, szh_nil, rfl⟩
end Go.Proofs.YtfeknjpinboknaaGreatDoor

