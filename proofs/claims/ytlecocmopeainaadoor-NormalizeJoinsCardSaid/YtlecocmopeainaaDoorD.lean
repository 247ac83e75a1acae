/- strings.SplitSeq(s, one byte): the iterator gives the parts of s, in order, to a body that goes on at every round. No conditions but the string's length. -/
import Derived.Test.YtlecocmopeainaaDoorC
import Derived.Test.YtlecocmopeainaaDoorSeq
import Derived.Shelf.Abstract
import Derived.Shelf.RegionOpen
import Derived.OwnWalkIn
import Derived.TacticsInMore
import Derived.LoopNIn
import Derived.LoopIn
import Derived.Sort.LoopGhostIn
import Derived.Sort.CutIn
namespace Go.Proofs.YtlecocmopeainaaDoor
open Go Go.RowKit Go.Joins Go.Shelf
attribute [local go_sem] Oper.semAt_some

theorem parts_none (c : UInt8) (s : ByteArray) (h : Lib.indexByte s.data.toList c = -1) : parts c s = [s] := by
  rw [parts, cut_none c _ h]; simp [S_data]
theorem parts_some (c : UInt8) (s : ByteArray) (i : Nat) (h : Lib.indexByte s.data.toList c = i) : parts c s = s.extract 0 i :: parts c (s.extract (i + 1) s.size) := by
  rw [parts, parts, cut_some c _ i h, List.map_cons, ext_from, data_S, ext_to]
theorem indexByte_lt {l : List UInt8} {c : UInt8} {i : Nat} (h : Lib.indexByte l c = i) : i < l.length := by
  obtain ⟨h1, _⟩ := Lib.indexByte_some h
  exact (List.getElem?_eq_some_iff.1 h1).1
theorem index_cases (l : List UInt8) (c : UInt8) : Lib.indexByte l c = -1 ∨ ∃ i : Nat, Lib.indexByte l c = i := by
  have := Lib.indexByte_ge l c
  rcases Int.lt_or_le (Lib.indexByte l c) 0 with h | h
  · exact .inl (by omega)
  · exact .inr ⟨(Lib.indexByte l c).toNat, by omega⟩
theorem index_one_any (s : ByteArray) (w : World) (i : Int) (h : Hid (Lib.indexByte s.data.toList 10 = i)) :
    Calls Tryd.prog 58 #[.string s, .string ⟨#[10]⟩] w fun e w' => e = .returned (.int .i64 i) ∧ w' = w :=
  (Tryd.strings_Index_one s 10 w).mono fun e w' ⟨he, hw⟩ => ⟨by rw [he, ← h.out], hw⟩

set_option maxRecDepth 100000 in
set_option maxHeartbeats 4000000 in
theorem splitSeq_iter (n : Nat) (s0 : ByteArray) (N : Nat) (w0 : World) (hN : N + 2 < w0.heap.size) (hs0 : s0.size ≤ 4294967280)
    (h1 : w0.cell? ⟨N, 0, none⟩ = some (.string s0)) (h2 : w0.cell? ⟨N + 1, 0, none⟩ = some (.string ⟨#[10]⟩)) (h3 : w0.cell? ⟨N + 2, 0, none⟩ = some (.int .i64 0)) (hf : w0.frozen? ⟨N, 0, none⟩ = false) :
    SeqS n Tryd.prog 102 #[.pointer (some ⟨N + 1, 0, none⟩), .pointer (some ⟨N, 0, none⟩), .pointer (some ⟨N + 2, 0, none⟩)] Value.string N N (N + 3) (parts 10 s0) w0 := by
  intro l J W hW hJ hJS hY h0
  refine callsIn_of_wp Tryd.func102 rfl trivial ?_ rfl
  simp only [Tryd.ntmps102, List.size_toArray, List.length_cons, List.length_nil, Nat.reduceAdd, Nat.reduceSub, Array.replicate_succ, Array.replicate_zero, List.push_toArray, List.append_toArray, List.nil_append, List.cons_append]
  have c2 : W.cell? ⟨N + 1, 0, none⟩ = some (.string ⟨#[10]⟩) := (hW.cell (p := ⟨N + 1, 0, none⟩) (by show N + 1 < _; omega)).trans h2
  have HY := Lib.hid hY
  have HJ := Lib.hid hJ
  have HJS := Lib.hid hJS
  clear hY hJ hJS
  gi_wp2
  gi_loopg [] s0.size (fun gf wr => ∃ (s : ByteArray) (pre : List ByteArray), wr.cell? ⟨N, 0, none⟩ = some (.string s) ∧ wr.frozen? ⟨N, 0, none⟩ = false ∧ wr.cell? ⟨N + 1, 0, none⟩ = some (.string ⟨#[10]⟩) ∧ wr.cell? ⟨N + 2, 0, none⟩ = some (.int .i64 0) ∧ J pre wr ∧ s.size ≤ gf ∧ s.size ≤ s0.size ∧ Hid (pre ++ parts 10 s = parts 10 s0))
  case atStart => exact ⟨s0, [], (hW.cell (p := ⟨N, 0, none⟩) (by show N < _; omega)).trans h1, (hW.frozen (p := ⟨N, 0, none⟩) (by show N < _; omega)).trans hf, c2, (hW.cell (p := ⟨N + 2, 0, none⟩) (by show N + 2 < _; omega)).trans h3, h0, Nat.le_refl _, Nat.le_refl _, rfl⟩
  case round =>
    obtain ⟨s, pre, d1, df, d2, d3, hj, hgf, hle, H⟩ := hrel
    rcases index_cases s.data.toList 10 with hi | ⟨i, hi⟩
    · have HI := Lib.hid hi
      have HP := Lib.hid (parts_none 10 s hi)
      clear hi
      have hpx : (pre ++ [s]) <+: parts 10 s0 := by rw [← H.out, HP.out]; exact List.prefix_rfl
      obtain ⟨fn, tm, ac, bo, hy, hR⟩ := HY.out pre s wr hpx hj
      gi_wp2_with (refine ⟨trivial, (by intro h; cases h), ?_⟩; gi_at_call 58; refine (callsIn_wide.2 (index_one_any s _ _ HI)).mono ?_; rintro e w' ⟨rfl, rfl⟩)
      refine ⟨(by intro h; cases h), hR.mono ?_⟩
      rintro e W2 ⟨rfl, hj2, _⟩
      gi_wp2
      go_end0
      refine ⟨⟨_, rfl⟩, ?_⟩
      rw [← H.out, HP.out]
      exact hj2
    · have HI := Lib.hid hi
      have hil := indexByte_lt hi
      rw [← size_eq] at hil
      have HP := Lib.hid (parts_some 10 s i hi)
      clear hi
      obtain ⟨gk', rfl⟩ : ∃ g', gk = g' + 1 := ⟨gk - 1, by omega⟩
      have hpx : (pre ++ [s.extract 0 i]) <+: parts 10 s0 := ⟨parts 10 (s.extract (i + 1) s.size), by rw [← H.out, HP.out]; simp⟩
      obtain ⟨fn, tm, ac, bo, hy, hR⟩ := HY.out pre (s.extract 0 i) wr hpx hj
      gi_wp2_with (refine ⟨trivial, (by intro h; cases h), ?_⟩; gi_at_call 58; refine (callsIn_wide.2 (index_one_any s _ i HI)).mono ?_; rintro e w' ⟨rfl, rfl⟩)
      refine ⟨(by intro h; cases h), hR.mono ?_⟩
      rintro e W2 ⟨rfl, hj2, hk2⟩
      have e1 := (World.cell?_of_block (a := ⟨N, 0, none⟩) (hk2 N (by omega) (by omega))).trans d1
      have e2 := (World.cell?_of_block (a := ⟨N + 1, 0, none⟩) (hk2 (N + 1) (by omega) (by omega))).trans d2
      have e3 := (World.cell?_of_block (a := ⟨N + 2, 0, none⟩) (hk2 (N + 2) (by omega) (by omega))).trans d3
      have ef := (World.frozen?_of_block (a := ⟨N, 0, none⟩) (hk2 N (by omega) (by omega))).trans df
      gi_wp2
      gi_roundg gk'
      case rel => exact ⟨s.extract (i + 1) s.size, pre ++ [s.extract 0 i], World.cell?_setCell_same' _ _ _ (by rw [e1]; rfl), by rw [World.frozen?_setCell]; exact ef, by rw [World.cell?_setCell_other _ _ _ _ (by simp)]; exact e2, by rw [World.cell?_setCell_other _ _ _ _ (by simp)]; exact e3, HJS.out _ _ _ hj2, by simp [ByteArray.size_extract]; omega, by simp [ByteArray.size_extract]; omega, by rw [List.append_assoc, List.singleton_append, ← HP.out]; exact H⟩
      case measure => omega
end Go.Proofs.YtlecocmopeainaaDoor
