/- The program's table of common lengths. Conditions: sizes. -/
import Derived.Test.YtfeknjpinboknaaGreatDoorGW20
import Derived.Test.YtfeknjpinboknaaGreatDoorGW1
import Derived.Laws.MakeOwn

namespace Go.Proofs.YtfeknjpinboknaaGreatDoor
open Go Go.RowKit Go.Joins Go.Shelf
set_option linter.unusedSimpArgs false
set_option linter.unusedVariables false

theorem Tryz.info85' : (Tryz.prog.info? 85).map (fun i => (i.zero, i.size, i.bytes)) = some (some (.slice none 0 0), 1, 24) := by kernel_rfl
theorem Tryz.info3' : (Tryz.prog.info? 3).map (fun i => (i.zero, i.size, i.bytes)) = some (some (.int .i64 0), 1, 8) := by kernel_rfl
theorem made_at (z : Value) (n j : Nat) (h : j < n) : (madeCells #[z] n)[j]? = some z := by
  rw [← Array.getElem?_toList, toList_madeCells_one, List.getElem?_replicate, if_pos h]
theorem run_mk85 (n : Nat) (hn : n ≤ 2000) (W : World) : (Instr.makeSlice 83 (.int .i64 ((n : Int) + 1)) (.int .i64 ((n : Int) + 1))).run Tryz.prog W = .ok (.slice (some ⟨W.heap.size, 0, none⟩) (n + 1) (n + 1)) (W.alloc (.cells (madeCells #[.slice none 0 0] (n + 1)) 85)) := by
  obtain ⟨j0, hinf, hz0, hz1, hz2⟩ := info_parts Tryz.info85'
  have h := run_makeSlice (P := Tryz.prog) W 83 85 j0 (.slice none 0 0) Tryz.underlying83 hinf hz0 .i64 .i64 ((n : Int) + 1) ((n : Int) + 1) (by omega) (by omega) (by rw [hz1]; omega) (by rw [hz2]; omega) (by omega)
  rw [hz1, show ((n : Int) + 1).toNat = n + 1 by omega, Nat.mul_one] at h
  exact h
theorem run_mk3 (n : Nat) (hn : n ≤ 2000) (W : World) : (Instr.makeSlice 85 (.int .i64 ((n : Int) + 1)) (.int .i64 ((n : Int) + 1))).run Tryz.prog W = .ok (.slice (some ⟨W.heap.size, 0, none⟩) (n + 1) (n + 1)) (W.alloc (.cells (madeCells #[.int .i64 0] (n + 1)) 3)) := by
  obtain ⟨j0, hinf, hz0, hz1, hz2⟩ := info_parts Tryz.info3'
  have h := run_makeSlice (P := Tryz.prog) W 85 3 j0 (.int .i64 0) Tryz.underlying85 hinf hz0 .i64 .i64 ((n : Int) + 1) ((n : Int) + 1) (by omega) (by omega) (by rw [hz1]; omega) (by rw [hz2]; omega) (by omega)
  rw [hz1, show ((n : Int) + 1).toNat = n + 1 by omega, Nat.mul_one] at h
  exact h
structure TabP (w : World) (g la lb : Nat) (b : Nat → Nat) (R : Nat → Prop) : Prop where
  out : ∃ cs : Array Value, Blk w g 85 cs ∧ cs.size = la + 1 ∧ ∀ x, x ≤ la → R x → cs[x]? = some (.slice (some ⟨b x, 0, none⟩) (lb + 1) (lb + 1))
  inn : ∀ x, R x → Blk w (b x) 3 (madeCells #[.int .i64 0] (lb + 1))
theorem TabP.row {w : World} {g la lb : Nat} {b : Nat → Nat} {R R' : Nat → Prop} (h : TabP w g la lb b R) {i : Nat} (hi : i ≤ la) (hb : b i = w.heap.size) (hR : ∀ x, R' x → R x ∨ x = i) :
    TabP ((w.alloc (.cells (madeCells #[.int .i64 0] (lb + 1)) 3)).setCell ⟨g, i, none⟩ (.slice (some ⟨w.heap.size, 0, none⟩) (lb + 1) (lb + 1))) g la lb b R' := by
  obtain ⟨⟨cs, h1, h2, h3⟩, h4⟩ := h
  have hgl := h1.lt
  refine ⟨⟨_, (h1.alloc _).put i _, by rw [Array.size_setIfInBounds, h2], fun x hx hr => ?_⟩, fun x hr => ?_⟩
  · by_cases e : x = i
    · subst e; rw [Array.getElem?_setIfInBounds_self_of_lt (by omega), hb]
    · rw [Array.getElem?_setIfInBounds_ne (fun q => e q.symm)]
      rcases hR x hr with q | q
      · exact h3 x hx q
      · exact absurd q e
  · by_cases e : x = i
    · subst e; rw [hb]
      exact (Blk.made w 3 _).far (p := ⟨g, x, none⟩) (by simp only; omega) _
    · rcases hR x hr with q | q
      · have := h4 x q
        refine (this.alloc _).far (p := ⟨g, i, none⟩) (fun q2 => ?_) _
        simp only at q2
        have h5 := h1
        rw [← q2] at h5
        unfold Blk at this h5
        rw [this] at h5
        injection h5 with h5
        injection h5 with _ q3
        exact absurd q3 (by decide)
      · exact absurd q e
theorem TabP.tab {w : World} {g la lb : Nat} {b : Nat → Nat} (h : TabP w g la lb b (fun x => x ≤ la)) (hj : ∀ i j, i ≤ la → j ≤ la → b i = b j → i = j) : Tab w g la lb b (fun _ _ => 0) := by
  obtain ⟨⟨cs, h1, h2, h3⟩, h4⟩ := h
  exact ⟨h1.lt, ⟨_, _, h1⟩, fun i hi => h1.cell' i _ (h3 i hi hi), fun i j hi hj => (h4 i hi).cell' j _ (made_at _ _ _ (by omega)), fun i j hi hj => (h4 i hi).free j, fun i hi => (h4 i hi).lt, fun i hi => ⟨_, _, h4 i hi⟩, hj⟩
theorem sRd_at {w : World} {A : Option Addr} {n : Nat} {ls : List ByteArray} (h : Rd w 1 A n (sCells ls)) {i : Nat} (hi : i < n) : ∃ b o x, A = some ⟨b, o, none⟩ ∧ b < w.heap.size ∧ ls[i]? = some x ∧ w.cell? ⟨b, o + i, none⟩ = some (.string x) := by
  obtain ⟨b, o, e, hb, hc⟩ := h.2 (by omega)
  have hl : ls.length = n := by have := h.1; rw [sCells_len, Nat.mul_one] at this; exact this
  have hx : ls[i]? = some ls[i] := List.getElem?_eq_getElem (by omega)
  exact ⟨b, o, ls[i], e, hb, hx, hc i _ (by rw [sCells, List.getElem?_map, hx]; rfl)⟩
theorem beq_bytes (x y : ByteArray) : (x.toList == y.toList) = decide (x = y) := by
  by_cases h : x = y
  · subst h; simp
  · have : x.toList ≠ y.toList := fun e => h (by
      rw [toList_eq, toList_eq] at e
      exact bytes_ext e)
    simp [h, this]
end Go.Proofs.YtfeknjpinboknaaGreatDoor

