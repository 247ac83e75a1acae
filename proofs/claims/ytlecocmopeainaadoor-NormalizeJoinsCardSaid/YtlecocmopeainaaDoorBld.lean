/- strings.Builder at a dump whose copyCheck ends in a place that the loader refuses: copyCheck, WriteByte, WriteString. No conditions but Go's own limit on a length. -/
import Derived.Test.YtlecocmopeainaaDoorBlk
import Derived.Test.YtlecocmopeainaaDoorShelf
import Derived.Below
import Derived.Shelf.Strings.BuilderX
import Derived.Lib.Builder
import Derived.Lib.AppendStr
import Derived.Lib.UnsafeStr
import Derived.Lib.OthersKept
import Derived.Laws.Externs
namespace Go.Proofs.YtlecocmopeainaaDoor
open Go Go.RowKit Go.Shelf
set_option linter.unusedSimpArgs false
set_option linter.unusedVariables false

theorem Tryd.bldInfo : (Tryd.prog.info? 80).map (·.size) = some 2 := by kernel_rfl
theorem Tryd.bldLies : liesAt Tryd.prog Tryd.prog.depth 80 (2 / Tryd.prog.cellsOf 80) 0 80 1 = true := by kernel_rfl
theorem Tryd.byteInfo : (Tryd.prog.info? 5).map (fun i => (i.zero, i.size, i.bytes)) = some (some (.int .u8 0), 1, 1) := by kernel_rfl

/-- A builder of this program, in a block of its own from B on, that holds the bytes l. -/
def IsB (B b : Nat) (l : List UInt8) (w : World) : Prop := Lib.IsBuilder 80 5 B b (Lib.byteCells l) w
/-- .. that has been written to. -/
def AtB (B b : Nat) (l : List UInt8) (w : World) : Prop := Lib.BuilderAt 80 5 B b (.pointer (some ⟨b, 0, none⟩)) (Lib.byteCells l) w
theorem AtB.is {B b : Nat} {l : List UInt8} {w : World} (h : AtB B b l w) : IsB B b l w := Or.inr h
theorem IsB.fresh {B : Nat} (w : World) (hB : B ≤ w.heap.size) : IsB B w.heap.size [] (w.alloc (.cells #[.pointer none, .slice none 0 0] 80)) :=
  Or.inl ⟨hB, .slice none 0 0, heap_alloc_new w _, World.ownsRow_nil _ _ _ _, by simp [Value.ownBlock]⟩
theorem bldAt_alloc {T e : TypeId} {B b : Nat} {p : Value} {bs : List Value} {w : World} (h : Lib.BuilderAt T e B b p bs w) (o : Obj) : Lib.BuilderAt T e B b p bs (w.alloc o) := by
  have hlt := h.lt
  obtain ⟨h1, v, h2, h3, h4⟩ := h
  exact ⟨h1, v, (Lib.alloc_old w o b hlt).trans h2, h3.alloc o, h4⟩
theorem IsB.alloc {B b : Nat} {l : List UInt8} {w : World} (h : IsB B b l w) (o : Obj) : IsB B b l (w.alloc o) := h.imp (fun h => bldAt_alloc h o) (fun h => bldAt_alloc h o)
theorem IsB.drewN {B b : Nat} {l : List UInt8} {w : World} (h : IsB B b l w) (n : Nat) : IsB B b l (w.drewN n) := h
theorem IsB.lt {B b : Nat} {l : List UInt8} {w : World} (h : IsB B b l w) : b < w.heap.size := h.elim (·.lt) (·.lt)
theorem own_kind {w : World} {B : Nat} {e : TypeId} {v : Value} {n : Nat} {xs : List Value} (h : w.ownsRow B e 1 v n xs) : ∀ g, v.ownBlock = some g → ∃ c fz, w.heap[g]? = some (.cells c e fz) := by
  intro g hg
  rcases h.2 with ⟨rfl, _⟩ | ⟨g', cap, cur, rfl, _, hgg, _⟩
  · simp [Value.ownBlock] at hg
  · simp [Value.ownBlock] at hg
    subst hg
    exact ⟨cur, _, hgg⟩
theorem IsB.new {B b : Nat} {l : List UInt8} {w w' : World} (h : IsB B b l w) (hn : New w w') : IsB B b l w' := by
  have hlt := h.lt
  have key : ∀ p, Lib.BuilderAt 80 5 B b p (Lib.byteCells l) w → Lib.BuilderAt 80 5 B b p (Lib.byteCells l) w' := by
    rintro p ⟨h1, v, h2, h3, h4⟩
    refine ⟨h1, v, (hn.block b hlt).trans h2, h3.kept (hn.grown_ none) ?_, h4⟩
    cases h5 : v.ownBlock
    · exact Or.inl rfl
    · exact Or.inr (by simp)
  exact h.imp (key _) (key _)
/-- A block of another kind is kept by the builder's writers. -/
theorem Blk.keptB {w w' : World} {g b : Nat} {t e : TypeId} {cs : Array Value} (h : Blk w g t cs) (hk : Lib.OthersKept e (some b) w w') (hg : g ≠ b) (ht : t ≠ e) : Blk w' g t cs :=
  hk g _ h (by simpa using hg) (fun c fz e2 => ht (by simpa using congrArg (fun o => match o with | .cells _ t _ => t | _ => t) e2))

set_option maxHeartbeats 1000000 in
set_option maxRecDepth 100000 in
theorem copyCheck_any (B b : Nat) (l : List UInt8) (w : World) (h : IsB B b l w) :
    Calls Tryd.prog 86 #[.pointer (some ⟨b, 0, none⟩)] w fun e w' => e = .returned (.tuple #[]) ∧ AtB B b l w' ∧ Below B w w' ∧ Lib.OthersKept 5 (some b) w w' := by
  obtain ⟨j, hj, hjs⟩ := Option.map_eq_some_iff.1 Tryd.bldInfo
  rcases h with h | h
  · have h0 := h.cell0
    have hsh := h.shape
    have hfz := h.frozen0
    have hto := Lib.run_to_unsafe (P := Tryd.prog) (src := 78) (dst := 122) w ⟨b, 0, none⟩ Tryd.underlying78 Tryd.underlying122 hj (by rw [hjs]; decide) hsh (Nat.zero_lt_succ 1)
    have hfrom := Lib.run_from_unsafe (P := Tryd.prog) (src := 122) (dst := 78) w ⟨b, 0, none⟩ Tryd.underlying122 Tryd.underlying78 hj hsh Tryd.bldLies
    go_enter Tryd.func86, Tryd.ntmps86
    go_wp2
    rw [run_callFunc_extern Tryd.func106 (by kernel_rfl) (by kernel_rfl) (by kernel_rfl) (e := Extern.AbiNoEscape.same) (by kernel_rfl)]
    rw [Lib.run_noEscape]
    simp only [Result.andThen]
    rw [Oper.upon_value]
    go_wp2
    go_end0
    exact ⟨rfl, h.used _, (Below.refl B w).setCell (p := ⟨b, 0, none⟩) h.1 _, (Lib.OthersKept.refl _ _ w).setCell ⟨b, 0, none⟩ rfl _⟩
  · have h0 := h.cell0
    have hneq := Lib.run_neq_ptr_same (P := Tryd.prog) (tp := 78) w ⟨b, 0, none⟩ Tryd.underlying78 hj
    go_enter Tryd.func86, Tryd.ntmps86
    go_wp2
    go_end0
    exact ⟨rfl, h, Below.refl B _, Lib.OthersKept.refl _ _ w⟩

set_option maxHeartbeats 2000000 in
set_option maxRecDepth 100000 in
theorem writeByte_any (B b : Nat) (l : List UInt8) (c : UInt8) (w : World) (h : IsB B b l w) (hl : l.length + 1 ≤ 140737488355328) (hBw : B ≤ w.heap.size) :
    Calls Tryd.prog 51 #[.pointer (some ⟨b, 0, none⟩), .int .u8 c.toNat] w fun e w' => e = .returned .nilIface ∧ AtB B b (l ++ [c]) w' ∧ Below B w w' ∧ Lib.OthersKept 5 (some b) w w' := by
  obtain ⟨i0, hi, hz0, hz1, hz2⟩ := info_parts Tryd.byteInfo
  go_enter Tryd.func51, Tryd.ntmps51
  go_wp2_with (go_at_call 86; refine (copyCheck_any B b l _ h).mono ?_)
  rintro e w1 ⟨rfl, h1, hb1, hk1⟩
  obtain ⟨hB, v, hbk, hown, hne⟩ := h1
  have c0 : w1.cell? ⟨b, 0, none⟩ = some (.pointer (some ⟨b, 0, none⟩)) := by rw [Lib.cell_of_heap hbk]; rfl
  have c1 : w1.cell? ⟨b, 1, none⟩ = some v := by rw [Lib.cell_of_heap hbk]; rfl
  rw [Lib.byteCells_length] at hown
  obtain ⟨A, cp, rfl, _, _, _⟩ := own_form hown
  go_wp2_with (at_builtin; refine wpList_append_own _ rfl _ _ 60 rfl B 5 i0 (.int .u8 0) 1 1 Tryd.underlying60 hi hz0 hz1 hz2 rfl (by decide) _ _ _ rfl (hown.alloc _) ⟨w1.heap.size, 0, none⟩ 1 1 [.int .u8 c.toNat] rfl rfl ?c1 ?c2 ?c3 ?c4 ?c5 ?_)
  case c1 =>
    intro j u hj
    match j, hj with
    | 0, hj => simp at hj; subst hj; simp [Addr.add]
  case c2 => intro u hu; simp at hu; subst hu; rfl
  case c3 => unfold maxLen; omega
  case c4 => omega
  case c5 => have := hb1.size; simp; omega
  intro v' w2 hown' hgrow _
  have hlt : b < w1.heap.size := (show AtB B b l w1 from ⟨hB, .slice A l.length cp, hbk, by rw [Lib.byteCells_length]; exact hown, hne⟩).lt
  have hb2 : w2.heap[b]? = some (.cells #[.pointer (some ⟨b, 0, none⟩), .slice A l.length cp] 80 (0, 0)) := by
    rw [hgrow.block b (by simp; omega) (fun e => hne e.symm), Lib.alloc_old w1 _ b hlt]
    exact hbk
  have d0 : w2.cell? ⟨b, 0, none⟩ = some (.pointer (some ⟨b, 0, none⟩)) := by rw [Lib.cell_of_heap hb2]; rfl
  have d1 : w2.cell? ⟨b, 1, none⟩ = some (.slice A l.length cp) := by rw [Lib.cell_of_heap hb2]; rfl
  have f1 : w2.frozen? ⟨b, 1, none⟩ = false := Lib.frozen_of_heap hb2 1
  obtain ⟨g, cap, rfl⟩ : ∃ g cap, v' = .slice (some ⟨g, 0, none⟩) (l.length + 1) cap := by
    rcases hown'.2 with ⟨_, h0⟩ | ⟨g, cap, cur, hv, _⟩
    · omega
    · exact ⟨g, cap, hv⟩
  go_wp2
  go_ret
  refine ⟨rfl, ?_, ?_, ((hk1.alloc _).grown hgrow (own_kind (hown.alloc _))).setCell ⟨b, 1, none⟩ rfl _⟩
  · exact Lib.BuilderAt.put (T := 80) (e := 5) hB hb2 (bs' := Lib.byteCells (l ++ [c])) (by simpa [Lib.byteCells] using hown') (by decide)
  · exact ((hb1.alloc (by have := hb1.size; omega) _).grown hgrow (by have := hb1.size; simp; omega) (fun k hk => (hown.lt k hk).1)).setCell (p := ⟨b, 1, none⟩) hB _

set_option maxHeartbeats 2000000 in
set_option maxRecDepth 100000 in
theorem writeString_any (B b : Nat) (l : List UInt8) (s : ByteArray) (w : World) (h : IsB B b l w) (hl : l.length + s.size ≤ 140737488355328) (hBw : B ≤ w.heap.size) :
    Calls Tryd.prog 52 #[.pointer (some ⟨b, 0, none⟩), .string s] w fun e w' => e = .returned (.tuple #[.int .i64 s.size, .nilIface]) ∧ AtB B b (l ++ s.data.toList) w' ∧ Below B w w' ∧ Lib.OthersKept 5 (some b) w w' := by
  obtain ⟨i0, hi, hz0, hz1, hz2⟩ := info_parts Tryd.byteInfo
  go_enter Tryd.func52, Tryd.ntmps52
  go_wp2_with (go_at_call 86; refine (copyCheck_any B b l _ h).mono ?_)
  rintro e w1 ⟨rfl, h1, hb1, hk1⟩
  obtain ⟨hB, v, hbk, hown, hne⟩ := h1
  have c0 : w1.cell? ⟨b, 0, none⟩ = some (.pointer (some ⟨b, 0, none⟩)) := by rw [Lib.cell_of_heap hbk]; rfl
  have c1 : w1.cell? ⟨b, 1, none⟩ = some v := by rw [Lib.cell_of_heap hbk]; rfl
  rw [Lib.byteCells_length] at hown
  obtain ⟨A, cp, rfl, _, _, _⟩ := own_form hown
  go_wp2_with (at_builtin; refine Lib.wpList_append_own_string _ rfl _ _ 60 9 rfl B 5 i0 Tryd.underlying60 Tryd.underlying9 hi hz0 hz1 hz2 _ _ _ rfl hown s rfl ?c3 ?c4 ?c5 ?_)
  case c3 => unfold maxLen; omega
  case c4 => omega
  case c5 => have := hb1.size; omega
  intro v' w2 hown' hgrow _
  have hlt : b < w1.heap.size := (show AtB B b l w1 from ⟨hB, .slice A l.length cp, hbk, by rw [Lib.byteCells_length]; exact hown, hne⟩).lt
  have hb2 : w2.heap[b]? = some (.cells #[.pointer (some ⟨b, 0, none⟩), .slice A l.length cp] 80 (0, 0)) := by
    rw [hgrow.block b hlt (fun e => hne e.symm)]
    exact hbk
  have d0 : w2.cell? ⟨b, 0, none⟩ = some (.pointer (some ⟨b, 0, none⟩)) := by rw [Lib.cell_of_heap hb2]; rfl
  have d1 : w2.cell? ⟨b, 1, none⟩ = some (.slice A l.length cp) := by rw [Lib.cell_of_heap hb2]; rfl
  have f1 : w2.frozen? ⟨b, 1, none⟩ = false := Lib.frozen_of_heap hb2 1
  obtain ⟨ao, n', cap, rfl⟩ : ∃ ao n' cap, v' = .slice ao n' cap := by
    rcases hown'.2 with ⟨hv, _⟩ | ⟨g, cap, cur, hv, _⟩
    · exact ⟨_, _, _, hv⟩
    · exact ⟨_, _, _, hv⟩
  go_wp2
  go_ret2
  refine ⟨rfl, ?_, ?_, (hk1.grown hgrow (own_kind hown)).setCell ⟨b, 1, none⟩ rfl _⟩
  · exact Lib.BuilderAt.put (T := 80) (e := 5) hB hb2 (bs' := Lib.byteCells (l ++ s.data.toList)) (by rw [Lib.byteCells_append, ← Lib.strCells_eq]; simpa [Lib.strCells_length, Lib.byteCells_length] using hown') (by decide)
  · exact (hb1.grown hgrow (by have := hb1.size; omega) (fun k hk => (hown.lt k hk).1)).setCell (p := ⟨b, 1, none⟩) hB _
end Go.Proofs.YtlecocmopeainaaDoor
