/- A table of numbers in memory: rows of ints in blocks of their own. No conditions. The builder: lines to be added, lines to be dropped; bounds of what inverting builds. No conditions. -/
import Derived.Test.YtfeknjpinboknaaGreatDoorGW16
import Derived.Test.YtfeknjpinboknaaGreatDoorGA
import Derived.Test.YtfeknjpinboknaaGreatDoorGW18
import Derived.Maps.AppendAt

namespace Go.Proofs.YtfeknjpinboknaaGreatDoor
open Go Go.RowKit Go.Joins
set_option linter.unusedSimpArgs false
set_option linter.unusedVariables false

structure Tab (w : World) (g la lb : Nat) (b : Nat → Nat) (F : Nat → Nat → Nat) : Prop where
  glt : g < w.heap.size
  gt : ∃ cs fz, w.heap[g]? = some (.cells cs 85 fz)
  row : ∀ i, i ≤ la → w.cell? ⟨g, i, none⟩ = some (.slice (some ⟨b i, 0, none⟩) (lb + 1) (lb + 1))
  cell : ∀ i j, i ≤ la → j ≤ lb → w.cell? ⟨b i, j, none⟩ = some (.int .i64 (F i j : Int))
  free : ∀ i j, i ≤ la → j ≤ lb → w.frozen? ⟨b i, j, none⟩ = false
  lt : ∀ i, i ≤ la → b i < w.heap.size
  kind : ∀ i, i ≤ la → ∃ cs fz, w.heap[b i]? = some (.cells cs 3 fz)
  inj : ∀ i j, i ≤ la → j ≤ la → b i = b j → i = j
def upd (F : Nat → Nat → Nat) (i j v : Nat) : Nat → Nat → Nat := fun x y => if x = i ∧ y = j then v else F x y
theorem setCell_kind {w : World} {p : Addr} {u : Value} {b t : Nat} (h : ∃ cs fz, w.heap[b]? = some (.cells cs t fz)) : ∃ cs fz, (w.setCell p u).heap[b]? = some (.cells cs t fz) := by
  obtain ⟨cs, fz, h⟩ := h
  by_cases e : b = p.block
  · subst e; exact ⟨_, fz, by simp [World.setCell, Array.getElem?_modify, h]; rfl⟩
  · exact ⟨cs, fz, (Below.heap_setCell w p u b e).trans h⟩
theorem Tab.put {w : World} {g la lb : Nat} {b : Nat → Nat} {F : Nat → Nat → Nat} (h : Tab w g la lb b F) {i j : Nat} (hi : i ≤ la) (hj : j ≤ lb) (v : Nat) : Tab (w.setCell ⟨b i, j, none⟩ (.int .i64 (v : Int))) g la lb b (upd F i j v) := by
  have hg : ∀ i, i ≤ la → g ≠ b i := fun i hi e => by
    obtain ⟨cs, fz, h1⟩ := h.gt
    obtain ⟨cs', fz', h2⟩ := h.kind i hi
    rw [e, h2] at h1
    injection h1 with h1
    injection h1 with _ q
    exact absurd q (by decide)
  refine ⟨by rw [World.size_setCell]; exact h.glt, setCell_kind h.gt, fun x hx => ?_, fun x y hx hy => ?_, fun x y hx hy => ?_, fun x hx => by rw [World.size_setCell]; exact h.lt x hx, fun x hx => setCell_kind (h.kind x hx), h.inj⟩
  · rw [World.cell?_setCell_other w _ _ _ (fun e => hg i hi (by simpa using (congrArg Addr.block e).symm))]; exact h.row x hx
  · by_cases e : x = i ∧ y = j
    · obtain ⟨rfl, rfl⟩ := e
      rw [upd, if_pos ⟨rfl, rfl⟩]
      exact World.cell?_setCell_same w _ _ (h.cell x y hx hy)
    · rw [upd, if_neg e, World.cell?_setCell_other w _ _ _ (fun q => e ?_)]
      · exact h.cell x y hx hy
      · have q1 := congrArg Addr.block q
        have q2 := congrArg Addr.off q
        simp only at q1 q2
        exact ⟨h.inj x i hx hi q1.symm, q2.symm⟩
  · rw [World.frozen?_setCell]; exact h.free x y hx hy
theorem Tab.new {w w' : World} {g la lb : Nat} {b : Nat → Nat} {F : Nat → Nat → Nat} (h : Tab w g la lb b F) (hn : New w w') : Tab w' g la lb b F :=
  ⟨Nat.lt_of_lt_of_le h.glt hn.size, by
    obtain ⟨cs, fz, h1⟩ := h.gt
    exact ⟨cs, fz, (hn.block g h.glt).trans h1⟩, fun i hi => (hn.cell (p := ⟨g, i, none⟩) h.glt).trans (h.row i hi), fun i j hi hj => (hn.cell (p := ⟨b i, j, none⟩) (h.lt i hi)).trans (h.cell i j hi hj), fun i j hi hj => (hn.frozen (p := ⟨b i, j, none⟩) (h.lt i hi)).trans (h.free i j hi hj), fun i hi => Nat.lt_of_lt_of_le (h.lt i hi) hn.size, fun i hi => by
    obtain ⟨cs, fz, h1⟩ := h.kind i hi
    exact ⟨cs, fz, (hn.block _ (h.lt i hi)).trans h1⟩, h.inj⟩
theorem Tab.ext {w : World} {g la lb : Nat} {b : Nat → Nat} {F G : Nat → Nat → Nat} (h : Tab w g la lb b F) (e : ∀ i j, i ≤ la → j ≤ lb → F i j = G i j) : Tab w g la lb b G :=
  ⟨h.glt, h.gt, h.row, fun i j hi hj => by rw [← e i j hi hj]; exact h.cell i j hi hj, h.free, h.lt, h.kind, h.inj⟩
end Go.Proofs.YtfeknjpinboknaaGreatDoor

namespace Go.Proofs.YtfeknjpinboknaaGreatDoor
open Go Go.RowKit Go.Joins Go.Shelf
set_option linter.unusedSimpArgs false
set_option linter.unusedVariables false

section
variable {w0 w w2 : World} {g b1 b2 : Nat} {hs : List Hm} {d : Nat} {a : List ByteArray} {V VA : Value}
theorem BM.start (w : World) : BM w (w.alloc (.cells #[.slice none 0 0, .int .i64 0, .slice none 0 0] 77)) w.heap.size w.heap.size w.heap.size [] 0 [] (.slice none 0 0) (.slice none 0 0) :=
  ⟨Blk.made w 77 _, World.ownsRow_nil _ _ _ _, World.ownsRow_nil _ _ _ _, LnOK.nil _, LnLt.nil _, (New.refl w).alloc _, Nat.le_refl _, Nat.le_refl _, Nat.le_refl _, by simp, by simp⟩
theorem BM.addMore (h : BM w0 w g b1 b2 hs d a V VA) (hg : w.grownBy w2 VA.ownBlock) {VA' : Value} {n : Nat} {a' : List ByteArray} (own2 : w2.ownsRow b2 9 1 VA' n (sCells a')) : BM w0 (w2.setCell ⟨g, 2, none⟩ VA') g b1 b2 hs d a' V VA' := by
  have hn : a'.length = n := by have := own2.1; rw [sCells_len, Nat.mul_one] at this; exact this
  subst hn
  have hnA : VA.ownBlock ≠ some g := ne_kind (cs := []) h.add h.blk (by decide)
  have B2 := h.blk.grown hg (Ne.symm hnA)
  have own : w2.ownsRow b1 55 3 V hs.length (hs.flatMap hmC) := h.own.kept hg (row_ne h.own h.add (by decide))
  have ln : LnOK w2 hs := h.ln.keep_lt h.lt hg (fun q e => (h.add.lt q e).1)
  have nw : New w0 w2 := Below.grown h.nw hg h.nw.size (fun q e => Nat.le_trans h.h2 (h.add.lt q e).1)
  have P : BP w0 w2 g b1 hs V := ⟨own, ln, nw, h.g0, h.h1, Nat.le_trans h.k1 hg.size⟩
  have P2 := P.put (i := 2) B2 VA'
  exact ⟨(B2.put 2 VA').same (by simp), P2.own, own2.kept (grown_set _ _ _ _) (Or.inr (ne_kind (cs := []) own2 B2 (by decide))), P2.ln, h.lt, P2.nw, P2.g0, P2.h1, h.h2, P2.k1, by rw [World.size_setCell]; exact Nat.le_trans h.k2 hg.size⟩
theorem BM.setDrop (h : BM w0 w g b1 b2 hs d a V VA) (d' : Nat) : BM w0 (w.setCell ⟨g, 1, none⟩ (.int .i64 (d' : Int))) g b1 b2 hs d' a V VA := by
  have P2 := h.bp.put (i := 1) h.blk (.int .i64 (d' : Int))
  exact ⟨(h.blk.put 1 _).same (by simp), P2.own, h.add.kept (grown_set _ _ _ _) (Or.inr (ne_kind (cs := []) h.add h.blk (by decide))), P2.ln, h.lt, P2.nw, P2.g0, P2.h1, h.h2, P2.k1, by rw [World.size_setCell]; exact h.k2⟩
end
theorem step_append_rd {w : World} {ops : Array Oper} {o : Oper} {a : Act} {K : Act → World → Prop} {Q : Exit → Act → World → Prop} {E : Prop} (hgd : o.guard = none) (s x : Operand)
    (ho : o.op = .call { callee := .builtin .append, args := #[s, x], argTypes := #[49, 49] })
    (base : Nat) (v : Value) (n : Nat) (xs : List Value) (hs : a.eval s = v) (hown : w.ownsRow base 9 1 v n xs)
    (A : Option Addr) (m c : Nat) (ws : List ByteArray) (hx : a.eval x = .slice A m c) (hr : Rd w 1 A m (sCells ws))
    (h63 : n + m ≤ 1000000000) (hbase : base ≤ w.heap.size)
    (h : ∀ v' w', w'.ownsRow base 9 1 v' (n + m) (xs ++ sCells ws) → w.grownBy w' v.ownBlock → (v'.ownBlock = v.ownBlock ∨ v'.ownBlock = some w.heap.size) → K (a.put o.dst v') w') : if Region.wanted o (yielded ops a.tmps) = true then Oper.wp Tryz.prog o a w K Q else E := by
  have hw : Region.wanted o (yielded ops a.tmps) = true := by simp [Region.wanted, hgd]
  rw [if_pos hw]
  obtain ⟨j0, hi0, hz0, hz1, hz2⟩ := info_parts Tryz.info9'
  by_cases hm : 0 < m
  · obtain ⟨b, q, rfl, hb, hc⟩ := hr.2 hm
    obtain ⟨v', w', hrun, h2, h3, h4, h5⟩ := run_append_own_at (P := Tryz.prog) w base 49 o.type 9 j0 (.string ⟨#[]⟩) 1 16 Tryz.underlying49 hi0 hz0 hz1 hz2 rfl (by decide) v n xs hown ⟨b, q, none⟩ m c (sCells ws) hr.1 (fun j u hu => by rw [add_none rfl]; exact hc j u hu) (by simp [sCells, Value.oneCell']) (by simp only [maxLen]; omega) (by omega) hbase
    unfold Oper.wp execOp
    simp only [ho, resolve, invoke, builtin, Sem.run_bind, Sem.run_pure, Result.andThen_ok, List.map_toArray, List.map_cons, List.map_nil, hs, hx, hrun]
    exact h v' w' h2 h3 h5
  · obtain rfl : m = 0 := by omega
    have hw : ws = [] := by have := hr.1; rw [sCells, List.length_map] at this; exact List.eq_nil_of_length_eq_zero (by omega)
    subst hw
    have hrun := app_nothing hown A c o.type
    unfold Oper.wp
    simp [execOp, ho, resolve, invoke, builtin, hs, hx, hrun, Result.andThen]
    exact h v w (by simpa [sCells] using hown) ⟨rfl, rfl, rfl, Nat.le_refl _, fun _ _ _ => rfl⟩ (Or.inl rfl)
def tot (l : List Hk) : Int := cnt 1 l + cnt 2 l + cnt 3 l
theorem tot_snoc (l : List Hk) {h : Hk} (ho : OkH h) : tot (l ++ [h]) = tot l + h.n := by
  rw [tot, cnt_app, cnt_app, cnt_app, tot]
  have := ho.k1
  have := ho.k3
  have e : cnt 1 [h] + cnt 2 [h] + cnt 3 [h] = h.n := by
    simp only [cnt]
    by_cases k1 : h.kind = 1
    · simp [k1]
    · by_cases k2 : h.kind = 2
      · simp [k2]
      · have k3 : h.kind = 3 := by omega
        simp [k3]
  omega
theorem bump_len (l : List Hk) (n : Nat) : (bump l n).length ≤ l.length + 1 := by
  rcases List.eq_nil_or_concat l with rfl | ⟨i, y, rfl⟩
  · rw [bump_nil]; simp
  · rw [List.concat_eq_append, bump_last]
    split <;> simp
theorem flush_len (b : Bs) : b.flush.l.length ≤ b.l.length + 2 := by
  have h1 : (dropH b.d).length ≤ 1 := by unfold dropH; split <;> simp
  have h2 : (addH b.a).length ≤ 1 := by unfold addH; split <;> simp
  rw [Bs.flush]; simp only [List.length_append]; omega
structure BB (B : Int) (k : Nat) (b : Bs) : Prop where
  nb : NB B b.l
  d : (b.d : Int) ≤ B
  a : (b.a.length : Int) ≤ B
  sz : SzK b.l
  sa : ∀ s ∈ b.a, s.size ≤ 1000000
  len : b.l.length ≤ 3 * k
theorem BB.keep {B : Int} {k : Nat} {b : Bs} (h : BB B k b) (hB : B ≤ 1000000) {n : Nat} (hn : 1 ≤ n) : BB (B + n) (k + 1) (b.keep n) := by
  have h0 : 0 ≤ B := by have := h.d; omega
  have e : b.keep n = ⟨bump b.flush.l n, 0, []⟩ := if_neg (by omega)
  rw [e]
  have h1 := flush_len b
  have h2 := bump_len b.flush.l n
  have h3 := h.len
  exact ⟨(NB.flush h.nb h.d h.a).bump h0, by simp; omega, by simp; omega, (SzK.flush h.sz (by have := h.a; omega) h.sa).bump, (fun s hs => by cases hs), by simp only; omega⟩
theorem inv_bound {old : List ByteArray} (hs : ∀ s ∈ old, s.size ≤ 1000000) : ∀ l : List Hk, (∀ h ∈ l, OkH h) → tot l ≤ 1000000 → BB (tot l) l.length (invO old l).1 := by
  intro l
  induction l using snoc_ind with
  | h0 => intro _ _; exact ⟨NB.nil _, by simp [invO, tot, cnt], by simp [invO, tot, cnt], SzK.nil, (fun s hs => by cases hs), by simp [invO]⟩
  | h1 l h ih =>
    intro ho ht
    have h2 := ho h (by simp)
    have hn := h2.n1
    rw [tot_snoc l h2] at ht ⊢
    have ih := ih (fun x hx => ho x (List.mem_append_left _ hx)) (by omega)
    have hnn : ((h.n.toNat : Nat) : Int) = h.n := by omega
    rw [invO_snoc, invS, List.length_append, List.length_singleton]
    generalize invO old l = st at *
    obtain ⟨b, at0⟩ := st
    simp only at ih ⊢
    by_cases k1 : h.kind = 1
    · rw [if_pos k1]
      have := ih.keep (by omega) (n := h.n.toNat) (by omega)
      rw [hnn] at this
      exact this
    · rw [if_neg k1]
      by_cases k2 : h.kind = 2
      · rw [if_pos k2]
        refine ⟨ih.nb.mono (by omega), by have := ih.d; simp only; omega, ?_, ih.sz, fun s hs' => ?_, by have := ih.len; simp only; omega⟩
        · have := ih.a
          simp only [List.length_append, List.length_take, List.length_drop]; omega
        · rcases List.mem_append.1 hs' with q | q
          · exact ih.sa s q
          · exact hs s (List.mem_of_mem_drop (List.mem_of_mem_take q))
      · rw [if_neg k2]
        exact ⟨ih.nb.mono (by omega), by have := ih.d; simp only; omega, by have := ih.a; simp only; omega, ih.sz, ih.sa, by have := ih.len; simp only; omega⟩
end Go.Proofs.YtfeknjpinboknaaGreatDoor

