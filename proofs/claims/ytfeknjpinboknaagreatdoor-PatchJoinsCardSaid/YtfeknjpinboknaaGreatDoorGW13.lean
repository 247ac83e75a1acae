/- Plain: the program's builder and the reference's Of. No conditions. Words for the builder's walk: lines of hunks that lie below a base. No conditions. The builder's memory: one hunk more, and the end of a flush. No conditions. -/
import Derived.Test.YtfeknjpinboknaaGreatDoorGA
import Derived.Test.YtfeknjpinboknaaGreatDoorGU

namespace Go.Proofs.YtfeknjpinboknaaGreatDoor
open Go Go.RowKit Go.Joins
set_option linter.unusedSimpArgs false
set_option linter.unusedVariables false

structure Bs where
  l : List Hk
  d : Nat
  a : List ByteArray
def dropH (d : Nat) : List Hk := if d = 0 then [] else [⟨2, d, []⟩]
def addH (a : List ByteArray) : List Hk := if a.length = 0 then [] else [⟨3, a.length, a⟩]
def Bs.flush (b : Bs) : Bs := ⟨b.l ++ dropH b.d ++ addH b.a, 0, []⟩
def bump (l : List Hk) (n : Nat) : List Hk := match l.getLast? with
  | some h => if h.kind = 1 then l.dropLast ++ [⟨1, h.n + n, h.lines⟩] else l ++ [⟨1, n, []⟩]
  | none => [⟨1, n, []⟩]
def Bs.keep (b : Bs) (n : Nat) : Bs := if n = 0 then b else ⟨bump b.flush.l n, 0, []⟩
def emit (nw : List ByteArray) (l : List Hk) (o t i j : Nat) : List Hk := l ++ dropH (i - o) ++ addH ((nw.drop t).take (j - t))
def ofS (nw : List ByteArray) (st : List Hk × Nat × Nat) (p : Nat × Nat) : List Hk × Nat × Nat := (bump (emit nw st.1 st.2.1 st.2.2 p.1 p.2) 1, p.1 + 1, p.2 + 1)
def ofL (nw : List ByteArray) (ps : List (Nat × Nat)) : List Hk × Nat × Nat := ps.foldl (ofS nw) ([], 0, 0)
def ofV (nw : List ByteArray) (m : Nat) (ps : List (Nat × Nat)) : List Hk := emit nw (ofL nw ps).1 (ofL nw ps).2.1 (ofL nw ps).2.2 m nw.length
theorem ofL_snoc (nw : List ByteArray) (ps : List (Nat × Nat)) (p : Nat × Nat) : ofL nw (ps ++ [p]) = ofS nw (ofL nw ps) p := by rw [ofL, List.foldl_append]; rfl
theorem bump_last (l : List Hk) (h : Hk) (n : Nat) : bump (l ++ [h]) n = if h.kind = 1 then l ++ [⟨1, h.n + n, h.lines⟩] else l ++ [h] ++ [⟨1, n, []⟩] := by
  simp [bump]
theorem bump_nil (n : Nat) : bump [] n = [⟨1, n, []⟩] := rfl
theorem bump_add (l : List Hk) (n : Nat) (hn : 1 ≤ n) : bump (bump l n) 1 = bump l (n + 1) := by
  rcases List.eq_nil_or_concat l with rfl | ⟨l', h, rfl⟩
  · have : bump ([] ++ [⟨1, (n : Int), []⟩]) 1 = [] ++ [⟨1, (n : Int) + 1, []⟩] := by rw [bump_last, if_pos rfl]; rfl
    rw [bump_nil, bump_nil]
    simpa using this
  · rw [List.concat_eq_append, bump_last, bump_last]
    by_cases k : h.kind = 1
    · rw [if_pos k, if_pos k, bump_last, if_pos rfl]
      simp [Int.add_assoc]
    · rw [if_neg k, if_neg k, bump_last, if_pos rfl]
      simp
theorem step_keep (nw : List ByteArray) (l : List Hk) (o t i j : Nat) : (Bs.keep ⟨l, i - o, (nw.drop t).take (j - t)⟩ 1).l = bump (emit nw l o t i j) 1 := by
  rw [Bs.keep, if_neg (by decide)]; rfl
end Go.Proofs.YtfeknjpinboknaaGreatDoor

namespace Go.Proofs.YtfeknjpinboknaaGreatDoor
open Go Go.RowKit Go.Joins Go.Shelf
set_option linter.unusedSimpArgs false
set_option linter.unusedVariables false

def LnLt (B : Nat) (hs : List Hm) : Prop := ∀ h ∈ hs, 0 < h.lines.length → ∀ a, h.adr = some a → a.block < B
theorem LnLt.mono {B B' : Nat} {hs : List Hm} (h : LnLt B hs) (hb : B ≤ B') : LnLt B' hs := fun x hx h0 a ha => Nat.lt_of_lt_of_le (h x hx h0 a ha) hb
theorem LnLt.nil (B : Nat) : LnLt B [] := fun _ h => by cases h
theorem LnLt.snoc {B : Nat} {hs : List Hm} (h : LnLt B hs) {x : Hm} (hx : 0 < x.lines.length → ∀ a, x.adr = some a → a.block < B) : LnLt B (hs ++ [x]) := fun y hy => by
  rcases List.mem_append.1 hy with hy | hy
  · exact h y hy
  · rw [List.mem_singleton] at hy; subst hy; exact hx
theorem LnOK.lt {w : World} {hs : List Hm} (h : LnOK w hs) : LnLt w.heap.size hs := fun x hx h0 a ha => by
  obtain ⟨_, _, h3⟩ := h x hx
  obtain ⟨b, o, cs, fz, e, hb⟩ := h3 h0
  rw [e] at ha
  injection ha with ha
  subst ha
  exact (Array.getElem?_eq_some_iff.1 hb).1
theorem LnOK.keep_lt {w w' : World} {hs : List Hm} {B : Nat} {row : Option Nat} (h : LnOK w hs) (hl : LnLt B hs) (hg : w.grownBy w' row) (hr : ∀ g, row = some g → B ≤ g) : LnOK w' hs := fun x hx => by
  obtain ⟨h1, h2, h3⟩ := h x hx
  refine ⟨h1, ⟨h2.1, fun hn => ?_⟩, fun h0 => ?_⟩
  · obtain ⟨b, o, cs, fz, e, hb⟩ := h3 hn
    obtain ⟨b', o', e', hlt, hc⟩ := h2.2 hn
    rw [e] at e'
    injection e' with e'
    injection e' with q1 q2
    subst q1 q2
    have hlb := hl x hx hn _ e
    refine ⟨b, o, e, by have := hg.size; omega, fun j u hu => ?_⟩
    refine hg.cell (hc j u hu) (fun q => ?_)
    have := hr b q.symm
    simp only at hlb
    omega
  · obtain ⟨b, o, cs, fz, e, hb⟩ := h3 h0
    have hlb := hl x hx h0 _ e
    refine ⟨b, o, cs, fz, e, (hg.block b (Array.getElem?_eq_some_iff.1 hb).1 (fun q => ?_)).trans hb⟩
    have := hr b q.symm
    simp only at hlb
    omega
structure BM (w0 w : World) (g b1 b2 : Nat) (hs : List Hm) (d : Nat) (a : List ByteArray) (V VA : Value) : Prop where
  blk : Blk w g 77 #[V, .int .i64 (d : Int), VA]
  own : w.ownsRow b1 55 3 V hs.length (hs.flatMap hmC)
  add : w.ownsRow b2 9 1 VA a.length (sCells a)
  ln : LnOK w hs
  lt : LnLt b2 hs
  nw : New w0 w
  g0 : w0.heap.size ≤ g
  h1 : w0.heap.size ≤ b1
  h2 : w0.heap.size ≤ b2
  k1 : b1 ≤ w.heap.size
  k2 : b2 ≤ w.heap.size
theorem BM.new {w0 w w' : World} {g b1 b2 : Nat} {hs : List Hm} {d : Nat} {a : List ByteArray} {V VA : Value} (h : BM w0 w g b1 b2 hs d a V VA) (hn : New w w') : BM w0 w' g b1 b2 hs d a V VA :=
  ⟨h.blk.new hn, own_new h.own hn, own_new h.add hn, h.ln.new hn, h.lt, h.nw.trans hn, h.g0, h.h1, h.h2, Nat.le_trans h.k1 hn.size, Nat.le_trans h.k2 hn.size⟩
theorem BM.reset {w0 w : World} {g b1 b2 : Nat} {hs : List Hm} {d d' : Nat} {a : List ByteArray} {V VA : Value} (h : BM w0 w g b1 b2 hs d a V VA) (B : Blk w g 77 #[V, .int .i64 (d' : Int), .slice none 0 0]) : BM w0 w g b1 w.heap.size hs d' [] V (.slice none 0 0) :=
  ⟨B, h.own, World.ownsRow_nil _ _ _ _, h.ln, h.ln.lt, h.nw, h.g0, h.h1, h.nw.size, h.k1, Nat.le_refl _⟩
structure Fr (w w' : World) (g : Nat) (V V' : Value) : Prop where
  sz : w.heap.size ≤ w'.heap.size
  ot : ∀ k < w.heap.size, k ≠ g → V.ownBlock ≠ some k → w'.heap[k]? = w.heap[k]?
  at' : V'.ownBlock = V.ownBlock ∨ ∀ k, V'.ownBlock = some k → w.heap.size ≤ k
theorem Fr.refl (w : World) (g : Nat) (V : Value) : Fr w w g V V := ⟨Nat.le_refl _, fun _ _ _ _ => rfl, Or.inl rfl⟩
theorem Fr.trans {w w' w'' : World} {g : Nat} {V V' V'' : Value} (h : Fr w w' g V V') (k : Fr w' w'' g V' V'') : Fr w w'' g V V'' := by
  refine ⟨Nat.le_trans h.sz k.sz, fun j hj hg hv => ?_, ?_⟩
  · rw [k.ot j (Nat.lt_of_lt_of_le hj h.sz) hg (fun e => ?_), h.ot j hj hg hv]
    rcases h.at' with q | q
    · exact hv (q ▸ e)
    · have := q j e; omega
  · rcases k.at' with q | q
    · rcases h.at' with q2 | q2
      · exact Or.inl (q.trans q2)
      · exact Or.inr (fun j e => q2 j (q ▸ e))
    · exact Or.inr (fun j e => Nat.le_trans h.sz (q j e))
end Go.Proofs.YtfeknjpinboknaaGreatDoor

namespace Go.Proofs.YtfeknjpinboknaaGreatDoor
open Go Go.RowKit Go.Joins Go.Shelf
set_option linter.unusedSimpArgs false
set_option linter.unusedVariables false

theorem cut1 {G X : Prop} (h : G → X) (g : G) : X := h g
theorem row_ne {w : World} {B e size n B' e' size' n' : Nat} {v v' : Value} {xs xs' : List Value} (h : w.ownsRow B e size v n xs) (h' : w.ownsRow B' e' size' v' n' xs') (ht : e ≠ e') : v.ownBlock = none ∨ v.ownBlock ≠ v'.ownBlock := by
  cases hv : v.ownBlock with
  | none => exact Or.inl rfl
  | some k =>
    refine Or.inr (fun q => ?_)
    obtain ⟨c, fz, hk⟩ := own_kind3 h k hv
    obtain ⟨c', fz', hk'⟩ := own_kind3 h' k q.symm
    rw [hk] at hk'
    injection hk' with hk'
    injection hk' with _ q2
    exact ht q2
theorem BM.drew {w0 w : World} {g b1 b2 : Nat} {hs : List Hm} {d : Nat} {a : List ByteArray} {V VA : Value} (h : BM w0 w g b1 b2 hs d a V VA) : BM w0 w.drew g b1 b2 hs d a V VA := ⟨h.blk, h.own, h.add, h.ln, h.lt, h.nw.drew, h.g0, h.h1, h.h2, h.k1, h.k2⟩
theorem Fr.undrew {w w' : World} {g : Nat} {V V' : Value} (h : Fr w.drew w' g V V') : Fr w w' g V V' := ⟨h.sz, h.ot, h.at'⟩
theorem dropH_zero : dropH 0 = [] := rfl
theorem addH_nil : addH [] = [] := rfl
theorem dropH_pos {d : Nat} (h : 0 < d) : dropH d = [⟨2, d, []⟩] := if_neg (by omega)
theorem addH_pos {a : List ByteArray} (h : 0 < a.length) : addH a = [⟨3, a.length, a⟩] := if_neg (by omega)
structure BP (w0 w : World) (g b1 : Nat) (hs : List Hm) (V : Value) : Prop where
  own : w.ownsRow b1 55 3 V hs.length (hs.flatMap hmC)
  ln : LnOK w hs
  nw : New w0 w
  g0 : w0.heap.size ≤ g
  h1 : w0.heap.size ≤ b1
  k1 : b1 ≤ w.heap.size
theorem BM.bp {w0 w : World} {g b1 b2 : Nat} {hs : List Hm} {d : Nat} {a : List ByteArray} {V VA : Value} (h : BM w0 w g b1 b2 hs d a V VA) : BP w0 w g b1 hs V := ⟨h.own, h.ln, h.nw, h.g0, h.h1, h.k1⟩
theorem BP.put {w0 w : World} {g b1 i : Nat} {hs : List Hm} {V : Value} {cs : Array Value} (h : BP w0 w g b1 hs V) (B : Blk w g 77 cs) (u : Value) : BP w0 (w.setCell ⟨g, i, none⟩ u) g b1 hs V :=
  ⟨h.own.kept (grown_set _ _ _ _) (Or.inr (ne_kind (cs := []) h.own B (by decide))), h.ln.keep (grown_set _ _ _ _) (fun q e => by injection e with e; subst e; exact ⟨_, 77, _, B, by decide⟩), h.nw.setCell (p := ⟨g, i, none⟩) h.g0 u, h.g0, h.h1, by rw [World.size_setCell]; exact h.k1⟩
theorem Fr.put {w w' : World} {g i : Nat} {V V' : Value} (h : Fr w w' g V V') (u : Value) : Fr w (w'.setCell ⟨g, i, none⟩ u) g V V' :=
  ⟨by rw [World.size_setCell]; exact h.sz, fun k hk hg hv => (Below.heap_setCell w' ⟨g, i, none⟩ u k hg).trans (h.ot k hk hg hv), h.at'⟩
theorem BM.push {w0 w w2 : World} {g b1 b2 gg cap : Nat} {hs : List Hm} {d : Nat} {a : List ByteArray} {V VA : Value} {o : Obj} (h : BM w0 w g b1 b2 hs d a V VA) (hg : (w.alloc o).grownBy w2 V.ownBlock) {x : Hm} {n : Nat} (hn : n = (hs ++ [x]).length)
    (own2 : w2.ownsRow b1 55 3 (.slice (some ⟨gg, 0, none⟩) n cap) n (hs.flatMap hmC ++ hmC x)) (hat : V.ownBlock = some gg ∨ gg = w.heap.size + 1) (hx : LnOK w [x]) :
    Blk (w2.setCell ⟨g, 0, none⟩ (.slice (some ⟨gg, 0, none⟩) n cap)) g 77 #[.slice (some ⟨gg, 0, none⟩) n cap, .int .i64 (d : Int), VA] ∧ (w2.setCell ⟨g, 0, none⟩ (.slice (some ⟨gg, 0, none⟩) n cap)).ownsRow b2 9 1 VA a.length (sCells a) ∧ BP w0 (w2.setCell ⟨g, 0, none⟩ (.slice (some ⟨gg, 0, none⟩) n cap)) g b1 (hs ++ [x]) (.slice (some ⟨gg, 0, none⟩) n cap) ∧ Fr w (w2.setCell ⟨g, 0, none⟩ (.slice (some ⟨gg, 0, none⟩) n cap)) g V (.slice (some ⟨gg, 0, none⟩) n cap) := by
  subst hn
  have hnV : V.ownBlock ≠ some g := ne_kind (cs := []) h.own h.blk (by decide)
  have B2 := (h.blk.alloc o).grown hg (Ne.symm hnV)
  have hsz := hg.size
  rw [World.size_alloc] at hsz
  have kind := own_kind3 (h.own.alloc o)
  have hln : LnOK w2 (hs ++ [x]) := by
    have : LnOK w (hs ++ [x]) := fun y hy => by
      rcases List.mem_append.1 hy with hy | hy
      · exact h.ln y hy
      · exact hx y hy
    exact (this.new ((New.refl w).alloc o)).keep hg (fun q e => by
      obtain ⟨c, fz, hh⟩ := kind q e
      exact ⟨c, 55, fz, hh, by decide⟩)
  have hadd : w2.ownsRow b2 9 1 VA a.length (sCells a) := (h.add.alloc o).kept hg (row_ne h.add h.own (by decide))
  have hnw : New w0 w2 := Below.grown (h.nw.alloc o) hg (by rw [World.size_alloc]; have := h.nw.size; omega) (fun q e => Nat.le_trans h.h1 (h.own.lt q e).1)
  have own3 : w2.ownsRow b1 55 3 (.slice (some ⟨gg, 0, none⟩) (hs ++ [x]).length cap) (hs ++ [x]).length ((hs ++ [x]).flatMap hmC) := by
    rw [List.flatMap_append]; simpa using own2
  have P2 : BP w0 w2 g b1 (hs ++ [x]) (.slice (some ⟨gg, 0, none⟩) (hs ++ [x]).length cap) := ⟨own3, hln, hnw, h.g0, h.h1, by have := h.k1; omega⟩
  refine ⟨B2.put 0 _, hadd.kept (grown_set _ _ _ _) (Or.inr (ne_kind (cs := []) hadd B2 (by decide))), P2.put B2 _, Fr.put ⟨by omega, fun k hk hkg hv => ?_, ?_⟩ _⟩
  · rw [hg.block k (by rw [World.size_alloc]; omega) (fun e => hv e.symm)]
    exact Below.heap_alloc w o k hk
  · simp only [Value.ownBlock]
    rcases hat with q | q
    · exact Or.inl q.symm
    · exact Or.inr (fun k e => by injection e with e; omega)
theorem own_ln3 {w : World} {base n : Nat} {v : Value} {ws : List ByteArray} (h : w.ownsRow base 9 1 v n (sCells ws)) : ∃ A c, v = .slice A n c ∧ n ≤ c ∧ LnOK w [⟨3, (n : Int), ws, A, c⟩] ∧ (0 < n → ∃ b, A = some ⟨b, 0, none⟩ ∧ base ≤ b ∧ b < w.heap.size) := by
  rcases h.2 with ⟨rfl, rfl⟩ | ⟨g, cap, cur, rfl, hg, hh, hnc, hc, _⟩
  · refine ⟨none, 0, rfl, Nat.le_refl _, fun y hy => ?_, fun h0 => absurd h0 (by omega)⟩
    rw [List.mem_singleton] at hy; subst hy
    have := h.1
    rw [sCells_len] at this
    simp only [Nat.zero_mul] at this
    simp only [this]
    exact ⟨Nat.le_refl _, by have q := Rd.of_own h; simpa using q, fun h0 => absurd h0 (by omega)⟩
  · have hl : ws.length = n := by have := h.1; rw [sCells_len, Nat.mul_one] at this; exact this
    refine ⟨_, cap, rfl, hnc, fun y hy => ?_, fun _ => ⟨g, rfl, hg, (Array.getElem?_eq_some_iff.1 hh).1⟩⟩
    rw [List.mem_singleton] at hy; subst hy
    simp only [hl]
    exact ⟨hnc, Rd.of_own h, fun _ => ⟨g, 0, cur, _, rfl, hh⟩⟩
theorem rn {w : World} {g : Nat} {t : TypeId} {x y : Value} {A : Option Addr} {n m c : Nat} (B : Blk w g t #[x, y, .slice A n c]) (h : n = m) : Blk w g t #[x, y, .slice A m c] := h ▸ B
theorem BP.done {w0 w : World} {g b1 : Nat} {hs : List Hm} {V y z : Value} (h : BP w0 w g b1 hs V) (B : Blk w g 77 #[V, y, z]) :
    ∃ b2, BM w0 ((w.setCell ⟨g, 1, none⟩ (.int .i64 0)).setCell ⟨g, 2, none⟩ (.slice none 0 0)) g b1 b2 hs 0 [] V (.slice none 0 0) := by
  have P1 := h.put (i := 1) B (.int .i64 0)
  have B1 := B.put 1 (.int .i64 0)
  have P2 := P1.put (i := 2) B1 (.slice none 0 0)
  have B2 := B1.put 2 (.slice none 0 0)
  exact ⟨_, B2.same (by simp), P2.own, World.ownsRow_nil _ _ _ _, P2.ln, P2.ln.lt, P2.nw, P2.g0, P2.h1, P2.nw.size, P2.k1, Nat.le_refl _⟩
end Go.Proofs.YtfeknjpinboknaaGreatDoor

