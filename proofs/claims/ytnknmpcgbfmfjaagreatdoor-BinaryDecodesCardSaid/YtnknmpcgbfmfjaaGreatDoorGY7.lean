/- Decode of the reference. Conditions: sizes. (Printed by mk-y7.py.) -/
import Derived.Test.YtnknmpcgbfmfjaaGreatDoorGBase
import Derived.Test.YtnknmpcgbfmfjaaGreatDoorGY5
import Derived.Test.YtnknmpcgbfmfjaaGreatDoorGY6
import Derived.Test.YtnknmpcgbfmfjaaGreatDoorGA1
import Derived.Laws.CopyRow
import Derived.Great.BuildSlice
import Derived.Deep.DeepCutAuto
import Derived.Deep.CutBlock
import Derived.Deep.Cut

namespace Go.Proofs.YtnknmpcgbfmfjaaGreatDoor
open Go Go.RowKit Go.Joins
set_option linter.unusedSimpArgs false
set_option linter.unusedVariables false

structure QL (w W : World) (g gb : Nat) (b : Bn) (h : BH) (s : RS) : Prop where
  rd : RdrQ W g s
  sz : RSz s
  new : New w W
  res : Blk W w.heap.size 28 #[.int .i64 0, .int .i64 0, .string ⟨#[]⟩, .slice none 0 0, .slice none 0 0, .slice none 0 0, .slice none 0 0, .slice none 0 0]
  non : Blk W (w.heap.size + 1) 28 #[.int .i64 0, .int .i64 0, .string ⟨#[]⟩, .slice none 0 0, .slice none 0 0, .slice none 0 0, .slice none 0 0, .slice none 0 0]
  blk : Blk W gb 28 (bcells b h)
  brd : BRd W b h
  far : ∀ A, A = h.a1 ∨ A = h.a2 ∨ A = h.a3 ∨ A = h.a4 ∨ A = h.a5 → ∀ a, A = some a → gb < a.block ∧ a.block < W.heap.size
  lg : w.heap.size + 1 < g
  lb : g < gb
structure QP (w W : World) (g gb : Nat) (b : Bn) (h : BH) (s : RS) (B : Nat) (t : TypeId) (k n : Nat) (v : Value) (xs : List Value) (gp : Nat) (tp : TypeId) (cs : Array Value) : Prop where
  q : QL w W g gb b h s
  own : W.ownsRow B t k v n xs
  p : Blk W gp tp cs
  lp : gb < gp
  lB : gb < B
  op : some gp ≠ v.ownBlock
  fp : ∀ A, A = h.a1 ∨ A = h.a2 ∨ A = h.a3 ∨ A = h.a4 ∨ A = h.a5 → ∀ a, A = some a → a.block ≠ gp
section
variable {w W W' : World} {g gb : Nat} {b : Bn} {h : BH} {s s' : RS} {B : Nat} {t : TypeId} {k n : Nat} {v : Value} {xs : List Value} {gp : Nat} {tp : TypeId} {cs : Array Value}
theorem QL.go (d : QL w W g gb b h s) (hg : W.grownBy W' (some g)) (hr : RdrQ W' g s') (hz : RSz s') : QL w W' g gb b h s' :=
  have := d.lg
  have := d.lb
  ⟨hr, hz, Below.grown d.new hg d.new.size (fun k hk => by cases hk; omega), d.res.grown hg (fun e => by injection e; omega), d.non.grown hg (fun e => by injection e; omega), d.blk.grown hg (fun e => by injection e; omega),
   d.brd.go hg (fun A hA a ha e => by have := d.far A hA a ha; injection e; omega), fun A hA a ha => ⟨(d.far A hA a ha).1, Nat.lt_of_lt_of_le (d.far A hA a ha).2 hg.size⟩, d.lg, d.lb⟩
theorem QL.alloc (d : QL w W g gb b h s) (o : Obj) : QL w (W.alloc o) g gb b h s :=
  ⟨d.rd.new ((New.refl W).alloc o), d.sz, d.new.alloc o, d.res.alloc o, d.non.alloc o, d.blk.alloc o, d.brd.new ((New.refl W).alloc o), fun A hA a ha => ⟨(d.far A hA a ha).1, Nat.lt_of_lt_of_le (d.far A hA a ha).2 ((New.refl W).alloc o).size⟩, d.lg, d.lb⟩
theorem QL.newW (d : QL w W g gb b h s) (hn : New W W') : QL w W' g gb b h s :=
  ⟨d.rd.new hn, d.sz, d.new.trans hn, d.res.new hn, d.non.new hn, d.blk.new hn, d.brd.new hn, fun A hA a ha => ⟨(d.far A hA a ha).1, Nat.lt_of_lt_of_le (d.far A hA a ha).2 hn.size⟩, d.lg, d.lb⟩
theorem QL.drew (d : QL w W g gb b h s) : QL w W.drew g gb b h s :=
  ⟨d.rd.new ((New.refl W).drew), d.sz, d.new.drew, d.res.drew, d.non.drew, d.blk.drew, d.brd.new ((New.refl W).drew), d.far, d.lg, d.lb⟩
theorem QL.off (d : QL w W g gb b h s) (hp : gb < gp) (hf : ∀ A, A = h.a1 ∨ A = h.a2 ∨ A = h.a3 ∨ A = h.a4 ∨ A = h.a5 → ∀ a, A = some a → a.block ≠ gp) (i : Nat) (x : Value) : QL w (W.setCell ⟨gp, i, none⟩ x) g gb b h s :=
  have := d.lg
  have := d.lb
  ⟨d.rd.set (by omega) i x, d.sz, below_setCell' d.new (by show w.heap.size ≤ gp; omega) x, d.res.far (p := ⟨gp, i, none⟩) (by show w.heap.size ≠ gp; omega) x, d.non.far (p := ⟨gp, i, none⟩) (by show w.heap.size + 1 ≠ gp; omega) x, d.blk.far (p := ⟨gp, i, none⟩) (by show gb ≠ gp; omega) x,
   d.brd.go (row := some gp) (grown_set W gp i x) (fun A hA a ha e => by have := hf A hA a ha; injection e; omega), fun A hA a ha => ⟨(d.far A hA a ha).1, Nat.lt_of_lt_of_le (d.far A hA a ha).2 (grown_set W gp i x).size⟩, d.lg, d.lb⟩
theorem QL.self (d : QL w W g gb b h s) (i : Nat) (x : Value) : RdrQ (W.setCell ⟨gb, i, none⟩ x) g s ∧ New w (W.setCell ⟨gb, i, none⟩ x) ∧ Blk (W.setCell ⟨gb, i, none⟩ x) w.heap.size 28 #[.int .i64 0, .int .i64 0, .string ⟨#[]⟩, .slice none 0 0, .slice none 0 0, .slice none 0 0, .slice none 0 0, .slice none 0 0] ∧ Blk (W.setCell ⟨gb, i, none⟩ x) (w.heap.size + 1) 28 #[.int .i64 0, .int .i64 0, .string ⟨#[]⟩, .slice none 0 0, .slice none 0 0, .slice none 0 0, .slice none 0 0, .slice none 0 0] ∧ BRd (W.setCell ⟨gb, i, none⟩ x) b h ∧ (∀ A, A = h.a1 ∨ A = h.a2 ∨ A = h.a3 ∨ A = h.a4 ∨ A = h.a5 → ∀ a, A = some a → gb < a.block ∧ a.block < (W.setCell ⟨gb, i, none⟩ x).heap.size) :=
  have := d.lg
  have := d.lb
  ⟨d.rd.set (by omega) i x, below_setCell' d.new (by show w.heap.size ≤ gb; omega) x, d.res.far (p := ⟨gb, i, none⟩) (by show w.heap.size ≠ gb; omega) x, d.non.far (p := ⟨gb, i, none⟩) (by show w.heap.size + 1 ≠ gb; omega) x,
   d.brd.go (row := some gb) (grown_set W gb i x) (fun A hA a ha e => by have := d.far A hA a ha; injection e; omega), fun A hA a ha => ⟨(d.far A hA a ha).1, Nat.lt_of_lt_of_le (d.far A hA a ha).2 (grown_set W gb i x).size⟩⟩
theorem QL.kind (d : QL w W g gb b h s) (x : Int) : QL w (W.setCell ⟨gb, 0, none⟩ (.int .i64 x)) g gb { b with kind := x } h s :=
  have k := d.self 0 (.int .i64 x)
  ⟨k.1, d.sz, k.2.1, k.2.2.1, k.2.2.2.1, d.blk.put 0 (.int .i64 x), ⟨k.2.2.2.2.1.r1, k.2.2.2.2.1.r2, k.2.2.2.2.1.r3, k.2.2.2.2.1.r4, k.2.2.2.2.1.r5⟩, k.2.2.2.2.2, d.lg, d.lb⟩
theorem QL.entry (d : QL w W g gb b h s) (x : Int) : QL w (W.setCell ⟨gb, 1, none⟩ (.int .i64 x)) g gb { b with entry := x } h s :=
  have k := d.self 1 (.int .i64 x)
  ⟨k.1, d.sz, k.2.1, k.2.2.1, k.2.2.2.1, d.blk.put 1 (.int .i64 x), ⟨k.2.2.2.2.1.r1, k.2.2.2.2.1.r2, k.2.2.2.2.1.r3, k.2.2.2.2.1.r4, k.2.2.2.2.1.r5⟩, k.2.2.2.2.2, d.lg, d.lb⟩
theorem QL.image (d : QL w W g gb b h s) (x : ByteArray) : QL w (W.setCell ⟨gb, 2, none⟩ (.string x)) g gb { b with image := x } h s :=
  have k := d.self 2 (.string x)
  ⟨k.1, d.sz, k.2.1, k.2.2.1, k.2.2.2.1, d.blk.put 2 (.string x), ⟨k.2.2.2.2.1.r1, k.2.2.2.2.1.r2, k.2.2.2.2.1.r3, k.2.2.2.2.1.r4, k.2.2.2.2.1.r5⟩, k.2.2.2.2.2, d.lg, d.lb⟩
theorem QL.made (d : QL w W g gb b h s) (own : W.ownsRow B t k v n xs) (hB : gb < B) (tp : TypeId) (cs : Array Value) : QP w (W.alloc (.cells cs tp)) g gb b h s B t k n v xs W.heap.size tp cs :=
  ⟨d.alloc _, own.alloc _, Blk.made W tp cs, d.blk.lt, hB, fun e => by have := (own.lt _ e.symm).2; omega, fun A hA a ha => by have := (d.far A hA a ha).2; omega⟩
theorem QP.go (d : QP w W g gb b h s B t k n v xs gp tp cs) (hg : W.grownBy W' (some g)) (hr : RdrQ W' g s') (hz : RSz s') : QP w W' g gb b h s' B t k n v xs gp tp cs :=
  have := d.q.lb
  have := d.lB
  have := d.lp
  ⟨d.q.go hg hr hz, own_go d.own hg (by omega), d.p.grown hg (fun e => by injection e; omega), d.lp, d.lB, d.op, d.fp⟩
theorem QP.put (d : QP w W g gb b h s B t k n v xs gp tp cs) (i : Nat) (x : Value) : QP w (W.setCell ⟨gp, i, none⟩ x) g gb b h s B t k n v xs gp tp (cs.setIfInBounds i x) :=
  ⟨d.q.off d.lp d.fp i x, d.own.kept (grown_set W gp i x) (Or.inr (fun e => d.op e.symm)), d.p.put i x, d.lp, d.lB, d.op, d.fp⟩
theorem q_num {hi : Nat} (hhi : hi ≤ 281474976710656) (d : QL w W g gb b h s) : Calls Tryz.prog 70 #[.pointer (some ⟨g, 0, none⟩), .int .i64 0, .int .i64 hi] W fun e w' => e = .returned (.int .i64 ((numS hi s).1 : Nat)) ∧ QL w w' g gb b h (numS hi s).2 :=
  (rdnum_any g hi s W d.rd d.sz hhi).mono fun e w' ⟨he, hr, hg⟩ => ⟨he, d.go hg hr (num_sz d.sz)⟩
theorem q_cnt (d : QL w W g gb b h s) : Calls Tryz.prog 71 #[.pointer (some ⟨g, 0, none⟩)] W fun e w' => e = .returned (.int .i64 ((numS 65536 s).1 : Nat)) ∧ QL w w' g gb b h (numS 65536 s).2 :=
  (rcnt_any g s W d.rd d.sz).mono fun e w' ⟨he, hr, hg⟩ => ⟨he, d.go hg hr (num_sz d.sz)⟩
theorem q_txt {mo : Nat} (hmo : mo ≤ 281474976710656) (d : QL w W g gb b h s) : Calls Tryz.prog 69 #[.pointer (some ⟨g, 0, none⟩), .int .i64 mo] W fun e w' => e = .returned (.string (txtS mo s).1) ∧ QL w w' g gb b h (txtS mo s).2 :=
  (rdtxt_any g mo s W d.rd d.sz hmo).mono fun e w' ⟨he, hr, hg⟩ => ⟨he, d.go hg hr (txt_sz d.sz)⟩
theorem p_num2 {u : Nat} (he : numS 2 s = (u, s')) (d : QP w W g gb b h s B t k n v xs gp tp cs) : Calls Tryz.prog 70 #[.pointer (some ⟨g, 0, none⟩), .int .i64 0, .int .i64 2] W fun e w' => e = .returned (.int .i64 (u : Nat)) ∧ QP w w' g gb b h s' B t k n v xs gp tp cs := by
  have c := rdnum_any g 2 s W d.q.rd d.q.sz (by decide)
  have z := num_sz (hi := 2) d.q.sz
  rw [he] at c z
  exact c.mono fun e w' ⟨he, hr, hg⟩ => ⟨he, d.go hg hr z⟩
theorem p_num {u : Nat} (he : numS 65536 s = (u, s')) (d : QP w W g gb b h s B t k n v xs gp tp cs) : Calls Tryz.prog 70 #[.pointer (some ⟨g, 0, none⟩), .int .i64 0, .int .i64 65536] W fun e w' => e = .returned (.int .i64 (u : Nat)) ∧ QP w w' g gb b h s' B t k n v xs gp tp cs := by
  have c := rdnum_any g 65536 s W d.q.rd d.q.sz (by decide)
  have z := num_sz (hi := 65536) d.q.sz
  rw [he] at c z
  exact c.mono fun e w' ⟨he, hr, hg⟩ => ⟨he, d.go hg hr z⟩
theorem p_txt {u : ByteArray} (he : txtS 65536 s = (u, s')) (d : QP w W g gb b h s B t k n v xs gp tp cs) : Calls Tryz.prog 69 #[.pointer (some ⟨g, 0, none⟩), .int .i64 65536] W fun e w' => e = .returned (.string u) ∧ QP w w' g gb b h s' B t k n v xs gp tp cs := by
  have c := rdtxt_any g 65536 s W d.q.rd d.q.sz (by decide)
  have z := txt_sz (most := 65536) d.q.sz
  rw [he] at c z
  exact c.mono fun e w' ⟨he, hr, hg⟩ => ⟨he, d.go hg hr z⟩
theorem QL.appB (q : QL w W g gb b h s) (own : W.ownsRow B t k v n xs) (hg : W.grownBy W' v.ownBlock) (hB : gb < B) (i : Nat) (x : Value) :
    (RdrQ (W'.setCell ⟨gb, i, none⟩ x) g s ∧ New w (W'.setCell ⟨gb, i, none⟩ x) ∧ Blk (W'.setCell ⟨gb, i, none⟩ x) w.heap.size 28 #[.int .i64 0, .int .i64 0, .string ⟨#[]⟩, .slice none 0 0, .slice none 0 0, .slice none 0 0, .slice none 0 0, .slice none 0 0] ∧ Blk (W'.setCell ⟨gb, i, none⟩ x) (w.heap.size + 1) 28 #[.int .i64 0, .int .i64 0, .string ⟨#[]⟩, .slice none 0 0, .slice none 0 0, .slice none 0 0, .slice none 0 0, .slice none 0 0]) ∧ Blk W' gb 28 (bcells b h) ∧ W.heap.size ≤ (W'.setCell ⟨gb, i, none⟩ x).heap.size ∧
    ∀ {k n : Nat} {A : Option Addr} {xs : List Value}, Rd W k A n xs → (∀ a, A = some a → gb < a.block ∧ a.block < W.heap.size) → (∀ a, A = some a → a.block < B) → Rd (W'.setCell ⟨gb, i, none⟩ x) k A n xs := by
  have hrow : ∀ r, v.ownBlock = some r → B ≤ r := fun r hr => (own.lt r hr).1
  have l1 := q.lg
  have l2 := q.lb
  have ne : ∀ m, m < B → some m ≠ v.ownBlock := fun m hm e => by have := hrow _ e.symm; omega
  exact ⟨⟨(q.rd.far hg (ne _ (by omega))).set (by omega) _ _, below_setCell' (Below.grown q.new hg q.new.size (fun k hk => by have := hrow _ hk; omega)) (by show w.heap.size ≤ gb; omega) _,
    (q.res.grown hg (ne _ (by omega))).far (p := ⟨gb, i, none⟩) (by show w.heap.size ≠ gb; omega) _, (q.non.grown hg (ne _ (by omega))).far (p := ⟨gb, i, none⟩) (by show w.heap.size + 1 ≠ gb; omega) _⟩, q.blk.grown hg (ne _ (by omega)), Nat.le_trans hg.size (grown_set W' gb i x).size,
    fun r h1 h2 => (r.go hg (fun a ha => ne _ (h2 a ha))).setFar (p := ⟨gb, i, none⟩) (fun a ha => by have := (h1 a ha).1; show a.block ≠ gb; omega) _⟩
theorem own_in {A : Option Addr} {c : Nat} (own : W.ownsRow B t k (.slice A n c) n xs) : ∀ a, A = some a → B ≤ a.block ∧ a.block < W.heap.size := fun a ha => ⟨own_far own a ha, by
  rcases own.2 with ⟨hv, _⟩ | ⟨g', cap, cur, hv, _, hh, _⟩
  · injection hv with h1; rw [ha] at h1; cases h1
  · injection hv with h1
    rw [ha] at h1
    injection h1 with h1
    rw [h1]
    exact (Array.getElem?_eq_some_iff.1 hh).1⟩
theorem many_end {α : Type} {one : RS → α × RS} {k : Nat} {s' : RS} {xs ZL : List α} {Z2 : RS} (hc : k = 0 ∨ s' = none) (e : (xs ++ (manyS one k s').1, (manyS one k s').2) = (ZL, Z2)) : xs = ZL ∧ s' = Z2 := by
  rcases hc with rfl | rfl
  · rw [manyS, List.append_nil] at e; exact ⟨(Prod.mk.inj e).1, (Prod.mk.inj e).2⟩
  · rw [many_none, List.append_nil] at e; exact ⟨(Prod.mk.inj e).1, (Prod.mk.inj e).2⟩
end

theorem QL.step1 {w W W' : World} {g gb : Nat} {kd en : Int} {img : ByteArray} {places : List PlD} {fix : List Int} {imps : List ImD} {exps : List ExD} {notes : List NtD} {A1 A2 A3 A4 A5 : Option Addr} {C1 C2 C3 C4 C5 n : Nat} {s : RS} {B : Nat} {x : PlD} {v' : Value} (q : QL w W g gb ⟨kd, en, img, places, fix, imps, exps, notes⟩ ⟨A1, C1, A2, C2, A3, C3, A4, C4, A5, C5⟩ s)
    (own : W.ownsRow B 60 5 (.slice A1 n C1) n (places.flatMap plC)) (hx : places.length = n) (hg : W.grownBy W' (Value.slice A1 n C1).ownBlock) (own' : W'.ownsRow B 60 5 v' (n + 1) (places.flatMap plC ++ [x].flatMap plC)) (hlo : ∀ A, A = A2 ∨ A = A3 ∨ A = A4 ∨ A = A5 → ∀ a, A = some a → a.block < B) (hB : gb < B) (hsz : B ≤ W.heap.size) :
    ∃ A' C', v' = .slice A' (n + 1) C' ∧ W'.frozen? ⟨gb, 3, none⟩ = false ∧ (∃ u, W'.cell? ⟨gb, 3, none⟩ = some u) ∧ Hid ((places ++ [x]).length = n + 1) ∧ Hid (QL w (W'.setCell ⟨gb, 3, none⟩ (.slice A' (n + 1) C')) g gb ⟨kd, en, img, places ++ [x], fix, imps, exps, notes⟩ ⟨A', C', A2, C2, A3, C3, A4, C4, A5, C5⟩ s) ∧ Hid ((W'.setCell ⟨gb, 3, none⟩ (.slice A' (n + 1) C')).ownsRow B 60 5 (.slice A' (n + 1) C') (n + 1) ((places ++ [x]).flatMap plC)) ∧ Hid (B ≤ (W'.setCell ⟨gb, 3, none⟩ (.slice A' (n + 1) C')).heap.size) := by
  obtain ⟨A', C', rfl, _, _, r'⟩ := own_form own'
  obtain ⟨⟨p1, p2, p3, p4⟩, hblk, hgs, hrd⟩ := q.appB own hg hB 3 (.slice A' (n + 1) C')
  have hin := own_in own'
  have hn : (places ++ [x]).length = n + 1 := by simp [hx]
  rw [← List.flatMap_append] at own' r'
  refine ⟨A', C', rfl, hblk.free 3, ⟨_, hblk.cell' 3 _ rfl⟩, Lib.hid hn, Lib.hid ⟨p1, q.sz, p2, p3, p4, ?_, ⟨?_, hrd q.brd.r2 (q.far A2 (Or.inr (Or.inl rfl))) (hlo A2 (Or.inl rfl)), hrd q.brd.r3 (q.far A3 (Or.inr (Or.inr (Or.inl rfl)))) (hlo A3 (Or.inr (Or.inl rfl))), hrd q.brd.r4 (q.far A4 (Or.inr (Or.inr (Or.inr (Or.inl rfl))))) (hlo A4 (Or.inr (Or.inr (Or.inl rfl)))), hrd q.brd.r5 (q.far A5 (Or.inr (Or.inr (Or.inr (Or.inr (rfl)))))) (hlo A5 (Or.inr (Or.inr (Or.inr (rfl)))))⟩, ?_, q.lg, q.lb⟩, Lib.hid (own'.kept (grown_set W' gb 3 _) (Or.inr (fun e => by have := (own'.lt gb e).1; omega))), Lib.hid (by omega)⟩
  · have := hblk.put 3 (.slice A' (n + 1) C')
    simp only [bcells, hn]
    exact this
  · simp only
    rw [hn]
    exact r'.setFar (p := ⟨gb, 3, none⟩) (fun a ha => by have := (hin a ha).1; show a.block ≠ gb; omega) _
  · intro A hA a ha
    rcases hA with e | e | e | e | e
    · simp only at e; rw [e] at ha; exact ⟨by have := (hin a ha).1; omega, Nat.lt_of_lt_of_le (hin a ha).2 (grown_set W' gb 3 _).size⟩
    · simp only at e; rw [e] at ha; have h1 := q.far A2 (Or.inr (Or.inl rfl)) a ha; exact ⟨h1.1, Nat.lt_of_lt_of_le h1.2 hgs⟩
    · simp only at e; rw [e] at ha; have h1 := q.far A3 (Or.inr (Or.inr (Or.inl rfl))) a ha; exact ⟨h1.1, Nat.lt_of_lt_of_le h1.2 hgs⟩
    · simp only at e; rw [e] at ha; have h1 := q.far A4 (Or.inr (Or.inr (Or.inr (Or.inl rfl)))) a ha; exact ⟨h1.1, Nat.lt_of_lt_of_le h1.2 hgs⟩
    · simp only at e; rw [e] at ha; have h1 := q.far A5 (Or.inr (Or.inr (Or.inr (Or.inr (rfl))))) a ha; exact ⟨h1.1, Nat.lt_of_lt_of_le h1.2 hgs⟩
theorem QL.step2 {w W W' : World} {g gb : Nat} {kd en : Int} {img : ByteArray} {places : List PlD} {fix : List Int} {imps : List ImD} {exps : List ExD} {notes : List NtD} {A1 A2 A3 A4 A5 : Option Addr} {C1 C2 C3 C4 C5 n : Nat} {s : RS} {B : Nat} {x : Int} {v' : Value} (q : QL w W g gb ⟨kd, en, img, places, fix, imps, exps, notes⟩ ⟨A1, C1, A2, C2, A3, C3, A4, C4, A5, C5⟩ s)
    (own : W.ownsRow B 3 1 (.slice A2 n C2) n (fix.flatMap fxC)) (hx : fix.length = n) (hg : W.grownBy W' (Value.slice A2 n C2).ownBlock) (own' : W'.ownsRow B 3 1 v' (n + 1) (fix.flatMap fxC ++ [x].flatMap fxC)) (hlo : ∀ A, A = A1 ∨ A = A3 ∨ A = A4 ∨ A = A5 → ∀ a, A = some a → a.block < B) (hB : gb < B) (hsz : B ≤ W.heap.size) :
    ∃ A' C', v' = .slice A' (n + 1) C' ∧ W'.frozen? ⟨gb, 4, none⟩ = false ∧ (∃ u, W'.cell? ⟨gb, 4, none⟩ = some u) ∧ Hid ((fix ++ [x]).length = n + 1) ∧ Hid (QL w (W'.setCell ⟨gb, 4, none⟩ (.slice A' (n + 1) C')) g gb ⟨kd, en, img, places, fix ++ [x], imps, exps, notes⟩ ⟨A1, C1, A', C', A3, C3, A4, C4, A5, C5⟩ s) ∧ Hid ((W'.setCell ⟨gb, 4, none⟩ (.slice A' (n + 1) C')).ownsRow B 3 1 (.slice A' (n + 1) C') (n + 1) ((fix ++ [x]).flatMap fxC)) ∧ Hid (B ≤ (W'.setCell ⟨gb, 4, none⟩ (.slice A' (n + 1) C')).heap.size) := by
  obtain ⟨A', C', rfl, _, _, r'⟩ := own_form own'
  obtain ⟨⟨p1, p2, p3, p4⟩, hblk, hgs, hrd⟩ := q.appB own hg hB 4 (.slice A' (n + 1) C')
  have hin := own_in own'
  have hn : (fix ++ [x]).length = n + 1 := by simp [hx]
  rw [← List.flatMap_append] at own' r'
  refine ⟨A', C', rfl, hblk.free 4, ⟨_, hblk.cell' 4 _ rfl⟩, Lib.hid hn, Lib.hid ⟨p1, q.sz, p2, p3, p4, ?_, ⟨hrd q.brd.r1 (q.far A1 (Or.inl rfl)) (hlo A1 (Or.inl rfl)), ?_, hrd q.brd.r3 (q.far A3 (Or.inr (Or.inr (Or.inl rfl)))) (hlo A3 (Or.inr (Or.inl rfl))), hrd q.brd.r4 (q.far A4 (Or.inr (Or.inr (Or.inr (Or.inl rfl))))) (hlo A4 (Or.inr (Or.inr (Or.inl rfl)))), hrd q.brd.r5 (q.far A5 (Or.inr (Or.inr (Or.inr (Or.inr (rfl)))))) (hlo A5 (Or.inr (Or.inr (Or.inr (rfl)))))⟩, ?_, q.lg, q.lb⟩, Lib.hid (own'.kept (grown_set W' gb 4 _) (Or.inr (fun e => by have := (own'.lt gb e).1; omega))), Lib.hid (by omega)⟩
  · have := hblk.put 4 (.slice A' (n + 1) C')
    simp only [bcells, hn]
    exact this
  · simp only
    rw [hn]
    exact r'.setFar (p := ⟨gb, 4, none⟩) (fun a ha => by have := (hin a ha).1; show a.block ≠ gb; omega) _
  · intro A hA a ha
    rcases hA with e | e | e | e | e
    · simp only at e; rw [e] at ha; have h1 := q.far A1 (Or.inl rfl) a ha; exact ⟨h1.1, Nat.lt_of_lt_of_le h1.2 hgs⟩
    · simp only at e; rw [e] at ha; exact ⟨by have := (hin a ha).1; omega, Nat.lt_of_lt_of_le (hin a ha).2 (grown_set W' gb 4 _).size⟩
    · simp only at e; rw [e] at ha; have h1 := q.far A3 (Or.inr (Or.inr (Or.inl rfl))) a ha; exact ⟨h1.1, Nat.lt_of_lt_of_le h1.2 hgs⟩
    · simp only at e; rw [e] at ha; have h1 := q.far A4 (Or.inr (Or.inr (Or.inr (Or.inl rfl)))) a ha; exact ⟨h1.1, Nat.lt_of_lt_of_le h1.2 hgs⟩
    · simp only at e; rw [e] at ha; have h1 := q.far A5 (Or.inr (Or.inr (Or.inr (Or.inr (rfl))))) a ha; exact ⟨h1.1, Nat.lt_of_lt_of_le h1.2 hgs⟩
theorem QL.step3 {w W W' : World} {g gb : Nat} {kd en : Int} {img : ByteArray} {places : List PlD} {fix : List Int} {imps : List ImD} {exps : List ExD} {notes : List NtD} {A1 A2 A3 A4 A5 : Option Addr} {C1 C2 C3 C4 C5 n : Nat} {s : RS} {B : Nat} {x : ImD} {v' : Value} (q : QL w W g gb ⟨kd, en, img, places, fix, imps, exps, notes⟩ ⟨A1, C1, A2, C2, A3, C3, A4, C4, A5, C5⟩ s)
    (own : W.ownsRow B 81 3 (.slice A3 n C3) n (imps.flatMap imC)) (hx : imps.length = n) (hg : W.grownBy W' (Value.slice A3 n C3).ownBlock) (own' : W'.ownsRow B 81 3 v' (n + 1) (imps.flatMap imC ++ [x].flatMap imC)) (hlo : ∀ A, A = A1 ∨ A = A2 ∨ A = A4 ∨ A = A5 → ∀ a, A = some a → a.block < B) (hB : gb < B) (hsz : B ≤ W.heap.size) :
    ∃ A' C', v' = .slice A' (n + 1) C' ∧ W'.frozen? ⟨gb, 5, none⟩ = false ∧ (∃ u, W'.cell? ⟨gb, 5, none⟩ = some u) ∧ Hid ((imps ++ [x]).length = n + 1) ∧ Hid (QL w (W'.setCell ⟨gb, 5, none⟩ (.slice A' (n + 1) C')) g gb ⟨kd, en, img, places, fix, imps ++ [x], exps, notes⟩ ⟨A1, C1, A2, C2, A', C', A4, C4, A5, C5⟩ s) ∧ Hid ((W'.setCell ⟨gb, 5, none⟩ (.slice A' (n + 1) C')).ownsRow B 81 3 (.slice A' (n + 1) C') (n + 1) ((imps ++ [x]).flatMap imC)) ∧ Hid (B ≤ (W'.setCell ⟨gb, 5, none⟩ (.slice A' (n + 1) C')).heap.size) := by
  obtain ⟨A', C', rfl, _, _, r'⟩ := own_form own'
  obtain ⟨⟨p1, p2, p3, p4⟩, hblk, hgs, hrd⟩ := q.appB own hg hB 5 (.slice A' (n + 1) C')
  have hin := own_in own'
  have hn : (imps ++ [x]).length = n + 1 := by simp [hx]
  rw [← List.flatMap_append] at own' r'
  refine ⟨A', C', rfl, hblk.free 5, ⟨_, hblk.cell' 5 _ rfl⟩, Lib.hid hn, Lib.hid ⟨p1, q.sz, p2, p3, p4, ?_, ⟨hrd q.brd.r1 (q.far A1 (Or.inl rfl)) (hlo A1 (Or.inl rfl)), hrd q.brd.r2 (q.far A2 (Or.inr (Or.inl rfl))) (hlo A2 (Or.inr (Or.inl rfl))), ?_, hrd q.brd.r4 (q.far A4 (Or.inr (Or.inr (Or.inr (Or.inl rfl))))) (hlo A4 (Or.inr (Or.inr (Or.inl rfl)))), hrd q.brd.r5 (q.far A5 (Or.inr (Or.inr (Or.inr (Or.inr (rfl)))))) (hlo A5 (Or.inr (Or.inr (Or.inr (rfl)))))⟩, ?_, q.lg, q.lb⟩, Lib.hid (own'.kept (grown_set W' gb 5 _) (Or.inr (fun e => by have := (own'.lt gb e).1; omega))), Lib.hid (by omega)⟩
  · have := hblk.put 5 (.slice A' (n + 1) C')
    simp only [bcells, hn]
    exact this
  · simp only
    rw [hn]
    exact r'.setFar (p := ⟨gb, 5, none⟩) (fun a ha => by have := (hin a ha).1; show a.block ≠ gb; omega) _
  · intro A hA a ha
    rcases hA with e | e | e | e | e
    · simp only at e; rw [e] at ha; have h1 := q.far A1 (Or.inl rfl) a ha; exact ⟨h1.1, Nat.lt_of_lt_of_le h1.2 hgs⟩
    · simp only at e; rw [e] at ha; have h1 := q.far A2 (Or.inr (Or.inl rfl)) a ha; exact ⟨h1.1, Nat.lt_of_lt_of_le h1.2 hgs⟩
    · simp only at e; rw [e] at ha; exact ⟨by have := (hin a ha).1; omega, Nat.lt_of_lt_of_le (hin a ha).2 (grown_set W' gb 5 _).size⟩
    · simp only at e; rw [e] at ha; have h1 := q.far A4 (Or.inr (Or.inr (Or.inr (Or.inl rfl)))) a ha; exact ⟨h1.1, Nat.lt_of_lt_of_le h1.2 hgs⟩
    · simp only at e; rw [e] at ha; have h1 := q.far A5 (Or.inr (Or.inr (Or.inr (Or.inr (rfl))))) a ha; exact ⟨h1.1, Nat.lt_of_lt_of_le h1.2 hgs⟩
theorem QL.step4 {w W W' : World} {g gb : Nat} {kd en : Int} {img : ByteArray} {places : List PlD} {fix : List Int} {imps : List ImD} {exps : List ExD} {notes : List NtD} {A1 A2 A3 A4 A5 : Option Addr} {C1 C2 C3 C4 C5 n : Nat} {s : RS} {B : Nat} {x : ExD} {v' : Value} (q : QL w W g gb ⟨kd, en, img, places, fix, imps, exps, notes⟩ ⟨A1, C1, A2, C2, A3, C3, A4, C4, A5, C5⟩ s)
    (own : W.ownsRow B 83 2 (.slice A4 n C4) n (exps.flatMap exC)) (hx : exps.length = n) (hg : W.grownBy W' (Value.slice A4 n C4).ownBlock) (own' : W'.ownsRow B 83 2 v' (n + 1) (exps.flatMap exC ++ [x].flatMap exC)) (hlo : ∀ A, A = A1 ∨ A = A2 ∨ A = A3 ∨ A = A5 → ∀ a, A = some a → a.block < B) (hB : gb < B) (hsz : B ≤ W.heap.size) :
    ∃ A' C', v' = .slice A' (n + 1) C' ∧ W'.frozen? ⟨gb, 6, none⟩ = false ∧ (∃ u, W'.cell? ⟨gb, 6, none⟩ = some u) ∧ Hid ((exps ++ [x]).length = n + 1) ∧ Hid (QL w (W'.setCell ⟨gb, 6, none⟩ (.slice A' (n + 1) C')) g gb ⟨kd, en, img, places, fix, imps, exps ++ [x], notes⟩ ⟨A1, C1, A2, C2, A3, C3, A', C', A5, C5⟩ s) ∧ Hid ((W'.setCell ⟨gb, 6, none⟩ (.slice A' (n + 1) C')).ownsRow B 83 2 (.slice A' (n + 1) C') (n + 1) ((exps ++ [x]).flatMap exC)) ∧ Hid (B ≤ (W'.setCell ⟨gb, 6, none⟩ (.slice A' (n + 1) C')).heap.size) := by
  obtain ⟨A', C', rfl, _, _, r'⟩ := own_form own'
  obtain ⟨⟨p1, p2, p3, p4⟩, hblk, hgs, hrd⟩ := q.appB own hg hB 6 (.slice A' (n + 1) C')
  have hin := own_in own'
  have hn : (exps ++ [x]).length = n + 1 := by simp [hx]
  rw [← List.flatMap_append] at own' r'
  refine ⟨A', C', rfl, hblk.free 6, ⟨_, hblk.cell' 6 _ rfl⟩, Lib.hid hn, Lib.hid ⟨p1, q.sz, p2, p3, p4, ?_, ⟨hrd q.brd.r1 (q.far A1 (Or.inl rfl)) (hlo A1 (Or.inl rfl)), hrd q.brd.r2 (q.far A2 (Or.inr (Or.inl rfl))) (hlo A2 (Or.inr (Or.inl rfl))), hrd q.brd.r3 (q.far A3 (Or.inr (Or.inr (Or.inl rfl)))) (hlo A3 (Or.inr (Or.inr (Or.inl rfl)))), ?_, hrd q.brd.r5 (q.far A5 (Or.inr (Or.inr (Or.inr (Or.inr (rfl)))))) (hlo A5 (Or.inr (Or.inr (Or.inr (rfl)))))⟩, ?_, q.lg, q.lb⟩, Lib.hid (own'.kept (grown_set W' gb 6 _) (Or.inr (fun e => by have := (own'.lt gb e).1; omega))), Lib.hid (by omega)⟩
  · have := hblk.put 6 (.slice A' (n + 1) C')
    simp only [bcells, hn]
    exact this
  · simp only
    rw [hn]
    exact r'.setFar (p := ⟨gb, 6, none⟩) (fun a ha => by have := (hin a ha).1; show a.block ≠ gb; omega) _
  · intro A hA a ha
    rcases hA with e | e | e | e | e
    · simp only at e; rw [e] at ha; have h1 := q.far A1 (Or.inl rfl) a ha; exact ⟨h1.1, Nat.lt_of_lt_of_le h1.2 hgs⟩
    · simp only at e; rw [e] at ha; have h1 := q.far A2 (Or.inr (Or.inl rfl)) a ha; exact ⟨h1.1, Nat.lt_of_lt_of_le h1.2 hgs⟩
    · simp only at e; rw [e] at ha; have h1 := q.far A3 (Or.inr (Or.inr (Or.inl rfl))) a ha; exact ⟨h1.1, Nat.lt_of_lt_of_le h1.2 hgs⟩
    · simp only at e; rw [e] at ha; exact ⟨by have := (hin a ha).1; omega, Nat.lt_of_lt_of_le (hin a ha).2 (grown_set W' gb 6 _).size⟩
    · simp only at e; rw [e] at ha; have h1 := q.far A5 (Or.inr (Or.inr (Or.inr (Or.inr (rfl))))) a ha; exact ⟨h1.1, Nat.lt_of_lt_of_le h1.2 hgs⟩
theorem QL.step5 {w W W' : World} {g gb : Nat} {kd en : Int} {img : ByteArray} {places : List PlD} {fix : List Int} {imps : List ImD} {exps : List ExD} {notes : List NtD} {A1 A2 A3 A4 A5 : Option Addr} {C1 C2 C3 C4 C5 n : Nat} {s : RS} {B : Nat} {x : NtD} {v' : Value} (q : QL w W g gb ⟨kd, en, img, places, fix, imps, exps, notes⟩ ⟨A1, C1, A2, C2, A3, C3, A4, C4, A5, C5⟩ s)
    (own : W.ownsRow B 40 2 (.slice A5 n C5) n (notes.flatMap ntC)) (hx : notes.length = n) (hg : W.grownBy W' (Value.slice A5 n C5).ownBlock) (own' : W'.ownsRow B 40 2 v' (n + 1) (notes.flatMap ntC ++ [x].flatMap ntC)) (hlo : ∀ A, A = A1 ∨ A = A2 ∨ A = A3 ∨ A = A4 → ∀ a, A = some a → a.block < B) (hB : gb < B) (hsz : B ≤ W.heap.size) :
    ∃ A' C', v' = .slice A' (n + 1) C' ∧ W'.frozen? ⟨gb, 7, none⟩ = false ∧ (∃ u, W'.cell? ⟨gb, 7, none⟩ = some u) ∧ Hid ((notes ++ [x]).length = n + 1) ∧ Hid (QL w (W'.setCell ⟨gb, 7, none⟩ (.slice A' (n + 1) C')) g gb ⟨kd, en, img, places, fix, imps, exps, notes ++ [x]⟩ ⟨A1, C1, A2, C2, A3, C3, A4, C4, A', C'⟩ s) ∧ Hid ((W'.setCell ⟨gb, 7, none⟩ (.slice A' (n + 1) C')).ownsRow B 40 2 (.slice A' (n + 1) C') (n + 1) ((notes ++ [x]).flatMap ntC)) ∧ Hid (B ≤ (W'.setCell ⟨gb, 7, none⟩ (.slice A' (n + 1) C')).heap.size) := by
  obtain ⟨A', C', rfl, _, _, r'⟩ := own_form own'
  obtain ⟨⟨p1, p2, p3, p4⟩, hblk, hgs, hrd⟩ := q.appB own hg hB 7 (.slice A' (n + 1) C')
  have hin := own_in own'
  have hn : (notes ++ [x]).length = n + 1 := by simp [hx]
  rw [← List.flatMap_append] at own' r'
  refine ⟨A', C', rfl, hblk.free 7, ⟨_, hblk.cell' 7 _ rfl⟩, Lib.hid hn, Lib.hid ⟨p1, q.sz, p2, p3, p4, ?_, ⟨hrd q.brd.r1 (q.far A1 (Or.inl rfl)) (hlo A1 (Or.inl rfl)), hrd q.brd.r2 (q.far A2 (Or.inr (Or.inl rfl))) (hlo A2 (Or.inr (Or.inl rfl))), hrd q.brd.r3 (q.far A3 (Or.inr (Or.inr (Or.inl rfl)))) (hlo A3 (Or.inr (Or.inr (Or.inl rfl)))), hrd q.brd.r4 (q.far A4 (Or.inr (Or.inr (Or.inr (Or.inl rfl))))) (hlo A4 (Or.inr (Or.inr (Or.inr (rfl))))), ?_⟩, ?_, q.lg, q.lb⟩, Lib.hid (own'.kept (grown_set W' gb 7 _) (Or.inr (fun e => by have := (own'.lt gb e).1; omega))), Lib.hid (by omega)⟩
  · have := hblk.put 7 (.slice A' (n + 1) C')
    simp only [bcells, hn]
    exact this
  · simp only
    rw [hn]
    exact r'.setFar (p := ⟨gb, 7, none⟩) (fun a ha => by have := (hin a ha).1; show a.block ≠ gb; omega) _
  · intro A hA a ha
    rcases hA with e | e | e | e | e
    · simp only at e; rw [e] at ha; have h1 := q.far A1 (Or.inl rfl) a ha; exact ⟨h1.1, Nat.lt_of_lt_of_le h1.2 hgs⟩
    · simp only at e; rw [e] at ha; have h1 := q.far A2 (Or.inr (Or.inl rfl)) a ha; exact ⟨h1.1, Nat.lt_of_lt_of_le h1.2 hgs⟩
    · simp only at e; rw [e] at ha; have h1 := q.far A3 (Or.inr (Or.inr (Or.inl rfl))) a ha; exact ⟨h1.1, Nat.lt_of_lt_of_le h1.2 hgs⟩
    · simp only at e; rw [e] at ha; have h1 := q.far A4 (Or.inr (Or.inr (Or.inr (Or.inl rfl)))) a ha; exact ⟨h1.1, Nat.lt_of_lt_of_le h1.2 hgs⟩
    · simp only at e; rw [e] at ha; exact ⟨by have := (hin a ha).1; omega, Nat.lt_of_lt_of_le (hin a ha).2 (grown_set W' gb 7 _).size⟩
theorem set8_row {w : World} {g : Nat} {t : TypeId} {x0 x1 x2 x3 x4 x5 x6 x7 : Value} (h : Blk w g t #[x0, x1, x2, x3, x4, x5, x6, x7]) (v0 v1 v2 v3 v4 v5 v6 v7 : Value) : w.setRow g #[v0, v1, v2, v3, v4, v5, v6, v7] = set8 w g v0 v1 v2 v3 v4 v5 v6 v7 := by
  unfold set8
  unfold Blk at h
  rw [setCell_eq_setRow w g 0 _ t (0, 0) v0 h]
  rw [setCell_eq_setRow _ g 1 _ t (0, 0) v1 (setRow_heap w g _ _ t _ h), setRow_setRow]
  rw [setCell_eq_setRow _ g 2 _ t (0, 0) v2 (setRow_heap w g _ _ t _ h), setRow_setRow]
  rw [setCell_eq_setRow _ g 3 _ t (0, 0) v3 (setRow_heap w g _ _ t _ h), setRow_setRow]
  rw [setCell_eq_setRow _ g 4 _ t (0, 0) v4 (setRow_heap w g _ _ t _ h), setRow_setRow]
  rw [setCell_eq_setRow _ g 5 _ t (0, 0) v5 (setRow_heap w g _ _ t _ h), setRow_setRow]
  rw [setCell_eq_setRow _ g 6 _ t (0, 0) v6 (setRow_heap w g _ _ t _ h), setRow_setRow]
  rw [setCell_eq_setRow _ g 7 _ t (0, 0) v7 (setRow_heap w g _ _ t _ h), setRow_setRow]
  simp only [List.setIfInBounds_toArray, List.set_cons_zero, List.set_cons_succ]
theorem info28s : (Tryz.prog.info? 28).map (·.size) = some 8 := by kernel_rfl
theorem wp_run_app2 {P : Program} {o : Oper} {a : Act} {w : World} {K : Act → World → Prop} {Q : Exit → Act → World → Prop} (s x : Operand) (t : TypeId)
    (ho : o.op = .call { callee := .builtin .append, args := #[s, x], argTypes := #[t, t] }) {v vx v' : Value} {w' : World} (hs : a.eval s = v) (hx : a.eval x = vx)
    (hrun : (Builtin.append_ #[t, t] o.type #[v, vx]).run P w = .ok v' w') (h : K (a.put o.dst v') w') : o.wp P a w K Q := by
  unfold Oper.wp execOp
  simp only [ho, resolve, invoke, builtin, Sem.run_bind, Sem.run_pure, Result.andThen_ok, List.map_toArray, List.map_cons, List.map_nil, hs, hx, hrun]
  exact h
theorem run_app_fx {w : World} (ty : TypeId) (base : Nat) (v : Value) (n : Nat) (xs : List Value) (hown : w.ownsRow base 3 1 v n xs) (A : Option Addr) (m c : Nat) (l : List Int) (hr : Rd w 1 A m (l.flatMap fxC)) (h63 : n + m ≤ 1000000000) (hbase : base ≤ w.heap.size) :
    ∃ v' w', (Builtin.append_ #[23, 23] ty #[v, .slice A m c]).run Tryz.prog w = .ok v' w' ∧ w'.ownsRow base 3 1 v' (n + m) (xs ++ l.flatMap fxC) ∧ w.grownBy w' v.ownBlock := by
  obtain ⟨j0, hi0, hz0, hz1, hz2⟩ := info_parts Tryz.info3x
  by_cases hm : 0 < m
  · obtain ⟨b, q, rfl, hb, hc⟩ := hr.2 hm
    obtain ⟨v', w', h1, h2, h3, _, _⟩ := run_append_own_at (P := Tryz.prog) w base 23 ty 3 j0 (.int .i64 0) 1 8 Tryz.underlying23 hi0 hz0 hz1 hz2 rfl (by decide) v n xs hown ⟨b, q, none⟩ m c (l.flatMap fxC) hr.1 (fun j u hu => by
      have hadd : (⟨b, q, none⟩ : Addr).add j = ⟨b, q + j, none⟩ := by unfold Addr.add; split <;> simp_all
      rw [hadd]; exact hc j u hu) (fx_one l)
      (by simp only [maxLen]; omega) (by omega) hbase
    exact ⟨v', w', h1, h2, h3⟩
  · obtain rfl : m = 0 := by omega
    have hw : l.flatMap fxC = [] := by have := hr.1; exact List.eq_nil_of_length_eq_zero (by omega)
    exact ⟨v, w, app_nothingfx hown A c ty, by rw [hw, List.append_nil]; exact hown, ⟨rfl, rfl, rfl, Nat.le_refl _, fun _ _ _ => rfl⟩⟩
theorem rdec_start (data : ByteArray) (w : World) (hs : data.size ≤ 65536) : QL w ((((w.alloc (.cells #[.int .i64 0, .int .i64 0, .string ⟨#[]⟩, .slice none 0 0, .slice none 0 0, .slice none 0 0, .slice none 0 0, .slice none 0 0] 28)).alloc (.cells #[.int .i64 0, .int .i64 0, .string ⟨#[]⟩, .slice none 0 0, .slice none 0 0, .slice none 0 0, .slice none 0 0, .slice none 0 0] 28)).alloc (.cells #[.string data, .int .i64 0] 120)).alloc (.cells #[.int .i64 0, .int .i64 0, .string ⟨#[]⟩, .slice none 0 0, .slice none 0 0, .slice none 0 0, .slice none 0 0, .slice none 0 0] 28)) (w.heap.size + 1 + 1) (w.heap.size + 1 + 1 + 1) ⟨0, 0, ⟨#[]⟩, [], [], [], [], []⟩ zH (some data.data.toList) := by
  have q0 := Blk.made w 28 #[.int .i64 0, .int .i64 0, .string ⟨#[]⟩, .slice none 0 0, .slice none 0 0, .slice none 0 0, .slice none 0 0, .slice none 0 0]
  have q1 := Blk.made (w.alloc (.cells #[.int .i64 0, .int .i64 0, .string ⟨#[]⟩, .slice none 0 0, .slice none 0 0, .slice none 0 0, .slice none 0 0, .slice none 0 0] 28)) 28 #[.int .i64 0, .int .i64 0, .string ⟨#[]⟩, .slice none 0 0, .slice none 0 0, .slice none 0 0, .slice none 0 0, .slice none 0 0]
  have q2 := Blk.made ((w.alloc (.cells #[.int .i64 0, .int .i64 0, .string ⟨#[]⟩, .slice none 0 0, .slice none 0 0, .slice none 0 0, .slice none 0 0, .slice none 0 0] 28)).alloc (.cells #[.int .i64 0, .int .i64 0, .string ⟨#[]⟩, .slice none 0 0, .slice none 0 0, .slice none 0 0, .slice none 0 0, .slice none 0 0] 28)) 120 #[.string data, .int .i64 0]
  have q3 := Blk.made (((w.alloc (.cells #[.int .i64 0, .int .i64 0, .string ⟨#[]⟩, .slice none 0 0, .slice none 0 0, .slice none 0 0, .slice none 0 0, .slice none 0 0] 28)).alloc (.cells #[.int .i64 0, .int .i64 0, .string ⟨#[]⟩, .slice none 0 0, .slice none 0 0, .slice none 0 0, .slice none 0 0, .slice none 0 0] 28)).alloc (.cells #[.string data, .int .i64 0] 120)) 28 #[.int .i64 0, .int .i64 0, .string ⟨#[]⟩, .slice none 0 0, .slice none 0 0, .slice none 0 0, .slice none 0 0, .slice none 0 0]
  simp only [World.size_alloc] at q1 q2 q3
  refine ⟨?_, by rw [size_eq] at hs; show data.data.toList.length ≤ 1000000; omega, ((((New.refl w).alloc _).alloc _).alloc _).alloc _, ((q0.alloc _).alloc _).alloc _, (q1.alloc _).alloc _, q3, ⟨Rd.none_ _, Rd.none_ _, Rd.none_ _, Rd.none_ _, Rd.none_ _⟩, ?_, by omega, by omega⟩
  · show Blk _ _ 120 #[.string (S data.data.toList), .int .i64 0]
    rw [S_data]
    exact q2.alloc _
  · intro A hA a ha
    rcases hA with q | q | q | q | q <;> (subst q; cases ha)
theorem ql_yes {w W : World} {g gb : Nat} {b : Bn} {h : BH} {s : RS} {v0 v1 v2 v3 v4 v5 v6 v7 : Value} (d : QL w W g gb b h s) : BRd (set8 W w.heap.size v0 v1 v2 v3 v4 v5 v6 v7) b h := by
  have l1 := d.lg
  have l2 := d.lb
  exact ⟨set8_rd d.brd.r1 (fun a ha => by have := (d.far _ (Or.inl rfl) a ha).1; omega), set8_rd d.brd.r2 (fun a ha => by have := (d.far _ (Or.inr (Or.inl rfl)) a ha).1; omega), set8_rd d.brd.r3 (fun a ha => by have := (d.far _ (Or.inr (Or.inr (Or.inl rfl))) a ha).1; omega), set8_rd d.brd.r4 (fun a ha => by have := (d.far _ (Or.inr (Or.inr (Or.inr (Or.inl rfl)))) a ha).1; omega), set8_rd d.brd.r5 (fun a ha => by have := (d.far _ (Or.inr (Or.inr (Or.inr (Or.inr rfl)))) a ha).1; omega)⟩
set_option maxRecDepth 100000 in
set_option maxHeartbeats 32000000 in
theorem rdecode_any (data : ByteArray) (w : World) (hs : data.size ≤ 9223372036854775807) :
    Calls Tryz.prog 17 #[.string data] w (DecP data.data.toList w) := by
  have HNO := Lib.hid (fun (hv : decV data.data.toList = none) e w' he hn => dec_no (w := w) (e := e) (w' := w') hv he hn)
  have HYES := Lib.hid (fun (b : Bn) (h : BH) (hv : decV data.data.toList = some b) e w' he hr hn => dec_yes (w := w) (e := e) (w' := w') h hv he hr hn)
  have HDV : Hid (decV data.data.toList = decB 6 2 1 data.data.toList) := Lib.hid (dec_same (by decide) (by decide) (by decide) (by decide) (by decide) (by decide) _)
  have HDD := Lib.hid (fun hs => rdec_start data w hs)
  have q0 := (Blk.made w 28 #[.int .i64 0, .int .i64 0, .string ⟨#[]⟩, .slice none 0 0, .slice none 0 0, .slice none 0 0, .slice none 0 0, .slice none 0 0]).alloc (.cells #[.int .i64 0, .int .i64 0, .string ⟨#[]⟩, .slice none 0 0, .slice none 0 0, .slice none 0 0, .slice none 0 0, .slice none 0 0] 28)
  have q1 := Blk.made (w.alloc (.cells #[.int .i64 0, .int .i64 0, .string ⟨#[]⟩, .slice none 0 0, .slice none 0 0, .slice none 0 0, .slice none 0 0, .slice none 0 0] 28)) 28 #[.int .i64 0, .int .i64 0, .string ⟨#[]⟩, .slice none 0 0, .slice none 0 0, .slice none 0 0, .slice none 0 0, .slice none 0 0]
  rw [World.size_alloc] at q1
  have HQ0 := Lib.hid q0
  have HQ1 := Lib.hid q1
  have HN0 := Lib.hid (show New w ((w.alloc (.cells #[.int .i64 0, .int .i64 0, .string ⟨#[]⟩, .slice none 0 0, .slice none 0 0, .slice none 0 0, .slice none 0 0, .slice none 0 0] 28)).alloc (.cells #[.int .i64 0, .int .i64 0, .string ⟨#[]⟩, .slice none 0 0, .slice none 0 0, .slice none 0 0, .slice none 0 0, .slice none 0 0] 28)) from ((New.refl w).alloc _).alloc _)
  clear q0 q1
  generalize DecP data.data.toList w = PP at *
  generalize decV data.data.toList = X at *
  by_cases hbig : 65536 < data.size
  · have HV : Hid (X = none) := Lib.hid (by
      rw [HDV.out]
      unfold decB
      simp only
      rw [if_neg (fun q => by have := q.1; rw [← size_eq] at this; omega)])
    have t1 : (65536 : Int) < (data.size : Int) := by omega
    clear hbig HYES HDD HDV
    go_enter Tryz.func17, Tryz.ntmps17
    go_upto_region 3 with (fail)
    generalize (w.alloc (.cells #[.int .i64 0, .int .i64 0, .string ⟨#[]⟩, .slice none 0 0, .slice none 0 0, .slice none 0 0, .slice none 0 0, .slice none 0 0] 28)).alloc (.cells #[.int .i64 0, .int .i64 0, .string ⟨#[]⟩, .slice none 0 0, .slice none 0 0, .slice none 0 0, .slice none 0 0, .slice none 0 0] 28) = W at *
    have y0 := HQ0.out.cell' 0 _ rfl
    have y1 := HQ0.out.cell' 1 _ rfl
    have y2 := HQ0.out.cell' 2 _ rfl
    have y3 := HQ0.out.cell' 3 _ rfl
    have y4 := HQ0.out.cell' 4 _ rfl
    have y5 := HQ0.out.cell' 5 _ rfl
    have y6 := HQ0.out.cell' 6 _ rfl
    have y7 := HQ0.out.cell' 7 _ rfl
    have z0 := HQ0.out.free 0
    have z1 := HQ0.out.free 1
    have z2 := HQ0.out.free 2
    have z3 := HQ0.out.free 3
    have z4 := HQ0.out.free 4
    have z5 := HQ0.out.free 5
    have z6 := HQ0.out.free 6
    have z7 := HQ0.out.free 7
    have k0 := HQ1.out.cell' 0 _ rfl
    have k1 := HQ1.out.cell' 1 _ rfl
    have k2 := HQ1.out.cell' 2 _ rfl
    have k3 := HQ1.out.cell' 3 _ rfl
    have k4 := HQ1.out.cell' 4 _ rfl
    have k5 := HQ1.out.cell' 5 _ rfl
    have k6 := HQ1.out.cell' 6 _ rfl
    have k7 := HQ1.out.cell' 7 _ rfl
    have YZ := Lib.hid (set8_blk (v0 := .int .i64 0) (v1 := .int .i64 0) (v2 := .string ⟨#[]⟩) (v3 := .slice none 0 0) (v4 := .slice none 0 0) (v5 := .slice none 0 0) (v6 := .slice none 0 0) (v7 := .slice none 0 0) (HQ0.out))
    have NZ := Lib.hid (set8_new (g := w.heap.size) (v0 := .int .i64 0) (v1 := .int .i64 0) (v2 := .string ⟨#[]⟩) (v3 := .slice none 0 0) (v4 := .slice none 0 0) (v5 := .slice none 0 0) (v6 := .slice none 0 0) (v7 := .slice none 0 0) (HN0.out) (Nat.le_refl _))
    go_wp2
    change bodyPost _ _ _ _ _ (set8 W w.heap.size (.int .i64 0) (.int .i64 0) (.string ⟨#[]⟩) (.slice none 0 0) (.slice none 0 0) (.slice none 0 0) (.slice none 0 0) (.slice none 0 0))
    generalize (set8 W w.heap.size (.int .i64 0) (.int .i64 0) (.string ⟨#[]⟩) (.slice none 0 0) (.slice none 0 0) (.slice none 0 0) (.slice none 0 0) (.slice none 0 0)) = wZ at *
    have e0 := YZ.out.cell' 0 _ rfl
    have e1 := YZ.out.cell' 1 _ rfl
    have e2 := YZ.out.cell' 2 _ rfl
    have e3 := YZ.out.cell' 3 _ rfl
    have e4 := YZ.out.cell' 4 _ rfl
    have e5 := YZ.out.cell' 5 _ rfl
    have e6 := YZ.out.cell' 6 _ rfl
    have e7 := YZ.out.cell' 7 _ rfl
    exact bodyPost_ret (v := .tuple #[.agg #[.int .i64 0, .int .i64 0, .string ⟨#[]⟩, .slice none 0 0, .slice none 0 0, .slice none 0 0, .slice none 0 0, .slice none 0 0], .int .i64 17]) (by simp [results, Tryz.results17, go_sem, e0, e1, e2, e3, e4, e5, e6, e7]) rfl (HNO.out HV.out _ _ rfl NZ.out)
  have hle : data.size ≤ 65536 := by omega
  have t1 : ¬ (65536 : Int) < (data.size : Int) := by omega
  have D0 := HDD.out hle
  unfold decB at HDV
  simp only at HDV
  have hlen : data.data.toList.length ≤ 65536 := by rw [← size_eq]; exact hle
  have HLE := Lib.hid hlen
  obtain ⟨⟨hd, s1⟩, hh⟩ : ∃ x, txtS 6 (some data.data.toList) = x := ⟨_, rfl⟩
  rw [hh] at HDV
  simp only at HDV
  have HHE : Hid ((hd.toList == [98, 105, 110, 97, 114, 121]) = decide (hd = BIN)) := Lib.hid (by rw [← str_eq, toList_eq BIN])
  have HALL : Hid (allS 2 1 s1 = ({ (bnS 2 1 s1).1 with fix := (fixS (bnS 2 1 s1).2).1, imps := (impS (fixS (bnS 2 1 s1).2).2).1, exps := (expS (impS (fixS (bnS 2 1 s1).2).2).2).1, notes := (notS (expS (impS (fixS (bnS 2 1 s1).2).2).2).2).1 }, (notS (expS (impS (fixS (bnS 2 1 s1).2).2).2).2).2)) := Lib.hid rfl
  unfold bnS at HALL
  simp only at HALL
  have HSB := Lib.hid (fun (b : Bn) (s' : RS) (q : (b, s') = allS 2 1 s1) => szb_of s1 q (by decide))
  obtain ⟨⟨kn, s2⟩, hv0⟩ : ∃ x, numS 2 s1 = x := ⟨_, rfl⟩
  simp only [hv0] at HALL
  obtain ⟨⟨en, s3⟩, hv1⟩ : ∃ x, numS 1 s2 = x := ⟨_, rfl⟩
  have hen := (numS_le (hi := 1) s2).1
  rw [hv1] at hen
  simp only at hen
  simp only [hv1] at HALL
  obtain ⟨⟨img, s4⟩, hv2⟩ : ∃ x, txtS 65536 s3 = x := ⟨_, rfl⟩
  simp only [hv2] at HALL
  obtain ⟨⟨pl, s5⟩, hw0⟩ : ∃ x, manyS (plS 2) (numS 65536 s4).1 (numS 65536 s4).2 = x := ⟨_, rfl⟩
  have hw0' := hw0
  simp only [hw0'] at HALL
  clear hw0'
  obtain ⟨⟨fx, s6⟩, hw1⟩ : ∃ x, fixS s5 = x := ⟨_, rfl⟩
  have hw1' := hw1
  simp only [hw1'] at HALL
  clear hw1'
  unfold fixS at hw1
  obtain ⟨⟨im, s7⟩, hw2⟩ : ∃ x, impS s6 = x := ⟨_, rfl⟩
  have hw2' := hw2
  simp only [hw2'] at HALL
  clear hw2'
  unfold impS at hw2
  obtain ⟨⟨ex, s8⟩, hw3⟩ : ∃ x, expS s7 = x := ⟨_, rfl⟩
  have hw3' := hw3
  simp only [hw3'] at HALL
  clear hw3'
  unfold expS at hw3
  obtain ⟨⟨nt, s9⟩, hw4⟩ : ∃ x, notS s8 = x := ⟨_, rfl⟩
  have hw4' := hw4
  simp only [hw4'] at HALL
  clear hw4'
  unfold notS at hw4
  have hsz : W64 ((en : Int) - 1) := by unfold W64; omega
  obtain ⟨e1, he1⟩ : ∃ e1, (en : Int) - 1 = e1 := ⟨_, rfl⟩
  have ue : IntKind.i64.wrap ((en : Int) - 1) = e1 := by rw [IntWalk.i64_in _ (by omega)]; exact he1
  rw [he1] at HALL
  obtain ⟨kd, hkd⟩ : ∃ kd : Int, (kn : Int) = kd := ⟨_, rfl⟩
  rw [hkd] at HALL
  have HSZ := Lib.hid (HSB.out _ _ HALL.out.symm)
  have HX : Hid (X = if hd = BIN ∧ s9 = some [] ∧ checkV ⟨kd, e1, img, pl, fx, im, ex, nt⟩ = true then some ⟨kd, e1, img, pl, fx, im, ex, nt⟩ else none) := Lib.hid (by
    rw [HDV.out, HALL.out]
    by_cases q : hd = BIN ∧ s9 = some [] ∧ checkV ⟨kd, e1, img, pl, fx, im, ex, nt⟩ = true
    · rw [if_pos q, if_pos ⟨HLE.out, q⟩]
    · rw [if_neg q, if_neg (fun q' => q q'.2)])
  have HD0 := Lib.hid D0
  have V0 := Lib.hid hv0
  have V1 := Lib.hid hv1
  have V2 := Lib.hid hv2
  have VH := Lib.hid hh
  have VE := Lib.hid he1
  have VK := Lib.hid hkd
  have HW0 := Lib.hid hw0
  have HW1 := Lib.hid hw1
  have HW2 := Lib.hid hw2
  have HW3 := Lib.hid hw3
  have HW4 := Lib.hid hw4
  clear HDV HALL HSB HLE HQ0 HQ1 HN0 HDD D0 hbig hle hlen hv0 hv1 hv2 hh he1 hkd hsz hen hw0 hw1 hw2 hw3 hw4
  go_enter Tryz.func17, Tryz.ntmps17
  go_upto_region 6 with (fail)
  generalize (((w.alloc (.cells #[.int .i64 0, .int .i64 0, .string ⟨#[]⟩, .slice none 0 0, .slice none 0 0, .slice none 0 0, .slice none 0 0, .slice none 0 0] 28)).alloc (.cells #[.int .i64 0, .int .i64 0, .string ⟨#[]⟩, .slice none 0 0, .slice none 0 0, .slice none 0 0, .slice none 0 0, .slice none 0 0] 28)).alloc (.cells #[.string data, .int .i64 0] 120)).alloc (.cells #[.int .i64 0, .int .i64 0, .string ⟨#[]⟩, .slice none 0 0, .slice none 0 0, .slice none 0 0, .slice none 0 0, .slice none 0 0] 28) = W at *
  have c0 := (show Calls Tryz.prog 69 #[.pointer (some ⟨w.heap.size + 1 + 1, 0, none⟩), .int .i64 6] W _ from q_txt (mo := 6) (by decide) HD0.out)
  rw [VH.out] at c0
  simp only at c0
  have HC := Lib.hid c0
  clear c0
  go_wp2_with (fail)
  with_reducible refine HC.out.mono ?_
  rintro e w1 ⟨rfl, d1⟩
  clear HC HD0
  have c0 := (show Calls Tryz.prog 70 #[.pointer (some ⟨w.heap.size + 1 + 1, 0, none⟩), .int .i64 0, .int .i64 2] w1 _ from q_num (hi := 2) (by decide) d1)
  rw [V0.out] at c0
  simp only [VK.out] at c0
  have HC := Lib.hid c0
  clear c0
  go_wp2_with (fail)
  with_reducible refine HC.out.mono ?_
  rintro e w2 ⟨rfl, d2⟩
  have f0 := d2.blk.free 0
  have y0 := d2.blk.cell' 0 _ rfl
  have d2' := d2.kind kd
  clear HC d1
  have c0 := (show Calls Tryz.prog 70 #[.pointer (some ⟨w.heap.size + 1 + 1, 0, none⟩), .int .i64 0, .int .i64 1] (w2.setCell ⟨w.heap.size + 1 + 1 + 1, 0, none⟩ (.int .i64 kd)) _ from q_num (hi := 1) (by decide) d2')
  rw [V1.out] at c0
  simp only at c0
  have HC := Lib.hid c0
  clear c0
  go_wp2_with (fail)
  with_reducible refine HC.out.mono ?_
  rintro e w3 ⟨rfl, d3⟩
  have f1 := d3.blk.free 1
  have y1 := d3.blk.cell' 1 _ rfl
  have d3' := d3.entry e1
  clear HC d2 d2' f0 y0
  have c0 := (show Calls Tryz.prog 69 #[.pointer (some ⟨w.heap.size + 1 + 1, 0, none⟩), .int .i64 65536] (w3.setCell ⟨w.heap.size + 1 + 1 + 1, 1, none⟩ (.int .i64 e1)) _ from q_txt (mo := 65536) (by decide) d3')
  rw [V2.out] at c0
  simp only at c0
  have HC := Lib.hid c0
  clear c0
  go_wp2_with (fail)
  with_reducible refine HC.out.mono ?_
  rintro e w4 ⟨rfl, d4⟩
  have f2 := d4.blk.free 2
  have y2 := d4.blk.cell' 2 _ rfl
  have d4' := d4.image img
  clear HC d3 d3' f1 y1
  go_upto_region 10 with (fail)
  generalize w4.setCell ⟨w.heap.size + 1 + 1 + 1, 2, none⟩ (.string img) = wa1 at *
  have HQ1 : Hid (QL w wa1 (w.heap.size + 1 + 1) (w.heap.size + 1 + 1 + 1) ⟨kd, e1, img, [], [], [], [], []⟩ ⟨none, 0, none, 0, none, 0, none, 0, none, 0⟩ s4) := Lib.hid d4'
  clear d4 d4' f2 y2
  have c0 := q_cnt HQ1.out
  obtain ⟨⟨n0, t0⟩, hn0⟩ : ∃ x, numS 65536 s4 = x := ⟨_, rfl⟩
  have HWN : Hid (manyS (plS 2) n0 t0 = (pl, s5)) := Lib.hid (by have q := HW0.out; rw [hn0] at q; exact q)
  have hle := (numS_le (hi := 65536) s4).1
  rw [hn0] at c0 hle
  simp only at c0 hle
  have HC := Lib.hid c0
  clear c0 hn0
  go_wp2_with (fail)
  with_reducible refine HC.out.mono ?_
  rintro e wb ⟨rfl, db⟩
  have DB := Lib.hid db
  clear HC HQ1 db
  go_upto_block 0 with (fail)
  go_cut [] (fun wc => ∃ A1 C1, Hid (QL w wc (w.heap.size + 1 + 1) (w.heap.size + 1 + 1 + 1) ⟨kd, e1, img, pl, [], [], [], []⟩ ⟨A1, C1, none, 0, none, 0, none, 0, none, 0⟩ s5))
  case first =>
    have hB : (w.heap.size + 1 + 1 + 1) < wb.heap.size := DB.out.blk.lt
    have LO : Hid (∀ A, A = (none : Option Addr) ∨ A = (none : Option Addr) ∨ A = (none : Option Addr) ∨ A = (none : Option Addr) → ∀ a, A = some a → a.block < wb.heap.size) := Lib.hid (fun A hA a ha => by
      rcases hA with q | q | q | q
      · subst q; cases ha
      · subst q; cases ha
      · subst q; cases ha
      · subst q; cases ha)
    have HZ : Hid (([] ++ (manyS (plS 2) n0 t0).1, (manyS (plS 2) n0 t0).2) = (pl, s5)) := Lib.hid (by rw [List.nil_append]; exact HWN.out)
    go_wp2_with (fail)
    go_loopw [9] (fun v9 wr => ∃ (k j : Nat) (xs : List PlD) (s' : RS) (A : Option Addr) (c : Nat), v9 = .int .i64 j ∧ j + k = n0 ∧ Hid (xs.length = j) ∧ Hid (QL w wr (w.heap.size + 1 + 1) (w.heap.size + 1 + 1 + 1) ⟨kd, e1, img, xs, [], [], [], []⟩ ⟨A, c, none, 0, none, 0, none, 0, none, 0⟩ s') ∧ Hid (wr.ownsRow wb.heap.size 60 5 (.slice A j c) j (xs.flatMap plC)) ∧ Hid (wb.heap.size ≤ wr.heap.size) ∧ Hid ((xs ++ (manyS (plS 2) k s').1, (manyS (plS 2) k s').2) = (pl, s5))) (fun v9 _ => n0 - (intOf v9).toNat)
    case atStart => exact ⟨n0, 0, [], t0, none, 0, rfl, by omega, Lib.hid rfl, DB, Lib.hid (World.ownsRow_nil ..), Lib.hid (Nat.le_refl _), HZ⟩
    case round =>
      clear HZ DB HWN
      obtain ⟨k, j, xs, s', A, c, rfl, hjk, HXL, HQ, HO, HS, H⟩ := hrel
      obtain ⟨x, hx, hxs⟩ := HQ.out.rd.cell
      by_cases hk : k = 0
      · have t1 : decide ((j : Int) < (n0 : Int)) = false := decide_eq_false (by omega)
        subst hk
        clear hx hxs
        obtain ⟨e1', e2'⟩ := many_end (Or.inl rfl) H.out
        have HQ2 : Hid (QL w wr (w.heap.size + 1 + 1) (w.heap.size + 1 + 1 + 1) ⟨kd, e1, img, pl, [], [], [], []⟩ ⟨A, c, none, 0, none, 0, none, 0, none, 0⟩ s5) := Lib.hid (by have q := HQ.out; rw [e1', e2'] at q; exact q)
        clear e1' e2' H HO HXL HQ
        go_wp2_with (fail)
        go_meet
        case rel => exact ⟨A, c, HQ2⟩
      have t1 : decide ((j : Int) < (n0 : Int)) = true := decide_eq_true (by omega)
      obtain ⟨k', rfl⟩ : ∃ k', k = k' + 1 := ⟨k - 1, by omega⟩
      clear hk
      cases hs' : s' with
      | none =>
        subst hs'
        have hx' : (x == 0) = false := hxs
        clear hxs
        obtain ⟨e1', e2'⟩ := many_end (Or.inr rfl) H.out
        have HQ2 : Hid (QL w wr (w.heap.size + 1 + 1) (w.heap.size + 1 + 1 + 1) ⟨kd, e1, img, pl, [], [], [], []⟩ ⟨A, c, none, 0, none, 0, none, 0, none, 0⟩ s5) := Lib.hid (by have q := HQ.out; rw [e1', e2'] at q; exact q)
        clear e1' e2' H HO HXL HQ
        go_wp2_with (fail)
        go_meet
        case rel => exact ⟨A, c, HQ2⟩
      | some l =>
        subst hs'
        have hx' : (x == 0) = true := hxs
        clear hxs
        have HM := Lib.hid (many_more (one := (plS 2)) H.out)
        clear H
        obtain ⟨⟨v0, u0⟩, hv0⟩ : ∃ x, txtS 65536 (some l) = x := ⟨_, rfl⟩
        obtain ⟨⟨v1, u1⟩, hv1⟩ : ∃ x, txtS 65536 u0 = x := ⟨_, rfl⟩
        obtain ⟨⟨v2, u2⟩, hv2⟩ : ∃ x, numS 2 u1 = x := ⟨_, rfl⟩
        obtain ⟨⟨v3, u3⟩, hv3⟩ : ∃ x, numS 65536 u2 = x := ⟨_, rfl⟩
        obtain ⟨⟨v4, u4⟩, hv4⟩ : ∃ x, numS 65536 u3 = x := ⟨_, rfl⟩
        have hps : plS 2 (some l) = (⟨v0, v1, (v2 : Nat), (v3 : Nat), (v4 : Nat)⟩, u4) := by unfold plS; simp only [hv0, hv1, hv2, hv3, hv4]
        rw [hps] at HM
        simp only at HM
        have U0 := Lib.hid hv0
        have U1 := Lib.hid hv1
        have U2 := Lib.hid hv2
        have U3 := Lib.hid hv3
        have U4 := Lib.hid hv4
        clear hps hv0 hv1 hv2 hv3 hv4
        have d0 := QL.made HQ.out HO.out hB 60 #[.string ⟨#[]⟩, .string ⟨#[]⟩, .int .i64 0, .int .i64 0, .int .i64 0]
        clear HQ
        go_wp2_with (fail)
        with_reducible refine (p_txt U0.out d0).mono ?_
        rintro e x0 ⟨rfl, d1⟩
        clear d0
        have f0 := d1.p.free 0
        have y0 := d1.p.cell' 0 _ rfl
        have d2 := d1.put 0 (.string v0)
        go_wp2_with (fail)
        with_reducible refine (p_txt U1.out d2).mono ?_
        rintro e x1 ⟨rfl, d3⟩
        clear d2 f0 y0
        have f1 := d3.p.free 1
        have y1 := d3.p.cell' 1 _ rfl
        have d4 := d3.put 1 (.string v1)
        go_wp2_with (fail)
        with_reducible refine (p_num2 U2.out d4).mono ?_
        rintro e x2 ⟨rfl, d5⟩
        clear d4 f1 y1
        have f2 := d5.p.free 2
        have y2 := d5.p.cell' 2 _ rfl
        have d6 := d5.put 2 (.int .i64 (v2 : Nat))
        go_wp2_with (fail)
        with_reducible refine (p_num U3.out d6).mono ?_
        rintro e x3 ⟨rfl, d7⟩
        clear d6 f2 y2
        have f3 := d7.p.free 3
        have y3 := d7.p.cell' 3 _ rfl
        have d8 := d7.put 3 (.int .i64 (v3 : Nat))
        go_wp2_with (fail)
        with_reducible refine (p_num U4.out d8).mono ?_
        rintro e x4 ⟨rfl, d9⟩
        clear d8 f3 y3
        have f4 := d9.p.free 4
        have y4 := d9.p.cell' 4 _ rfl
        have d10 := d9.put 4 (.int .i64 (v4 : Nat))
        go_upto_region 20 with (fail)
        generalize (x4.setCell ⟨wr.heap.size, 4, none⟩ (.int .i64 (v4 : Nat))) = wp at *
        clear d1 d3 d5 d7 d9
        have pc := d10.p
        have pp0 := pc.cell' 0 (.string v0) rfl
        have pp1 := pc.cell' 1 (.string v1) rfl
        have pp2 := pc.cell' 2 (.int .i64 (v2 : Nat)) rfl
        have pp3 := pc.cell' 3 (.int .i64 (v3 : Nat)) rfl
        have pp4 := pc.cell' 4 (.int .i64 (v4 : Nat)) rfl
        have hcell : wp.cell? ⟨w.heap.size + 1 + 1 + 1, 3, none⟩ = some (.slice A j c) := by rw [← HXL.out]; exact d10.q.blk.cell' 3 _ rfl
        have QA := d10.q.alloc (.cells #[.string v0, .string v1, .int .i64 (v2 : Nat), .int .i64 (v3 : Nat), .int .i64 (v4 : Nat)] 60)
        have OA := d10.own.alloc (.cells #[.string v0, .string v1, .int .i64 (v2 : Nat), .int .i64 (v3 : Nat), .int .i64 (v4 : Nat)] 60)
        have hsz : wb.heap.size ≤ (wp.alloc (.cells #[.string v0, .string v1, .int .i64 (v2 : Nat), .int .i64 (v3 : Nat), .int .i64 (v4 : Nat)] 60)).heap.size := by have h1 := d10.p.lt; have h2 := HS.out; rw [World.size_alloc]; omega
        have RA := blk_rd (Blk.made wp 60 #[.string v0, .string v1, .int .i64 (v2 : Nat), .int .i64 (v3 : Nat), .int .i64 (v4 : Nat)]) (xs := [(⟨v0, v1, (v2 : Nat), (v3 : Nat), (v4 : Nat)⟩ : PlD)].flatMap plC) rfl rfl
        clear pc d10 HO
        go_wp2_with (at_builtin; refine wpList_app_pl rfl (.tmp 70) (.tmp 72) rfl wb.heap.size _ j _ rfl OA (some ⟨wp.heap.size, 0, none⟩) 1 1 [⟨v0, v1, (v2 : Nat), (v3 : Nat), (v4 : Nat)⟩] rfl RA (by omega) hsz ?_; intro v' w9 hown9 hg9; obtain ⟨A', C', rfl, hf9, ⟨ux, hx9⟩, HE9, HK1, HK2, HS9⟩ := QL.step1 QA OA HXL.out hg9 hown9 LO.out hB hsz; clear hown9 hg9 QA OA RA)
        go_roundw
        case rel => exact ⟨k', j + 1, xs ++ [⟨v0, v1, (v2 : Nat), (v3 : Nat), (v4 : Nat)⟩], u4, A', C', by go_num, by omega, HE9, HK1, HK2, HS9, HM⟩
        case measure => simp [intOf]; omega
  obtain ⟨A1, C1, HQ2⟩ := hcut
  clear DB HWN HW0 hle
  have hcut : True := trivial
  have c0 := q_cnt HQ2.out
  obtain ⟨⟨n0, t0⟩, hn0⟩ : ∃ x, numS 65536 s5 = x := ⟨_, rfl⟩
  have HWN : Hid (manyS (fxS) n0 t0 = (fx, s6)) := Lib.hid (by have q := HW1.out; rw [hn0] at q; exact q)
  have hle := (numS_le (hi := 65536) s5).1
  rw [hn0] at c0 hle
  simp only at c0 hle
  have HC := Lib.hid c0
  clear c0 hn0
  go_wp2_with (fail)
  with_reducible refine HC.out.mono ?_
  rintro e wb ⟨rfl, db⟩
  have DB := Lib.hid db
  clear HC HQ2 db
  go_upto_block 2 with (fail)
  go_cut [] (fun wc => ∃ A2 C2, Hid (QL w wc (w.heap.size + 1 + 1) (w.heap.size + 1 + 1 + 1) ⟨kd, e1, img, pl, fx, [], [], []⟩ ⟨A1, C1, A2, C2, none, 0, none, 0, none, 0⟩ s6))
  case first =>
    have hB : (w.heap.size + 1 + 1 + 1) < wb.heap.size := DB.out.blk.lt
    have LO : Hid (∀ A, A = A1 ∨ A = (none : Option Addr) ∨ A = (none : Option Addr) ∨ A = (none : Option Addr) → ∀ a, A = some a → a.block < wb.heap.size) := Lib.hid (fun A hA a ha => by
      rcases hA with q | q | q | q
      · subst q; exact (DB.out.far _ (Or.inl rfl) a ha).2
      · subst q; cases ha
      · subst q; cases ha
      · subst q; cases ha)
    have HZ : Hid (([] ++ (manyS (fxS) n0 t0).1, (manyS (fxS) n0 t0).2) = (fx, s6)) := Lib.hid (by rw [List.nil_append]; exact HWN.out)
    go_wp2_with (fail)
    go_loopw [11] (fun v11 wr => ∃ (k j : Nat) (xs : List Int) (s' : RS) (A : Option Addr) (c : Nat), v11 = .int .i64 j ∧ j + k = n0 ∧ Hid (xs.length = j) ∧ Hid (QL w wr (w.heap.size + 1 + 1) (w.heap.size + 1 + 1 + 1) ⟨kd, e1, img, pl, xs, [], [], []⟩ ⟨A1, C1, A, c, none, 0, none, 0, none, 0⟩ s') ∧ Hid (wr.ownsRow wb.heap.size 3 1 (.slice A j c) j (xs.flatMap fxC)) ∧ Hid (wb.heap.size ≤ wr.heap.size) ∧ Hid ((xs ++ (manyS (fxS) k s').1, (manyS (fxS) k s').2) = (fx, s6))) (fun v11 _ => n0 - (intOf v11).toNat)
    case atStart => exact ⟨n0, 0, [], t0, none, 0, rfl, by omega, Lib.hid rfl, DB, Lib.hid (World.ownsRow_nil ..), Lib.hid (Nat.le_refl _), HZ⟩
    case round =>
      clear HZ DB HWN
      obtain ⟨k, j, xs, s', A, c, rfl, hjk, HXL, HQ, HO, HS, H⟩ := hrel
      obtain ⟨x, hx, hxs⟩ := HQ.out.rd.cell
      by_cases hk : k = 0
      · have t1 : decide ((j : Int) < (n0 : Int)) = false := decide_eq_false (by omega)
        subst hk
        clear hx hxs
        obtain ⟨e1', e2'⟩ := many_end (Or.inl rfl) H.out
        have HQ2 : Hid (QL w wr (w.heap.size + 1 + 1) (w.heap.size + 1 + 1 + 1) ⟨kd, e1, img, pl, fx, [], [], []⟩ ⟨A1, C1, A, c, none, 0, none, 0, none, 0⟩ s6) := Lib.hid (by have q := HQ.out; rw [e1', e2'] at q; exact q)
        clear e1' e2' H HO HXL HQ
        go_wp2_with (fail)
        go_meet
        case rel => exact ⟨A, c, HQ2⟩
      have t1 : decide ((j : Int) < (n0 : Int)) = true := decide_eq_true (by omega)
      obtain ⟨k', rfl⟩ : ∃ k', k = k' + 1 := ⟨k - 1, by omega⟩
      clear hk
      cases hs' : s' with
      | none =>
        subst hs'
        have hx' : (x == 0) = false := hxs
        clear hxs
        obtain ⟨e1', e2'⟩ := many_end (Or.inr rfl) H.out
        have HQ2 : Hid (QL w wr (w.heap.size + 1 + 1) (w.heap.size + 1 + 1 + 1) ⟨kd, e1, img, pl, fx, [], [], []⟩ ⟨A1, C1, A, c, none, 0, none, 0, none, 0⟩ s6) := Lib.hid (by have q := HQ.out; rw [e1', e2'] at q; exact q)
        clear e1' e2' H HO HXL HQ
        go_wp2_with (fail)
        go_meet
        case rel => exact ⟨A, c, HQ2⟩
      | some l =>
        subst hs'
        have hx' : (x == 0) = true := hxs
        clear hxs
        have HM := Lib.hid (many_more (one := (fxS)) H.out)
        clear H
        obtain ⟨⟨v0, u0⟩, hv0⟩ : ∃ x, numS 65536 (some l) = x := ⟨_, rfl⟩
        have hps : fxS (some l) = (((v0 : Nat) : Int), u0) := by unfold fxS; simp only [hv0]
        rw [hps] at HM
        simp only at HM
        have U0 := Lib.hid hv0
        clear hps hv0
        go_upto_region 25 with (fail)
        have HD := Lib.hid HQ.out.drew
        have HOD : Hid (wr.drew.ownsRow wb.heap.size 3 1 (.slice A j c) j (xs.flatMap fxC)) := Lib.hid HO.out
        have HSD : Hid (wb.heap.size ≤ wr.drew.heap.size) := Lib.hid HS.out
        clear HQ HO HS hx hx'
        refine wp_region_held_drew (S := fun _ => True) (by kernel_rfl) trivial (fun hS => ?_)
        generalize wr.drew = wd at *
        refine tkQ (i := 0) (oi := ?o1) (v := ?v1) ?h1 ?q1 ?y1 hS ?_; (case h1 => (simp only [gqA, gqB, gqC]; rfl)); (case q1 => exact fun _ _ _ h => h); (case y1 => (refine Or.inl ⟨by kernel_rfl, ?_⟩; intro wq hSq; clear hSq; go_simp; (try with_reducible rfl))); simp only [Act.put, List.setIfInBounds_toArray, List.set_cons_zero, List.set_cons_succ]
        refine tkQ (i := 2) (oi := ?o2) (v := ?v2) ?h2 ?q2 ?y2 hS ?_; (case h2 => (simp only [gqA, gqB, gqC]; rfl)); (case q2 => exact fun _ _ _ h => h); (case y2 => (refine Or.inl ⟨by kernel_rfl, ?_⟩; intro wq hSq; clear hSq; go_simp; (try with_reducible rfl))); simp only [Act.put, List.setIfInBounds_toArray, List.set_cons_zero, List.set_cons_succ]
        refine wpAnyH_ready (rs := [1, 3]) (by kernel_rfl) (by simp) ?_
        refine AllReadyH.cons (o := ?oi3) ?hi3 (fun K hK => ?_) (AllReadyH.cons (o := ?oi4) ?hi4 (fun K hK => ?_) AllReadyH.nil)
        case hi3 => (simp only [gqA, gqB, gqC]; rfl)
        case hi4 => (simp only [gqA, gqB, gqC]; rfl)
        · skip
          have hcell : wd.cell? ⟨w.heap.size + 1 + 1 + 1, 4, none⟩ = some (.slice A j c) := by rw [← HXL.out]; exact HD.out.blk.cell' 4 _ rfl
          go_simp
          refine hK.out _ _ trivial (fun hS => ?_)
          clear hK K hcell
          refine wpAnyH_ready (rs := [3]) (by kernel_rfl) (by simp) ?_
          refine AllReadyH.cons (o := ?oi5) ?hi5 (fun K hK => ?_) AllReadyH.nil
          case hi5 => (simp only [gqA, gqB, gqC]; rfl)
          have c0 := (show Calls Tryz.prog 70 #[.pointer (some ⟨w.heap.size + 1 + 1, 0, none⟩), .int .i64 0, .int .i64 65536] wd _ from rdnum_any (w.heap.size + 1 + 1) 65536 (some l) wd HD.out.rd HD.out.sz (by decide))
          rw [U0.out] at c0
          simp only at c0
          have HC := Lib.hid c0
          clear c0
          go_simp
          with_reducible refine HC.out.mono ?_
          rintro e x0 ⟨rfl, r0, g0⟩
          have HD2 := Lib.hid (HD.out.go g0 r0 (by have q := num_sz (hi := 65536) HD.out.sz; rw [U0.out] at q; exact q))
          have HO2 := Lib.hid (own_go HOD.out g0 (by omega))
          have HS2 : Hid (wb.heap.size ≤ x0.heap.size) := Lib.hid (Nat.le_trans HSD.out g0.size)
          clear HC r0 g0
          refine hK.out _ _ trivial (fun hS => ?_)
          clear hK K HD HOD HSD
          refine wpAnyH_ready (rs := [4]) (by kernel_rfl) (by simp) ?_
          refine AllReadyH.cons (o := ?oi6) ?hi6 (fun K hK => ?_) AllReadyH.nil
          case hi6 => (simp only [gqA, gqB, gqC]; rfl)
          go_simp
          refine hK.out _ _ trivial (fun hS => ?_)
          clear hK K
          have QA := HD2.out.alloc (.cells #[.int .i64 (v0 : Nat)] 3)
          have OA := HO2.out.alloc (.cells #[.int .i64 (v0 : Nat)] 3)
          have hsz : wb.heap.size ≤ (x0.alloc (.cells #[.int .i64 (v0 : Nat)] 3)).heap.size := by have h2 := HS2.out; rw [World.size_alloc]; omega
          have RA := blk_rd (Blk.made x0 3 #[.int .i64 (v0 : Nat)]) (xs := [((v0 : Nat) : Int)].flatMap fxC) rfl rfl
          generalize hW : x0.alloc (.cells #[.int .i64 (v0 : Nat)] 3) = w8 at *
          clear hW
          generalize x0.heap.size = gx at *
          refine wpAnyH_ready (rs := [5]) (by kernel_rfl) (by simp) ?_
          refine AllReadyH.cons (o := ?oi7) ?hi7 (fun K hK => ?_) AllReadyH.nil
          case hi7 => (simp only [gqA, gqB, gqC]; rfl)
          obtain ⟨v', w9, hrun9, hown9, hg9⟩ := run_app_fx (w := w8) 23 wb.heap.size _ j _ OA (some ⟨gx, 0, none⟩) 1 1 [((v0 : Nat) : Int)] RA (by omega) hsz
          rw [if_pos (by rfl)]
          refine wp_run_app2 (.tmp 90) (.tmp 93) 23 rfl rfl rfl hrun9 ?_
          simp only [Act.put, List.setIfInBounds_toArray, List.set_cons_zero, List.set_cons_succ]
          refine hK.out _ _ trivial (fun hS => ?_)
          clear hK K hrun9
          obtain ⟨A', C', rfl, hf9, ⟨ux, hx9⟩, HE9, HK1, HK2, HS9⟩ := QL.step2 QA OA HXL.out hg9 hown9 LO.out hB hsz
          clear hown9 hg9 QA OA RA hsz
          refine tkQ (i := 6) (oi := ?o8) (v := ?v8) ?h8 ?q8 ?y8 hS ?_; (case h8 => (simp only [gqA, gqB, gqC]; rfl)); (case q8 => exact fun _ _ _ h => h); (case y8 => (refine Or.inl ⟨by kernel_rfl, ?_⟩; intro wq hSq; clear hSq; go_simp; (try with_reducible rfl))); simp only [Act.put, List.setIfInBounds_toArray, List.set_cons_zero, List.set_cons_succ]
          refine wpAnyH_ready (rs := [7]) (by kernel_rfl) (by simp) ?_
          refine AllReadyH.cons (o := ?oi9) ?hi9 (fun K hK => ?_) AllReadyH.nil
          case hi9 => (simp only [gqA, gqB, gqC]; rfl)
          go_simp
          refine hK.out _ _ trivial (fun hS => ?_)
          clear hK K
          refine wpAnyH_done (by kernel_rfl) ?_ _
          go_wp2_with (fail)
          go_roundw
          case rel => exact ⟨k', j + 1, xs ++ [((v0 : Nat) : Int)], u0, A', C', by go_num, by omega, HE9, HK1, HK2, HS9, HM⟩
          case measure => simp [intOf]; omega
        · skip
          have c0 := (show Calls Tryz.prog 70 #[.pointer (some ⟨w.heap.size + 1 + 1, 0, none⟩), .int .i64 0, .int .i64 65536] wd _ from rdnum_any (w.heap.size + 1 + 1) 65536 (some l) wd HD.out.rd HD.out.sz (by decide))
          rw [U0.out] at c0
          simp only at c0
          have HC := Lib.hid c0
          clear c0
          go_simp
          with_reducible refine HC.out.mono ?_
          rintro e x0 ⟨rfl, r0, g0⟩
          have HD2 := Lib.hid (HD.out.go g0 r0 (by have q := num_sz (hi := 65536) HD.out.sz; rw [U0.out] at q; exact q))
          have HO2 := Lib.hid (own_go HOD.out g0 (by omega))
          have HS2 : Hid (wb.heap.size ≤ x0.heap.size) := Lib.hid (Nat.le_trans HSD.out g0.size)
          clear HC r0 g0
          refine hK.out _ _ trivial (fun hS => ?_)
          clear hK K HD HOD HSD
          refine wpAnyH_ready (rs := [1, 4]) (by kernel_rfl) (by simp) ?_
          refine AllReadyH.cons (o := ?oi10) ?hi10 (fun K hK => ?_) (AllReadyH.cons (o := ?oi11) ?hi11 (fun K hK => ?_) AllReadyH.nil)
          case hi10 => (simp only [gqA, gqB, gqC]; rfl)
          case hi11 => (simp only [gqA, gqB, gqC]; rfl)
          · skip
            have hcell : x0.cell? ⟨w.heap.size + 1 + 1 + 1, 4, none⟩ = some (.slice A j c) := by rw [← HXL.out]; exact HD2.out.blk.cell' 4 _ rfl
            go_simp
            refine hK.out _ _ trivial (fun hS => ?_)
            clear hK K hcell
            refine wpAnyH_ready (rs := [4]) (by kernel_rfl) (by simp) ?_
            refine AllReadyH.cons (o := ?oi12) ?hi12 (fun K hK => ?_) AllReadyH.nil
            case hi12 => (simp only [gqA, gqB, gqC]; rfl)
            go_simp
            refine hK.out _ _ trivial (fun hS => ?_)
            clear hK K
            have QA := HD2.out.alloc (.cells #[.int .i64 (v0 : Nat)] 3)
            have OA := HO2.out.alloc (.cells #[.int .i64 (v0 : Nat)] 3)
            have hsz : wb.heap.size ≤ (x0.alloc (.cells #[.int .i64 (v0 : Nat)] 3)).heap.size := by have h2 := HS2.out; rw [World.size_alloc]; omega
            have RA := blk_rd (Blk.made x0 3 #[.int .i64 (v0 : Nat)]) (xs := [((v0 : Nat) : Int)].flatMap fxC) rfl rfl
            generalize hW : x0.alloc (.cells #[.int .i64 (v0 : Nat)] 3) = w8 at *
            clear hW
            generalize x0.heap.size = gx at *
            refine wpAnyH_ready (rs := [5]) (by kernel_rfl) (by simp) ?_
            refine AllReadyH.cons (o := ?oi13) ?hi13 (fun K hK => ?_) AllReadyH.nil
            case hi13 => (simp only [gqA, gqB, gqC]; rfl)
            obtain ⟨v', w9, hrun9, hown9, hg9⟩ := run_app_fx (w := w8) 23 wb.heap.size _ j _ OA (some ⟨gx, 0, none⟩) 1 1 [((v0 : Nat) : Int)] RA (by omega) hsz
            rw [if_pos (by rfl)]
            refine wp_run_app2 (.tmp 90) (.tmp 93) 23 rfl rfl rfl hrun9 ?_
            simp only [Act.put, List.setIfInBounds_toArray, List.set_cons_zero, List.set_cons_succ]
            refine hK.out _ _ trivial (fun hS => ?_)
            clear hK K hrun9
            obtain ⟨A', C', rfl, hf9, ⟨ux, hx9⟩, HE9, HK1, HK2, HS9⟩ := QL.step2 QA OA HXL.out hg9 hown9 LO.out hB hsz
            clear hown9 hg9 QA OA RA hsz
            refine tkQ (i := 6) (oi := ?o14) (v := ?v14) ?h14 ?q14 ?y14 hS ?_; (case h14 => (simp only [gqA, gqB, gqC]; rfl)); (case q14 => exact fun _ _ _ h => h); (case y14 => (refine Or.inl ⟨by kernel_rfl, ?_⟩; intro wq hSq; clear hSq; go_simp; (try with_reducible rfl))); simp only [Act.put, List.setIfInBounds_toArray, List.set_cons_zero, List.set_cons_succ]
            refine wpAnyH_ready (rs := [7]) (by kernel_rfl) (by simp) ?_
            refine AllReadyH.cons (o := ?oi15) ?hi15 (fun K hK => ?_) AllReadyH.nil
            case hi15 => (simp only [gqA, gqB, gqC]; rfl)
            go_simp
            refine hK.out _ _ trivial (fun hS => ?_)
            clear hK K
            refine wpAnyH_done (by kernel_rfl) ?_ _
            go_wp2_with (fail)
            go_roundw
            case rel => exact ⟨k', j + 1, xs ++ [((v0 : Nat) : Int)], u0, A', C', by go_num, by omega, HE9, HK1, HK2, HS9, HM⟩
            case measure => simp [intOf]; omega
          · skip
            have hcell : x0.cell? ⟨w.heap.size + 1 + 1 + 1, 4, none⟩ = some (.slice A j c) := by rw [← HXL.out]; exact HD2.out.blk.cell' 4 _ rfl
            have hcell2 := (Lib.hid (cell_new ((New.refl x0).alloc (.cells #[.int .i64 (v0 : Nat)] 3)) hcell))
            clear hcell
            go_simp
            refine hK.out _ _ trivial (fun hS => ?_)
            clear hK K
            have QA := HD2.out.alloc (.cells #[.int .i64 (v0 : Nat)] 3)
            have OA := HO2.out.alloc (.cells #[.int .i64 (v0 : Nat)] 3)
            have hsz : wb.heap.size ≤ (x0.alloc (.cells #[.int .i64 (v0 : Nat)] 3)).heap.size := by have h2 := HS2.out; rw [World.size_alloc]; omega
            have RA := blk_rd (Blk.made x0 3 #[.int .i64 (v0 : Nat)]) (xs := [((v0 : Nat) : Int)].flatMap fxC) rfl rfl
            generalize hW : x0.alloc (.cells #[.int .i64 (v0 : Nat)] 3) = w8 at *
            clear hW
            generalize x0.heap.size = gx at *
            refine wpAnyH_ready (rs := [1]) (by kernel_rfl) (by simp) ?_
            refine AllReadyH.cons (o := ?oi16) ?hi16 (fun K hK => ?_) AllReadyH.nil
            case hi16 => (simp only [gqA, gqB, gqC]; rfl)
            have hcell := hcell2.out
            go_simp
            refine hK.out _ _ trivial (fun hS => ?_)
            clear hK K hcell
            refine wpAnyH_ready (rs := [5]) (by kernel_rfl) (by simp) ?_
            refine AllReadyH.cons (o := ?oi17) ?hi17 (fun K hK => ?_) AllReadyH.nil
            case hi17 => (simp only [gqA, gqB, gqC]; rfl)
            obtain ⟨v', w9, hrun9, hown9, hg9⟩ := run_app_fx (w := w8) 23 wb.heap.size _ j _ OA (some ⟨gx, 0, none⟩) 1 1 [((v0 : Nat) : Int)] RA (by omega) hsz
            rw [if_pos (by rfl)]
            refine wp_run_app2 (.tmp 90) (.tmp 93) 23 rfl rfl rfl hrun9 ?_
            simp only [Act.put, List.setIfInBounds_toArray, List.set_cons_zero, List.set_cons_succ]
            refine hK.out _ _ trivial (fun hS => ?_)
            clear hK K hrun9
            obtain ⟨A', C', rfl, hf9, ⟨ux, hx9⟩, HE9, HK1, HK2, HS9⟩ := QL.step2 QA OA HXL.out hg9 hown9 LO.out hB hsz
            clear hown9 hg9 QA OA RA hsz
            refine tkQ (i := 6) (oi := ?o18) (v := ?v18) ?h18 ?q18 ?y18 hS ?_; (case h18 => (simp only [gqA, gqB, gqC]; rfl)); (case q18 => exact fun _ _ _ h => h); (case y18 => (refine Or.inl ⟨by kernel_rfl, ?_⟩; intro wq hSq; clear hSq; go_simp; (try with_reducible rfl))); simp only [Act.put, List.setIfInBounds_toArray, List.set_cons_zero, List.set_cons_succ]
            refine wpAnyH_ready (rs := [7]) (by kernel_rfl) (by simp) ?_
            refine AllReadyH.cons (o := ?oi19) ?hi19 (fun K hK => ?_) AllReadyH.nil
            case hi19 => (simp only [gqA, gqB, gqC]; rfl)
            go_simp
            refine hK.out _ _ trivial (fun hS => ?_)
            clear hK K
            refine wpAnyH_done (by kernel_rfl) ?_ _
            go_wp2_with (fail)
            go_roundw
            case rel => exact ⟨k', j + 1, xs ++ [((v0 : Nat) : Int)], u0, A', C', by go_num, by omega, HE9, HK1, HK2, HS9, HM⟩
            case measure => simp [intOf]; omega
  obtain ⟨A2, C2, HQ3⟩ := hcut
  clear DB HWN HW1 hle
  have hcut : True := trivial
  have c0 := q_cnt HQ3.out
  obtain ⟨⟨n0, t0⟩, hn0⟩ : ∃ x, numS 65536 s6 = x := ⟨_, rfl⟩
  have HWN : Hid (manyS (imS) n0 t0 = (im, s7)) := Lib.hid (by have q := HW2.out; rw [hn0] at q; exact q)
  have hle := (numS_le (hi := 65536) s6).1
  rw [hn0] at c0 hle
  simp only at c0 hle
  have HC := Lib.hid c0
  clear c0 hn0
  go_wp2_with (fail)
  with_reducible refine HC.out.mono ?_
  rintro e wb ⟨rfl, db⟩
  have DB := Lib.hid db
  clear HC HQ3 db
  go_upto_block 4 with (fail)
  go_cut [] (fun wc => ∃ A3 C3, Hid (QL w wc (w.heap.size + 1 + 1) (w.heap.size + 1 + 1 + 1) ⟨kd, e1, img, pl, fx, im, [], []⟩ ⟨A1, C1, A2, C2, A3, C3, none, 0, none, 0⟩ s7))
  case first =>
    have hB : (w.heap.size + 1 + 1 + 1) < wb.heap.size := DB.out.blk.lt
    have LO : Hid (∀ A, A = A1 ∨ A = A2 ∨ A = (none : Option Addr) ∨ A = (none : Option Addr) → ∀ a, A = some a → a.block < wb.heap.size) := Lib.hid (fun A hA a ha => by
      rcases hA with q | q | q | q
      · subst q; exact (DB.out.far _ (Or.inl rfl) a ha).2
      · subst q; exact (DB.out.far _ (Or.inr (Or.inl rfl)) a ha).2
      · subst q; cases ha
      · subst q; cases ha)
    have HZ : Hid (([] ++ (manyS (imS) n0 t0).1, (manyS (imS) n0 t0).2) = (im, s7)) := Lib.hid (by rw [List.nil_append]; exact HWN.out)
    go_wp2_with (fail)
    go_loopw [12] (fun v12 wr => ∃ (k j : Nat) (xs : List ImD) (s' : RS) (A : Option Addr) (c : Nat), v12 = .int .i64 j ∧ j + k = n0 ∧ Hid (xs.length = j) ∧ Hid (QL w wr (w.heap.size + 1 + 1) (w.heap.size + 1 + 1 + 1) ⟨kd, e1, img, pl, fx, xs, [], []⟩ ⟨A1, C1, A2, C2, A, c, none, 0, none, 0⟩ s') ∧ Hid (wr.ownsRow wb.heap.size 81 3 (.slice A j c) j (xs.flatMap imC)) ∧ Hid (wb.heap.size ≤ wr.heap.size) ∧ Hid ((xs ++ (manyS (imS) k s').1, (manyS (imS) k s').2) = (im, s7))) (fun v12 _ => n0 - (intOf v12).toNat)
    case atStart => exact ⟨n0, 0, [], t0, none, 0, rfl, by omega, Lib.hid rfl, DB, Lib.hid (World.ownsRow_nil ..), Lib.hid (Nat.le_refl _), HZ⟩
    case round =>
      clear HZ DB HWN
      obtain ⟨k, j, xs, s', A, c, rfl, hjk, HXL, HQ, HO, HS, H⟩ := hrel
      obtain ⟨x, hx, hxs⟩ := HQ.out.rd.cell
      by_cases hk : k = 0
      · have t1 : decide ((j : Int) < (n0 : Int)) = false := decide_eq_false (by omega)
        subst hk
        clear hx hxs
        obtain ⟨e1', e2'⟩ := many_end (Or.inl rfl) H.out
        have HQ2 : Hid (QL w wr (w.heap.size + 1 + 1) (w.heap.size + 1 + 1 + 1) ⟨kd, e1, img, pl, fx, im, [], []⟩ ⟨A1, C1, A2, C2, A, c, none, 0, none, 0⟩ s7) := Lib.hid (by have q := HQ.out; rw [e1', e2'] at q; exact q)
        clear e1' e2' H HO HXL HQ
        go_wp2_with (fail)
        go_meet
        case rel => exact ⟨A, c, HQ2⟩
      have t1 : decide ((j : Int) < (n0 : Int)) = true := decide_eq_true (by omega)
      obtain ⟨k', rfl⟩ : ∃ k', k = k' + 1 := ⟨k - 1, by omega⟩
      clear hk
      cases hs' : s' with
      | none =>
        subst hs'
        have hx' : (x == 0) = false := hxs
        clear hxs
        obtain ⟨e1', e2'⟩ := many_end (Or.inr rfl) H.out
        have HQ2 : Hid (QL w wr (w.heap.size + 1 + 1) (w.heap.size + 1 + 1 + 1) ⟨kd, e1, img, pl, fx, im, [], []⟩ ⟨A1, C1, A2, C2, A, c, none, 0, none, 0⟩ s7) := Lib.hid (by have q := HQ.out; rw [e1', e2'] at q; exact q)
        clear e1' e2' H HO HXL HQ
        go_wp2_with (fail)
        go_meet
        case rel => exact ⟨A, c, HQ2⟩
      | some l =>
        subst hs'
        have hx' : (x == 0) = true := hxs
        clear hxs
        have HM := Lib.hid (many_more (one := (imS)) H.out)
        clear H
        obtain ⟨⟨v0, u0⟩, hv0⟩ : ∃ x, txtS 65536 (some l) = x := ⟨_, rfl⟩
        obtain ⟨⟨v1, u1⟩, hv1⟩ : ∃ x, txtS 65536 u0 = x := ⟨_, rfl⟩
        obtain ⟨⟨v2, u2⟩, hv2⟩ : ∃ x, numS 65536 u1 = x := ⟨_, rfl⟩
        have hps : imS (some l) = (⟨v0, v1, (v2 : Nat)⟩, u2) := by unfold imS; simp only [hv0, hv1, hv2]
        rw [hps] at HM
        simp only at HM
        have U0 := Lib.hid hv0
        have U1 := Lib.hid hv1
        have U2 := Lib.hid hv2
        clear hps hv0 hv1 hv2
        have d0 := QL.made HQ.out HO.out hB 81 #[.string ⟨#[]⟩, .string ⟨#[]⟩, .int .i64 0]
        clear HQ
        go_wp2_with (fail)
        with_reducible refine (p_txt U0.out d0).mono ?_
        rintro e x0 ⟨rfl, d1⟩
        clear d0
        have f0 := d1.p.free 0
        have y0 := d1.p.cell' 0 _ rfl
        have d2 := d1.put 0 (.string v0)
        go_wp2_with (fail)
        with_reducible refine (p_txt U1.out d2).mono ?_
        rintro e x1 ⟨rfl, d3⟩
        clear d2 f0 y0
        have f1 := d3.p.free 1
        have y1 := d3.p.cell' 1 _ rfl
        have d4 := d3.put 1 (.string v1)
        go_wp2_with (fail)
        with_reducible refine (p_num U2.out d4).mono ?_
        rintro e x2 ⟨rfl, d5⟩
        clear d4 f1 y1
        have f2 := d5.p.free 2
        have y2 := d5.p.cell' 2 _ rfl
        have d6 := d5.put 2 (.int .i64 (v2 : Nat))
        go_upto_region 34 with (fail)
        generalize (x2.setCell ⟨wr.heap.size, 2, none⟩ (.int .i64 (v2 : Nat))) = wp at *
        clear d1 d3 d5
        have pc := d6.p
        have pp0 := pc.cell' 0 (.string v0) rfl
        have pp1 := pc.cell' 1 (.string v1) rfl
        have pp2 := pc.cell' 2 (.int .i64 (v2 : Nat)) rfl
        have hcell : wp.cell? ⟨w.heap.size + 1 + 1 + 1, 5, none⟩ = some (.slice A j c) := by rw [← HXL.out]; exact d6.q.blk.cell' 5 _ rfl
        have QA := d6.q.alloc (.cells #[.string v0, .string v1, .int .i64 (v2 : Nat)] 81)
        have OA := d6.own.alloc (.cells #[.string v0, .string v1, .int .i64 (v2 : Nat)] 81)
        have hsz : wb.heap.size ≤ (wp.alloc (.cells #[.string v0, .string v1, .int .i64 (v2 : Nat)] 81)).heap.size := by have h1 := d6.p.lt; have h2 := HS.out; rw [World.size_alloc]; omega
        have RA := blk_rd (Blk.made wp 81 #[.string v0, .string v1, .int .i64 (v2 : Nat)]) (xs := [(⟨v0, v1, (v2 : Nat)⟩ : ImD)].flatMap imC) rfl rfl
        clear pc d6 HO
        go_wp2_with (at_builtin; refine wpList_app_im rfl (.tmp 121) (.tmp 123) rfl wb.heap.size _ j _ rfl OA (some ⟨wp.heap.size, 0, none⟩) 1 1 [⟨v0, v1, (v2 : Nat)⟩] rfl RA (by omega) hsz ?_; intro v' w9 hown9 hg9; obtain ⟨A', C', rfl, hf9, ⟨ux, hx9⟩, HE9, HK1, HK2, HS9⟩ := QL.step3 QA OA HXL.out hg9 hown9 LO.out hB hsz; clear hown9 hg9 QA OA RA)
        go_roundw
        case rel => exact ⟨k', j + 1, xs ++ [⟨v0, v1, (v2 : Nat)⟩], u2, A', C', by go_num, by omega, HE9, HK1, HK2, HS9, HM⟩
        case measure => simp [intOf]; omega
  obtain ⟨A3, C3, HQ4⟩ := hcut
  clear DB HWN HW2 hle
  have hcut : True := trivial
  have c0 := q_cnt HQ4.out
  obtain ⟨⟨n0, t0⟩, hn0⟩ : ∃ x, numS 65536 s7 = x := ⟨_, rfl⟩
  have HWN : Hid (manyS (exS) n0 t0 = (ex, s8)) := Lib.hid (by have q := HW3.out; rw [hn0] at q; exact q)
  have hle := (numS_le (hi := 65536) s7).1
  rw [hn0] at c0 hle
  simp only at c0 hle
  have HC := Lib.hid c0
  clear c0 hn0
  go_wp2_with (fail)
  with_reducible refine HC.out.mono ?_
  rintro e wb ⟨rfl, db⟩
  have DB := Lib.hid db
  clear HC HQ4 db
  go_upto_block 6 with (fail)
  go_cut [] (fun wc => ∃ A4 C4, Hid (QL w wc (w.heap.size + 1 + 1) (w.heap.size + 1 + 1 + 1) ⟨kd, e1, img, pl, fx, im, ex, []⟩ ⟨A1, C1, A2, C2, A3, C3, A4, C4, none, 0⟩ s8))
  case first =>
    have hB : (w.heap.size + 1 + 1 + 1) < wb.heap.size := DB.out.blk.lt
    have LO : Hid (∀ A, A = A1 ∨ A = A2 ∨ A = A3 ∨ A = (none : Option Addr) → ∀ a, A = some a → a.block < wb.heap.size) := Lib.hid (fun A hA a ha => by
      rcases hA with q | q | q | q
      · subst q; exact (DB.out.far _ (Or.inl rfl) a ha).2
      · subst q; exact (DB.out.far _ (Or.inr (Or.inl rfl)) a ha).2
      · subst q; exact (DB.out.far _ (Or.inr (Or.inr (Or.inl rfl))) a ha).2
      · subst q; cases ha)
    have HZ : Hid (([] ++ (manyS (exS) n0 t0).1, (manyS (exS) n0 t0).2) = (ex, s8)) := Lib.hid (by rw [List.nil_append]; exact HWN.out)
    go_wp2_with (fail)
    go_loopw [14] (fun v14 wr => ∃ (k j : Nat) (xs : List ExD) (s' : RS) (A : Option Addr) (c : Nat), v14 = .int .i64 j ∧ j + k = n0 ∧ Hid (xs.length = j) ∧ Hid (QL w wr (w.heap.size + 1 + 1) (w.heap.size + 1 + 1 + 1) ⟨kd, e1, img, pl, fx, im, xs, []⟩ ⟨A1, C1, A2, C2, A3, C3, A, c, none, 0⟩ s') ∧ Hid (wr.ownsRow wb.heap.size 83 2 (.slice A j c) j (xs.flatMap exC)) ∧ Hid (wb.heap.size ≤ wr.heap.size) ∧ Hid ((xs ++ (manyS (exS) k s').1, (manyS (exS) k s').2) = (ex, s8))) (fun v14 _ => n0 - (intOf v14).toNat)
    case atStart => exact ⟨n0, 0, [], t0, none, 0, rfl, by omega, Lib.hid rfl, DB, Lib.hid (World.ownsRow_nil ..), Lib.hid (Nat.le_refl _), HZ⟩
    case round =>
      clear HZ DB HWN
      obtain ⟨k, j, xs, s', A, c, rfl, hjk, HXL, HQ, HO, HS, H⟩ := hrel
      obtain ⟨x, hx, hxs⟩ := HQ.out.rd.cell
      by_cases hk : k = 0
      · have t1 : decide ((j : Int) < (n0 : Int)) = false := decide_eq_false (by omega)
        subst hk
        clear hx hxs
        obtain ⟨e1', e2'⟩ := many_end (Or.inl rfl) H.out
        have HQ2 : Hid (QL w wr (w.heap.size + 1 + 1) (w.heap.size + 1 + 1 + 1) ⟨kd, e1, img, pl, fx, im, ex, []⟩ ⟨A1, C1, A2, C2, A3, C3, A, c, none, 0⟩ s8) := Lib.hid (by have q := HQ.out; rw [e1', e2'] at q; exact q)
        clear e1' e2' H HO HXL HQ
        go_wp2_with (fail)
        go_meet
        case rel => exact ⟨A, c, HQ2⟩
      have t1 : decide ((j : Int) < (n0 : Int)) = true := decide_eq_true (by omega)
      obtain ⟨k', rfl⟩ : ∃ k', k = k' + 1 := ⟨k - 1, by omega⟩
      clear hk
      cases hs' : s' with
      | none =>
        subst hs'
        have hx' : (x == 0) = false := hxs
        clear hxs
        obtain ⟨e1', e2'⟩ := many_end (Or.inr rfl) H.out
        have HQ2 : Hid (QL w wr (w.heap.size + 1 + 1) (w.heap.size + 1 + 1 + 1) ⟨kd, e1, img, pl, fx, im, ex, []⟩ ⟨A1, C1, A2, C2, A3, C3, A, c, none, 0⟩ s8) := Lib.hid (by have q := HQ.out; rw [e1', e2'] at q; exact q)
        clear e1' e2' H HO HXL HQ
        go_wp2_with (fail)
        go_meet
        case rel => exact ⟨A, c, HQ2⟩
      | some l =>
        subst hs'
        have hx' : (x == 0) = true := hxs
        clear hxs
        have HM := Lib.hid (many_more (one := (exS)) H.out)
        clear H
        obtain ⟨⟨v0, u0⟩, hv0⟩ : ∃ x, txtS 65536 (some l) = x := ⟨_, rfl⟩
        obtain ⟨⟨v1, u1⟩, hv1⟩ : ∃ x, numS 65536 u0 = x := ⟨_, rfl⟩
        have hps : exS (some l) = (⟨v0, (v1 : Nat)⟩, u1) := by unfold exS; simp only [hv0, hv1]
        rw [hps] at HM
        simp only at HM
        have U0 := Lib.hid hv0
        have U1 := Lib.hid hv1
        clear hps hv0 hv1
        have d0 := QL.made HQ.out HO.out hB 83 #[.string ⟨#[]⟩, .int .i64 0]
        clear HQ
        go_wp2_with (fail)
        with_reducible refine (p_txt U0.out d0).mono ?_
        rintro e x0 ⟨rfl, d1⟩
        clear d0
        have f0 := d1.p.free 0
        have y0 := d1.p.cell' 0 _ rfl
        have d2 := d1.put 0 (.string v0)
        go_wp2_with (fail)
        with_reducible refine (p_num U1.out d2).mono ?_
        rintro e x1 ⟨rfl, d3⟩
        clear d2 f0 y0
        have f1 := d3.p.free 1
        have y1 := d3.p.cell' 1 _ rfl
        have d4 := d3.put 1 (.int .i64 (v1 : Nat))
        go_upto_region 42 with (fail)
        generalize (x1.setCell ⟨wr.heap.size, 1, none⟩ (.int .i64 (v1 : Nat))) = wp at *
        clear d1 d3
        have pc := d4.p
        have pp0 := pc.cell' 0 (.string v0) rfl
        have pp1 := pc.cell' 1 (.int .i64 (v1 : Nat)) rfl
        have hcell : wp.cell? ⟨w.heap.size + 1 + 1 + 1, 6, none⟩ = some (.slice A j c) := by rw [← HXL.out]; exact d4.q.blk.cell' 6 _ rfl
        have QA := d4.q.alloc (.cells #[.string v0, .int .i64 (v1 : Nat)] 83)
        have OA := d4.own.alloc (.cells #[.string v0, .int .i64 (v1 : Nat)] 83)
        have hsz : wb.heap.size ≤ (wp.alloc (.cells #[.string v0, .int .i64 (v1 : Nat)] 83)).heap.size := by have h1 := d4.p.lt; have h2 := HS.out; rw [World.size_alloc]; omega
        have RA := blk_rd (Blk.made wp 83 #[.string v0, .int .i64 (v1 : Nat)]) (xs := [(⟨v0, (v1 : Nat)⟩ : ExD)].flatMap exC) rfl rfl
        clear pc d4 HO
        go_wp2_with (at_builtin; refine wpList_app_ex rfl (.tmp 148) (.tmp 150) rfl wb.heap.size _ j _ rfl OA (some ⟨wp.heap.size, 0, none⟩) 1 1 [⟨v0, (v1 : Nat)⟩] rfl RA (by omega) hsz ?_; intro v' w9 hown9 hg9; obtain ⟨A', C', rfl, hf9, ⟨ux, hx9⟩, HE9, HK1, HK2, HS9⟩ := QL.step4 QA OA HXL.out hg9 hown9 LO.out hB hsz; clear hown9 hg9 QA OA RA)
        go_roundw
        case rel => exact ⟨k', j + 1, xs ++ [⟨v0, (v1 : Nat)⟩], u1, A', C', by go_num, by omega, HE9, HK1, HK2, HS9, HM⟩
        case measure => simp [intOf]; omega
  obtain ⟨A4, C4, HQ5⟩ := hcut
  clear DB HWN HW3 hle
  have hcut : True := trivial
  have c0 := q_cnt HQ5.out
  obtain ⟨⟨n0, t0⟩, hn0⟩ : ∃ x, numS 65536 s8 = x := ⟨_, rfl⟩
  have HWN : Hid (manyS (ntS) n0 t0 = (nt, s9)) := Lib.hid (by have q := HW4.out; rw [hn0] at q; exact q)
  have hle := (numS_le (hi := 65536) s8).1
  rw [hn0] at c0 hle
  simp only at c0 hle
  have HC := Lib.hid c0
  clear c0 hn0
  go_wp2_with (fail)
  with_reducible refine HC.out.mono ?_
  rintro e wb ⟨rfl, db⟩
  have DB := Lib.hid db
  clear HC HQ5 db
  go_upto_block 8 with (fail)
  go_cut [] (fun wc => ∃ A5 C5, Hid (QL w wc (w.heap.size + 1 + 1) (w.heap.size + 1 + 1 + 1) ⟨kd, e1, img, pl, fx, im, ex, nt⟩ ⟨A1, C1, A2, C2, A3, C3, A4, C4, A5, C5⟩ s9))
  case first =>
    have hB : (w.heap.size + 1 + 1 + 1) < wb.heap.size := DB.out.blk.lt
    have LO : Hid (∀ A, A = A1 ∨ A = A2 ∨ A = A3 ∨ A = A4 → ∀ a, A = some a → a.block < wb.heap.size) := Lib.hid (fun A hA a ha => by
      rcases hA with q | q | q | q
      · subst q; exact (DB.out.far _ (Or.inl rfl) a ha).2
      · subst q; exact (DB.out.far _ (Or.inr (Or.inl rfl)) a ha).2
      · subst q; exact (DB.out.far _ (Or.inr (Or.inr (Or.inl rfl))) a ha).2
      · subst q; exact (DB.out.far _ (Or.inr (Or.inr (Or.inr (Or.inl rfl)))) a ha).2)
    have HZ : Hid (([] ++ (manyS (ntS) n0 t0).1, (manyS (ntS) n0 t0).2) = (nt, s9)) := Lib.hid (by rw [List.nil_append]; exact HWN.out)
    go_wp2_with (fail)
    go_loopw [16] (fun v16 wr => ∃ (k j : Nat) (xs : List NtD) (s' : RS) (A : Option Addr) (c : Nat), v16 = .int .i64 j ∧ j + k = n0 ∧ Hid (xs.length = j) ∧ Hid (QL w wr (w.heap.size + 1 + 1) (w.heap.size + 1 + 1 + 1) ⟨kd, e1, img, pl, fx, im, ex, xs⟩ ⟨A1, C1, A2, C2, A3, C3, A4, C4, A, c⟩ s') ∧ Hid (wr.ownsRow wb.heap.size 40 2 (.slice A j c) j (xs.flatMap ntC)) ∧ Hid (wb.heap.size ≤ wr.heap.size) ∧ Hid ((xs ++ (manyS (ntS) k s').1, (manyS (ntS) k s').2) = (nt, s9))) (fun v16 _ => n0 - (intOf v16).toNat)
    case atStart => exact ⟨n0, 0, [], t0, none, 0, rfl, by omega, Lib.hid rfl, DB, Lib.hid (World.ownsRow_nil ..), Lib.hid (Nat.le_refl _), HZ⟩
    case round =>
      clear HZ DB HWN
      obtain ⟨k, j, xs, s', A, c, rfl, hjk, HXL, HQ, HO, HS, H⟩ := hrel
      obtain ⟨x, hx, hxs⟩ := HQ.out.rd.cell
      by_cases hk : k = 0
      · have t1 : decide ((j : Int) < (n0 : Int)) = false := decide_eq_false (by omega)
        subst hk
        clear hx hxs
        obtain ⟨e1', e2'⟩ := many_end (Or.inl rfl) H.out
        have HQ2 : Hid (QL w wr (w.heap.size + 1 + 1) (w.heap.size + 1 + 1 + 1) ⟨kd, e1, img, pl, fx, im, ex, nt⟩ ⟨A1, C1, A2, C2, A3, C3, A4, C4, A, c⟩ s9) := Lib.hid (by have q := HQ.out; rw [e1', e2'] at q; exact q)
        clear e1' e2' H HO HXL HQ
        go_wp2_with (fail)
        go_meet
        case rel => exact ⟨A, c, HQ2⟩
      have t1 : decide ((j : Int) < (n0 : Int)) = true := decide_eq_true (by omega)
      obtain ⟨k', rfl⟩ : ∃ k', k = k' + 1 := ⟨k - 1, by omega⟩
      clear hk
      cases hs' : s' with
      | none =>
        subst hs'
        have hx' : (x == 0) = false := hxs
        clear hxs
        obtain ⟨e1', e2'⟩ := many_end (Or.inr rfl) H.out
        have HQ2 : Hid (QL w wr (w.heap.size + 1 + 1) (w.heap.size + 1 + 1 + 1) ⟨kd, e1, img, pl, fx, im, ex, nt⟩ ⟨A1, C1, A2, C2, A3, C3, A4, C4, A, c⟩ s9) := Lib.hid (by have q := HQ.out; rw [e1', e2'] at q; exact q)
        clear e1' e2' H HO HXL HQ
        go_wp2_with (fail)
        go_meet
        case rel => exact ⟨A, c, HQ2⟩
      | some l =>
        subst hs'
        have hx' : (x == 0) = true := hxs
        clear hxs
        have HM := Lib.hid (many_more (one := (ntS)) H.out)
        clear H
        obtain ⟨⟨v0, u0⟩, hv0⟩ : ∃ x, txtS 65536 (some l) = x := ⟨_, rfl⟩
        obtain ⟨⟨v1, u1⟩, hv1⟩ : ∃ x, txtS 65536 u0 = x := ⟨_, rfl⟩
        have hps : ntS (some l) = (⟨v0, v1⟩, u1) := by unfold ntS; simp only [hv0, hv1]
        rw [hps] at HM
        simp only at HM
        have U0 := Lib.hid hv0
        have U1 := Lib.hid hv1
        clear hps hv0 hv1
        have d0 := QL.made HQ.out HO.out hB 40 #[.string ⟨#[]⟩, .string ⟨#[]⟩]
        clear HQ
        go_wp2_with (fail)
        with_reducible refine (p_txt U0.out d0).mono ?_
        rintro e x0 ⟨rfl, d1⟩
        clear d0
        have f0 := d1.p.free 0
        have y0 := d1.p.cell' 0 _ rfl
        have d2 := d1.put 0 (.string v0)
        go_wp2_with (fail)
        with_reducible refine (p_txt U1.out d2).mono ?_
        rintro e x1 ⟨rfl, d3⟩
        clear d2 f0 y0
        have f1 := d3.p.free 1
        have y1 := d3.p.cell' 1 _ rfl
        have d4 := d3.put 1 (.string v1)
        go_upto_region 50 with (fail)
        generalize (x1.setCell ⟨wr.heap.size, 1, none⟩ (.string v1)) = wp at *
        clear d1 d3
        have pc := d4.p
        have pp0 := pc.cell' 0 (.string v0) rfl
        have pp1 := pc.cell' 1 (.string v1) rfl
        have hcell : wp.cell? ⟨w.heap.size + 1 + 1 + 1, 7, none⟩ = some (.slice A j c) := by rw [← HXL.out]; exact d4.q.blk.cell' 7 _ rfl
        have QA := d4.q.alloc (.cells #[.string v0, .string v1] 40)
        have OA := d4.own.alloc (.cells #[.string v0, .string v1] 40)
        have hsz : wb.heap.size ≤ (wp.alloc (.cells #[.string v0, .string v1] 40)).heap.size := by have h1 := d4.p.lt; have h2 := HS.out; rw [World.size_alloc]; omega
        have RA := blk_rd (Blk.made wp 40 #[.string v0, .string v1]) (xs := [(⟨v0, v1⟩ : NtD)].flatMap ntC) rfl rfl
        clear pc d4 HO
        go_wp2_with (at_builtin; refine wpList_app_nt rfl (.tmp 175) (.tmp 177) rfl wb.heap.size _ j _ rfl OA (some ⟨wp.heap.size, 0, none⟩) 1 1 [⟨v0, v1⟩] rfl RA (by omega) hsz ?_; intro v' w9 hown9 hg9; obtain ⟨A', C', rfl, hf9, ⟨ux, hx9⟩, HE9, HK1, HK2, HS9⟩ := QL.step5 QA OA HXL.out hg9 hown9 LO.out hB hsz; clear hown9 hg9 QA OA RA)
        go_roundw
        case rel => exact ⟨k', j + 1, xs ++ [⟨v0, v1⟩], u1, A', C', by go_num, by omega, HE9, HK1, HK2, HS9, HM⟩
        case measure => simp [intOf]; omega
  obtain ⟨A5, C5, HQ6⟩ := hcut
  clear DB HWN HW4 hle
  have hcut : True := trivial
  have HCL := Lib.hid (rdclose_any _ _ wc HQ6.out.rd)
  have HCK := Lib.hid (fun W (d : QL w W (w.heap.size + 1 + 1) (w.heap.size + 1 + 1 + 1) ⟨kd, e1, img, pl, fx, im, ex, nt⟩ ⟨A1, C1, A2, C2, A3, C3, A4, C4, A5, C5⟩ s9) => rcheck_any ⟨kd, e1, img, pl, fx, im, ex, nt⟩ ⟨A1, C1, A2, C2, A3, C3, A4, C4, A5, C5⟩ W d.brd HSZ.out)
  go_upto_region 51 with (fail)
  go_cut [191] (fun v wx => ∃ bb : Bool, v = .bool bb ∧ Hid (bb = true ∧ X = none ∨ bb = false ∧ X = some ⟨kd, e1, img, pl, fx, im, ex, nt⟩) ∧ Hid (QL w wx (w.heap.size + 1 + 1) (w.heap.size + 1 + 1 + 1) ⟨kd, e1, img, pl, fx, im, ex, nt⟩ ⟨A1, C1, A2, C2, A3, C3, A4, C4, A5, C5⟩ s9))
  case first =>
    by_cases hhd : hd = BIN
    rotate_left
    · have c9 : (hd.toList == [98, 105, 110, 97, 114, 121]) = false := by rw [HHE.out, decide_eq_false hhd]
      have c8 : (hd.toList != [98, 105, 110, 97, 114, 121]) = true := by rw [bne, c9]; rfl
      have HV : Hid (X = none) := Lib.hid (by rw [HX.out, if_neg (fun q => hhd q.1)])
      clear hhd HX HCL HCK HYES HSZ
      go_wp2_with (fail)
      go_meet
      case rel => exact ⟨true, rfl, Lib.hid (Or.inl ⟨rfl, HV.out⟩), HQ6⟩
    have c9 : (hd.toList == [98, 105, 110, 97, 114, 121]) = true := by rw [HHE.out, decide_eq_true hhd]
    have c8 : (hd.toList != [98, 105, 110, 97, 114, 121]) = false := by rw [bne, c9]; rfl
    have HHD := Lib.hid hhd
    clear hhd HHE
    by_cases hcl : s9 = some []
    rotate_left
    · have HV : Hid (X = none) := Lib.hid (by rw [HX.out, if_neg (fun q => hcl q.2.1)])
      rw [decide_eq_false hcl] at HCL
      clear HX hcl HCK HYES HSZ
      go_wp2_with (fail)
      with_reducible refine HCL.out.mono ?_
      rintro e wx ⟨⟨x, rfl, hx⟩, rfl⟩
      have hx2 : (x != 0) = true := by rw [bne, hx]; rfl
      have hx3 : ¬ x = 0 := fun q => by rw [q] at hx; cases hx
      go_wp2_with (fail)
      go_meet
      case rel => exact ⟨true, rfl, Lib.hid (Or.inl ⟨rfl, HV.out⟩), HQ6⟩
    have HSE := Lib.hid hcl
    rw [decide_eq_true hcl] at HCL
    clear hcl
    go_wp2_with (fail)
    with_reducible refine HCL.out.mono ?_
    rintro e wx ⟨⟨x, rfl, hx⟩, rfl⟩
    obtain rfl : x = 0 := beq_iff_eq.1 hx
    clear HCL hx
    have bb := HQ6.out.blk
    simp only [bcells] at bb HCK
    have b0 := bb.cell' 0 _ rfl
    have b1 := bb.cell' 1 _ rfl
    have b2 := bb.cell' 2 _ rfl
    have b3 := bb.cell' 3 _ rfl
    have b4 := bb.cell' 4 _ rfl
    have b5 := bb.cell' 5 _ rfl
    have b6 := bb.cell' 6 _ rfl
    have b7 := bb.cell' 7 _ rfl
    have hce : chkE ⟨kd, e1, img, pl, fx, im, ex, nt⟩ = if checkV ⟨kd, e1, img, pl, fx, im, ex, nt⟩ = true then 0 else 1 := rfl
    rw [hce] at HCK
    clear hce
    obtain ⟨cv, hcv⟩ : ∃ v, checkV ⟨kd, e1, img, pl, fx, im, ex, nt⟩ = v := ⟨_, rfl⟩
    rw [hcv] at HCK
    have HCV := Lib.hid hcv
    clear hcv
    have hc1 := HCK.out wx HQ6.out
    have HC1 := Lib.hid hc1
    clear hc1 HCK
    cases cv
    · skip
      have HV : Hid (X = none) := Lib.hid (by rw [HX.out, if_neg (fun q => by rw [HCV.out] at q; cases q.2.2)])
      clear HX HYES HSZ
      (try simp only [Bool.false_eq_true, reduceIte] at HC1)
      go_wp2_with (fail)
      with_reducible refine HC1.out.mono ?_
      rintro e wy ⟨rfl, ny⟩
      have HQ7 := Lib.hid (HQ6.out.newW ny)
      clear bb b0 b1 b2 b3 b4 b5 b6 b7
      go_wp2_with (fail)
      go_meet
      case rel => exact ⟨true, rfl, Lib.hid (Or.inl ⟨rfl, HV.out⟩), HQ7⟩
    have HV : Hid (X = some ⟨kd, e1, img, pl, fx, im, ex, nt⟩) := Lib.hid (by rw [HX.out, if_pos ⟨HHD.out, HSE.out, HCV.out⟩])
    (try simp only [reduceIte] at HC1)
    go_wp2_with (fail)
    with_reducible refine HC1.out.mono ?_
    rintro e wy ⟨rfl, ny⟩
    have HQ7 := Lib.hid (HQ6.out.newW ny)
    clear bb b0 b1 b2 b3 b4 b5 b6 b7
    go_wp2_with (fail)
    go_meet
    case rel => exact ⟨false, rfl, Lib.hid (Or.inr ⟨rfl, HV.out⟩), HQ7⟩
  obtain ⟨WW, hWW⟩ : ∃ x : World, x = wc := ⟨_, rfl⟩
  obtain ⟨bb, hbb, HX2, HQ7⟩ := hcut
  subst hWW
  subst hbb
  clear HCL HCK HX HSZ HQ6
  have hcut : True := trivial
  rcases HX2.out with ⟨hb, hX⟩ | ⟨hb, hX⟩
  · subst hb
    have HV := Lib.hid hX
    clear hX HX2 HYES
    go_upto_region 52 with (fail)
    have BS := HQ7.out.non
    have RS := HQ7.out.res
    (try simp only [bcells] at BS)
    have YZ := Lib.hid (set8_blk (v0 := .int .i64 0) (v1 := .int .i64 0) (v2 := .string ⟨#[]⟩) (v3 := .slice none 0 0) (v4 := .slice none 0 0) (v5 := .slice none 0 0) (v6 := .slice none 0 0) (v7 := .slice none 0 0) RS)
    have NZ := Lib.hid (set8_new (g := w.heap.size) (v0 := .int .i64 0) (v1 := .int .i64 0) (v2 := .string ⟨#[]⟩) (v3 := .slice none 0 0) (v4 := .slice none 0 0) (v5 := .slice none 0 0) (v6 := .slice none 0 0) (v7 := .slice none 0 0) HQ7.out.new (Nat.le_refl _))
    have HRW := set8_row RS (.int .i64 0) (.int .i64 0) (.string ⟨#[]⟩) (.slice none 0 0) (.slice none 0 0) (.slice none 0 0) (.slice none 0 0) (.slice none 0 0)
    go_step
    refine wpList_load_row rfl 28 (.tmp 4) rfl (w.heap.size + 1) rfl 28 _ (0, 0) _ BS Tryz.underlying28 rfl info28s ?_
    simp only [Act.put, List.setIfInBounds_toArray, List.set_cons_zero, List.set_cons_succ]
    refine wpList_store_rowTo rfl 28 (.tmp 2) (.tmp 192) rfl rfl w.heap.size #[.int .i64 0, .int .i64 0, .string ⟨#[]⟩, .slice none 0 0, .slice none 0 0, .slice none 0 0, .slice none 0 0, .slice none 0 0] rfl rfl 28 _ RS info28s rfl (by kernel_rfl) ?_
    rw [HRW]
    generalize (set8 WW w.heap.size (.int .i64 0) (.int .i64 0) (.string ⟨#[]⟩) (.slice none 0 0) (.slice none 0 0) (.slice none 0 0) (.slice none 0 0) (.slice none 0 0)) = wZ at *
    clear HRW
    have ee0 := YZ.out.cell' 0 _ rfl
    have ee1 := YZ.out.cell' 1 _ rfl
    have ee2 := YZ.out.cell' 2 _ rfl
    have ee3 := YZ.out.cell' 3 _ rfl
    have ee4 := YZ.out.cell' 4 _ rfl
    have ee5 := YZ.out.cell' 5 _ rfl
    have ee6 := YZ.out.cell' 6 _ rfl
    have ee7 := YZ.out.cell' 7 _ rfl
    go_step
    go_step
    go_step
    (try go_step)
    (try go_step)
    (try go_step)
    apply wp_ret
    (try simp only [Exit.inBlock, Exit.then])
    exact bodyPost_ret (v := .tuple #[.agg #[.int .i64 0, .int .i64 0, .string ⟨#[]⟩, .slice none 0 0, .slice none 0 0, .slice none 0 0, .slice none 0 0, .slice none 0 0], .int .i64 17]) (by simp [results, Tryz.results17, go_sem, ee0, ee1, ee2, ee3, ee4, ee5, ee6, ee7]) rfl (HNO.out HV.out _ _ rfl NZ.out)
  subst hb
  have HV := Lib.hid hX
  clear hX HX2 HNO
  go_upto_region 53 with (fail)
  have BS := HQ7.out.blk
  have RS := HQ7.out.res
  (try simp only [bcells] at BS)
  have YZ := Lib.hid (set8_blk (v0 := .int .i64 kd) (v1 := .int .i64 e1) (v2 := .string img) (v3 := .slice A1 pl.length C1) (v4 := .slice A2 fx.length C2) (v5 := .slice A3 im.length C3) (v6 := .slice A4 ex.length C4) (v7 := .slice A5 nt.length C5) RS)
  have NZ := Lib.hid (set8_new (g := w.heap.size) (v0 := .int .i64 kd) (v1 := .int .i64 e1) (v2 := .string img) (v3 := .slice A1 pl.length C1) (v4 := .slice A2 fx.length C2) (v5 := .slice A3 im.length C3) (v6 := .slice A4 ex.length C4) (v7 := .slice A5 nt.length C5) HQ7.out.new (Nat.le_refl _))
  have BZ := Lib.hid (ql_yes (v0 := .int .i64 kd) (v1 := .int .i64 e1) (v2 := .string img) (v3 := .slice A1 pl.length C1) (v4 := .slice A2 fx.length C2) (v5 := .slice A3 im.length C3) (v6 := .slice A4 ex.length C4) (v7 := .slice A5 nt.length C5) HQ7.out)
  have HRW := set8_row RS (.int .i64 kd) (.int .i64 e1) (.string img) (.slice A1 pl.length C1) (.slice A2 fx.length C2) (.slice A3 im.length C3) (.slice A4 ex.length C4) (.slice A5 nt.length C5)
  go_step
  refine wpList_load_row rfl 28 (.tmp 6) rfl (w.heap.size + 1 + 1 + 1) rfl 28 _ (0, 0) _ BS Tryz.underlying28 rfl info28s ?_
  simp only [Act.put, List.setIfInBounds_toArray, List.set_cons_zero, List.set_cons_succ]
  refine wpList_store_rowTo rfl 28 (.tmp 2) (.tmp 193) rfl rfl w.heap.size #[.int .i64 kd, .int .i64 e1, .string img, .slice A1 pl.length C1, .slice A2 fx.length C2, .slice A3 im.length C3, .slice A4 ex.length C4, .slice A5 nt.length C5] rfl rfl 28 _ RS info28s rfl (by kernel_rfl) ?_
  rw [HRW]
  generalize (set8 WW w.heap.size (.int .i64 kd) (.int .i64 e1) (.string img) (.slice A1 pl.length C1) (.slice A2 fx.length C2) (.slice A3 im.length C3) (.slice A4 ex.length C4) (.slice A5 nt.length C5)) = wZ at *
  clear HRW
  have ee0 := YZ.out.cell' 0 _ rfl
  have ee1 := YZ.out.cell' 1 _ rfl
  have ee2 := YZ.out.cell' 2 _ rfl
  have ee3 := YZ.out.cell' 3 _ rfl
  have ee4 := YZ.out.cell' 4 _ rfl
  have ee5 := YZ.out.cell' 5 _ rfl
  have ee6 := YZ.out.cell' 6 _ rfl
  have ee7 := YZ.out.cell' 7 _ rfl
  go_step
  go_step
  go_step
  (try go_step)
  (try go_step)
  (try go_step)
  apply wp_ret
  (try simp only [Exit.inBlock, Exit.then])
  exact bodyPost_ret (v := .tuple #[.agg #[.int .i64 kd, .int .i64 e1, .string img, .slice A1 pl.length C1, .slice A2 fx.length C2, .slice A3 im.length C3, .slice A4 ex.length C4, .slice A5 nt.length C5], .int .i64 0]) (by simp [results, Tryz.results17, go_sem, ee0, ee1, ee2, ee3, ee4, ee5, ee6, ee7]) rfl (HYES.out ⟨kd, e1, img, pl, fx, im, ex, nt⟩ ⟨A1, C1, A2, C2, A3, C3, A4, C4, A5, C5⟩ HV.out _ _ rfl BZ.out NZ.out)
end Go.Proofs.YtnknmpcgbfmfjaaGreatDoor

