/- binary.Decode. Conditions: sizes. (Printed by mk-y5.py.) -/
import Derived.Test.YtnknmpcgbfmfjaaGreatDoorGBase
import Derived.Test.YtnknmpcgbfmfjaaGreatDoorGY3
import Derived.Deep.DeepCutAuto
import Derived.Deep.Cut

namespace Go.Proofs.YtnknmpcgbfmfjaaGreatDoor
open Go Go.RowKit Go.Joins
set_option linter.unusedSimpArgs false
set_option linter.unusedVariables false

def decV (l : List UInt8) : Option Bn := decB 65536 65536 65536 l
def decBn (l : List UInt8) : Bn := (decV l).getD zB
def decE (l : List UInt8) : Int := if (decV l).isSome = true then 0 else 17
def DecP (l : List UInt8) (w : World) (e : Ending) (w' : World) : Prop := (∃ h', e = .returned (.tuple #[.agg (bcells (decBn l) h'), .int .i64 (decE l)]) ∧ BRd w' (decBn l) h') ∧ New w w'
theorem dec_no {l : List UInt8} {w : World} {e : Ending} {w' : World} (hv : decV l = none) (he : e = .returned (.tuple #[.agg #[.int .i64 0, .int .i64 0, .string ⟨#[]⟩, .slice none 0 0, .slice none 0 0, .slice none 0 0, .slice none 0 0, .slice none 0 0], .int .i64 17])) (hn : New w w') : DecP l w e w' := by
  have h1 : decBn l = zB := by unfold decBn; rw [hv]; rfl
  have h2 : decE l = 17 := by unfold decE; rw [hv]; rfl
  exact ⟨⟨zH, by rw [h1, h2, he]; rfl, by rw [h1]; exact zRd _⟩, hn⟩
theorem dec_yes {l : List UInt8} {b : Bn} {w : World} {e : Ending} {w' : World} (h : BH) (hv : decV l = some b) (he : e = .returned (.tuple #[.agg (bcells b h), .int .i64 0])) (hr : BRd w' b h) (hn : New w w') : DecP l w e w' := by
  have h1 : decBn l = b := by unfold decBn; rw [hv]; rfl
  have h2 : decE l = 0 := by unfold decE; rw [hv]; rfl
  exact ⟨⟨h, by rw [h1, h2, he], by rw [h1]; exact hr⟩, hn⟩
structure DS (w W : World) (g gr gn gt gb : Nat) (b : Bn) (h : BH) (s : RS) : Prop where
  rd : RdrP W g s
  sz : RSz s
  dw : DW W g gr gn gt
  new : New w W
  res : Blk W w.heap.size 28 #[.int .i64 0, .int .i64 0, .string ⟨#[]⟩, .slice none 0 0, .slice none 0 0, .slice none 0 0, .slice none 0 0, .slice none 0 0]
  blk : Blk W gb 28 (bcells b h)
  brd : BRd W b h
  far : ∀ A, A = h.a1 ∨ A = h.a2 ∨ A = h.a3 ∨ A = h.a4 ∨ A = h.a5 → ∀ a, A = some a → gb < a.block
  lg : w.heap.size < g
  lr : w.heap.size < gr
  lb : g < gb
  lbr : gr < gb
  lbn : gn < gb
  lbt : gt < gb
theorem Rd.go {w w' : World} {k n : Nat} {A : Option Addr} {xs : List Value} {row : Option Nat} (h : Rd w k A n xs) (hg : w.grownBy w' row) (hA : ∀ a, A = some a → some a.block ≠ row) : Rd w' k A n xs :=
  ⟨h.1, fun hn => by
    obtain ⟨b, o, e, hb, hc⟩ := h.2 hn
    exact ⟨b, o, e, Nat.lt_of_lt_of_le hb hg.size, fun j u hu => (World.cell?_of_block (hg.block b hb (hA _ e))).trans (hc j u hu)⟩⟩
theorem BRd.go {w w' : World} {b : Bn} {h : BH} {row : Option Nat} (r : BRd w b h) (hg : w.grownBy w' row) (hA : ∀ A, A = h.a1 ∨ A = h.a2 ∨ A = h.a3 ∨ A = h.a4 ∨ A = h.a5 → ∀ a, A = some a → some a.block ≠ row) : BRd w' b h :=
  ⟨r.r1.go hg (hA _ (Or.inl rfl)), r.r2.go hg (hA _ (Or.inr (Or.inl rfl))), r.r3.go hg (hA _ (Or.inr (Or.inr (Or.inl rfl)))), r.r4.go hg (hA _ (Or.inr (Or.inr (Or.inr (Or.inl rfl))))), r.r5.go hg (hA _ (Or.inr (Or.inr (Or.inr (Or.inr rfl)))))⟩
section
variable {w W W' : World} {g gr gn gt gb : Nat} {b : Bn} {h : BH} {s s' : RS}
theorem DS.go (d : DS w W g gr gn gt gb b h s) (hg : W.grownBy W' (some g)) (hr : RdrP W' g s') (hz : RSz s') : DS w W' g gr gn gt gb b h s' :=
  ⟨hr, hz, d.dw.go hg, Below.grown d.new hg d.new.size (fun k hk => by have := d.lg; cases hk; omega), d.res.grown hg (fun e => by have := d.lg; injection e; omega), d.blk.grown hg (fun e => by have := d.lb; injection e; omega),
   d.brd.go hg (fun A hA a ha e => by have := d.far A hA a ha; have := d.lb; injection e; omega), d.far, d.lg, d.lr, d.lb, d.lbr, d.lbn, d.lbt⟩
theorem DS.drew (d : DS w W g gr gn gt gb b h s) : DS w W.drew g gr gn gt gb b h s :=
  ⟨d.rd.drew, d.sz, d.dw.drew, d.new.drew, d.res.drew, d.blk.drew, d.brd.new ((New.refl W).drew), d.far, d.lg, d.lr, d.lb, d.lbr, d.lbn, d.lbt⟩
theorem DS.lt (d : DS w W g gr gn gt gb b h s) : w.heap.size < gb := by have := d.lg; have := d.lb; omega
theorem DS.set (d : DS w W g gr gn gt gb b h s) (i : Nat) (v : Value) : RdrP (W.setCell ⟨gb, i, none⟩ v) g s ∧ DW (W.setCell ⟨gb, i, none⟩ v) g gr gn gt ∧ New w (W.setCell ⟨gb, i, none⟩ v) ∧ Blk (W.setCell ⟨gb, i, none⟩ v) w.heap.size 28 #[.int .i64 0, .int .i64 0, .string ⟨#[]⟩, .slice none 0 0, .slice none 0 0, .slice none 0 0, .slice none 0 0, .slice none 0 0] ∧ BRd (W.setCell ⟨gb, i, none⟩ v) b h :=
  have hl := d.lt
  have hb := d.lb
  have hbr := d.lbr
  have hbn := d.lbn
  have hbt := d.lbt
  ⟨d.rd.set (by omega) i v, ⟨d.dw.r.far (p := ⟨gb, i, none⟩) (by show gr ≠ gb; omega) v, d.dw.n.far (p := ⟨gb, i, none⟩) (by show gn ≠ gb; omega) v, d.dw.t.far (p := ⟨gb, i, none⟩) (by show gt ≠ gb; omega) v, d.dw.hr, d.dw.hn, d.dw.ht⟩, below_setCell' d.new (by show w.heap.size ≤ gb; omega) v, d.res.far (p := ⟨gb, i, none⟩) (by show w.heap.size ≠ gb; omega) v,
   d.brd.go (row := some gb) (grown_set W gb i v) (fun A hA a ha e => by have := d.far A hA a ha; injection e; omega)⟩
theorem DS.put1 (d : DS w W g gr gn gt gb b h s) (xs : List PlD) (A : Option Addr) (n c : Nat) (hn : xs.length = n) (hr : Rd W 5 A n (xs.flatMap plC)) (hA : ∀ a, A = some a → gb < a.block) : DS w (W.setCell ⟨gb, 3, none⟩ (.slice A n c)) g gr gn gt gb { b with places := xs } { h with a1 := A, c1 := c } s := by
  have k := d.set 3 (.slice A n c)
  subst hn
  exact ⟨k.1, d.sz, k.2.1, k.2.2.1, k.2.2.2.1, d.blk.put 3 (.slice A xs.length c), ⟨hr.setFar (p := ⟨gb, 3, none⟩) (fun a ha => by have := hA a ha; show a.block ≠ gb; omega) _, k.2.2.2.2.r2, k.2.2.2.2.r3, k.2.2.2.2.r4, k.2.2.2.2.r5⟩, fun B hB a ha => by
    rcases hB with q | q | q | q | q
    · subst q; exact hA a ha
    · subst q; exact d.far _ (Or.inr (Or.inl rfl)) a ha
    · subst q; exact d.far _ (Or.inr (Or.inr (Or.inl rfl))) a ha
    · subst q; exact d.far _ (Or.inr (Or.inr (Or.inr (Or.inl rfl)))) a ha
    · subst q; exact d.far _ (Or.inr (Or.inr (Or.inr (Or.inr (rfl))))) a ha, d.lg, d.lr, d.lb, d.lbr, d.lbn, d.lbt⟩
theorem DS.put2 (d : DS w W g gr gn gt gb b h s) (xs : List Int) (A : Option Addr) (n c : Nat) (hn : xs.length = n) (hr : Rd W 1 A n (xs.flatMap fxC)) (hA : ∀ a, A = some a → gb < a.block) : DS w (W.setCell ⟨gb, 4, none⟩ (.slice A n c)) g gr gn gt gb { b with fix := xs } { h with a2 := A, c2 := c } s := by
  have k := d.set 4 (.slice A n c)
  subst hn
  exact ⟨k.1, d.sz, k.2.1, k.2.2.1, k.2.2.2.1, d.blk.put 4 (.slice A xs.length c), ⟨k.2.2.2.2.r1, hr.setFar (p := ⟨gb, 4, none⟩) (fun a ha => by have := hA a ha; show a.block ≠ gb; omega) _, k.2.2.2.2.r3, k.2.2.2.2.r4, k.2.2.2.2.r5⟩, fun B hB a ha => by
    rcases hB with q | q | q | q | q
    · subst q; exact d.far _ (Or.inl rfl) a ha
    · subst q; exact hA a ha
    · subst q; exact d.far _ (Or.inr (Or.inr (Or.inl rfl))) a ha
    · subst q; exact d.far _ (Or.inr (Or.inr (Or.inr (Or.inl rfl)))) a ha
    · subst q; exact d.far _ (Or.inr (Or.inr (Or.inr (Or.inr (rfl))))) a ha, d.lg, d.lr, d.lb, d.lbr, d.lbn, d.lbt⟩
theorem DS.put3 (d : DS w W g gr gn gt gb b h s) (xs : List ImD) (A : Option Addr) (n c : Nat) (hn : xs.length = n) (hr : Rd W 3 A n (xs.flatMap imC)) (hA : ∀ a, A = some a → gb < a.block) : DS w (W.setCell ⟨gb, 5, none⟩ (.slice A n c)) g gr gn gt gb { b with imps := xs } { h with a3 := A, c3 := c } s := by
  have k := d.set 5 (.slice A n c)
  subst hn
  exact ⟨k.1, d.sz, k.2.1, k.2.2.1, k.2.2.2.1, d.blk.put 5 (.slice A xs.length c), ⟨k.2.2.2.2.r1, k.2.2.2.2.r2, hr.setFar (p := ⟨gb, 5, none⟩) (fun a ha => by have := hA a ha; show a.block ≠ gb; omega) _, k.2.2.2.2.r4, k.2.2.2.2.r5⟩, fun B hB a ha => by
    rcases hB with q | q | q | q | q
    · subst q; exact d.far _ (Or.inl rfl) a ha
    · subst q; exact d.far _ (Or.inr (Or.inl rfl)) a ha
    · subst q; exact hA a ha
    · subst q; exact d.far _ (Or.inr (Or.inr (Or.inr (Or.inl rfl)))) a ha
    · subst q; exact d.far _ (Or.inr (Or.inr (Or.inr (Or.inr (rfl))))) a ha, d.lg, d.lr, d.lb, d.lbr, d.lbn, d.lbt⟩
theorem DS.put4 (d : DS w W g gr gn gt gb b h s) (xs : List ExD) (A : Option Addr) (n c : Nat) (hn : xs.length = n) (hr : Rd W 2 A n (xs.flatMap exC)) (hA : ∀ a, A = some a → gb < a.block) : DS w (W.setCell ⟨gb, 6, none⟩ (.slice A n c)) g gr gn gt gb { b with exps := xs } { h with a4 := A, c4 := c } s := by
  have k := d.set 6 (.slice A n c)
  subst hn
  exact ⟨k.1, d.sz, k.2.1, k.2.2.1, k.2.2.2.1, d.blk.put 6 (.slice A xs.length c), ⟨k.2.2.2.2.r1, k.2.2.2.2.r2, k.2.2.2.2.r3, hr.setFar (p := ⟨gb, 6, none⟩) (fun a ha => by have := hA a ha; show a.block ≠ gb; omega) _, k.2.2.2.2.r5⟩, fun B hB a ha => by
    rcases hB with q | q | q | q | q
    · subst q; exact d.far _ (Or.inl rfl) a ha
    · subst q; exact d.far _ (Or.inr (Or.inl rfl)) a ha
    · subst q; exact d.far _ (Or.inr (Or.inr (Or.inl rfl))) a ha
    · subst q; exact hA a ha
    · subst q; exact d.far _ (Or.inr (Or.inr (Or.inr (Or.inr (rfl))))) a ha, d.lg, d.lr, d.lb, d.lbr, d.lbn, d.lbt⟩
theorem DS.put5 (d : DS w W g gr gn gt gb b h s) (xs : List NtD) (A : Option Addr) (n c : Nat) (hn : xs.length = n) (hr : Rd W 2 A n (xs.flatMap ntC)) (hA : ∀ a, A = some a → gb < a.block) : DS w (W.setCell ⟨gb, 7, none⟩ (.slice A n c)) g gr gn gt gb { b with notes := xs } { h with a5 := A, c5 := c } s := by
  have k := d.set 7 (.slice A n c)
  subst hn
  exact ⟨k.1, d.sz, k.2.1, k.2.2.1, k.2.2.2.1, d.blk.put 7 (.slice A xs.length c), ⟨k.2.2.2.2.r1, k.2.2.2.2.r2, k.2.2.2.2.r3, k.2.2.2.2.r4, hr.setFar (p := ⟨gb, 7, none⟩) (fun a ha => by have := hA a ha; show a.block ≠ gb; omega) _⟩, fun B hB a ha => by
    rcases hB with q | q | q | q | q
    · subst q; exact d.far _ (Or.inl rfl) a ha
    · subst q; exact d.far _ (Or.inr (Or.inl rfl)) a ha
    · subst q; exact d.far _ (Or.inr (Or.inr (Or.inl rfl))) a ha
    · subst q; exact d.far _ (Or.inr (Or.inr (Or.inr (Or.inl rfl)))) a ha
    · subst q; exact hA a ha, d.lg, d.lr, d.lb, d.lbr, d.lbn, d.lbt⟩
end
theorem set8_far {w : World} {g k : Nat} {t : TypeId} {cs : Array Value} {v0 v1 v2 v3 v4 v5 v6 v7 : Value} (h : Blk w k t cs) (hk : k ≠ g) : Blk (set8 w g v0 v1 v2 v3 v4 v5 v6 v7) k t cs := by
  unfold set8
  exact (((((((h.far (p := ⟨g, 0, none⟩) hk v0).far (p := ⟨g, 1, none⟩) hk v1).far (p := ⟨g, 2, none⟩) hk v2).far (p := ⟨g, 3, none⟩) hk v3).far (p := ⟨g, 4, none⟩) hk v4).far (p := ⟨g, 5, none⟩) hk v5).far (p := ⟨g, 6, none⟩) hk v6).far (p := ⟨g, 7, none⟩) hk v7
structure DS0 (w W : World) (g gr gn gt : Nat) (s : RS) : Prop where
  rd : RdrP W g s
  sz : RSz s
  dw : DW W g gr gn gt
  new : New w W
  res : Blk W w.heap.size 28 #[.int .i64 0, .int .i64 0, .string ⟨#[]⟩, .slice none 0 0, .slice none 0 0, .slice none 0 0, .slice none 0 0, .slice none 0 0]
  lg : w.heap.size < g
  lr : w.heap.size < gr
section
variable {w W W' : World} {g gr gn gt gb : Nat} {s s' : RS}
theorem DS0.go (d : DS0 w W g gr gn gt s) (hg : W.grownBy W' (some g)) (hr : RdrP W' g s') (hz : RSz s') : DS0 w W' g gr gn gt s' :=
  ⟨hr, hz, d.dw.go hg, Below.grown d.new hg d.new.size (fun k hk => by have := d.lg; cases hk; omega), d.res.grown hg (fun e => by have := d.lg; injection e; omega), d.lg, d.lr⟩
theorem DS0.drew (d : DS0 w W g gr gn gt s) : DS0 w W.drew g gr gn gt s := ⟨d.rd.drew, d.sz, d.dw.drew, d.new.drew, d.res.drew, d.lg, d.lr⟩
theorem DS0.alloc (d : DS0 w W g gr gn gt s) (o : Obj) : DS0 w (W.alloc o) g gr gn gt s := ⟨d.rd.new ((New.refl W).alloc o), d.sz, d.dw.new ((New.refl W).alloc o), d.new.alloc o, d.res.alloc o, d.lg, d.lr⟩
theorem DS0.ahead (d : DS0 w W g gr gn gt s) (hb : W.heap.size ≤ gb) : g < gb ∧ gr < gb ∧ gn < gb ∧ gt < gb := by
  have := d.rd.lt
  have := d.dw.r.lt
  have := d.dw.n.lt
  have := d.dw.t.lt
  omega
theorem DS0.made (d : DS0 w W g gr gn gt s) (hb : Blk W gb 28 #[.int .i64 0, .int .i64 0, .string ⟨#[]⟩, .slice none 0 0, .slice none 0 0, .slice none 0 0, .slice none 0 0, .slice none 0 0]) (hl : g < gb ∧ gr < gb ∧ gn < gb ∧ gt < gb) (k e : Int) (im : ByteArray) :
    DS w (set8 W gb (.int .i64 k) (.int .i64 e) (.string im) (.slice none 0 0) (.slice none 0 0) (.slice none 0 0) (.slice none 0 0) (.slice none 0 0)) g gr gn gt gb ⟨k, e, im, [], [], [], [], []⟩ zH s := by
  obtain ⟨l1, l2, l3, l4⟩ := hl
  have hlg := d.lg
  refine ⟨?_, d.sz, ⟨set8_far d.dw.r (by omega), set8_far d.dw.n (by omega), set8_far d.dw.t (by omega), d.dw.hr, d.dw.hn, d.dw.ht⟩, set8_new d.new (by omega), set8_far d.res (by omega), set8_blk hb, ⟨Rd.none_ _, Rd.none_ _, Rd.none_ _, Rd.none_ _, Rd.none_ _⟩, fun A hA a ha => ?_, d.lg, d.lr, l1, l2, l3, l4⟩
  · cases s with
    | some l => exact set8_far (show Blk W g 165 #[.string (S l), .int .i64 0] from d.rd) (by omega)
    | none => obtain ⟨x, hx, hB⟩ := d.rd; exact ⟨x, hx, set8_far hB (by omega)⟩
  · rcases hA with q | q | q | q | q <;> (subst q; cases ha)
end
theorem dec_start (data : ByteArray) (w : World) (hs : data.size ≤ 65536) : DS0 w (((((w.alloc (.cells #[.int .i64 0, .int .i64 0, .string ⟨#[]⟩, .slice none 0 0, .slice none 0 0, .slice none 0 0, .slice none 0 0, .slice none 0 0] 28)).alloc (.cells #[.string data, .int .i64 0] 165)).alloc (.cells #[.pointer (some ⟨w.heap.size + 1, 0, none⟩)] 105)).alloc (.cells #[.func (.func 55) #[] #[.pointer (some ⟨w.heap.size + 1 + 1, 0, none⟩)]] 98)).alloc (.cells #[.func (.func 57) #[] #[.pointer (some ⟨w.heap.size + 1 + 1, 0, none⟩)]] 99)) (w.heap.size + 1) (w.heap.size + 1 + 1) (w.heap.size + 1 + 1 + 1) (w.heap.size + 1 + 1 + 1 + 1) (some data.data.toList) := by
  have q0 := Blk.made w 28 #[.int .i64 0, .int .i64 0, .string ⟨#[]⟩, .slice none 0 0, .slice none 0 0, .slice none 0 0, .slice none 0 0, .slice none 0 0]
  have q1 := Blk.made (w.alloc (.cells #[.int .i64 0, .int .i64 0, .string ⟨#[]⟩, .slice none 0 0, .slice none 0 0, .slice none 0 0, .slice none 0 0, .slice none 0 0] 28)) 165 #[.string data, .int .i64 0]
  have q2 := Blk.made ((w.alloc (.cells #[.int .i64 0, .int .i64 0, .string ⟨#[]⟩, .slice none 0 0, .slice none 0 0, .slice none 0 0, .slice none 0 0, .slice none 0 0] 28)).alloc (.cells #[.string data, .int .i64 0] 165)) 105 #[.pointer (some ⟨w.heap.size + 1, 0, none⟩)]
  have q3 := Blk.made (((w.alloc (.cells #[.int .i64 0, .int .i64 0, .string ⟨#[]⟩, .slice none 0 0, .slice none 0 0, .slice none 0 0, .slice none 0 0, .slice none 0 0] 28)).alloc (.cells #[.string data, .int .i64 0] 165)).alloc (.cells #[.pointer (some ⟨w.heap.size + 1, 0, none⟩)] 105)) 98 #[.func (.func 55) #[] #[.pointer (some ⟨w.heap.size + 1 + 1, 0, none⟩)]]
  have q4 := Blk.made ((((w.alloc (.cells #[.int .i64 0, .int .i64 0, .string ⟨#[]⟩, .slice none 0 0, .slice none 0 0, .slice none 0 0, .slice none 0 0, .slice none 0 0] 28)).alloc (.cells #[.string data, .int .i64 0] 165)).alloc (.cells #[.pointer (some ⟨w.heap.size + 1, 0, none⟩)] 105)).alloc (.cells #[.func (.func 55) #[] #[.pointer (some ⟨w.heap.size + 1 + 1, 0, none⟩)]] 98)) 99 #[.func (.func 57) #[] #[.pointer (some ⟨w.heap.size + 1 + 1, 0, none⟩)]]
  simp only [World.size_alloc] at q1 q2 q3 q4
  refine ⟨?_, by rw [size_eq] at hs; show data.data.toList.length ≤ 1000000; omega, ⟨(q2.alloc _).alloc _, q3.alloc _, q4, by omega, by omega, by omega⟩, (((((New.refl w).alloc _).alloc _).alloc _).alloc _).alloc _, (((q0.alloc _).alloc _).alloc _).alloc _, by omega, by omega⟩
  show Blk _ _ 165 #[.string (S data.data.toList), .int .i64 0]
  rw [S_data]
  exact ((q1.alloc _).alloc _).alloc _
theorem many_sz {α : Type} {one : RS → α × RS} (h : ∀ s, RSz s → RSz (one s).2) : ∀ (k : Nat) (s : RS), RSz s → RSz (manyS one k s).2
  | 0, s, hs => hs
  | k + 1, none, hs => hs
  | k + 1, some l, hs => many_sz h k _ (h _ hs)
theorem w64_nat {n : Nat} (h : n ≤ 65536) : W64 (n : Int) := by unfold W64; omega
theorem num_w {hi : Nat} (s : RS) (hh : hi ≤ 65536) : W64 ((numS hi s).1 : Int) := w64_nat (by have := (numS_le (hi := hi) s).1; omega)
theorem txt_w (s : RS) : (txtS 65536 s).1.size ≤ 1000000 := by have := txtS_le (most := 65536) s; omega
theorem many_w {α : Type} (one : RS → α × RS) (s : RS) : (manyS one (numS 65536 s).1 (numS 65536 s).2).1.length ≤ 1000000 := by
  have := many_len one (numS 65536 s).1 (numS 65536 s).2
  have := (numS_le (hi := 65536) s).1
  omega
theorem szb_of {hk he : Nat} (s : RS) {b : Bn} {s' : RS} (h : (b, s') = allS hk he s) (h1 : hk ≤ 65536) : SzB b := by
  have hb : b = (allS hk he s).1 := by rw [← h]
  rw [hb]
  unfold allS bnS
  refine ⟨?_, ?_, ?_, ?_, ?_, many_w _ _, many_w _ _, many_w _ _, many_w _ _, many_w _ _⟩
  · exact many_all (plS hk) (fun p => p.obj.size ≤ 1000000 ∧ p.sym.size ≤ 1000000) (fun s => ⟨txt_w _, txt_w _⟩) _ _
  · exact many_all ntS (fun p => p.name.size ≤ 1000000 ∧ p.text.size ≤ 1000000) (fun s => ⟨txt_w _, txt_w _⟩) _ _
  · exact many_all imS (fun x => x.lib.size ≤ 1000000 ∧ x.sym.size ≤ 1000000 ∧ W64 x.pos) (fun s => ⟨txt_w _, txt_w _, num_w _ (Nat.le_refl _)⟩) _ _
  · exact many_all fxS (fun a => W64 a) (fun s => num_w _ (Nat.le_refl _)) _ _
  · exact txt_w _
set_option maxRecDepth 100000 in
set_option maxHeartbeats 16000000 in
theorem decode_any (data : ByteArray) (w : World) (hE : Env w) (hs : data.size ≤ 9223372036854775807) :
    Calls Tryz.prog 16 #[.string data] w (DecP data.data.toList w) := by
  have HNO := Lib.hid (fun (hv : decV data.data.toList = none) e w' he hn => dec_no (w := w) (e := e) (w' := w') hv he hn)
  have HYES := Lib.hid (fun (b : Bn) (h : BH) (hv : decV data.data.toList = some b) e w' he hr hn => dec_yes (w := w) (e := e) (w' := w') h hv he hr hn)
  have HNR := Lib.hid (newReader_any data)
  have HDV : Hid (decV data.data.toList = decB 65536 65536 65536 data.data.toList) := Lib.hid rfl
  have HDD := Lib.hid (fun hs => dec_start data w hs)
  have q0 := (((((Blk.made w 28 #[.int .i64 0, .int .i64 0, .string ⟨#[]⟩, .slice none 0 0, .slice none 0 0, .slice none 0 0, .slice none 0 0, .slice none 0 0]).alloc (.cells #[.string data, .int .i64 0] 165)).alloc (.cells #[.pointer (some ⟨w.heap.size + 1, 0, none⟩)] 105)).alloc (.cells #[.func (.func 55) #[] #[.pointer (some ⟨w.heap.size + 1 + 1, 0, none⟩)]] 98)).alloc (.cells #[.func (.func 57) #[] #[.pointer (some ⟨w.heap.size + 1 + 1, 0, none⟩)]] 99))
  have n0 : New w (((((w.alloc (.cells #[.int .i64 0, .int .i64 0, .string ⟨#[]⟩, .slice none 0 0, .slice none 0 0, .slice none 0 0, .slice none 0 0, .slice none 0 0] 28)).alloc (.cells #[.string data, .int .i64 0] 165)).alloc (.cells #[.pointer (some ⟨w.heap.size + 1, 0, none⟩)] 105)).alloc (.cells #[.func (.func 55) #[] #[.pointer (some ⟨w.heap.size + 1 + 1, 0, none⟩)]] 98)).alloc (.cells #[.func (.func 57) #[] #[.pointer (some ⟨w.heap.size + 1 + 1, 0, none⟩)]] 99)) := (((((New.refl w).alloc _).alloc _).alloc _).alloc _).alloc _
  have HQ0 := Lib.hid q0
  have HN0 := Lib.hid n0
  clear q0 n0
  generalize DecP data.data.toList w = PP at *
  generalize decV data.data.toList = X at *
  go_enter Tryz.func16, Tryz.ntmps16
  go_upto_region 4 with ((go_at_call 54; (with_reducible refine (HNR.out _).mono ?_); rintro e w1 ⟨rfl, rfl⟩))
  generalize (((((w.alloc (.cells #[.int .i64 0, .int .i64 0, .string ⟨#[]⟩, .slice none 0 0, .slice none 0 0, .slice none 0 0, .slice none 0 0, .slice none 0 0] 28)).alloc (.cells #[.string data, .int .i64 0] 165)).alloc (.cells #[.pointer (some ⟨w.heap.size + 1, 0, none⟩)] 105)).alloc (.cells #[.func (.func 55) #[] #[.pointer (some ⟨w.heap.size + 1 + 1, 0, none⟩)]] 98)).alloc (.cells #[.func (.func 57) #[] #[.pointer (some ⟨w.heap.size + 1 + 1, 0, none⟩)]] 99)) = W at *
  by_cases hbig : 65536 < data.size
  · have HV : Hid (X = none) := Lib.hid (by
      rw [HDV.out]
      unfold decB
      simp only
      rw [if_neg (fun q => by have := q.1; rw [← size_eq] at this; omega)])
    have t1 : (65536 : Int) < (data.size : Int) := by omega
    have y0 := HQ0.out.cell' 0 _ rfl
    have y1 := HQ0.out.cell' 1 _ rfl
    have y2 := HQ0.out.cell' 2 _ rfl
    have y3 := HQ0.out.cell' 3 _ rfl
    have y4 := HQ0.out.cell' 4 _ rfl
    have y5 := HQ0.out.cell' 5 _ rfl
    have y6 := HQ0.out.cell' 6 _ rfl
    have y7 := HQ0.out.cell' 7 _ rfl
    have z0 := HQ0.out.free 0
    have z1 := HQ0.out.free 1
    have z2 := HQ0.out.free 2
    have z3 := HQ0.out.free 3
    have z4 := HQ0.out.free 4
    have z5 := HQ0.out.free 5
    have z6 := HQ0.out.free 6
    have z7 := HQ0.out.free 7
    have YZ := Lib.hid (set8_blk (v0 := .int .i64 0) (v1 := .int .i64 0) (v2 := .string ⟨#[]⟩) (v3 := .slice none 0 0) (v4 := .slice none 0 0) (v5 := .slice none 0 0) (v6 := .slice none 0 0) (v7 := .slice none 0 0) (HQ0.out))
    have NZ := Lib.hid (set8_new (g := w.heap.size) (v0 := .int .i64 0) (v1 := .int .i64 0) (v2 := .string ⟨#[]⟩) (v3 := .slice none 0 0) (v4 := .slice none 0 0) (v5 := .slice none 0 0) (v6 := .slice none 0 0) (v7 := .slice none 0 0) (HN0.out) (Nat.le_refl _))
    clear hbig HYES HDD
    go_wp2
    change bodyPost _ _ _ _ _ (set8 W w.heap.size (.int .i64 0) (.int .i64 0) (.string ⟨#[]⟩) (.slice none 0 0) (.slice none 0 0) (.slice none 0 0) (.slice none 0 0) (.slice none 0 0))
    generalize (set8 W w.heap.size (.int .i64 0) (.int .i64 0) (.string ⟨#[]⟩) (.slice none 0 0) (.slice none 0 0) (.slice none 0 0) (.slice none 0 0) (.slice none 0 0)) = wZ at *
    have e0 := YZ.out.cell' 0 _ rfl
    have e1 := YZ.out.cell' 1 _ rfl
    have e2 := YZ.out.cell' 2 _ rfl
    have e3 := YZ.out.cell' 3 _ rfl
    have e4 := YZ.out.cell' 4 _ rfl
    have e5 := YZ.out.cell' 5 _ rfl
    have e6 := YZ.out.cell' 6 _ rfl
    have e7 := YZ.out.cell' 7 _ rfl
    exact bodyPost_ret (v := .tuple #[.agg #[.int .i64 0, .int .i64 0, .string ⟨#[]⟩, .slice none 0 0, .slice none 0 0, .slice none 0 0, .slice none 0 0, .slice none 0 0], .int .i64 17]) (by simp [results, Tryz.results16, go_sem, e0, e1, e2, e3, e4, e5, e6, e7]) rfl (HNO.out HV.out _ _ rfl NZ.out)
  · have hle : data.size ≤ 65536 := by omega
    have t1 : ¬ (65536 : Int) < (data.size : Int) := by omega
    have D1 := HDD.out hle
    unfold decB at HDV
    simp only at HDV
    have hlen : data.data.toList.length ≤ 65536 := by rw [← size_eq]; exact hle
    have HLE := Lib.hid hlen
    have HCT := Lib.hid (ctxt_any _ _ _ W D1.dw.r D1.rd D1.sz)
    have hz1 := txt_sz (most := 65536) D1.sz
    obtain ⟨⟨hd, s1⟩, hh⟩ : ∃ x, txtS 65536 (some data.data.toList) = x := ⟨_, rfl⟩
    rw [hh] at HDV hz1 HCT
    simp only at HDV hz1 HCT
    have HHE : Hid ((hd.toList == [98, 105, 110, 97, 114, 121]) = decide (hd = BIN)) := Lib.hid (by rw [← str_eq, toList_eq BIN])
    have HD1 := Lib.hid D1
    have t0 := D1.dw.t.cell' 0 _ rfl
    clear hh hbig hlen HDD HQ0 HN0 D1
    by_cases hhd : hd = BIN
    rotate_left
    · have c9 : (hd.toList == [98, 105, 110, 97, 114, 121]) = false := by rw [HHE.out, decide_eq_false hhd]
      have HV : Hid (X = none) := Lib.hid (by rw [HDV.out, if_neg (fun q => hhd q.2.1)])
      clear HDV hhd HHE
      go_wp2_with ((go_at_call 57; (with_reducible refine HCT.out.mono ?_); rintro e w2 ⟨rfl, r2, g2⟩; have D2 := HD1.out.go g2 r2 hz1; clear r2 g2; have y0 := D2.res.cell' 0 _ rfl; have y1 := D2.res.cell' 1 _ rfl; have y2 := D2.res.cell' 2 _ rfl; have y3 := D2.res.cell' 3 _ rfl; have y4 := D2.res.cell' 4 _ rfl; have y5 := D2.res.cell' 5 _ rfl; have y6 := D2.res.cell' 6 _ rfl; have y7 := D2.res.cell' 7 _ rfl; have z0 := D2.res.free 0; have z1 := D2.res.free 1; have z2 := D2.res.free 2; have z3 := D2.res.free 3; have z4 := D2.res.free 4; have z5 := D2.res.free 5; have z6 := D2.res.free 6; have z7 := D2.res.free 7))
      have YZ := Lib.hid (set8_blk (v0 := .int .i64 0) (v1 := .int .i64 0) (v2 := .string ⟨#[]⟩) (v3 := .slice none 0 0) (v4 := .slice none 0 0) (v5 := .slice none 0 0) (v6 := .slice none 0 0) (v7 := .slice none 0 0) (D2.res))
      have NZ := Lib.hid (set8_new (g := w.heap.size) (v0 := .int .i64 0) (v1 := .int .i64 0) (v2 := .string ⟨#[]⟩) (v3 := .slice none 0 0) (v4 := .slice none 0 0) (v5 := .slice none 0 0) (v6 := .slice none 0 0) (v7 := .slice none 0 0) (D2.new) (Nat.le_refl _))
      go_wp2
      change bodyPost _ _ _ _ _ (set8 w2 w.heap.size (.int .i64 0) (.int .i64 0) (.string ⟨#[]⟩) (.slice none 0 0) (.slice none 0 0) (.slice none 0 0) (.slice none 0 0) (.slice none 0 0))
      generalize (set8 w2 w.heap.size (.int .i64 0) (.int .i64 0) (.string ⟨#[]⟩) (.slice none 0 0) (.slice none 0 0) (.slice none 0 0) (.slice none 0 0) (.slice none 0 0)) = wZ at *
      have e0 := YZ.out.cell' 0 _ rfl
      have e1 := YZ.out.cell' 1 _ rfl
      have e2 := YZ.out.cell' 2 _ rfl
      have e3 := YZ.out.cell' 3 _ rfl
      have e4 := YZ.out.cell' 4 _ rfl
      have e5 := YZ.out.cell' 5 _ rfl
      have e6 := YZ.out.cell' 6 _ rfl
      have e7 := YZ.out.cell' 7 _ rfl
      exact bodyPost_ret (v := .tuple #[.agg #[.int .i64 0, .int .i64 0, .string ⟨#[]⟩, .slice none 0 0, .slice none 0 0, .slice none 0 0, .slice none 0 0, .slice none 0 0], .int .i64 17]) (by simp [results, Tryz.results16, go_sem, e0, e1, e2, e3, e4, e5, e6, e7]) rfl (HNO.out HV.out _ _ rfl NZ.out)
    have c9 : (hd.toList == [98, 105, 110, 97, 114, 121]) = true := by rw [HHE.out, decide_eq_true hhd]
    have HHD := Lib.hid hhd
    clear hhd HHE
    go_wp2_with ((go_at_call 57; (with_reducible refine HCT.out.mono ?_); rintro e w2 ⟨rfl, r2, g2⟩; have D2 := HD1.out.go g2 r2 hz1; clear r2 g2))
    have HX : Hid (X = if (allS 65536 65536 s1).2 = some [] ∧ checkV (allS 65536 65536 s1).1 = true then some (allS 65536 65536 s1).1 else none) := Lib.hid (by
      rw [HDV.out]
      by_cases q : (allS 65536 65536 s1).2 = some [] ∧ checkV (allS 65536 65536 s1).1 = true
      · rw [if_pos q, if_pos ⟨HLE.out, HHD.out, q⟩]
      · rw [if_neg q, if_neg (fun q' => q q'.2.2)])
    clear HDV HLE HHD t0 HCT HD1 hz1
    have z1 := D2.sz
    have z2 := num_sz (hi := 65536) z1
    have z3 := num_sz (hi := 65536) z2
    have z4 := txt_sz (most := 65536) z3
    have hen := (numS_le (hi := 65536) (numS 65536 s1).2).1
    have HC0 := Lib.hid (fun W (d : DS0 w W (w.heap.size + 1) (w.heap.size + 1 + 1) (w.heap.size + 1 + 1 + 1) (w.heap.size + 1 + 1 + 1 + 1) s1) => cnum_any _ _ _ W d.dw.r d.rd d.sz)
    have HC1 := Lib.hid (fun W (d : DS0 w W (w.heap.size + 1) (w.heap.size + 1 + 1) (w.heap.size + 1 + 1 + 1) (w.heap.size + 1 + 1 + 1 + 1) (numS 65536 s1).2) => cnum_any _ _ _ W d.dw.r d.rd d.sz)
    have HC2 := Lib.hid (fun W (d : DS0 w W (w.heap.size + 1) (w.heap.size + 1 + 1) (w.heap.size + 1 + 1 + 1) (w.heap.size + 1 + 1 + 1 + 1) (numS 65536 (numS 65536 s1).2).2) => ctxt_any _ _ _ W d.dw.r d.rd d.sz)
    have HALL : Hid (allS 65536 65536 s1 = ({ (bnS 65536 65536 s1).1 with fix := (fixS (bnS 65536 65536 s1).2).1, imps := (impS (fixS (bnS 65536 65536 s1).2).2).1, exps := (expS (impS (fixS (bnS 65536 65536 s1).2).2).2).1, notes := (notS (expS (impS (fixS (bnS 65536 65536 s1).2).2).2).2).1 }, (notS (expS (impS (fixS (bnS 65536 65536 s1).2).2).2).2).2)) := Lib.hid rfl
    unfold bnS at HALL
    simp only at HALL
    obtain ⟨⟨kd, s2⟩, hv0⟩ : ∃ x, numS 65536 s1 = x := ⟨_, rfl⟩
    simp only [hv0] at HALL HC0 HC1 HC2 z2 z3 z4 hen
    obtain ⟨⟨en, s3⟩, hv1⟩ : ∃ x, numS 65536 s2 = x := ⟨_, rfl⟩
    simp only [hv1] at HALL HC1 HC2 z3 z4 hen
    obtain ⟨⟨img, s4⟩, hv2⟩ : ∃ x, txtS 65536 s3 = x := ⟨_, rfl⟩
    simp only [hv2] at HALL HC2 z4
    (try simp only at z2 z3 z4 hen)
    have HL0 := Lib.hid (fun W (d : DW W (w.heap.size + 1) (w.heap.size + 1 + 1) (w.heap.size + 1 + 1 + 1) (w.heap.size + 1 + 1 + 1 + 1)) (r : RdrP W (w.heap.size + 1) s4) => manypl_any _ _ _ _ s4 W d r z4)
    have z5 := many_sz (one := plS 65536) (fun s hs => by unfold plS; simp only; exact num_sz (num_sz (num_sz (txt_sz (txt_sz hs))))) (numS 65536 s4).1 _ (num_sz (hi := 65536) z4)
    obtain ⟨⟨pl, s5⟩, hw0⟩ : ∃ x, manyS (plS 65536) (numS 65536 s4).1 (numS 65536 s4).2 = x := ⟨_, rfl⟩
    have hw0' := hw0
    simp only [hw0'] at HALL
    simp only [hw0] at HL0 z5
    have HL1 := Lib.hid (fun W (d : DW W (w.heap.size + 1) (w.heap.size + 1 + 1) (w.heap.size + 1 + 1 + 1) (w.heap.size + 1 + 1 + 1 + 1)) (r : RdrP W (w.heap.size + 1) s5) => manyfx_any _ _ _ _ s5 W d r z5)
    have z6 := many_sz (one := fxS) (fun s hs => by unfold fxS; simp only; exact num_sz hs) (numS 65536 s5).1 _ (num_sz (hi := 65536) z5)
    obtain ⟨⟨fx, s6⟩, hw1⟩ : ∃ x, fixS s5 = x := ⟨_, rfl⟩
    have hw1' := hw1
    simp only [hw1'] at HALL
    unfold fixS at hw1
    simp only [hw1] at HL1 z6
    have HL2 := Lib.hid (fun W (d : DW W (w.heap.size + 1) (w.heap.size + 1 + 1) (w.heap.size + 1 + 1 + 1) (w.heap.size + 1 + 1 + 1 + 1)) (r : RdrP W (w.heap.size + 1) s6) => manyim_any _ _ _ _ s6 W d r z6)
    have z7 := many_sz (one := imS) (fun s hs => by unfold imS; simp only; exact num_sz (txt_sz (txt_sz hs))) (numS 65536 s6).1 _ (num_sz (hi := 65536) z6)
    obtain ⟨⟨im, s7⟩, hw2⟩ : ∃ x, impS s6 = x := ⟨_, rfl⟩
    have hw2' := hw2
    simp only [hw2'] at HALL
    unfold impS at hw2
    simp only [hw2] at HL2 z7
    have HL3 := Lib.hid (fun W (d : DW W (w.heap.size + 1) (w.heap.size + 1 + 1) (w.heap.size + 1 + 1 + 1) (w.heap.size + 1 + 1 + 1 + 1)) (r : RdrP W (w.heap.size + 1) s7) => manyex_any _ _ _ _ s7 W d r z7)
    have z8 := many_sz (one := exS) (fun s hs => by unfold exS; simp only; exact num_sz (txt_sz hs)) (numS 65536 s7).1 _ (num_sz (hi := 65536) z7)
    obtain ⟨⟨ex, s8⟩, hw3⟩ : ∃ x, expS s7 = x := ⟨_, rfl⟩
    have hw3' := hw3
    simp only [hw3'] at HALL
    unfold expS at hw3
    simp only [hw3] at HL3 z8
    have HL4 := Lib.hid (fun W (d : DW W (w.heap.size + 1) (w.heap.size + 1 + 1) (w.heap.size + 1 + 1 + 1) (w.heap.size + 1 + 1 + 1 + 1)) (r : RdrP W (w.heap.size + 1) s8) => manynt_any _ _ _ _ s8 W d r z8)
    have z9 := many_sz (one := ntS) (fun s hs => by unfold ntS; simp only; exact txt_sz (txt_sz hs)) (numS 65536 s8).1 _ (num_sz (hi := 65536) z8)
    obtain ⟨⟨nt, s9⟩, hw4⟩ : ∃ x, notS s8 = x := ⟨_, rfl⟩
    have hw4' := hw4
    simp only [hw4'] at HALL
    unfold notS at hw4
    simp only [hw4] at HL4 z9
    have HSZ : Hid (SzB ⟨(kd : Nat), (en : Int) - 1, img, pl, fx, im, ex, nt⟩) := Lib.hid (szb_of s1 HALL.out.symm (Nat.le_refl _))
    rw [HALL.out] at HX
    simp only at HX
    clear HALL hv0 hv1 hv2 hw0 hw0' hw1 hw1' hw2 hw2' hw3 hw3' hw4 hw4'
    have hlw := D2.lg
    generalize w.heap.size + 1 + 1 + 1 + 1 = gt at *
    generalize w.heap.size + 1 + 1 + 1 = gn at *
    generalize w.heap.size + 1 + 1 = gr at *
    generalize w.heap.size + 1 = g at *
    have uw : IntKind.i64.wrap ((en : Int) - 1) = (en : Int) - 1 := IntWalk.i64_in _ (by omega)
    have t5 := D2.dw.t.cell' 0 _ rfl
    have n5 := D2.dw.n.cell' 0 _ rfl
    go_cut [7] (fun v7 wc => ∃ gb, v7 = .pointer (some ⟨gb, 0, none⟩) ∧ DS w wc g gr gn gt gb ⟨(kd : Nat), (en : Int) - 1, img, [], [], [], [], []⟩ zH s4)
    case first =>
      refine wp_region_held_drew (S := (fun W => Blk W gn 98 (FN gr) ∧ Blk W gt 99 (FT gr))) (by kernel_rfl) ⟨D2.dw.n.drew, D2.dw.t.drew⟩ (fun hS => ?_)
      refine tkQ (i := 0) (oi := ?o1) (v := ?v1) ?h1 ?q1 ?y1 hS ?_; (case h1 => (simp only [gqA, gqB, gqC]; rfl)); (case q1 => exact fun _ _ _ h => h); (case y1 => (refine Or.inl ⟨by kernel_rfl, ?_⟩; intro wq hSq; have hf0 := hSq.1.cell' 0 _ rfl; have hf1 := hSq.2.cell' 0 _ rfl; clear hSq; go_simp; (try with_reducible rfl))); simp only [Act.put, List.setIfInBounds_toArray, List.set_cons_zero, List.set_cons_succ]
      refine tkQ (i := 2) (oi := ?o2) (v := ?v2) ?h2 ?q2 ?y2 hS ?_; (case h2 => (simp only [gqA, gqB, gqC]; rfl)); (case q2 => exact fun _ _ _ h => h); (case y2 => (refine Or.inl ⟨by kernel_rfl, ?_⟩; intro wq hSq; have hf0 := hSq.1.cell' 0 _ rfl; have hf1 := hSq.2.cell' 0 _ rfl; clear hSq; go_simp; (try with_reducible rfl))); simp only [Act.put, List.setIfInBounds_toArray, List.set_cons_zero, List.set_cons_succ]
      refine tkQ (i := 5) (oi := ?o3) (v := ?v3) ?h3 ?q3 ?y3 hS ?_; (case h3 => (simp only [gqA, gqB, gqC]; rfl)); (case q3 => exact fun _ _ _ h => h); (case y3 => (refine Or.inl ⟨by kernel_rfl, ?_⟩; intro wq hSq; have hf0 := hSq.1.cell' 0 _ rfl; have hf1 := hSq.2.cell' 0 _ rfl; clear hSq; go_simp; (try with_reducible rfl))); simp only [Act.put, List.setIfInBounds_toArray, List.set_cons_zero, List.set_cons_succ]
      refine wpAnyH_ready (rs := [1, 8]) (by kernel_rfl) (by simp) ?_
      refine AllReadyH.cons (o := ?oi4) ?hi4 (fun K hK => ?_) (AllReadyH.cons (o := ?oi5) ?hi5 (fun K hK => ?_) AllReadyH.nil)
      case hi4 => (simp only [gqA, gqB, gqC]; rfl)
      case hi5 => (simp only [gqA, gqB, gqC]; rfl)
      · skip
        go_simp
        with_reducible refine (HC0.out _ D2.drew).mono ?_
        rintro e wn1 ⟨rfl, rn1, kn1⟩
        have Dn1 := DS0.go D2.drew kn1 rn1 z2
        refine hK.out _ _ ⟨Dn1.dw.n, Dn1.dw.t⟩ (fun hS => ?_)
        clear hK K
        refine wpAnyH_ready (rs := [3, 8]) (by kernel_rfl) (by simp) ?_
        refine AllReadyH.cons (o := ?oi6) ?hi6 (fun K hK => ?_) (AllReadyH.cons (o := ?oi7) ?hi7 (fun K hK => ?_) AllReadyH.nil)
        case hi6 => (simp only [gqA, gqB, gqC]; rfl)
        case hi7 => (simp only [gqA, gqB, gqC]; rfl)
        · skip
          go_simp
          with_reducible refine (HC1.out _ Dn1).mono ?_
          rintro e wn2 ⟨rfl, rn2, kn2⟩
          have Dn2 := DS0.go Dn1 kn2 rn2 z3
          refine hK.out _ _ ⟨Dn2.dw.n, Dn2.dw.t⟩ (fun hS => ?_)
          clear hK K
          refine tkQ (i := 4) (oi := ?o8) (v := ?v8) ?h8 ?q8 ?y8 hS ?_; (case h8 => (simp only [gqA, gqB, gqC]; rfl)); (case q8 => exact fun _ _ _ h => h); (case y8 => (refine Or.inl ⟨by kernel_rfl, ?_⟩; intro wq hSq; clear hSq; go_simp; (try with_reducible rfl))); simp only [Act.put, List.setIfInBounds_toArray, List.set_cons_zero, List.set_cons_succ]
          refine wpAnyH_ready (rs := [6, 8]) (by kernel_rfl) (by simp) ?_
          refine AllReadyH.cons (o := ?oi9) ?hi9 (fun K hK => ?_) (AllReadyH.cons (o := ?oi10) ?hi10 (fun K hK => ?_) AllReadyH.nil)
          case hi9 => (simp only [gqA, gqB, gqC]; rfl)
          case hi10 => (simp only [gqA, gqB, gqC]; rfl)
          · skip
            go_simp
            with_reducible refine (HC2.out _ Dn2).mono ?_
            rintro e wn3 ⟨rfl, rn3, kn3⟩
            have Dn3 := DS0.go Dn2 kn3 rn3 z4
            refine hK.out _ _ ⟨Dn3.dw.n, Dn3.dw.t⟩ (fun hS => ?_)
            clear hK K
            refine tkQ (i := 7) (oi := ?o11) (v := ?v11) ?h11 ?q11 ?y11 hS ?_; (case h11 => (simp only [gqA, gqB, gqC]; rfl)); (case q11 => exact fun _ _ _ h => h); (case y11 => (refine Or.inl ⟨by kernel_rfl, ?_⟩; intro wq hSq; clear hSq; go_simp; (try with_reducible rfl))); simp only [Act.put, List.setIfInBounds_toArray, List.set_cons_zero, List.set_cons_succ]
            refine wpAnyH_ready (rs := [8]) (by kernel_rfl) (by simp) ?_
            refine AllReadyH.cons (o := ?oi12) ?hi12 (fun K hK => ?_) AllReadyH.nil
            case hi12 => (simp only [gqA, gqB, gqC]; rfl)
            have Da4 := DS0.alloc Dn3 (.cells #[.int .i64 0, .int .i64 0, .string ⟨#[]⟩, .slice none 0 0, .slice none 0 0, .slice none 0 0, .slice none 0 0, .slice none 0 0] 28)
            have hl := DS0.ahead Dn3 (Nat.le_refl _)
            have Pa4 := Blk.made wn3 28 #[.int .i64 0, .int .i64 0, .string ⟨#[]⟩, .slice none 0 0, .slice none 0 0, .slice none 0 0, .slice none 0 0, .slice none 0 0]
            go_simp
            refine hK.out _ _ ⟨Da4.dw.n, Da4.dw.t⟩ (fun hS => ?_)
            clear hK K
            refine wpAnyH_ready (rs := [9]) (by kernel_rfl) (by simp) ?_
            refine AllReadyH.cons (o := ?oi13) ?hi13 (fun K hK => ?_) AllReadyH.nil
            case hi13 => (simp only [gqA, gqB, gqC]; rfl)
            generalize (World.alloc _ (.cells #[.int .i64 0, .int .i64 0, .string ⟨#[]⟩, .slice none 0 0, .slice none 0 0, .slice none 0 0, .slice none 0 0, .slice none 0 0] 28)) = wL at *
            have y0 := Pa4.cell' 0 _ rfl
            have y1 := Pa4.cell' 1 _ rfl
            have y2 := Pa4.cell' 2 _ rfl
            have y3 := Pa4.cell' 3 _ rfl
            have y4 := Pa4.cell' 4 _ rfl
            have y5 := Pa4.cell' 5 _ rfl
            have y6 := Pa4.cell' 6 _ rfl
            have y7 := Pa4.cell' 7 _ rfl
            have zz0 := Pa4.free 0
            have zz1 := Pa4.free 1
            have zz2 := Pa4.free 2
            have zz3 := Pa4.free 3
            have zz4 := Pa4.free 4
            have zz5 := Pa4.free 5
            have zz6 := Pa4.free 6
            have zz7 := Pa4.free 7
            have DE := Lib.hid (DS0.made Da4 Pa4 hl (kd : Nat) ((en : Int) - 1) img)
            go_simp
            refine hK.out _ _ ⟨DE.out.dw.n, DE.out.dw.t⟩ (fun hS => ?_)
            clear hK K
            refine wpAnyH_done (by kernel_rfl) ?_ _
            go_wp2_with (fail)
            go_meet
            case rel => exact ⟨_, rfl, DE.out⟩
          · skip
            have Da6 := DS0.alloc Dn2 (.cells #[.int .i64 0, .int .i64 0, .string ⟨#[]⟩, .slice none 0 0, .slice none 0 0, .slice none 0 0, .slice none 0 0, .slice none 0 0] 28)
            have hl := DS0.ahead Dn2 (Nat.le_refl _)
            have Pa6 := Blk.made wn2 28 #[.int .i64 0, .int .i64 0, .string ⟨#[]⟩, .slice none 0 0, .slice none 0 0, .slice none 0 0, .slice none 0 0, .slice none 0 0]
            go_simp
            refine hK.out _ _ ⟨Da6.dw.n, Da6.dw.t⟩ (fun hS => ?_)
            clear hK K
            refine wpAnyH_ready (rs := [6]) (by kernel_rfl) (by simp) ?_
            refine AllReadyH.cons (o := ?oi14) ?hi14 (fun K hK => ?_) AllReadyH.nil
            case hi14 => (simp only [gqA, gqB, gqC]; rfl)
            go_simp
            with_reducible refine (HC2.out _ Da6).mono ?_
            rintro e wn7 ⟨rfl, rn7, kn7⟩
            have Dn7 := DS0.go Da6 kn7 rn7 z4
            have Pn7 := Blk.grown Pa6 kn7 (fun e => by have := hl.1; injection e; omega)
            refine hK.out _ _ ⟨Dn7.dw.n, Dn7.dw.t⟩ (fun hS => ?_)
            clear hK K
            refine tkQ (i := 7) (oi := ?o15) (v := ?v15) ?h15 ?q15 ?y15 hS ?_; (case h15 => (simp only [gqA, gqB, gqC]; rfl)); (case q15 => exact fun _ _ _ h => h); (case y15 => (refine Or.inl ⟨by kernel_rfl, ?_⟩; intro wq hSq; clear hSq; go_simp; (try with_reducible rfl))); simp only [Act.put, List.setIfInBounds_toArray, List.set_cons_zero, List.set_cons_succ]
            refine wpAnyH_ready (rs := [9]) (by kernel_rfl) (by simp) ?_
            refine AllReadyH.cons (o := ?oi16) ?hi16 (fun K hK => ?_) AllReadyH.nil
            case hi16 => (simp only [gqA, gqB, gqC]; rfl)
            have y0 := Pn7.cell' 0 _ rfl
            have y1 := Pn7.cell' 1 _ rfl
            have y2 := Pn7.cell' 2 _ rfl
            have y3 := Pn7.cell' 3 _ rfl
            have y4 := Pn7.cell' 4 _ rfl
            have y5 := Pn7.cell' 5 _ rfl
            have y6 := Pn7.cell' 6 _ rfl
            have y7 := Pn7.cell' 7 _ rfl
            have zz0 := Pn7.free 0
            have zz1 := Pn7.free 1
            have zz2 := Pn7.free 2
            have zz3 := Pn7.free 3
            have zz4 := Pn7.free 4
            have zz5 := Pn7.free 5
            have zz6 := Pn7.free 6
            have zz7 := Pn7.free 7
            have DE := Lib.hid (DS0.made Dn7 Pn7 hl (kd : Nat) ((en : Int) - 1) img)
            go_simp
            refine hK.out _ _ ⟨DE.out.dw.n, DE.out.dw.t⟩ (fun hS => ?_)
            clear hK K
            refine wpAnyH_done (by kernel_rfl) ?_ _
            go_wp2_with (fail)
            go_meet
            case rel => exact ⟨_, rfl, DE.out⟩
        · skip
          have Da9 := DS0.alloc Dn1 (.cells #[.int .i64 0, .int .i64 0, .string ⟨#[]⟩, .slice none 0 0, .slice none 0 0, .slice none 0 0, .slice none 0 0, .slice none 0 0] 28)
          have hl := DS0.ahead Dn1 (Nat.le_refl _)
          have Pa9 := Blk.made wn1 28 #[.int .i64 0, .int .i64 0, .string ⟨#[]⟩, .slice none 0 0, .slice none 0 0, .slice none 0 0, .slice none 0 0, .slice none 0 0]
          go_simp
          refine hK.out _ _ ⟨Da9.dw.n, Da9.dw.t⟩ (fun hS => ?_)
          clear hK K
          refine wpAnyH_ready (rs := [3]) (by kernel_rfl) (by simp) ?_
          refine AllReadyH.cons (o := ?oi17) ?hi17 (fun K hK => ?_) AllReadyH.nil
          case hi17 => (simp only [gqA, gqB, gqC]; rfl)
          go_simp
          with_reducible refine (HC1.out _ Da9).mono ?_
          rintro e wn10 ⟨rfl, rn10, kn10⟩
          have Dn10 := DS0.go Da9 kn10 rn10 z3
          have Pn10 := Blk.grown Pa9 kn10 (fun e => by have := hl.1; injection e; omega)
          refine hK.out _ _ ⟨Dn10.dw.n, Dn10.dw.t⟩ (fun hS => ?_)
          clear hK K
          refine tkQ (i := 4) (oi := ?o18) (v := ?v18) ?h18 ?q18 ?y18 hS ?_; (case h18 => (simp only [gqA, gqB, gqC]; rfl)); (case q18 => exact fun _ _ _ h => h); (case y18 => (refine Or.inl ⟨by kernel_rfl, ?_⟩; intro wq hSq; clear hSq; go_simp; (try with_reducible rfl))); simp only [Act.put, List.setIfInBounds_toArray, List.set_cons_zero, List.set_cons_succ]
          refine wpAnyH_ready (rs := [6]) (by kernel_rfl) (by simp) ?_
          refine AllReadyH.cons (o := ?oi19) ?hi19 (fun K hK => ?_) AllReadyH.nil
          case hi19 => (simp only [gqA, gqB, gqC]; rfl)
          go_simp
          with_reducible refine (HC2.out _ Dn10).mono ?_
          rintro e wn11 ⟨rfl, rn11, kn11⟩
          have Dn11 := DS0.go Dn10 kn11 rn11 z4
          have Pn11 := Blk.grown Pn10 kn11 (fun e => by have := hl.1; injection e; omega)
          refine hK.out _ _ ⟨Dn11.dw.n, Dn11.dw.t⟩ (fun hS => ?_)
          clear hK K
          refine tkQ (i := 7) (oi := ?o20) (v := ?v20) ?h20 ?q20 ?y20 hS ?_; (case h20 => (simp only [gqA, gqB, gqC]; rfl)); (case q20 => exact fun _ _ _ h => h); (case y20 => (refine Or.inl ⟨by kernel_rfl, ?_⟩; intro wq hSq; clear hSq; go_simp; (try with_reducible rfl))); simp only [Act.put, List.setIfInBounds_toArray, List.set_cons_zero, List.set_cons_succ]
          refine wpAnyH_ready (rs := [9]) (by kernel_rfl) (by simp) ?_
          refine AllReadyH.cons (o := ?oi21) ?hi21 (fun K hK => ?_) AllReadyH.nil
          case hi21 => (simp only [gqA, gqB, gqC]; rfl)
          have y0 := Pn11.cell' 0 _ rfl
          have y1 := Pn11.cell' 1 _ rfl
          have y2 := Pn11.cell' 2 _ rfl
          have y3 := Pn11.cell' 3 _ rfl
          have y4 := Pn11.cell' 4 _ rfl
          have y5 := Pn11.cell' 5 _ rfl
          have y6 := Pn11.cell' 6 _ rfl
          have y7 := Pn11.cell' 7 _ rfl
          have zz0 := Pn11.free 0
          have zz1 := Pn11.free 1
          have zz2 := Pn11.free 2
          have zz3 := Pn11.free 3
          have zz4 := Pn11.free 4
          have zz5 := Pn11.free 5
          have zz6 := Pn11.free 6
          have zz7 := Pn11.free 7
          have DE := Lib.hid (DS0.made Dn11 Pn11 hl (kd : Nat) ((en : Int) - 1) img)
          go_simp
          refine hK.out _ _ ⟨DE.out.dw.n, DE.out.dw.t⟩ (fun hS => ?_)
          clear hK K
          refine wpAnyH_done (by kernel_rfl) ?_ _
          go_wp2_with (fail)
          go_meet
          case rel => exact ⟨_, rfl, DE.out⟩
      · skip
        have Da13 := (DS0.alloc D2 (.cells #[.int .i64 0, .int .i64 0, .string ⟨#[]⟩, .slice none 0 0, .slice none 0 0, .slice none 0 0, .slice none 0 0, .slice none 0 0] 28)).drew
        have hl := DS0.ahead D2 (Nat.le_refl _)
        have Pa13 := (Blk.made w2 28 #[.int .i64 0, .int .i64 0, .string ⟨#[]⟩, .slice none 0 0, .slice none 0 0, .slice none 0 0, .slice none 0 0, .slice none 0 0]).drew
        go_simp
        refine hK.out _ _ ⟨Da13.dw.n, Da13.dw.t⟩ (fun hS => ?_)
        clear hK K
        refine wpAnyH_ready (rs := [1]) (by kernel_rfl) (by simp) ?_
        refine AllReadyH.cons (o := ?oi22) ?hi22 (fun K hK => ?_) AllReadyH.nil
        case hi22 => (simp only [gqA, gqB, gqC]; rfl)
        go_simp
        with_reducible refine (HC0.out _ Da13).mono ?_
        rintro e wn14 ⟨rfl, rn14, kn14⟩
        have Dn14 := DS0.go Da13 kn14 rn14 z2
        have Pn14 := Blk.grown Pa13 kn14 (fun e => by have := hl.1; injection e; omega)
        refine hK.out _ _ ⟨Dn14.dw.n, Dn14.dw.t⟩ (fun hS => ?_)
        clear hK K
        refine wpAnyH_ready (rs := [3]) (by kernel_rfl) (by simp) ?_
        refine AllReadyH.cons (o := ?oi23) ?hi23 (fun K hK => ?_) AllReadyH.nil
        case hi23 => (simp only [gqA, gqB, gqC]; rfl)
        go_simp
        with_reducible refine (HC1.out _ Dn14).mono ?_
        rintro e wn15 ⟨rfl, rn15, kn15⟩
        have Dn15 := DS0.go Dn14 kn15 rn15 z3
        have Pn15 := Blk.grown Pn14 kn15 (fun e => by have := hl.1; injection e; omega)
        refine hK.out _ _ ⟨Dn15.dw.n, Dn15.dw.t⟩ (fun hS => ?_)
        clear hK K
        refine tkQ (i := 4) (oi := ?o24) (v := ?v24) ?h24 ?q24 ?y24 hS ?_; (case h24 => (simp only [gqA, gqB, gqC]; rfl)); (case q24 => exact fun _ _ _ h => h); (case y24 => (refine Or.inl ⟨by kernel_rfl, ?_⟩; intro wq hSq; clear hSq; go_simp; (try with_reducible rfl))); simp only [Act.put, List.setIfInBounds_toArray, List.set_cons_zero, List.set_cons_succ]
        refine wpAnyH_ready (rs := [6]) (by kernel_rfl) (by simp) ?_
        refine AllReadyH.cons (o := ?oi25) ?hi25 (fun K hK => ?_) AllReadyH.nil
        case hi25 => (simp only [gqA, gqB, gqC]; rfl)
        go_simp
        with_reducible refine (HC2.out _ Dn15).mono ?_
        rintro e wn16 ⟨rfl, rn16, kn16⟩
        have Dn16 := DS0.go Dn15 kn16 rn16 z4
        have Pn16 := Blk.grown Pn15 kn16 (fun e => by have := hl.1; injection e; omega)
        refine hK.out _ _ ⟨Dn16.dw.n, Dn16.dw.t⟩ (fun hS => ?_)
        clear hK K
        refine tkQ (i := 7) (oi := ?o26) (v := ?v26) ?h26 ?q26 ?y26 hS ?_; (case h26 => (simp only [gqA, gqB, gqC]; rfl)); (case q26 => exact fun _ _ _ h => h); (case y26 => (refine Or.inl ⟨by kernel_rfl, ?_⟩; intro wq hSq; clear hSq; go_simp; (try with_reducible rfl))); simp only [Act.put, List.setIfInBounds_toArray, List.set_cons_zero, List.set_cons_succ]
        refine wpAnyH_ready (rs := [9]) (by kernel_rfl) (by simp) ?_
        refine AllReadyH.cons (o := ?oi27) ?hi27 (fun K hK => ?_) AllReadyH.nil
        case hi27 => (simp only [gqA, gqB, gqC]; rfl)
        have y0 := Pn16.cell' 0 _ rfl
        have y1 := Pn16.cell' 1 _ rfl
        have y2 := Pn16.cell' 2 _ rfl
        have y3 := Pn16.cell' 3 _ rfl
        have y4 := Pn16.cell' 4 _ rfl
        have y5 := Pn16.cell' 5 _ rfl
        have y6 := Pn16.cell' 6 _ rfl
        have y7 := Pn16.cell' 7 _ rfl
        have zz0 := Pn16.free 0
        have zz1 := Pn16.free 1
        have zz2 := Pn16.free 2
        have zz3 := Pn16.free 3
        have zz4 := Pn16.free 4
        have zz5 := Pn16.free 5
        have zz6 := Pn16.free 6
        have zz7 := Pn16.free 7
        have DE := Lib.hid (DS0.made Dn16 Pn16 hl (kd : Nat) ((en : Int) - 1) img)
        go_simp
        refine hK.out _ _ ⟨DE.out.dw.n, DE.out.dw.t⟩ (fun hS => ?_)
        clear hK K
        refine wpAnyH_done (by kernel_rfl) ?_ _
        go_wp2_with (fail)
        go_meet
        case rel => exact ⟨_, rfl, DE.out⟩
    case rest =>
      obtain ⟨gb, rfl, E0⟩ := hcut
      clear HC0 HC1 HC2 D2 t5 n5 uw z1 z2 z3 c9 hlw hen hle t1 HNR hs z4
      obtain ⟨n1, hn1⟩ : ∃ n, pl.length = n := ⟨_, rfl⟩
      obtain ⟨n2, hn2⟩ : ∃ n, fx.length = n := ⟨_, rfl⟩
      obtain ⟨n3, hn3⟩ : ∃ n, im.length = n := ⟨_, rfl⟩
      obtain ⟨n4, hn4⟩ : ∃ n, ex.length = n := ⟨_, rfl⟩
      obtain ⟨n5, hn5⟩ : ∃ n, nt.length = n := ⟨_, rfl⟩
      rw [hn1] at HL0
      rw [hn2] at HL1
      rw [hn3] at HL2
      rw [hn4] at HL3
      rw [hn5] at HL4
      have HN : Hid (pl.length = n1 ∧ fx.length = n2 ∧ im.length = n3 ∧ ex.length = n4 ∧ nt.length = n5) := Lib.hid ⟨hn1, hn2, hn3, hn4, hn5⟩
      clear hn1 hn2 hn3 hn4 hn5
      have HE0 := Lib.hid E0
      clear E0
      have rc0 := HE0.out.dw.r.cell' 0 _ rfl
      have nc0 := HE0.out.dw.n.cell' 0 _ rfl
      go_wp2_with (fail)
      with_reducible refine (HL0.out _ HE0.out.dw HE0.out.rd).mono ?_
      rintro e W1 ⟨⟨A1, C1, rfl, q1, f1⟩, r1, g1⟩
      have F1 := HE0.out.go g1 r1 z5
      have c1 := F1.blk.cell' 3 _ rfl
      have k1 := F1.blk.free 3
      have HE1 := Lib.hid (F1.put1 pl A1 n1 C1 HN.out.1 q1 (fun a ha => by have h1 := f1 a ha; have h2 := HE0.out.blk.lt; omega))
      clear F1 q1 f1 r1 g1 rc0 nc0
      have rc1 := HE1.out.dw.r.cell' 0 _ rfl
      have nc1 := HE1.out.dw.n.cell' 0 _ rfl
      go_wp2_with (fail)
      with_reducible refine (HL1.out _ HE1.out.dw HE1.out.rd).mono ?_
      rintro e W2 ⟨⟨A2, C2, rfl, q2, f2⟩, r2, g2⟩
      have F2 := HE1.out.go g2 r2 z6
      have c2 := F2.blk.cell' 4 _ rfl
      have k2 := F2.blk.free 4
      have HE2 := Lib.hid (F2.put2 fx A2 n2 C2 HN.out.2.1 q2 (fun a ha => by have h1 := f2 a ha; have h2 := HE1.out.blk.lt; omega))
      clear F2 q2 f2 r2 g2 rc1 nc1
      have rc2 := HE2.out.dw.r.cell' 0 _ rfl
      have nc2 := HE2.out.dw.n.cell' 0 _ rfl
      go_wp2_with (fail)
      with_reducible refine (HL2.out _ HE2.out.dw HE2.out.rd).mono ?_
      rintro e W3 ⟨⟨A3, C3, rfl, q3, f3⟩, r3, g3⟩
      have F3 := HE2.out.go g3 r3 z7
      have c3 := F3.blk.cell' 5 _ rfl
      have k3 := F3.blk.free 5
      have HE3 := Lib.hid (F3.put3 im A3 n3 C3 HN.out.2.2.1 q3 (fun a ha => by have h1 := f3 a ha; have h2 := HE2.out.blk.lt; omega))
      clear F3 q3 f3 r3 g3 rc2 nc2
      have rc3 := HE3.out.dw.r.cell' 0 _ rfl
      have nc3 := HE3.out.dw.n.cell' 0 _ rfl
      go_wp2_with (fail)
      with_reducible refine (HL3.out _ HE3.out.dw HE3.out.rd).mono ?_
      rintro e W4 ⟨⟨A4, C4, rfl, q4, f4⟩, r4, g4⟩
      have F4 := HE3.out.go g4 r4 z8
      have c4 := F4.blk.cell' 6 _ rfl
      have k4 := F4.blk.free 6
      have HE4 := Lib.hid (F4.put4 ex A4 n4 C4 HN.out.2.2.2.1 q4 (fun a ha => by have h1 := f4 a ha; have h2 := HE3.out.blk.lt; omega))
      clear F4 q4 f4 r4 g4 rc3 nc3
      have rc4 := HE4.out.dw.r.cell' 0 _ rfl
      have nc4 := HE4.out.dw.n.cell' 0 _ rfl
      go_wp2_with (fail)
      with_reducible refine (HL4.out _ HE4.out.dw HE4.out.rd).mono ?_
      rintro e W5 ⟨⟨A5, C5, rfl, q5, f5⟩, r5, g5⟩
      have F5 := HE4.out.go g5 r5 z9
      have c5 := F5.blk.cell' 7 _ rfl
      have k5 := F5.blk.free 7
      have HE5 := Lib.hid (F5.put5 nt A5 n5 C5 HN.out.2.2.2.2 q5 (fun a ha => by have h1 := f5 a ha; have h2 := HE4.out.blk.lt; omega))
      clear F5 q5 f5 r5 g5 rc4 nc4
      have rc := HE5.out.dw.r.cell' 0 _ rfl
      go_wp2_with (fail)
      have HCL := Lib.hid (fun W (d : DS w W g gr gn gt gb ⟨(kd : Nat), (en : Int) - 1, img, pl, fx, im, ex, nt⟩ ⟨A1, C1, A2, C2, A3, C3, A4, C4, A5, C5⟩ s9) => close_any g s9 W d.rd)
      have HCK := Lib.hid (fun W (d : DS w W g gr gn gt gb ⟨(kd : Nat), (en : Int) - 1, img, pl, fx, im, ex, nt⟩ ⟨A1, C1, A2, C2, A3, C3, A4, C4, A5, C5⟩ s9) => check_any ⟨(kd : Nat), (en : Int) - 1, img, pl, fx, im, ex, nt⟩ ⟨A1, C1, A2, C2, A3, C3, A4, C4, A5, C5⟩ W d.brd HSZ.out (hE.new d.new))
      have HCE : Hid (chkE ⟨(kd : Nat), (en : Int) - 1, img, pl, fx, im, ex, nt⟩ = if checkV ⟨(kd : Nat), (en : Int) - 1, img, pl, fx, im, ex, nt⟩ = true then 0 else 1) := Lib.hid rfl
      simp only [bcells, HN.out.1, HN.out.2.1, HN.out.2.2.1, HN.out.2.2.2.1, HN.out.2.2.2.2] at HCK
      have HBL := Lib.hid (fun W (d : DS w W g gr gn gt gb ⟨(kd : Nat), (en : Int) - 1, img, pl, fx, im, ex, nt⟩ ⟨A1, C1, A2, C2, A3, C3, A4, C4, A5, C5⟩ s9) => d.blk)
      simp only [bcells, HN.out.1, HN.out.2.1, HN.out.2.2.1, HN.out.2.2.2.1, HN.out.2.2.2.2] at HBL
      have HYB : Hid (∀ (cv : X = some ⟨(kd : Nat), (en : Int) - 1, img, pl, fx, im, ex, nt⟩) e w', e = .returned (.tuple #[.agg (bcells ⟨(kd : Nat), (en : Int) - 1, img, pl, fx, im, ex, nt⟩ ⟨A1, C1, A2, C2, A3, C3, A4, C4, A5, C5⟩), .int .i64 0]) → BRd w' ⟨(kd : Nat), (en : Int) - 1, img, pl, fx, im, ex, nt⟩ ⟨A1, C1, A2, C2, A3, C3, A4, C4, A5, C5⟩ → New w w' → PP e w') := Lib.hid (fun cv e w' he hr hn => HYES.out ⟨(kd : Nat), (en : Int) - 1, img, pl, fx, im, ex, nt⟩ ⟨A1, C1, A2, C2, A3, C3, A4, C4, A5, C5⟩ cv e w' he hr hn)
      simp only [bcells, HN.out.1, HN.out.2.1, HN.out.2.2.1, HN.out.2.2.2.1, HN.out.2.2.2.2] at HYB
      have HBR := Lib.hid (fun W (d : DS w W g gr gn gt gb ⟨(kd : Nat), (en : Int) - 1, img, pl, fx, im, ex, nt⟩ ⟨A1, C1, A2, C2, A3, C3, A4, C4, A5, C5⟩ s9) => And.intro d.brd (And.intro d.far d.lt))
      clear HYES HL0 HL1 HL2 HL3 HL4 z5 z6 z7 z8 z9 HSZ HE0 HE1 HE2 HE3 HE4 c1 c2 c3 c4 c5 k1 k2 k3 k4 k5 rc
      generalize (World.setCell _ ⟨gb, 7, none⟩ _) = W9 at *
      by_cases h9 : s9 = some []
      rotate_left
      · have HV : Hid (X = none) := Lib.hid (by rw [HX.out, if_neg (fun q => h9 q.1)])
        have y0 := HE5.out.res.cell' 0 _ rfl
        have y1 := HE5.out.res.cell' 1 _ rfl
        have y2 := HE5.out.res.cell' 2 _ rfl
        have y3 := HE5.out.res.cell' 3 _ rfl
        have y4 := HE5.out.res.cell' 4 _ rfl
        have y5 := HE5.out.res.cell' 5 _ rfl
        have y6 := HE5.out.res.cell' 6 _ rfl
        have y7 := HE5.out.res.cell' 7 _ rfl
        have z0 := HE5.out.res.free 0
        have z1 := HE5.out.res.free 1
        have z2 := HE5.out.res.free 2
        have z3 := HE5.out.res.free 3
        have z4 := HE5.out.res.free 4
        have z5 := HE5.out.res.free 5
        have z6 := HE5.out.res.free 6
        have z7 := HE5.out.res.free 7
        have HCL2 := Lib.hid (HCL.out W9 HE5.out)
        rw [decide_eq_false h9] at HCL2
        with_reducible refine HCL2.out.mono ?_
        rintro e wz ⟨⟨x, rfl, hx⟩, hwz⟩
        subst hwz
        have hx1 : ¬ x = 0 := beq_eq_false_iff_ne.1 hx
        have YZ := Lib.hid (set8_blk (v0 := .int .i64 0) (v1 := .int .i64 0) (v2 := .string ⟨#[]⟩) (v3 := .slice none 0 0) (v4 := .slice none 0 0) (v5 := .slice none 0 0) (v6 := .slice none 0 0) (v7 := .slice none 0 0) (HE5.out.res))
        have NZ := Lib.hid (set8_new (g := w.heap.size) (v0 := .int .i64 0) (v1 := .int .i64 0) (v2 := .string ⟨#[]⟩) (v3 := .slice none 0 0) (v4 := .slice none 0 0) (v5 := .slice none 0 0) (v6 := .slice none 0 0) (v7 := .slice none 0 0) (HE5.out.new) (Nat.le_refl _))
        go_wp2
        change bodyPost _ _ _ _ _ (set8 wz w.heap.size (.int .i64 0) (.int .i64 0) (.string ⟨#[]⟩) (.slice none 0 0) (.slice none 0 0) (.slice none 0 0) (.slice none 0 0) (.slice none 0 0))
        generalize (set8 wz w.heap.size (.int .i64 0) (.int .i64 0) (.string ⟨#[]⟩) (.slice none 0 0) (.slice none 0 0) (.slice none 0 0) (.slice none 0 0) (.slice none 0 0)) = wZ at *
        have e0 := YZ.out.cell' 0 _ rfl
        have e1 := YZ.out.cell' 1 _ rfl
        have e2 := YZ.out.cell' 2 _ rfl
        have e3 := YZ.out.cell' 3 _ rfl
        have e4 := YZ.out.cell' 4 _ rfl
        have e5 := YZ.out.cell' 5 _ rfl
        have e6 := YZ.out.cell' 6 _ rfl
        have e7 := YZ.out.cell' 7 _ rfl
        exact bodyPost_ret (v := .tuple #[.agg #[.int .i64 0, .int .i64 0, .string ⟨#[]⟩, .slice none 0 0, .slice none 0 0, .slice none 0 0, .slice none 0 0, .slice none 0 0], .int .i64 17]) (by simp [results, Tryz.results16, go_sem, e0, e1, e2, e3, e4, e5, e6, e7]) rfl (HNO.out HV.out _ _ rfl NZ.out)
      have HCL2 := Lib.hid (HCL.out W9 HE5.out)
      rw [decide_eq_true h9] at HCL2
      clear HCL
      obtain ⟨cv, hcv⟩ : ∃ v, checkV ⟨(kd : Nat), (en : Int) - 1, img, pl, fx, im, ex, nt⟩ = v := ⟨_, rfl⟩
      rw [hcv] at HX HCE
      have HCV := Lib.hid hcv
      clear hcv
      have HCK2 := Lib.hid (HCK.out _ HE5.out)
      rw [HCE.out] at HCK2
      clear HCK HCE
      have HB9 := Lib.hid (HBL.out _ HE5.out)
      have b0 := HB9.out.cell' 0 _ rfl
      have b1 := HB9.out.cell' 1 _ rfl
      have b2 := HB9.out.cell' 2 _ rfl
      have b3 := HB9.out.cell' 3 _ rfl
      have b4 := HB9.out.cell' 4 _ rfl
      have b5 := HB9.out.cell' 5 _ rfl
      have b6 := HB9.out.cell' 6 _ rfl
      have b7 := HB9.out.cell' 7 _ rfl
      with_reducible refine HCL2.out.mono ?_
      rintro e wz ⟨⟨x, rfl, hx⟩, hwz⟩
      subst hwz
      have hx0 : x = 0 := beq_iff_eq.1 hx
      subst hx0
      clear hx
      cases cv
      · skip
        have HV : Hid (X = none) := Lib.hid (by rw [HX.out, if_neg (fun q => by cases q.2)])
        simp only [Bool.false_eq_true, reduceIte] at HCK2
        go_wp2_with (go_at_call 14; (with_reducible refine HCK2.out.mono ?_); rintro e w9 ⟨rfl, k9⟩; have R9 := HE5.out.res.new k9; have N9 := HE5.out.new.trans k9; have y0 := R9.cell' 0 _ rfl; have y1 := R9.cell' 1 _ rfl; have y2 := R9.cell' 2 _ rfl; have y3 := R9.cell' 3 _ rfl; have y4 := R9.cell' 4 _ rfl; have y5 := R9.cell' 5 _ rfl; have y6 := R9.cell' 6 _ rfl; have y7 := R9.cell' 7 _ rfl; have z0 := R9.free 0; have z1 := R9.free 1; have z2 := R9.free 2; have z3 := R9.free 3; have z4 := R9.free 4; have z5 := R9.free 5; have z6 := R9.free 6; have z7 := R9.free 7)
        have YZ := Lib.hid (set8_blk (v0 := .int .i64 0) (v1 := .int .i64 0) (v2 := .string ⟨#[]⟩) (v3 := .slice none 0 0) (v4 := .slice none 0 0) (v5 := .slice none 0 0) (v6 := .slice none 0 0) (v7 := .slice none 0 0) (R9))
        have NZ := Lib.hid (set8_new (g := w.heap.size) (v0 := .int .i64 0) (v1 := .int .i64 0) (v2 := .string ⟨#[]⟩) (v3 := .slice none 0 0) (v4 := .slice none 0 0) (v5 := .slice none 0 0) (v6 := .slice none 0 0) (v7 := .slice none 0 0) (N9) (Nat.le_refl _))
        go_wp2
        change bodyPost _ _ _ _ _ (set8 w9 w.heap.size (.int .i64 0) (.int .i64 0) (.string ⟨#[]⟩) (.slice none 0 0) (.slice none 0 0) (.slice none 0 0) (.slice none 0 0) (.slice none 0 0))
        generalize (set8 w9 w.heap.size (.int .i64 0) (.int .i64 0) (.string ⟨#[]⟩) (.slice none 0 0) (.slice none 0 0) (.slice none 0 0) (.slice none 0 0) (.slice none 0 0)) = wZ at *
        have e0 := YZ.out.cell' 0 _ rfl
        have e1 := YZ.out.cell' 1 _ rfl
        have e2 := YZ.out.cell' 2 _ rfl
        have e3 := YZ.out.cell' 3 _ rfl
        have e4 := YZ.out.cell' 4 _ rfl
        have e5 := YZ.out.cell' 5 _ rfl
        have e6 := YZ.out.cell' 6 _ rfl
        have e7 := YZ.out.cell' 7 _ rfl
        exact bodyPost_ret (v := .tuple #[.agg #[.int .i64 0, .int .i64 0, .string ⟨#[]⟩, .slice none 0 0, .slice none 0 0, .slice none 0 0, .slice none 0 0, .slice none 0 0], .int .i64 17]) (by simp [results, Tryz.results16, go_sem, e0, e1, e2, e3, e4, e5, e6, e7]) rfl (HNO.out HV.out _ _ rfl NZ.out)
      · skip
        have HV : Hid (X = some ⟨(kd : Nat), (en : Int) - 1, img, pl, fx, im, ex, nt⟩) := Lib.hid (by rw [HX.out, if_pos ⟨h9, rfl⟩])
        simp only [reduceIte] at HCK2
        go_wp2_with (go_at_call 14; (with_reducible refine HCK2.out.mono ?_); rintro e w9 ⟨rfl, k9⟩; have R9 := HE5.out.res.new k9; have N9 := HE5.out.new.trans k9; have G9 := HB9.out.new k9; have y0 := R9.cell' 0 _ rfl; have y1 := R9.cell' 1 _ rfl; have y2 := R9.cell' 2 _ rfl; have y3 := R9.cell' 3 _ rfl; have y4 := R9.cell' 4 _ rfl; have y5 := R9.cell' 5 _ rfl; have y6 := R9.cell' 6 _ rfl; have y7 := R9.cell' 7 _ rfl; have z0 := R9.free 0; have z1 := R9.free 1; have z2 := R9.free 2; have z3 := R9.free 3; have z4 := R9.free 4; have z5 := R9.free 5; have z6 := R9.free 6; have z7 := R9.free 7; have d0 := G9.cell' 0 _ rfl; have d1 := G9.cell' 1 _ rfl; have d2 := G9.cell' 2 _ rfl; have d3 := G9.cell' 3 _ rfl; have d4 := G9.cell' 4 _ rfl; have d5 := G9.cell' 5 _ rfl; have d6 := G9.cell' 6 _ rfl; have d7 := G9.cell' 7 _ rfl)
        have YZ := Lib.hid (set8_blk (v0 := .int .i64 (kd : Nat)) (v1 := .int .i64 ((en : Int) - 1)) (v2 := .string img) (v3 := .slice A1 n1 C1) (v4 := .slice A2 n2 C2) (v5 := .slice A3 n3 C3) (v6 := .slice A4 n4 C4) (v7 := .slice A5 n5 C5) (R9))
        have NZ := Lib.hid (set8_new (g := w.heap.size) (v0 := .int .i64 (kd : Nat)) (v1 := .int .i64 ((en : Int) - 1)) (v2 := .string img) (v3 := .slice A1 n1 C1) (v4 := .slice A2 n2 C2) (v5 := .slice A3 n3 C3) (v6 := .slice A4 n4 C4) (v7 := .slice A5 n5 C5) (N9) (Nat.le_refl _))
        have HBZ : Hid (BRd (set8 w9 w.heap.size (.int .i64 (kd : Nat)) (.int .i64 ((en : Int) - 1)) (.string img) (.slice A1 n1 C1) (.slice A2 n2 C2) (.slice A3 n3 C3) (.slice A4 n4 C4) (.slice A5 n5 C5)) ⟨(kd : Nat), (en : Int) - 1, img, pl, fx, im, ex, nt⟩ ⟨A1, C1, A2, C2, A3, C3, A4, C4, A5, C5⟩) := Lib.hid (by
          obtain ⟨u1, u2, u3⟩ := HBR.out _ HE5.out
          exact set8_brd (u1.new k9) (fun A hA a ha => by have := u2 A hA a ha; omega))
        go_wp2
        change bodyPost _ _ _ _ _ (set8 w9 w.heap.size (.int .i64 (kd : Nat)) (.int .i64 ((en : Int) - 1)) (.string img) (.slice A1 n1 C1) (.slice A2 n2 C2) (.slice A3 n3 C3) (.slice A4 n4 C4) (.slice A5 n5 C5))
        generalize (set8 w9 w.heap.size (.int .i64 (kd : Nat)) (.int .i64 ((en : Int) - 1)) (.string img) (.slice A1 n1 C1) (.slice A2 n2 C2) (.slice A3 n3 C3) (.slice A4 n4 C4) (.slice A5 n5 C5)) = wZ at *
        have e0 := YZ.out.cell' 0 _ rfl
        have e1 := YZ.out.cell' 1 _ rfl
        have e2 := YZ.out.cell' 2 _ rfl
        have e3 := YZ.out.cell' 3 _ rfl
        have e4 := YZ.out.cell' 4 _ rfl
        have e5 := YZ.out.cell' 5 _ rfl
        have e6 := YZ.out.cell' 6 _ rfl
        have e7 := YZ.out.cell' 7 _ rfl
        exact bodyPost_ret (v := .tuple #[.agg #[.int .i64 (kd : Nat), .int .i64 ((en : Int) - 1), .string img, .slice A1 n1 C1, .slice A2 n2 C2, .slice A3 n3 C3, .slice A4 n4 C4, .slice A5 n5 C5], .int .i64 0]) (by simp [results, Tryz.results16, go_sem, e0, e1, e2, e3, e4, e5, e6, e7]) rfl (HYB.out HV.out _ _ rfl HBZ.out NZ.out)
end Go.Proofs.YtnknmpcgbfmfjaaGreatDoor

