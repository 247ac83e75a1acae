/- Words for memory, over any program: a slice that reads as a list of cells; what stays over calls that only make memory. No conditions. A block of cells that is known whole; what stays of it. No conditions. Short names for the walk of a region that draws its order. No conditions. A row of bytes, byte by byte; four zeros copied into it; a string out of it. No conditions. -/
import Derived.WalkKit
import Derived.WalkLawsBesides
import Derived.WalkSpells
import Derived.Below
import Derived.Laws.OwnMore
import Derived.Deep.AppendLies
import Derived.Deep.Draws
import Derived.Laws.Rows
import Derived.Lib.Hide
import Derived.Lib.Strings
import Derived.Deep.RegionHeld3
import Derived.Handy
import Derived.Lib.LazyBuf
import Derived.Lib.ConvBytes
import Derived.Laws.IdiomStrings

namespace Go.Proofs.YtfeknjpinboknaaGreatDoor
open Go.RowKit

def Rd (w : World) (size : Nat) (A : Option Addr) (n : Nat) (xs : List Value) : Prop :=
  xs.length = n * size ∧ (0 < n → ∃ b o, A = some ⟨b, o, none⟩ ∧ b < w.heap.size ∧ ∀ j u, xs[j]? = some u → w.cell? ⟨b, o + j, none⟩ = some u)

section
variable {w w' : World} {size n : Nat} {A : Option Addr} {xs : List Value}
theorem Rd.none_ (A : Option Addr) : Rd w size A 0 [] := ⟨by simp, fun h => absurd h (by omega)⟩
theorem Rd.keep (h : Rd w size A n xs) (hz : w.heap.size ≤ w'.heap.size) (hk : ∀ p : Addr, p.block < w.heap.size → w'.cell? p = w.cell? p) : Rd w' size A n xs :=
  ⟨h.1, fun hn => by
    obtain ⟨b, o, e, hb, hc⟩ := h.2 hn
    exact ⟨b, o, e, by omega, fun j u hu => (hk _ hb).trans (hc j u hu)⟩⟩
theorem Rd.below (h : Rd w size A n xs) (hb : Below w.heap.size w w') : Rd w' size A n xs := h.keep hb.size fun _ hp => hb.cell hp
theorem Rd.drew (h : Rd w size A n xs) : Rd w.drew size A n xs := h
theorem Rd.drewN (h : Rd w size A n xs) (k : Nat) : Rd (w.drewN k) size A n xs := h
theorem Rd.alloc (h : Rd w size A n xs) (o : Obj) : Rd (w.alloc o) size A n xs := h.keep (by simp) fun p hp => World.cell?_alloc_lt w o p hp
theorem Rd.setCell {B : Nat} (h : Rd w size A n xs) {p : Addr} (hA : ∀ a, A = some a → 0 < n → a.block < B) (hp : B ≤ p.block) (u : Value) : Rd (w.setCell p u) size A n xs :=
  ⟨h.1, fun hn => by
    obtain ⟨b, o, e, hb, hc⟩ := h.2 hn
    have := hA _ e hn
    refine ⟨b, o, e, by simpa [World.setCell] using hb, fun j u' hu => ?_⟩
    rw [World.cell?_setCell_other w p ⟨b, o + j, none⟩ u (fun e => by subst e; simp at this hp; omega)]
    exact hc j u' hu⟩
theorem Rd.of_own {base : Nat} {e : TypeId} {c : Nat} (h : w.ownsRow base e size (.slice A n c) n xs) : Rd w size A n xs := by
  refine ⟨h.1, fun hn => ?_⟩
  obtain ⟨g, cap, hv, _, hlt⟩ := h.form hn
  have hA : A = some ⟨g, 0, none⟩ := by injection hv
  subst hA
  refine ⟨g, 0, rfl, hlt, fun j u hu => ?_⟩
  have := h.cells (g := g) rfl j u hu
  have hadd : (⟨g, 0, none⟩ : Addr).add j = ⟨g, 0 + j, none⟩ := by unfold Addr.add; split <;> simp_all
  rw [hadd] at this
  exact this
theorem own_form {base : Nat} {e : TypeId} {v : Value} (h : w.ownsRow base e size v n xs) : ∃ A c, v = .slice A n c ∧ n ≤ c ∧ c ≤ maxLen ∧ Rd w size A n xs := by
  rcases h.2 with ⟨rfl, rfl⟩ | ⟨g, cap, cur, rfl, hg, hh, hnc, hc, _⟩
  · exact ⟨none, 0, rfl, Nat.le_refl _, by simp [maxLen], Rd.of_own h⟩
  · exact ⟨_, cap, rfl, hnc, hc, Rd.of_own h⟩
theorem Rd.cut (h : Rd w size A n xs) {k cap : Nat} (hk : k ≤ n) (hc : n ≤ cap) :
    Rd w size (if cap = k then A else A.map (·.add (k * size))) (n - k) (xs.drop (k * size)) := by
  refine ⟨by rw [List.length_drop, h.1, Nat.sub_mul], fun hn => ?_⟩
  obtain ⟨b, o, rfl, hb, hcell⟩ := h.2 (by omega)
  rw [if_neg (by omega)]
  refine ⟨b, o + k * size, by simp [Addr.add], hb, fun j u hu => ?_⟩
  rw [Nat.add_assoc]
  exact hcell _ u (by rw [← hu, List.getElem?_drop])
theorem Rd.take (h : Rd w size A n xs) {k : Nat} (hk : k ≤ n) : Rd w size A k (xs.take (k * size)) := by
  refine ⟨by rw [List.length_take, h.1]; exact Nat.min_eq_left (Nat.mul_le_mul_right _ hk), fun hn => ?_⟩
  obtain ⟨b, o, rfl, hb, hcell⟩ := h.2 (by omega)
  refine ⟨b, o, rfl, hb, fun j u hu => hcell _ u ?_⟩
  rw [List.getElem?_take] at hu
  split at hu
  · exact hu
  · cases hu
end

abbrev New (w w' : World) : Prop := Below w.heap.size w w'
theorem New.refl (w : World) : New w w := Below.refl _ _
theorem New.trans {a b c : World} (h : New a b) (k : New b c) : New a c := Below.trans h (k.mono h.size)
theorem New.alloc {a w : World} (h : New a w) (o : Obj) : New a (w.alloc o) := Below.alloc h h.size o
theorem New.drew {a w : World} (h : New a w) : New a w.drew := Below.drew h
theorem New.drewN {a w : World} (h : New a w) (n : Nat) : New a (w.drewN n) := ⟨h.os, h.tape, h.output, h.size, h.block⟩
theorem New.setCell {a w : World} (h : New a w) {p : Addr} (hp : a.heap.size ≤ p.block) (u : Value) : New a (w.setCell p u) := Below.setCell h hp u

theorem New.grown_ {a w : World} (h : New a w) (row : Option Nat) : a.grownBy w row := ⟨h.os, h.tape, h.output, h.size, fun k hk _ => h.block k hk⟩

theorem New.facts {W w1 : World} (hb : New W w1) : (∀ b o, b < W.heap.size → w1.cell? ⟨b, o, none⟩ = W.cell? ⟨b, o, none⟩) ∧ (∀ b o, b < W.heap.size → w1.frozen? ⟨b, o, none⟩ = W.frozen? ⟨b, o, none⟩) :=
  ⟨fun b o h => hb.cell (p := ⟨b, o, none⟩) h, fun b o h => hb.frozen (p := ⟨b, o, none⟩) h⟩

def S (l : List UInt8) : ByteArray := ⟨l.toArray⟩
theorem S_data (s : ByteArray) : S s.data.toList = s := Lib.mk_data s
theorem data_S (l : List UInt8) : (S l).data.toList = l := rfl
theorem size_S (l : List UInt8) : (S l).size = l.length := by simp [S, ByteArray.size]
theorem S_inj {a b : List UInt8} (h : S a = S b) : a = b := by have := congrArg (fun s : ByteArray => s.data.toList) h; simpa [S] using this
theorem extract_S (s : ByteArray) (a b : Nat) : s.extract a b = S ((s.data.toList.drop a).take (b - a)) := Lib.extract_eq s a b
theorem size_eq (s : ByteArray) : s.size = s.data.toList.length := Lib.size_eq s
theorem bytes_ext {a b : ByteArray} (h : a.data.toList = b.data.toList) : a = b := by rw [← S_data a, ← S_data b, h]
theorem get_eq (s : ByteArray) (k : Nat) (h : k < s.size) : s[k] = s.data.toList[k]'(by rw [← size_eq]; exact h) := by
  rw [Array.getElem_toList]; rfl
theorem toList_eq (s : ByteArray) : s.toList = s.data.toList := Lib.toList_data s

end Go.Proofs.YtfeknjpinboknaaGreatDoor

namespace Go.Proofs.YtfeknjpinboknaaGreatDoor
open Go Go.RowKit

def Blk (w : World) (g : Nat) (t : TypeId) (cs : Array Value) : Prop := w.heap[g]? = some (.cells cs t (0, 0))
section
variable {w w' : World} {g : Nat} {t : TypeId} {cs : Array Value}
theorem Blk.lt (h : Blk w g t cs) : g < w.heap.size := (Array.getElem?_eq_some_iff.1 h).1
theorem Blk.cell (h : Blk w g t cs) (i : Nat) : w.cell? ⟨g, i, none⟩ = cs[i]? := cell_of_row w g i cs t (0, 0) h
theorem Blk.cell' (h : Blk w g t cs) (i : Nat) (v : Value) (e : cs[i]? = some v) : w.cell? ⟨g, i, none⟩ = some v := (h.cell i).trans e
theorem Blk.free (h : Blk w g t cs) (i : Nat) : w.frozen? ⟨g, i, none⟩ = false := by
  unfold Blk at h
  simp [World.frozen?, h]
theorem Blk.made (w : World) (t : TypeId) (cs : Array Value) : Blk (w.alloc (.cells cs t)) w.heap.size t cs := heap_alloc_new w _
theorem Blk.drew (h : Blk w g t cs) : Blk w.drew g t cs := h
theorem Blk.alloc (h : Blk w g t cs) (o : Obj) : Blk (w.alloc o) g t cs := (Below.heap_alloc w o g h.lt).trans h
theorem Blk.put (h : Blk w g t cs) (i : Nat) (u : Value) : Blk (w.setCell ⟨g, i, none⟩ u) g t (cs.setIfInBounds i u) := by
  unfold Blk at h ⊢
  simp [World.setCell, Array.getElem?_modify, h]
theorem Blk.far (h : Blk w g t cs) {p : Addr} (hp : g ≠ p.block) (u : Value) : Blk (w.setCell p u) g t cs := (Below.heap_setCell w p u g hp).trans h
theorem Blk.below {B : Nat} (h : Blk w g t cs) (hb : Below B w w') (hg : g < B) : Blk w' g t cs := (hb.block g hg).trans h
theorem Blk.new (h : Blk w g t cs) (hb : New w w') : Blk w' g t cs := h.below hb h.lt
theorem Blk.grown (h : Blk w g t cs) {row : Option Nat} (hb : w.grownBy w' row) (hg : some g ≠ row) : Blk w' g t cs := (hb.block g h.lt hg).trans h
theorem Blk.others (h : Blk w g t cs) {row : Option Nat} (hb : w.grownBy w' row) (hr : ∀ r, row = some r → ∃ o : Obj, w.heap[r]? = some o ∧ (∀ c e f, o ≠ .cells c e f)) : Blk w' g t cs :=
  h.grown hb (fun e => by
    obtain ⟨o, ho, hn⟩ := hr g e.symm
    unfold Blk at h
    rw [h] at ho
    exact hn _ _ _ (Option.some.inj ho).symm)
theorem Blk.same {cs' : Array Value} (h : Blk w g t cs) (e : cs = cs') : Blk w g t cs' := e ▸ h
end
theorem below_setCell' {B : Nat} {a w : World} (h : Below B a w) {p : Addr} (hp : B ≤ p.block) (u : Value) : Below B a (w.setCell p u) := Below.setCell h hp u
end Go.Proofs.YtfeknjpinboknaaGreatDoor

namespace Go.Proofs.YtfeknjpinboknaaGreatDoor
open Go
theorem gqA {α : Type} {l : List α} {i : Nat} : l.toArray[i]? = l[i]? := List.getElem?_toArray
theorem gqB {α : Type} {a : α} {l : List α} {i : Nat} : (a :: l)[i + 1]? = l[i]? := List.getElem?_cons_succ
theorem gqC {α : Type} {a : α} {l : List α} : (a :: l)[0]? = some a := List.getElem?_cons_zero
theorem tkQ {P : Program} {ops : Array Oper} {Q : Exit → Act → World → Prop} {md : Region.Mode} {S : World → Prop} {i : Nat} {oi : Oper} {v : Value} {fuel : Nat} {listed : Array Bool} {a : Act} {w : World} (hi : ops[i]? = some oi)
    (hQ : ∀ c a w, Q (.panic c) (a.put oi.dst v) w → Q (.panic c) a w) (hy : YieldsIf P ops S oi v a) (hS : S w)
    (h : wpAnyH P md ops Q S fuel (listed.setIfInBounds i true) (a.put oi.dst v) w) (hs : Region.noSelect ops = true := by kernel_rfl) (hf : Region.free md ops listed i = true := by kernel_rfl) (hr : (Region.ready md ops listed).contains i = true := by kernel_rfl) : wpAnyH P md ops Q S (fuel + 1) listed a w := wpAnyH_take hi hs hf hr hQ hy hS h
theorem gqD {α : Type} {l : List α} {i : Nat} {a : α} : l.toArray.setIfInBounds i a = (l.set i a).toArray := List.setIfInBounds_toArray ..
theorem gqE {α : Type} {a b : α} {l : List α} : (a :: l).set 0 b = b :: l := List.set_cons_zero
theorem gqF {α : Type} {a b : α} {l : List α} {i : Nat} : (a :: l).set (i + 1) b = a :: l.set i b := List.set_cons_succ
section
variable {P : Program} {ops : Array Oper} {Q : Exit → Act → World → Prop} {md : Region.Mode} {S : World → Prop} {fuel : Nat} {listed : Array Bool} {a : Act} {w : World}
theorem tkT (i : Nat) {oi : Oper} {v : Value} (hS : S w) (hy : ∀ wq, S wq → (execOp a.eval oi).run P wq = .ok (.value v) wq)
    (h : wpAnyH P md ops Q S fuel (listed.setIfInBounds i true) (a.put oi.dst v) w) (hi : ops[i]? = some oi := by simp only [gqA, gqB, gqC]; rfl)
    (hQ : ∀ c a w, Q (.panic c) (a.put oi.dst v) w → Q (.panic c) a w := by exact fun _ _ _ h => h) (hw : Region.wanted oi (yielded ops a.tmps) = true := by kernel_rfl)
    (hs : Region.noSelect ops = true := by kernel_rfl) (hf : Region.free md ops listed i = true := by kernel_rfl) (hr : (Region.ready md ops listed).contains i = true := by kernel_rfl) : wpAnyH P md ops Q S (fuel + 1) listed a w := wpAnyH_take hi hs hf hr hQ (Or.inl ⟨hw, hy⟩) hS h
theorem tkU (i : Nat) {oi : Oper} (hS : S w)
    (h : wpAnyH P md ops Q S fuel (listed.setIfInBounds i true) (a.put oi.dst undef) w) (hi : ops[i]? = some oi := by simp only [gqA, gqB, gqC]; rfl)
    (hQ : ∀ c a w, Q (.panic c) (a.put oi.dst undef) w → Q (.panic c) a w := by exact fun _ _ _ h => h) (hw : Region.wanted oi (yielded ops a.tmps) = false := by kernel_rfl)
    (hs : Region.noSelect ops = true := by kernel_rfl) (hf : Region.free md ops listed i = true := by kernel_rfl) (hr : (Region.ready md ops listed).contains i = true := by kernel_rfl) : wpAnyH P md ops Q S (fuel + 1) listed a w := wpAnyH_take hi hs hf hr hQ (Or.inr ⟨hw, rfl⟩) hS h
end
end Go.Proofs.YtfeknjpinboknaaGreatDoor

namespace Go.Proofs.YtfeknjpinboknaaGreatDoor
open Go Go.RowKit

def BRow (w : World) (g n : Nat) (f : Nat → UInt8) : Prop := g < w.heap.size ∧ ∀ j, j < n → w.cell? ⟨g, j, none⟩ = some (.int .u8 ((f j).toNat : Int)) ∧ w.frozen? ⟨g, j, none⟩ = false
theorem BRow.new {w w' : World} {g n : Nat} {f : Nat → UInt8} (h : BRow w g n f) (hn : New w w') : BRow w' g n f :=
  ⟨by have := hn.size; have := h.1; omega, fun j hj => ⟨(hn.cell (p := ⟨g, j, none⟩) h.1).trans (h.2 j hj).1, (hn.frozen (p := ⟨g, j, none⟩) h.1).trans (h.2 j hj).2⟩⟩
theorem BRow.congr {w : World} {g n : Nat} {f f' : Nat → UInt8} (h : BRow w g n f) (e : ∀ j, j < n → f j = f' j) : BRow w g n f' :=
  ⟨h.1, fun j hj => by rw [← e j hj]; exact h.2 j hj⟩
theorem BRow.made (w : World) (e : TypeId) (s : ByteArray) : BRow (Lib.bytesWorld w e s) w.heap.size s.size (fun j => s.data.toList.getD j 0) := by
  refine ⟨by rw [Lib.bytesWorld_size]; omega, fun j hj => ⟨Lib.bytesWorld_cell w e s j hj, ?_⟩⟩
  have hb := Lib.bytesWorld_at_new w e s
  have hz : s.size ≤ (Lib.bytesCells w e s).size := by
    unfold Lib.bytesCells
    rw [Array.size_append, Array.size_map]
    show s.data.size ≤ _
    omega
  unfold World.frozen?
  rw [hb]
  simp
  omega
def zero4 : List Value := [.int .u8 0, .int .u8 0, .int .u8 0, .int .u8 0]
theorem zero4_at (k : Nat) (hk : k < zero4.length) : zero4[k] = .int .u8 0 := by
  have h4 : k < 4 := hk
  match k, h4 with
  | 0, _ => rfl
  | 1, _ => rfl
  | 2, _ => rfl
  | 3, _ => rfl
theorem BRow.zap {w : World} {g n : Nat} {f : Nat → UInt8} (h : BRow w g n f) (a : Nat) (ha : a + 4 ≤ n) : BRow (w.setCells g a zero4) g n (fun j => if a ≤ j ∧ j < a + 4 then 0 else f j) := by
  have hsz : ∀ (vs : List Value) (o : Nat) (w : World), (w.setCells g o vs).heap.size = w.heap.size := by
    intro vs
    induction vs with
    | nil => intro o w; rfl
    | cons v r ih => intro o w; rw [World.setCells, ih]; simp [World.setCell]
  refine ⟨by rw [hsz]; exact h.1, fun j hj => ⟨?_, by rw [World.frozen?_setCells]; exact (h.2 j hj).2⟩⟩
  have hin : ∀ k, k < zero4.length → (w.cell? ⟨g, a + k, none⟩).isSome = true := fun k hk => by
    rw [(h.2 (a + k) (by have : zero4.length = 4 := rfl; omega)).1]; rfl
  by_cases hc : a ≤ j ∧ j < a + 4
  · have := World.cell?_setCells_in g zero4 a w hin (j - a) (by have : zero4.length = 4 := rfl; omega)
    rw [show a + (j - a) = j by omega] at this
    rw [this]
    simp only [hc, and_self, if_true]
    rw [zero4_at]
    rfl
  · rw [World.cell?_setCells_out g zero4 a w ⟨g, j, none⟩ (fun _ _ => by have : zero4.length = 4 := rfl; simp only; omega)]
    simp only [hc, if_false]
    exact (h.2 j hj).1
theorem zap_below {B g a : Nat} {w0 w : World} (h : Below B w0 w) (hg : B ≤ g) : Below B w0 (w.setCells g a zero4) := below_setCells hg _ _ _ h
theorem zap_blk {w : World} {g a b : Nat} {t : TypeId} {cs : Array Value} (h : Blk w b t cs) (hne : b ≠ g) : Blk (w.setCells g a zero4) b t cs := by
  have : ∀ (vs : List Value) (o : Nat) (w : World), Blk w b t cs → Blk (w.setCells g o vs) b t cs := by
    intro vs
    induction vs with
    | nil => intro o w h; exact h
    | cons v r ih => intro o w h; exact ih (o + 1) _ (h.far (by exact hne) v)
  exact this _ _ _ h
theorem run_zap {P : Program} {w : World} {g n : Nat} {f : Nat → UInt8} (h : BRow w g n f) (dT sT ty e : TypeId) (a dLen dCap : Nat) (hu : P.underlying dT = some (.slice e)) (hz : ∀ w, (Go.sizeOf e).run P w = .ok 1 w) (ha : a + 4 ≤ n) (hd : 4 ≤ dLen) :
    (Builtin.copy_ #[dT, sT] ty #[.slice (some ⟨g, a, none⟩) dLen dCap, .string ⟨#[0, 0, 0, 0]⟩]).run P w = .ok (goInt 4) (w.setCells g a zero4) := by
  have := run_copy_string (P := P) w dT sT ty e g a dLen dCap ⟨#[0, 0, 0, 0]⟩ hu hz (by show 4 ≤ dLen; exact hd)
    (fun j hj => by
      have hj4 : j < 4 := hj
      rw [(h.2 (a + j) (by omega)).1]; rfl)
    (fun j hj => by
      have hj4 : j < 4 := hj
      exact (h.2 (a + j) (by omega)).2)
  exact this
theorem run_string {P : Program} {w : World} {g n : Nat} {f : Nat → UInt8} (h : BRow w g n f) (src dst e : TypeId) (o m cap : Nat) (hs : P.underlying src = some (.slice e)) (he : P.underlying e = some (.int .u8)) (hd : P.underlying dst = some .string) (hm : o + m ≤ n) :
    (convert src dst (.slice (some ⟨g, o, none⟩) m cap)).run P w = .ok (.string (S ((List.range m).map fun j => f (o + j)))) w := by
  have hl : ((List.range m).map fun j => f (o + j)).length = m := by simp
  have := run_convert_bytes_back (P := P) w src dst e ⟨g, o, none⟩ cap ((List.range m).map fun j => f (o + j)) hs he hd (fun j hj => by
    have hj2 : j < m := by rw [hl] at hj; exact hj
    have hadd : (⟨g, o, none⟩ : Addr).add j = ⟨g, o + j, none⟩ := by unfold Addr.add; split <;> simp_all
    rw [hadd, (h.2 (o + j) (by omega)).1]
    simp)
  rw [hl] at this
  exact this
end Go.Proofs.YtfeknjpinboknaaGreatDoor

