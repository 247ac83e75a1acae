/- Words for memory, over any program: a slice that reads as a list of cells; what stays over calls that only make memory. No conditions. A block of cells that is known whole; what stays of it. No conditions. A map whose values are all true, that the call has made: a set of keys, over any program. No conditions. Short names for the walk of a region that draws its order. No conditions. -/
import Derived.WalkKit
import Derived.WalkLawsBesides
import Derived.WalkSpells
import Derived.Below
import Derived.Laws.OwnMore
import Derived.Deep.AppendLies
import Derived.Deep.Draws
import Derived.Laws.Rows
import Derived.Lib.Hide
import Derived.Lib.Strings
import Derived.Maps.OwnSet
import Derived.Maps.OwnOps
import Derived.Deep.RegionHeld3
import Derived.Handy

namespace Go.Proofs.YtnknmpcgbfmfjaaGreatDoor
open Go.RowKit

def Rd (w : World) (size : Nat) (A : Option Addr) (n : Nat) (xs : List Value) : Prop :=
  xs.length = n * size ∧ (0 < n → ∃ b o, A = some ⟨b, o, none⟩ ∧ b < w.heap.size ∧ ∀ j u, xs[j]? = some u → w.cell? ⟨b, o + j, none⟩ = some u)

section
variable {w w' : World} {size n : Nat} {A : Option Addr} {xs : List Value}
theorem Rd.none_ (A : Option Addr) : Rd w size A 0 [] := ⟨by simp, fun h => absurd h (by omega)⟩
theorem Rd.keep (h : Rd w size A n xs) (hz : w.heap.size ≤ w'.heap.size) (hk : ∀ p : Addr, p.block < w.heap.size → w'.cell? p = w.cell? p) : Rd w' size A n xs :=
  ⟨h.1, fun hn => by
    obtain ⟨b, o, e, hb, hc⟩ := h.2 hn
    exact ⟨b, o, e, by omega, fun j u hu => (hk _ hb).trans (hc j u hu)⟩⟩
theorem Rd.below (h : Rd w size A n xs) (hb : Below w.heap.size w w') : Rd w' size A n xs := h.keep hb.size fun _ hp => hb.cell hp
theorem Rd.drew (h : Rd w size A n xs) : Rd w.drew size A n xs := h
theorem Rd.drewN (h : Rd w size A n xs) (k : Nat) : Rd (w.drewN k) size A n xs := h
theorem Rd.alloc (h : Rd w size A n xs) (o : Obj) : Rd (w.alloc o) size A n xs := h.keep (by simp) fun p hp => World.cell?_alloc_lt w o p hp
theorem Rd.setCell {B : Nat} (h : Rd w size A n xs) {p : Addr} (hA : ∀ a, A = some a → 0 < n → a.block < B) (hp : B ≤ p.block) (u : Value) : Rd (w.setCell p u) size A n xs :=
  ⟨h.1, fun hn => by
    obtain ⟨b, o, e, hb, hc⟩ := h.2 hn
    have := hA _ e hn
    refine ⟨b, o, e, by simpa [World.setCell] using hb, fun j u' hu => ?_⟩
    rw [World.cell?_setCell_other w p ⟨b, o + j, none⟩ u (fun e => by subst e; simp at this hp; omega)]
    exact hc j u' hu⟩
theorem Rd.of_own {base : Nat} {e : TypeId} {c : Nat} (h : w.ownsRow base e size (.slice A n c) n xs) : Rd w size A n xs := by
  refine ⟨h.1, fun hn => ?_⟩
  obtain ⟨g, cap, hv, _, hlt⟩ := h.form hn
  have hA : A = some ⟨g, 0, none⟩ := by injection hv
  subst hA
  refine ⟨g, 0, rfl, hlt, fun j u hu => ?_⟩
  have := h.cells (g := g) rfl j u hu
  have hadd : (⟨g, 0, none⟩ : Addr).add j = ⟨g, 0 + j, none⟩ := by unfold Addr.add; split <;> simp_all
  rw [hadd] at this
  exact this
theorem own_form {base : Nat} {e : TypeId} {v : Value} (h : w.ownsRow base e size v n xs) : ∃ A c, v = .slice A n c ∧ n ≤ c ∧ c ≤ maxLen ∧ Rd w size A n xs := by
  rcases h.2 with ⟨rfl, rfl⟩ | ⟨g, cap, cur, rfl, hg, hh, hnc, hc, _⟩
  · exact ⟨none, 0, rfl, Nat.le_refl _, by simp [maxLen], Rd.of_own h⟩
  · exact ⟨_, cap, rfl, hnc, hc, Rd.of_own h⟩
theorem Rd.cut (h : Rd w size A n xs) {k cap : Nat} (hk : k ≤ n) (hc : n ≤ cap) :
    Rd w size (if cap = k then A else A.map (·.add (k * size))) (n - k) (xs.drop (k * size)) := by
  refine ⟨by rw [List.length_drop, h.1, Nat.sub_mul], fun hn => ?_⟩
  obtain ⟨b, o, rfl, hb, hcell⟩ := h.2 (by omega)
  rw [if_neg (by omega)]
  refine ⟨b, o + k * size, by simp [Addr.add], hb, fun j u hu => ?_⟩
  rw [Nat.add_assoc]
  exact hcell _ u (by rw [← hu, List.getElem?_drop])
theorem Rd.take (h : Rd w size A n xs) {k : Nat} (hk : k ≤ n) : Rd w size A k (xs.take (k * size)) := by
  refine ⟨by rw [List.length_take, h.1]; exact Nat.min_eq_left (Nat.mul_le_mul_right _ hk), fun hn => ?_⟩
  obtain ⟨b, o, rfl, hb, hcell⟩ := h.2 (by omega)
  refine ⟨b, o, rfl, hb, fun j u hu => hcell _ u ?_⟩
  rw [List.getElem?_take] at hu
  split at hu
  · exact hu
  · cases hu
end

abbrev New (w w' : World) : Prop := Below w.heap.size w w'
theorem New.refl (w : World) : New w w := Below.refl _ _
theorem New.trans {a b c : World} (h : New a b) (k : New b c) : New a c := Below.trans h (k.mono h.size)
theorem New.alloc {a w : World} (h : New a w) (o : Obj) : New a (w.alloc o) := Below.alloc h h.size o
theorem New.drew {a w : World} (h : New a w) : New a w.drew := Below.drew h
theorem New.drewN {a w : World} (h : New a w) (n : Nat) : New a (w.drewN n) := ⟨h.os, h.tape, h.output, h.size, h.block⟩
theorem New.setCell {a w : World} (h : New a w) {p : Addr} (hp : a.heap.size ≤ p.block) (u : Value) : New a (w.setCell p u) := Below.setCell h hp u

theorem New.grown_ {a w : World} (h : New a w) (row : Option Nat) : a.grownBy w row := ⟨h.os, h.tape, h.output, h.size, fun k hk _ => h.block k hk⟩

theorem New.facts {W w1 : World} (hb : New W w1) : (∀ b o, b < W.heap.size → w1.cell? ⟨b, o, none⟩ = W.cell? ⟨b, o, none⟩) ∧ (∀ b o, b < W.heap.size → w1.frozen? ⟨b, o, none⟩ = W.frozen? ⟨b, o, none⟩) :=
  ⟨fun b o h => hb.cell (p := ⟨b, o, none⟩) h, fun b o h => hb.frozen (p := ⟨b, o, none⟩) h⟩

def S (l : List UInt8) : ByteArray := ⟨l.toArray⟩
theorem S_data (s : ByteArray) : S s.data.toList = s := Lib.mk_data s
theorem data_S (l : List UInt8) : (S l).data.toList = l := rfl
theorem size_S (l : List UInt8) : (S l).size = l.length := by simp [S, ByteArray.size]
theorem S_inj {a b : List UInt8} (h : S a = S b) : a = b := by have := congrArg (fun s : ByteArray => s.data.toList) h; simpa [S] using this
theorem extract_S (s : ByteArray) (a b : Nat) : s.extract a b = S ((s.data.toList.drop a).take (b - a)) := Lib.extract_eq s a b
theorem size_eq (s : ByteArray) : s.size = s.data.toList.length := Lib.size_eq s
theorem bytes_ext {a b : ByteArray} (h : a.data.toList = b.data.toList) : a = b := by rw [← S_data a, ← S_data b, h]
theorem get_eq (s : ByteArray) (k : Nat) (h : k < s.size) : s[k] = s.data.toList[k]'(by rw [← size_eq]; exact h) := by
  rw [Array.getElem_toList]; rfl
theorem toList_eq (s : ByteArray) : s.toList = s.data.toList := Lib.toList_data s

end Go.Proofs.YtnknmpcgbfmfjaaGreatDoor

namespace Go.Proofs.YtnknmpcgbfmfjaaGreatDoor
open Go Go.RowKit

def Blk (w : World) (g : Nat) (t : TypeId) (cs : Array Value) : Prop := w.heap[g]? = some (.cells cs t (0, 0))
section
variable {w w' : World} {g : Nat} {t : TypeId} {cs : Array Value}
theorem Blk.lt (h : Blk w g t cs) : g < w.heap.size := (Array.getElem?_eq_some_iff.1 h).1
theorem Blk.cell (h : Blk w g t cs) (i : Nat) : w.cell? ⟨g, i, none⟩ = cs[i]? := cell_of_row w g i cs t (0, 0) h
theorem Blk.cell' (h : Blk w g t cs) (i : Nat) (v : Value) (e : cs[i]? = some v) : w.cell? ⟨g, i, none⟩ = some v := (h.cell i).trans e
theorem Blk.free (h : Blk w g t cs) (i : Nat) : w.frozen? ⟨g, i, none⟩ = false := by
  unfold Blk at h
  simp [World.frozen?, h]
theorem Blk.made (w : World) (t : TypeId) (cs : Array Value) : Blk (w.alloc (.cells cs t)) w.heap.size t cs := heap_alloc_new w _
theorem Blk.drew (h : Blk w g t cs) : Blk w.drew g t cs := h
theorem Blk.alloc (h : Blk w g t cs) (o : Obj) : Blk (w.alloc o) g t cs := (Below.heap_alloc w o g h.lt).trans h
theorem Blk.put (h : Blk w g t cs) (i : Nat) (u : Value) : Blk (w.setCell ⟨g, i, none⟩ u) g t (cs.setIfInBounds i u) := by
  unfold Blk at h ⊢
  simp [World.setCell, Array.getElem?_modify, h]
theorem Blk.far (h : Blk w g t cs) {p : Addr} (hp : g ≠ p.block) (u : Value) : Blk (w.setCell p u) g t cs := (Below.heap_setCell w p u g hp).trans h
theorem Blk.below {B : Nat} (h : Blk w g t cs) (hb : Below B w w') (hg : g < B) : Blk w' g t cs := (hb.block g hg).trans h
theorem Blk.new (h : Blk w g t cs) (hb : New w w') : Blk w' g t cs := h.below hb h.lt
theorem Blk.grown (h : Blk w g t cs) {row : Option Nat} (hb : w.grownBy w' row) (hg : some g ≠ row) : Blk w' g t cs := (hb.block g h.lt hg).trans h
theorem Blk.others (h : Blk w g t cs) {row : Option Nat} (hb : w.grownBy w' row) (hr : ∀ r, row = some r → ∃ o : Obj, w.heap[r]? = some o ∧ (∀ c e f, o ≠ .cells c e f)) : Blk w' g t cs :=
  h.grown hb (fun e => by
    obtain ⟨o, ho, hn⟩ := hr g e.symm
    unfold Blk at h
    rw [h] at ho
    exact hn _ _ _ (Option.some.inj ho).symm)
theorem Blk.same {cs' : Array Value} (h : Blk w g t cs) (e : cs = cs') : Blk w g t cs' := e ▸ h
end
theorem below_setCell' {B : Nat} {a w : World} (h : Below B a w) {p : Addr} (hp : B ≤ p.block) (u : Value) : Below B a (w.setCell p u) := Below.setCell h hp u
end Go.Proofs.YtnknmpcgbfmfjaaGreatDoor

namespace Go.Proofs.YtnknmpcgbfmfjaaGreatDoor
open Go Go.RowKit
set_option linter.unusedSimpArgs false
set_option linter.unusedVariables false

def KDesc (D : DataW Unit) (L : List Lit) : Prop := (∀ kl, Maps.has D kl = true ↔ kl ∈ L) ∧ ∀ kl z, Maps.has D kl = true → D.atKey kl z = .lit (.bool true)
theorem kdesc_none : KDesc (.map []) [] := ⟨fun kl => by rw [Maps.has_eq]; simp, fun kl z h => by simp [Maps.has_eq] at h⟩
theorem kdesc_put {D : DataW Unit} {L : List Lit} (hm : Maps.IsMap D) (h : KDesc D L) {k : Lit} (hI : WideAt.IsKeyLit k) : KDesc (D.put k (.lit (.bool true))) (k :: L) := by
  refine ⟨fun kl => ?_, fun kl z hh => ?_⟩
  · by_cases e : kl = k
    · subst e
      rw [Maps.has_put_same hm hI]; simp
    · rw [Maps.has_put_other e, h.1, List.mem_cons]
      exact ⟨Or.inr, fun q => q.resolve_left e⟩
  · by_cases e : kl = k
    · subst e
      rw [Maps.atKey_put_same hm hI]
    · rw [Maps.atKey_put_other e]
      rw [Maps.has_put_other e] at hh
      exact h.2 kl z hh
structure KType (P : Program) (mt kt bt : TypeId) : Prop where
  key : Maps.Keyed P kt
  und : P.underlying mt = some (.map kt bt)
  bool : P.underlying bt = some .bool
  zero : ∀ w, (zeroValue bt).run P w = .ok (.bool false) w
def KSet (P : Program) (kt bt : TypeId) (w : World) (b n : Nat) (L : List Lit) : Prop := ∃ D, w.ownsMap P kt (plainElem (H := Unit) P bt) b n D ∧ KDesc D L
section
variable {P : Program} {mt kt bt : TypeId} {w w' : World} {b n : Nat} {L : List Lit}
theorem KSet.made (w : World) : KSet P kt bt (w.alloc (.map #[] 0)) w.heap.size 0 [] := ⟨_, World.ownsMap_made w _ _ _, kdesc_none⟩
theorem KSet.kept {row : Option Nat} (h : KSet P kt bt w b n L) (hg : w.grownBy w' row) (hne : some b ≠ row) : KSet P kt bt w' b n L := let ⟨D, h1, h2⟩ := h; ⟨D, h1.kept hg hne, h2⟩
theorem KSet.new (h : KSet P kt bt w b n L) (hn : New w w') : KSet P kt bt w' b n L := h.kept (hn.grown_ none) (by simp)
theorem KSet.lt (h : KSet P kt bt w b n L) : b < w.heap.size := let ⟨_, h1, _⟩ := h; h1.lt
theorem kbool_inv (hb : P.underlying bt = some .bool) {v : Value} {z : DataW Unit × List MemPlace} (h : plainElem P bt v = some z) : ∃ x, v = .bool x ∧ z = (.lit (.bool x), []) := by
  unfold plainElem at h
  rw [hb] at h
  cases v <;> simp at h
  exact ⟨_, rfl, h.symm⟩
theorem KSet.look (T : KType P mt kt bt) (h : KSet P kt bt w b n L) {v : Value} {kl : Lit} (hk : keyOf P kt v = some kl) (bb : Bool) (hbb : bb = true ↔ kl ∈ L) : (Instr.lookup mt (.map (some b)) v false).run P w = .ok (.bool bb) w := by
  obtain ⟨D, hown, hd⟩ := h
  obtain ⟨u, ps, hrun, hv⟩ := hown.lookup T.key T.und (T.zero w) (plainElem_bool T.bool false) hk
  obtain ⟨x, rfl, hx⟩ := kbool_inv T.bool hv
  simp only [Prod.mk.injEq] at hx
  have h1 := hd.1 kl
  have : x = bb := by
    cases hT : Maps.has D kl
    · have := Maps.atKey_of_not_has hT (.lit (.bool false))
      rw [this] at hx
      injection hx.1 with e; injection e with e
      have : bb = false := by
        cases bb with
        | false => rfl
        | true => have := h1.2 (hbb.1 rfl); rw [hT] at this; cases this
      rw [this, ← e]
    · have := hd.2 _ (.lit (.bool false)) hT
      rw [this] at hx
      injection hx.1 with e; injection e with e
      rw [← e, hbb.2 (h1.1 hT)]
  rw [← this]
  exact hrun
theorem KSet.put (T : KType P mt kt bt) (h : KSet P kt bt w b n L) (hn : n < maxLen) {v : Value} {kl : Lit} (hk : keyOf P kt v = some kl) : ∃ w', (Instr.mapUpdate mt (.map (some b)) v (.bool true)).run P w = .ok () w' ∧ KSet P kt bt w' b (n + 1) (kl :: L) ∧ w.grownBy w' (some b) := by
  obtain ⟨D, hown, hd⟩ := h
  obtain ⟨w', r1, r2, r3⟩ := hown.update T.key T.und hn hk (plainElem_bool T.bool true)
  exact ⟨w', r1, ⟨_, r2, kdesc_put hown.isMap hd (T.key.key hk)⟩, r3⟩
end
section
variable {P : Program} {mt kt bt : TypeId} (w : World) {ops : Array Oper} {rest : List Oper} {o : Oper} {a : Act} {Q : Exit → Act → World → Prop}
theorem wpList_kput (T : KType P mt kt bt) (hg : o.guard = none) (m x v : Operand) (hop : o.op = Op.insert mt m x v ∨ o.op = Op.mapUpdate mt m x v) (b n : Nat) (L : List Lit) (hm : a.eval m = .map (some b)) (h : KSet P kt bt w b n L) (hn : n < maxLen) (u : Value) (kl : Lit)
    (hk : keyOf P kt u = some kl) (hx : a.eval x = u) (hv : a.eval v = .bool true) (hK : ∀ w', KSet P kt bt w' b (n + 1) (kl :: L) → w.grownBy w' (some b) → wpList P ops Q rest (a.put o.dst undef) w') :
    wpList P ops Q (o :: rest) a w := by
  refine wpList_plain hg fun K' hK' => ?_
  obtain ⟨w', hrun, r1, r2⟩ := h.put T hn hk
  unfold Oper.wp
  rcases hop with hop | hop
  · simp [execOp, hop, hm, hx, hv, hrun, Result.andThen]
    exact hK' _ _ (hK w' r1 r2)
  · simp [execOp, hop, hm, hx, hv, hrun, Result.andThen]
    exact hK' _ _ (hK w' r1 r2)
theorem wpList_klook (T : KType P mt kt bt) (hg : o.guard = none) (m x : Operand) (hop : o.op = Op.lookup mt m x false) (b n : Nat) (L : List Lit) (hm : a.eval m = .map (some b)) (h : KSet P kt bt w b n L) (u : Value) (kl : Lit) (hk : keyOf P kt u = some kl)
    (bb : Bool) (hbb : bb = true ↔ kl ∈ L) (hx : a.eval x = u) (hK : wpList P ops Q rest (a.put o.dst (.bool bb)) w) :
    wpList P ops Q (o :: rest) a w := by
  refine wpList_plain hg fun K' hK' => ?_
  have hrun := h.look T hk bb hbb
  unfold Oper.wp
  simp [execOp, hop, hm, hx, hrun, Result.andThen]
  exact hK' _ _ hK
end
end Go.Proofs.YtnknmpcgbfmfjaaGreatDoor

namespace Go.Proofs.YtnknmpcgbfmfjaaGreatDoor
open Go
theorem gqA {α : Type} {l : List α} {i : Nat} : l.toArray[i]? = l[i]? := List.getElem?_toArray
theorem gqB {α : Type} {a : α} {l : List α} {i : Nat} : (a :: l)[i + 1]? = l[i]? := List.getElem?_cons_succ
theorem gqC {α : Type} {a : α} {l : List α} : (a :: l)[0]? = some a := List.getElem?_cons_zero
theorem tkQ {P : Program} {ops : Array Oper} {Q : Exit → Act → World → Prop} {md : Region.Mode} {S : World → Prop} {i : Nat} {oi : Oper} {v : Value} {fuel : Nat} {listed : Array Bool} {a : Act} {w : World} (hi : ops[i]? = some oi)
    (hQ : ∀ c a w, Q (.panic c) (a.put oi.dst v) w → Q (.panic c) a w) (hy : YieldsIf P ops S oi v a) (hS : S w)
    (h : wpAnyH P md ops Q S fuel (listed.setIfInBounds i true) (a.put oi.dst v) w) (hs : Region.noSelect ops = true := by kernel_rfl) (hf : Region.free md ops listed i = true := by kernel_rfl) (hr : (Region.ready md ops listed).contains i = true := by kernel_rfl) : wpAnyH P md ops Q S (fuel + 1) listed a w := wpAnyH_take hi hs hf hr hQ hy hS h
end Go.Proofs.YtnknmpcgbfmfjaaGreatDoor

