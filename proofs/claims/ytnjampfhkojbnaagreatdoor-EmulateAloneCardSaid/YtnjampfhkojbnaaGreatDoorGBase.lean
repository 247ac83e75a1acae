/- Words for memory, over any program: a slice that reads as a list of cells; what stays over calls that only make memory. No conditions. A block of cells that is known whole; what stays of it. No conditions. A map whose values are all true, that the call has made: a set of keys, over any program. No conditions. Short names for the walk of a region that draws its order. No conditions. A map to numbers of 32 bits that the call has made: what each key says, over any program. No conditions. Appending a list that is read as data, an empty one too, over any program and any element. No conditions but Go's own limits. -/
import Derived.WalkKit
import Derived.WalkLawsBesides
import Derived.WalkSpells
import Derived.Below
import Derived.Laws.OwnMore
import Derived.Deep.AppendLies
import Derived.Deep.Draws
import Derived.Laws.Rows
import Derived.Lib.Hide
import Derived.Lib.Strings
import Derived.Maps.OwnSet
import Derived.Maps.OwnOps
import Derived.Deep.RegionHeld3
import Derived.Handy
import Derived.Maps.AppendAt
import Derived.BigQuiet

namespace Go.Proofs.YtnjampfhkojbnaaGreatDoor
open Go.RowKit

def Rd (w : World) (size : Nat) (A : Option Addr) (n : Nat) (xs : List Value) : Prop :=
  xs.length = n * size ∧ (0 < n → ∃ b o, A = some ⟨b, o, none⟩ ∧ b < w.heap.size ∧ ∀ j u, xs[j]? = some u → w.cell? ⟨b, o + j, none⟩ = some u)

section
variable {w w' : World} {size n : Nat} {A : Option Addr} {xs : List Value}
theorem Rd.none_ (A : Option Addr) : Rd w size A 0 [] := ⟨by simp, fun h => absurd h (by omega)⟩
theorem Rd.keep (h : Rd w size A n xs) (hz : w.heap.size ≤ w'.heap.size) (hk : ∀ p : Addr, p.block < w.heap.size → w'.cell? p = w.cell? p) : Rd w' size A n xs :=
  ⟨h.1, fun hn => by
    obtain ⟨b, o, e, hb, hc⟩ := h.2 hn
    exact ⟨b, o, e, by omega, fun j u hu => (hk _ hb).trans (hc j u hu)⟩⟩
theorem Rd.below (h : Rd w size A n xs) (hb : Below w.heap.size w w') : Rd w' size A n xs := h.keep hb.size fun _ hp => hb.cell hp
theorem Rd.drew (h : Rd w size A n xs) : Rd w.drew size A n xs := h
theorem Rd.drewN (h : Rd w size A n xs) (k : Nat) : Rd (w.drewN k) size A n xs := h
theorem Rd.alloc (h : Rd w size A n xs) (o : Obj) : Rd (w.alloc o) size A n xs := h.keep (by simp) fun p hp => World.cell?_alloc_lt w o p hp
theorem Rd.setCell {B : Nat} (h : Rd w size A n xs) {p : Addr} (hA : ∀ a, A = some a → 0 < n → a.block < B) (hp : B ≤ p.block) (u : Value) : Rd (w.setCell p u) size A n xs :=
  ⟨h.1, fun hn => by
    obtain ⟨b, o, e, hb, hc⟩ := h.2 hn
    have := hA _ e hn
    refine ⟨b, o, e, by simpa [World.setCell] using hb, fun j u' hu => ?_⟩
    rw [World.cell?_setCell_other w p ⟨b, o + j, none⟩ u (fun e => by subst e; simp at this hp; omega)]
    exact hc j u' hu⟩
theorem Rd.of_own {base : Nat} {e : TypeId} {c : Nat} (h : w.ownsRow base e size (.slice A n c) n xs) : Rd w size A n xs := by
  refine ⟨h.1, fun hn => ?_⟩
  obtain ⟨g, cap, hv, _, hlt⟩ := h.form hn
  have hA : A = some ⟨g, 0, none⟩ := by injection hv
  subst hA
  refine ⟨g, 0, rfl, hlt, fun j u hu => ?_⟩
  have := h.cells (g := g) rfl j u hu
  have hadd : (⟨g, 0, none⟩ : Addr).add j = ⟨g, 0 + j, none⟩ := by unfold Addr.add; split <;> simp_all
  rw [hadd] at this
  exact this
theorem own_form {base : Nat} {e : TypeId} {v : Value} (h : w.ownsRow base e size v n xs) : ∃ A c, v = .slice A n c ∧ n ≤ c ∧ c ≤ maxLen ∧ Rd w size A n xs := by
  rcases h.2 with ⟨rfl, rfl⟩ | ⟨g, cap, cur, rfl, hg, hh, hnc, hc, _⟩
  · exact ⟨none, 0, rfl, Nat.le_refl _, by simp [maxLen], Rd.of_own h⟩
  · exact ⟨_, cap, rfl, hnc, hc, Rd.of_own h⟩
theorem Rd.cut (h : Rd w size A n xs) {k cap : Nat} (hk : k ≤ n) (hc : n ≤ cap) :
    Rd w size (if cap = k then A else A.map (·.add (k * size))) (n - k) (xs.drop (k * size)) := by
  refine ⟨by rw [List.length_drop, h.1, Nat.sub_mul], fun hn => ?_⟩
  obtain ⟨b, o, rfl, hb, hcell⟩ := h.2 (by omega)
  rw [if_neg (by omega)]
  refine ⟨b, o + k * size, by simp [Addr.add], hb, fun j u hu => ?_⟩
  rw [Nat.add_assoc]
  exact hcell _ u (by rw [← hu, List.getElem?_drop])
theorem Rd.take (h : Rd w size A n xs) {k : Nat} (hk : k ≤ n) : Rd w size A k (xs.take (k * size)) := by
  refine ⟨by rw [List.length_take, h.1]; exact Nat.min_eq_left (Nat.mul_le_mul_right _ hk), fun hn => ?_⟩
  obtain ⟨b, o, rfl, hb, hcell⟩ := h.2 (by omega)
  refine ⟨b, o, rfl, hb, fun j u hu => hcell _ u ?_⟩
  rw [List.getElem?_take] at hu
  split at hu
  · exact hu
  · cases hu
end

abbrev New (w w' : World) : Prop := Below w.heap.size w w'
theorem New.refl (w : World) : New w w := Below.refl _ _
theorem New.trans {a b c : World} (h : New a b) (k : New b c) : New a c := Below.trans h (k.mono h.size)
theorem New.alloc {a w : World} (h : New a w) (o : Obj) : New a (w.alloc o) := Below.alloc h h.size o
theorem New.drew {a w : World} (h : New a w) : New a w.drew := Below.drew h
theorem New.drewN {a w : World} (h : New a w) (n : Nat) : New a (w.drewN n) := ⟨h.os, h.tape, h.output, h.size, h.block⟩
theorem New.setCell {a w : World} (h : New a w) {p : Addr} (hp : a.heap.size ≤ p.block) (u : Value) : New a (w.setCell p u) := Below.setCell h hp u

theorem New.grown_ {a w : World} (h : New a w) (row : Option Nat) : a.grownBy w row := ⟨h.os, h.tape, h.output, h.size, fun k hk _ => h.block k hk⟩

theorem New.facts {W w1 : World} (hb : New W w1) : (∀ b o, b < W.heap.size → w1.cell? ⟨b, o, none⟩ = W.cell? ⟨b, o, none⟩) ∧ (∀ b o, b < W.heap.size → w1.frozen? ⟨b, o, none⟩ = W.frozen? ⟨b, o, none⟩) :=
  ⟨fun b o h => hb.cell (p := ⟨b, o, none⟩) h, fun b o h => hb.frozen (p := ⟨b, o, none⟩) h⟩

def S (l : List UInt8) : ByteArray := ⟨l.toArray⟩
theorem S_data (s : ByteArray) : S s.data.toList = s := Lib.mk_data s
theorem data_S (l : List UInt8) : (S l).data.toList = l := rfl
theorem size_S (l : List UInt8) : (S l).size = l.length := by simp [S, ByteArray.size]
theorem S_inj {a b : List UInt8} (h : S a = S b) : a = b := by have := congrArg (fun s : ByteArray => s.data.toList) h; simpa [S] using this
theorem extract_S (s : ByteArray) (a b : Nat) : s.extract a b = S ((s.data.toList.drop a).take (b - a)) := Lib.extract_eq s a b
theorem size_eq (s : ByteArray) : s.size = s.data.toList.length := Lib.size_eq s
theorem bytes_ext {a b : ByteArray} (h : a.data.toList = b.data.toList) : a = b := by rw [← S_data a, ← S_data b, h]
theorem get_eq (s : ByteArray) (k : Nat) (h : k < s.size) : s[k] = s.data.toList[k]'(by rw [← size_eq]; exact h) := by
  rw [Array.getElem_toList]; rfl
theorem toList_eq (s : ByteArray) : s.toList = s.data.toList := Lib.toList_data s

end Go.Proofs.YtnjampfhkojbnaaGreatDoor

namespace Go.Proofs.YtnjampfhkojbnaaGreatDoor
open Go Go.RowKit

def Blk (w : World) (g : Nat) (t : TypeId) (cs : Array Value) : Prop := w.heap[g]? = some (.cells cs t (0, 0))
section
variable {w w' : World} {g : Nat} {t : TypeId} {cs : Array Value}
theorem Blk.lt (h : Blk w g t cs) : g < w.heap.size := (Array.getElem?_eq_some_iff.1 h).1
theorem Blk.cell (h : Blk w g t cs) (i : Nat) : w.cell? ⟨g, i, none⟩ = cs[i]? := cell_of_row w g i cs t (0, 0) h
theorem Blk.cell' (h : Blk w g t cs) (i : Nat) (v : Value) (e : cs[i]? = some v) : w.cell? ⟨g, i, none⟩ = some v := (h.cell i).trans e
theorem Blk.free (h : Blk w g t cs) (i : Nat) : w.frozen? ⟨g, i, none⟩ = false := by
  unfold Blk at h
  simp [World.frozen?, h]
theorem Blk.made (w : World) (t : TypeId) (cs : Array Value) : Blk (w.alloc (.cells cs t)) w.heap.size t cs := heap_alloc_new w _
theorem Blk.drew (h : Blk w g t cs) : Blk w.drew g t cs := h
theorem Blk.alloc (h : Blk w g t cs) (o : Obj) : Blk (w.alloc o) g t cs := (Below.heap_alloc w o g h.lt).trans h
theorem Blk.put (h : Blk w g t cs) (i : Nat) (u : Value) : Blk (w.setCell ⟨g, i, none⟩ u) g t (cs.setIfInBounds i u) := by
  unfold Blk at h ⊢
  simp [World.setCell, Array.getElem?_modify, h]
theorem Blk.far (h : Blk w g t cs) {p : Addr} (hp : g ≠ p.block) (u : Value) : Blk (w.setCell p u) g t cs := (Below.heap_setCell w p u g hp).trans h
theorem Blk.below {B : Nat} (h : Blk w g t cs) (hb : Below B w w') (hg : g < B) : Blk w' g t cs := (hb.block g hg).trans h
theorem Blk.new (h : Blk w g t cs) (hb : New w w') : Blk w' g t cs := h.below hb h.lt
theorem Blk.grown (h : Blk w g t cs) {row : Option Nat} (hb : w.grownBy w' row) (hg : some g ≠ row) : Blk w' g t cs := (hb.block g h.lt hg).trans h
theorem Blk.others (h : Blk w g t cs) {row : Option Nat} (hb : w.grownBy w' row) (hr : ∀ r, row = some r → ∃ o : Obj, w.heap[r]? = some o ∧ (∀ c e f, o ≠ .cells c e f)) : Blk w' g t cs :=
  h.grown hb (fun e => by
    obtain ⟨o, ho, hn⟩ := hr g e.symm
    unfold Blk at h
    rw [h] at ho
    exact hn _ _ _ (Option.some.inj ho).symm)
theorem Blk.same {cs' : Array Value} (h : Blk w g t cs) (e : cs = cs') : Blk w g t cs' := e ▸ h
end
theorem below_setCell' {B : Nat} {a w : World} (h : Below B a w) {p : Addr} (hp : B ≤ p.block) (u : Value) : Below B a (w.setCell p u) := Below.setCell h hp u
end Go.Proofs.YtnjampfhkojbnaaGreatDoor

namespace Go.Proofs.YtnjampfhkojbnaaGreatDoor
open Go Go.RowKit
set_option linter.unusedSimpArgs false
set_option linter.unusedVariables false

def KDesc (D : DataW Unit) (L : List Lit) : Prop := (∀ kl, Maps.has D kl = true ↔ kl ∈ L) ∧ ∀ kl z, Maps.has D kl = true → D.atKey kl z = .lit (.bool true)
theorem kdesc_none : KDesc (.map []) [] := ⟨fun kl => by rw [Maps.has_eq]; simp, fun kl z h => by simp [Maps.has_eq] at h⟩
theorem kdesc_put {D : DataW Unit} {L : List Lit} (hm : Maps.IsMap D) (h : KDesc D L) {k : Lit} (hI : WideAt.IsKeyLit k) : KDesc (D.put k (.lit (.bool true))) (k :: L) := by
  refine ⟨fun kl => ?_, fun kl z hh => ?_⟩
  · by_cases e : kl = k
    · subst e
      rw [Maps.has_put_same hm hI]; simp
    · rw [Maps.has_put_other e, h.1, List.mem_cons]
      exact ⟨Or.inr, fun q => q.resolve_left e⟩
  · by_cases e : kl = k
    · subst e
      rw [Maps.atKey_put_same hm hI]
    · rw [Maps.atKey_put_other e]
      rw [Maps.has_put_other e] at hh
      exact h.2 kl z hh
structure KType (P : Program) (mt kt bt : TypeId) : Prop where
  key : Maps.Keyed P kt
  und : P.underlying mt = some (.map kt bt)
  bool : P.underlying bt = some .bool
  zero : ∀ w, (zeroValue bt).run P w = .ok (.bool false) w
def KSet (P : Program) (kt bt : TypeId) (w : World) (b n : Nat) (L : List Lit) : Prop := ∃ D, w.ownsMap P kt (plainElem (H := Unit) P bt) b n D ∧ KDesc D L
section
variable {P : Program} {mt kt bt : TypeId} {w w' : World} {b n : Nat} {L : List Lit}
theorem KSet.made (w : World) : KSet P kt bt (w.alloc (.map #[] 0)) w.heap.size 0 [] := ⟨_, World.ownsMap_made w _ _ _, kdesc_none⟩
theorem KSet.kept {row : Option Nat} (h : KSet P kt bt w b n L) (hg : w.grownBy w' row) (hne : some b ≠ row) : KSet P kt bt w' b n L := let ⟨D, h1, h2⟩ := h; ⟨D, h1.kept hg hne, h2⟩
theorem KSet.new (h : KSet P kt bt w b n L) (hn : New w w') : KSet P kt bt w' b n L := h.kept (hn.grown_ none) (by simp)
theorem KSet.lt (h : KSet P kt bt w b n L) : b < w.heap.size := let ⟨_, h1, _⟩ := h; h1.lt
theorem kbool_inv (hb : P.underlying bt = some .bool) {v : Value} {z : DataW Unit × List MemPlace} (h : plainElem P bt v = some z) : ∃ x, v = .bool x ∧ z = (.lit (.bool x), []) := by
  unfold plainElem at h
  rw [hb] at h
  cases v <;> simp at h
  exact ⟨_, rfl, h.symm⟩
theorem KSet.look (T : KType P mt kt bt) (h : KSet P kt bt w b n L) {v : Value} {kl : Lit} (hk : keyOf P kt v = some kl) (bb : Bool) (hbb : bb = true ↔ kl ∈ L) : (Instr.lookup mt (.map (some b)) v false).run P w = .ok (.bool bb) w := by
  obtain ⟨D, hown, hd⟩ := h
  obtain ⟨u, ps, hrun, hv⟩ := hown.lookup T.key T.und (T.zero w) (plainElem_bool T.bool false) hk
  obtain ⟨x, rfl, hx⟩ := kbool_inv T.bool hv
  simp only [Prod.mk.injEq] at hx
  have h1 := hd.1 kl
  have : x = bb := by
    cases hT : Maps.has D kl
    · have := Maps.atKey_of_not_has hT (.lit (.bool false))
      rw [this] at hx
      injection hx.1 with e; injection e with e
      have : bb = false := by
        cases bb with
        | false => rfl
        | true => have := h1.2 (hbb.1 rfl); rw [hT] at this; cases this
      rw [this, ← e]
    · have := hd.2 _ (.lit (.bool false)) hT
      rw [this] at hx
      injection hx.1 with e; injection e with e
      rw [← e, hbb.2 (h1.1 hT)]
  rw [← this]
  exact hrun
theorem KSet.put (T : KType P mt kt bt) (h : KSet P kt bt w b n L) (hn : n < maxLen) {v : Value} {kl : Lit} (hk : keyOf P kt v = some kl) : ∃ w', (Instr.mapUpdate mt (.map (some b)) v (.bool true)).run P w = .ok () w' ∧ KSet P kt bt w' b (n + 1) (kl :: L) ∧ w.grownBy w' (some b) := by
  obtain ⟨D, hown, hd⟩ := h
  obtain ⟨w', r1, r2, r3⟩ := hown.update T.key T.und hn hk (plainElem_bool T.bool true)
  exact ⟨w', r1, ⟨_, r2, kdesc_put hown.isMap hd (T.key.key hk)⟩, r3⟩
end
section
variable {P : Program} {mt kt bt : TypeId} (w : World) {ops : Array Oper} {rest : List Oper} {o : Oper} {a : Act} {Q : Exit → Act → World → Prop}
theorem wpList_kput (T : KType P mt kt bt) (hg : o.guard = none) (m x v : Operand) (hop : o.op = Op.insert mt m x v ∨ o.op = Op.mapUpdate mt m x v) (b n : Nat) (L : List Lit) (hm : a.eval m = .map (some b)) (h : KSet P kt bt w b n L) (hn : n < maxLen) (u : Value) (kl : Lit)
    (hk : keyOf P kt u = some kl) (hx : a.eval x = u) (hv : a.eval v = .bool true) (hK : ∀ w', KSet P kt bt w' b (n + 1) (kl :: L) → w.grownBy w' (some b) → wpList P ops Q rest (a.put o.dst undef) w') :
    wpList P ops Q (o :: rest) a w := by
  refine wpList_plain hg fun K' hK' => ?_
  obtain ⟨w', hrun, r1, r2⟩ := h.put T hn hk
  unfold Oper.wp
  rcases hop with hop | hop
  · simp [execOp, hop, hm, hx, hv, hrun, Result.andThen]
    exact hK' _ _ (hK w' r1 r2)
  · simp [execOp, hop, hm, hx, hv, hrun, Result.andThen]
    exact hK' _ _ (hK w' r1 r2)
theorem wpList_klook (T : KType P mt kt bt) (hg : o.guard = none) (m x : Operand) (hop : o.op = Op.lookup mt m x false) (b n : Nat) (L : List Lit) (hm : a.eval m = .map (some b)) (h : KSet P kt bt w b n L) (u : Value) (kl : Lit) (hk : keyOf P kt u = some kl)
    (bb : Bool) (hbb : bb = true ↔ kl ∈ L) (hx : a.eval x = u) (hK : wpList P ops Q rest (a.put o.dst (.bool bb)) w) :
    wpList P ops Q (o :: rest) a w := by
  refine wpList_plain hg fun K' hK' => ?_
  have hrun := h.look T hk bb hbb
  unfold Oper.wp
  simp [execOp, hop, hm, hx, hrun, Result.andThen]
  exact hK' _ _ hK
end
end Go.Proofs.YtnjampfhkojbnaaGreatDoor

namespace Go.Proofs.YtnjampfhkojbnaaGreatDoor
open Go
theorem gqA {α : Type} {l : List α} {i : Nat} : l.toArray[i]? = l[i]? := List.getElem?_toArray
theorem gqB {α : Type} {a : α} {l : List α} {i : Nat} : (a :: l)[i + 1]? = l[i]? := List.getElem?_cons_succ
theorem gqC {α : Type} {a : α} {l : List α} : (a :: l)[0]? = some a := List.getElem?_cons_zero
theorem tkQ {P : Program} {ops : Array Oper} {Q : Exit → Act → World → Prop} {md : Region.Mode} {S : World → Prop} {i : Nat} {oi : Oper} {v : Value} {fuel : Nat} {listed : Array Bool} {a : Act} {w : World} (hi : ops[i]? = some oi)
    (hQ : ∀ c a w, Q (.panic c) (a.put oi.dst v) w → Q (.panic c) a w) (hy : YieldsIf P ops S oi v a) (hS : S w)
    (h : wpAnyH P md ops Q S fuel (listed.setIfInBounds i true) (a.put oi.dst v) w) (hs : Region.noSelect ops = true := by kernel_rfl) (hf : Region.free md ops listed i = true := by kernel_rfl) (hr : (Region.ready md ops listed).contains i = true := by kernel_rfl) : wpAnyH P md ops Q S (fuel + 1) listed a w := wpAnyH_take hi hs hf hr hQ hy hS h
theorem gqD {α : Type} {l : List α} {i : Nat} {a : α} : l.toArray.setIfInBounds i a = (l.set i a).toArray := List.setIfInBounds_toArray ..
theorem gqE {α : Type} {a b : α} {l : List α} : (a :: l).set 0 b = b :: l := List.set_cons_zero
theorem gqF {α : Type} {a b : α} {l : List α} {i : Nat} : (a :: l).set (i + 1) b = a :: l.set i b := List.set_cons_succ
theorem wpAnyH_strong {P : Program} {ops : Array Oper} {Q : Exit → Act → World → Prop} {md : Region.Mode} {S S' : World → Prop} (h : ∀ w, S' w → S w) : ∀ (fuel : Nat) {listed : Array Bool} {a : Act} {w : World}, wpAnyH P md ops Q S' fuel listed a w → wpAnyH P md ops Q S fuel listed a w
  | 0, _, _, _, k => k
  | fuel + 1, _, _, _, k => ⟨k.1, fun i hi => wpOp_mono (fun _ _ k' => ⟨h _ k'.1, wpAnyH_strong h fuel k'.2⟩) (k.2 i hi)⟩
section
variable {P : Program} {ops : Array Oper} {Q : Exit → Act → World → Prop} {md : Region.Mode} {S : World → Prop} {fuel : Nat} {listed : Array Bool} {a : Act} {w : World}
theorem tkT (i : Nat) {oi : Oper} {v : Value} (hS : S w) (hy : ∀ wq, S wq → (execOp a.eval oi).run P wq = .ok (.value v) wq)
    (h : wpAnyH P md ops Q S fuel (listed.setIfInBounds i true) (a.put oi.dst v) w) (hi : ops[i]? = some oi := by simp only [gqA, gqB, gqC]; rfl)
    (hQ : ∀ c a w, Q (.panic c) (a.put oi.dst v) w → Q (.panic c) a w := by exact fun _ _ _ h => h) (hw : Region.wanted oi (yielded ops a.tmps) = true := by kernel_rfl)
    (hs : Region.noSelect ops = true := by kernel_rfl) (hf : Region.free md ops listed i = true := by kernel_rfl) (hr : (Region.ready md ops listed).contains i = true := by kernel_rfl) : wpAnyH P md ops Q S (fuel + 1) listed a w := wpAnyH_take hi hs hf hr hQ (Or.inl ⟨hw, hy⟩) hS h
theorem tkU (i : Nat) {oi : Oper} (hS : S w)
    (h : wpAnyH P md ops Q S fuel (listed.setIfInBounds i true) (a.put oi.dst undef) w) (hi : ops[i]? = some oi := by simp only [gqA, gqB, gqC]; rfl)
    (hQ : ∀ c a w, Q (.panic c) (a.put oi.dst undef) w → Q (.panic c) a w := by exact fun _ _ _ h => h) (hw : Region.wanted oi (yielded ops a.tmps) = false := by kernel_rfl)
    (hs : Region.noSelect ops = true := by kernel_rfl) (hf : Region.free md ops listed i = true := by kernel_rfl) (hr : (Region.ready md ops listed).contains i = true := by kernel_rfl) : wpAnyH P md ops Q S (fuel + 1) listed a w := wpAnyH_take hi hs hf hr hQ (Or.inr ⟨hw, rfl⟩) hS h
end
end Go.Proofs.YtnjampfhkojbnaaGreatDoor

namespace Go.Proofs.YtnjampfhkojbnaaGreatDoor
open Go Go.RowKit
set_option linter.unusedSimpArgs false
set_option linter.unusedVariables false

open Classical in
noncomputable def lookM : List (Lit × Nat) → Lit → Option Nat
  | [], _ => none
  | x :: L, k => if x.1 = k then some x.2 else lookM L k
def MDesc (D : DataW Unit) (L : List (Lit × Nat)) : Prop := ∀ kl, Maps.has D kl = (lookM L kl).isSome ∧ ∀ v, lookM L kl = some v → ∀ z, D.atKey kl z = .lit (.int .u32 (v : Int))
theorem mdesc_none : MDesc (.map []) [] := fun kl => ⟨by rw [Maps.has_eq]; simp [lookM], fun v h => by cases h⟩
theorem mdesc_put {D : DataW Unit} {L : List (Lit × Nat)} (hm : Maps.IsMap D) (h : MDesc D L) {k : Lit} (hI : WideAt.IsKeyLit k) (n : Nat) : MDesc (D.put k (.lit (.int .u32 (n : Int)))) ((k, n) :: L) := fun kl => by
  by_cases e : k = kl
  · subst e
    refine ⟨by rw [Maps.has_put_same hm hI, lookM, if_pos rfl]; rfl, fun v hv z => ?_⟩
    rw [lookM, if_pos rfl] at hv
    injection hv with hv
    subst hv
    rw [Maps.atKey_put_same hm hI]
  · refine ⟨by rw [Maps.has_put_other (Ne.symm e), lookM, if_neg e]; exact (h kl).1, fun v hv z => ?_⟩
    rw [lookM, if_neg e] at hv
    rw [Maps.atKey_put_other (Ne.symm e)]
    exact (h kl).2 v hv z
structure MType (P : Program) (mt kt et : TypeId) : Prop where
  key : Maps.Keyed P kt
  und : P.underlying mt = some (.map kt et)
  elem : P.underlying et = some (.int .u32)
  zero : ∀ w, (zeroValue et).run P w = .ok (.int .u32 0) w
def KMap (P : Program) (kt et : TypeId) (w : World) (b n : Nat) (L : List (Lit × Nat)) : Prop := ∃ D, w.ownsMap P kt (plainElem (H := Unit) P et) b n D ∧ MDesc D L
section
variable {P : Program} {mt kt et : TypeId} {w w' : World} {b n : Nat} {L : List (Lit × Nat)}
theorem KMap.made (w : World) : KMap P kt et (w.alloc (.map #[] 0)) w.heap.size 0 [] := ⟨_, World.ownsMap_made w _ _ _, mdesc_none⟩
theorem KMap.kept {row : Option Nat} (h : KMap P kt et w b n L) (hg : w.grownBy w' row) (hne : some b ≠ row) : KMap P kt et w' b n L := let ⟨D, h1, h2⟩ := h; ⟨D, h1.kept hg hne, h2⟩
theorem KMap.new (h : KMap P kt et w b n L) (hn : New w w') : KMap P kt et w' b n L := h.kept (hn.grown_ none) (by simp)
theorem KMap.lt (h : KMap P kt et w b n L) : b < w.heap.size := let ⟨_, h1, _⟩ := h; h1.lt
theorem KMap.put (T : MType P mt kt et) (h : KMap P kt et w b n L) (hn : n < maxLen) {v : Value} {kl : Lit} (hk : keyOf P kt v = some kl) {u : Nat} (hu : u < 4294967296) :
    ∃ w', (Instr.mapUpdate mt (.map (some b)) v (.int .u32 (u : Int))).run P w = .ok () w' ∧ KMap P kt et w' b (n + 1) ((kl, u) :: L) ∧ w.grownBy w' (some b) := by
  obtain ⟨D, hown, hd⟩ := h
  have hwf : (Lit.int .u32 (u : Int)).wf = true := by
    have h1 : IntKind.u32.min ≤ (u : Int) := by rw [show IntKind.u32.min = 0 from rfl]; omega
    have h2 : (u : Int) ≤ IntKind.u32.max := by rw [show IntKind.u32.max = 4294967295 from rfl]; omega
    simp only [Lit.wf, h1, h2, decide_true, Bool.and_self]
  obtain ⟨w', r1, r2, r3⟩ := hown.update T.key T.und hn hk (plainElem_int T.elem hwf)
  exact ⟨w', r1, ⟨_, r2, mdesc_put hown.isMap hd (T.key.key hk) u⟩, r3⟩
theorem KMap.look (T : MType P mt kt et) (h : KMap P kt et w b n L) {v : Value} {kl : Lit} (hk : keyOf P kt v = some kl) :
    ∃ c : Int, (Instr.lookup mt (.map (some b)) v true).run P w = .ok (.tuple #[.int .u32 c, .bool (lookM L kl).isSome]) w ∧ ∀ u, lookM L kl = some u → c = (u : Int) := by
  obtain ⟨D, hown, hd⟩ := h
  obtain ⟨x, ps, hrun, hv⟩ := hown.look_ok T.key T.und (T.zero w) (plainElem_int (H := Unit) T.elem (by decide)) hk
  obtain ⟨c, rfl, hc, _⟩ := plainElem_int_inv T.elem hv
  refine ⟨c, by rw [← (hd kl).1]; exact hrun, fun u hu => ?_⟩
  have := (hd kl).2 u hu (.lit (.int .u32 0))
  have h2 := congrArg Prod.fst hc
  simp only at h2
  rw [this] at h2
  injection h2 with h2
  injection h2 with _ h2
  exact h2.symm
end
section
variable {P : Program} {mt kt et : TypeId} (w : World) {ops : Array Oper} {rest : List Oper} {o : Oper} {a : Act} {Q : Exit → Act → World → Prop}
theorem wpList_mput (T : MType P mt kt et) (hg : o.guard = none) (m x v : Operand) (hop : o.op = Op.insert mt m x v ∨ o.op = Op.mapUpdate mt m x v) (b n : Nat) (L : List (Lit × Nat)) (hm : a.eval m = .map (some b)) (h : KMap P kt et w b n L) (hn : n < maxLen) (u : Value) (kl : Lit) (k : Nat)
    (hk : keyOf P kt u = some kl) (hx : a.eval x = u) (hv : a.eval v = .int .u32 (k : Int)) (hu : k < 4294967296) (hK : ∀ w', KMap P kt et w' b (n + 1) ((kl, k) :: L) → w.grownBy w' (some b) → wpList P ops Q rest (a.put o.dst undef) w') :
    wpList P ops Q (o :: rest) a w := by
  refine wpList_plain hg fun K' hK' => ?_
  obtain ⟨w', hrun, r1, r2⟩ := h.put T hn hk hu
  unfold Oper.wp
  rcases hop with hop | hop
  · simp [execOp, hop, hm, hx, hv, hrun, Result.andThen]
    exact hK' _ _ (hK w' r1 r2)
  · simp [execOp, hop, hm, hx, hv, hrun, Result.andThen]
    exact hK' _ _ (hK w' r1 r2)
theorem wpList_mlook (T : MType P mt kt et) (hg : o.guard = none) (m x : Operand) (hop : o.op = Op.lookup mt m x true) (b n : Nat) (L : List (Lit × Nat)) (hm : a.eval m = .map (some b)) (h : KMap P kt et w b n L) (u : Value) (kl : Lit) (hk : keyOf P kt u = some kl)
    (hx : a.eval x = u) (bb : Bool) (hbb : (lookM L kl).isSome = bb) (hK : ∀ c : Int, (∀ k, lookM L kl = some k → c = (k : Int)) → wpList P ops Q rest (a.put o.dst (.tuple #[.int .u32 c, .bool bb])) w) :
    wpList P ops Q (o :: rest) a w := by
  refine wpList_plain hg fun K' hK' => ?_
  obtain ⟨c, hrun, hc⟩ := h.look T hk
  subst hbb
  unfold Oper.wp
  simp [execOp, hop, hm, hx, hrun, Result.andThen]
  exact hK' _ _ (hK c hc)
end
end Go.Proofs.YtnjampfhkojbnaaGreatDoor

namespace Go.Proofs.YtnjampfhkojbnaaGreatDoor
open Go Go.RowKit
set_option linter.unusedSimpArgs false
set_option linter.unusedVariables false

structure EType (P : Program) (t e : TypeId) (z : Value) (size bytes : Nat) : Prop where
  und : P.underlying t = some (.slice e)
  info : (P.info? e).map (fun i => (i.zero, i.size, i.bytes)) = some (some z, size, bytes)
  cells : z.cells.size = size
  pos : 0 < size
theorem EType.nothing {P : Program} {t e : TypeId} {z : Value} {size bytes : Nat} (T : EType P t e z size bytes) {w : World} {base n : Nat} {v : Value} {xs : List Value} (h : w.ownsRow base e size v n xs) (A : Option Addr) (c : Nat) (ty : TypeId) : (Builtin.append_ #[t, t] ty #[v, .slice A 0 c]).run P w = .ok v w := by
  obtain ⟨i0, hi, _⟩ := info_parts T.info
  have hlc : ∀ ad : Addr, (loadCells ad 0).run P w = .ok #[] w := fun ad => rfl
  rcases h.2 with ⟨rfl, rfl⟩ | ⟨g, cap, cur, rfl, _, _, hnc, _⟩
  · cases A <;> simp [Builtin.append_, run_underlying T.und, sizeOf, typeInfo, hi, Builtin.lenOf, Builtin.firstCells, hlc, Result.andThen]
  · cases A <;> simp [Builtin.append_, run_underlying T.und, sizeOf, typeInfo, hi, Builtin.lenOf, Builtin.firstCells, hlc, Result.andThen, hnc, storeCells]
theorem wpList_append_rdG {P : Program} {t e : TypeId} {z : Value} {size bytes : Nat} (T : EType P t e z size bytes) {w : World} {ops : Array Oper} {rest : List Oper} {o : Oper} {a : Act} {Q : Exit → Act → World → Prop} (hgd : o.guard = none) (s x : Operand)
    (ho : o.op = .call { callee := .builtin .append, args := #[s, x], argTypes := #[t, t] })
    (base : Nat) (v : Value) (n : Nat) (xs : List Value) (hs : a.eval s = v) (hown : w.ownsRow base e size v n xs)
    (A : Option Addr) (m c : Nat) (ys : List Value) (hx : a.eval x = .slice A m c) (hr : Rd w size A m ys) (h1 : ∀ u ∈ ys, u.oneCell' = true)
    (h63 : n + m ≤ 1000000000) (hby : bytes ≤ 1000) (hbase : base ≤ w.heap.size)
    (h : ∀ v' w', w'.ownsRow base e size v' (n + m) (xs ++ ys) → w.grownBy w' v.ownBlock → (v'.ownBlock = v.ownBlock ∨ v'.ownBlock = some w.heap.size) → wpList P ops Q rest (a.put o.dst v') w') : wpList P ops Q (o :: rest) a w := by
  obtain ⟨j0, hi0, hz0, hz1, hz2⟩ := info_parts T.info
  by_cases hm : 0 < m
  · obtain ⟨b, q, rfl, hb, hc⟩ := hr.2 hm
    have hbb : (n + m) * bytes ≤ 140737488355328 := Nat.le_trans (Nat.mul_le_mul h63 hby) (by decide)
    exact wpList_append_own_at _ hgd s x t ho base e j0 z size bytes T.und hi0 hz0 hz1 hz2 T.cells T.pos v n xs hs hown ⟨b, q, none⟩ m c ys hx hr.1 (fun j u hu => by rw [show (⟨b, q, none⟩ : Addr).add j = ⟨b, q + j, none⟩ from by unfold Addr.add; split <;> simp_all]; exact hc j u hu) h1
      (by simp only [maxLen]; omega) hbb hbase (fun v' w' h1 h2 _ h3 => h v' w' h1 h2 h3)
  · obtain rfl : m = 0 := by omega
    have hw : ys = [] := by have := hr.1; exact List.eq_nil_of_length_eq_zero (by omega)
    subst hw
    have hrun := T.nothing hown A c o.type
    refine wpList_plain hgd fun K hK => ?_
    unfold Oper.wp
    simp [execOp, ho, resolve, invoke, builtin, hs, hx, hrun, Result.andThen]
    exact hK _ _ (h v w (by simpa using hown) ⟨rfl, rfl, rfl, Nat.le_refl _, fun _ _ _ => rfl⟩ (Or.inl rfl))
theorem step_append_rdG {P : Program} {t e : TypeId} {z : Value} {size bytes : Nat} (T : EType P t e z size bytes) {w : World} {ops : Array Oper} {o : Oper} {a : Act} {K : Act → World → Prop} {Q : Exit → Act → World → Prop} {E : Prop} (hgd : o.guard = none) (s x : Operand)
    (ho : o.op = .call { callee := .builtin .append, args := #[s, x], argTypes := #[t, t] })
    (base : Nat) (v : Value) (n : Nat) (xs : List Value) (hs : a.eval s = v) (hown : w.ownsRow base e size v n xs)
    (A : Option Addr) (m c : Nat) (ys : List Value) (hx : a.eval x = .slice A m c) (hr : Rd w size A m ys) (h1 : ∀ u ∈ ys, u.oneCell' = true)
    (h63 : n + m ≤ 1000000000) (hby : bytes ≤ 1000) (hbase : base ≤ w.heap.size)
    (h : ∀ v' w', w'.ownsRow base e size v' (n + m) (xs ++ ys) → w.grownBy w' v.ownBlock → (v'.ownBlock = v.ownBlock ∨ v'.ownBlock = some w.heap.size) → K (a.put o.dst v') w') : if Region.wanted o (yielded ops a.tmps) = true then Oper.wp P o a w K Q else E := by
  have hw : Region.wanted o (yielded ops a.tmps) = true := by simp [Region.wanted, hgd]
  rw [if_pos hw]
  obtain ⟨j0, hi0, hz0, hz1, hz2⟩ := info_parts T.info
  by_cases hm : 0 < m
  · obtain ⟨b, q, rfl, hb, hc⟩ := hr.2 hm
    have hbb : (n + m) * bytes ≤ 140737488355328 := Nat.le_trans (Nat.mul_le_mul h63 hby) (by decide)
    obtain ⟨v', w', hrun, h2, h3, h4, h5⟩ := run_append_own_at (P := P) w base t o.type e j0 z size bytes T.und hi0 hz0 hz1 hz2 T.cells T.pos v n xs hown ⟨b, q, none⟩ m c ys hr.1 (fun j u hu => by rw [show (⟨b, q, none⟩ : Addr).add j = ⟨b, q + j, none⟩ from by unfold Addr.add; split <;> simp_all]; exact hc j u hu) h1 (by simp only [maxLen]; omega) hbb hbase
    unfold Oper.wp execOp
    simp only [ho, resolve, invoke, builtin, Sem.run_bind, Sem.run_pure, Result.andThen_ok, List.map_toArray, List.map_cons, List.map_nil, hs, hx, hrun]
    exact h v' w' h2 h3 h5
  · obtain rfl : m = 0 := by omega
    have hw : ys = [] := by have := hr.1; exact List.eq_nil_of_length_eq_zero (by omega)
    subst hw
    have hrun := T.nothing hown A c o.type
    unfold Oper.wp execOp
    simp only [ho, resolve, invoke, builtin, Sem.run_bind, Sem.run_pure, Result.andThen_ok, List.map_toArray, List.map_cons, List.map_nil, hs, hx, hrun]
    exact h v w (by simpa using hown) ⟨rfl, rfl, rfl, Nat.le_refl _, fun _ _ _ => rfl⟩ (Or.inl rfl)
theorem rd_one (w : World) (u : Value) (t : TypeId) : Rd (w.alloc (.cells #[u] t)) 1 (some ⟨w.heap.size, 0, none⟩) 1 [u] := by
  refine ⟨rfl, fun _ => ⟨_, 0, rfl, by simp, fun j v hv => ?_⟩⟩
  have := cell_one_new w u t j v hv
  rw [show ((⟨w.heap.size, 0, none⟩ : Addr).add j) = ⟨w.heap.size, 0 + j, none⟩ from by unfold Addr.add; split <;> simp_all] at this
  exact this
end Go.Proofs.YtnjampfhkojbnaaGreatDoor

