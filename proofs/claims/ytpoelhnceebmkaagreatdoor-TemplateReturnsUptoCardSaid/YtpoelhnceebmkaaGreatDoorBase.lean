/- Words for memory, over any program: a slice that reads as a list of cells; what stays over calls that only make memory. No conditions. -/
import Derived.WalkKit
import Derived.WalkLawsBesides
import Derived.WalkSpells
import Derived.Below
import Derived.Laws.OwnMore
import Derived.Deep.AppendLies
import Derived.Deep.Draws
import Derived.Laws.Rows
import Derived.Lib.Hide
import Derived.Lib.Strings
namespace Go.Proofs.YtpoelhnceebmkaaGreatDoor
open Go.RowKit

/-- The slice with the address A and the length n (elements of 'size' cells) holds the cells xs. -/
def Rd (w : World) (size : Nat) (A : Option Addr) (n : Nat) (xs : List Value) : Prop :=
  xs.length = n * size ∧ (0 < n → ∃ b o, A = some ⟨b, o, none⟩ ∧ b < w.heap.size ∧ ∀ j u, xs[j]? = some u → w.cell? ⟨b, o + j, none⟩ = some u)

section
variable {w w' : World} {size n : Nat} {A : Option Addr} {xs : List Value}
theorem Rd.none_ (A : Option Addr) : Rd w size A 0 [] := ⟨by simp, fun h => absurd h (by omega)⟩
theorem Rd.keep (h : Rd w size A n xs) (hz : w.heap.size ≤ w'.heap.size) (hk : ∀ p : Addr, p.block < w.heap.size → w'.cell? p = w.cell? p) : Rd w' size A n xs :=
  ⟨h.1, fun hn => by
    obtain ⟨b, o, e, hb, hc⟩ := h.2 hn
    exact ⟨b, o, e, by omega, fun j u hu => (hk _ hb).trans (hc j u hu)⟩⟩
theorem Rd.below (h : Rd w size A n xs) (hb : Below w.heap.size w w') : Rd w' size A n xs := h.keep hb.size fun _ hp => hb.cell hp
theorem Rd.drew (h : Rd w size A n xs) : Rd w.drew size A n xs := h
theorem Rd.drewN (h : Rd w size A n xs) (k : Nat) : Rd (w.drewN k) size A n xs := h
theorem Rd.alloc (h : Rd w size A n xs) (o : Obj) : Rd (w.alloc o) size A n xs := h.keep (by simp) fun p hp => World.cell?_alloc_lt w o p hp
/-- A store into a block of another kind than the slice's leaves it as it was; here: into a block at or above the heap's old size B. -/
theorem Rd.setCell {B : Nat} (h : Rd w size A n xs) {p : Addr} (hA : ∀ a, A = some a → 0 < n → a.block < B) (hp : B ≤ p.block) (u : Value) : Rd (w.setCell p u) size A n xs :=
  ⟨h.1, fun hn => by
    obtain ⟨b, o, e, hb, hc⟩ := h.2 hn
    have := hA _ e hn
    refine ⟨b, o, e, by simpa [World.setCell] using hb, fun j u' hu => ?_⟩
    rw [World.cell?_setCell_other w p ⟨b, o + j, none⟩ u (fun e => by subst e; simp at this hp; omega)]
    exact hc j u' hu⟩
theorem Rd.of_own {base : Nat} {e : TypeId} {c : Nat} (h : w.ownsRow base e size (.slice A n c) n xs) : Rd w size A n xs := by
  refine ⟨h.1, fun hn => ?_⟩
  obtain ⟨g, cap, hv, _, hlt⟩ := h.form hn
  have hA : A = some ⟨g, 0, none⟩ := by injection hv
  subst hA
  refine ⟨g, 0, rfl, hlt, fun j u hu => ?_⟩
  have := h.cells (g := g) rfl j u hu
  have hadd : (⟨g, 0, none⟩ : Addr).add j = ⟨g, 0 + j, none⟩ := by unfold Addr.add; split <;> simp_all
  rw [hadd] at this
  exact this
/-- An owned row is a slice value that reads as its cells. -/
theorem own_form {base : Nat} {e : TypeId} {v : Value} (h : w.ownsRow base e size v n xs) : ∃ A c, v = .slice A n c ∧ n ≤ c ∧ c ≤ maxLen ∧ Rd w size A n xs := by
  rcases h.2 with ⟨rfl, rfl⟩ | ⟨g, cap, cur, rfl, hg, hh, hnc, hc, _⟩
  · exact ⟨none, 0, rfl, Nat.le_refl _, by simp [maxLen], Rd.of_own h⟩
  · exact ⟨_, cap, rfl, hnc, hc, Rd.of_own h⟩
theorem Rd.cut (h : Rd w size A n xs) {k cap : Nat} (hk : k ≤ n) (hc : n ≤ cap) :
    Rd w size (if cap = k then A else A.map (·.add (k * size))) (n - k) (xs.drop (k * size)) := by
  refine ⟨by rw [List.length_drop, h.1, Nat.sub_mul], fun hn => ?_⟩
  obtain ⟨b, o, rfl, hb, hcell⟩ := h.2 (by omega)
  rw [if_neg (by omega)]
  refine ⟨b, o + k * size, by simp [Addr.add], hb, fun j u hu => ?_⟩
  rw [Nat.add_assoc]
  exact hcell _ u (by rw [← hu, List.getElem?_drop])
theorem Rd.take (h : Rd w size A n xs) {k : Nat} (hk : k ≤ n) : Rd w size A k (xs.take (k * size)) := by
  refine ⟨by rw [List.length_take, h.1]; exact Nat.min_eq_left (Nat.mul_le_mul_right _ hk), fun hn => ?_⟩
  obtain ⟨b, o, rfl, hb, hcell⟩ := h.2 (by omega)
  refine ⟨b, o, rfl, hb, fun j u hu => hcell _ u ?_⟩
  rw [List.getElem?_take] at hu
  split at hu
  · exact hu
  · cases hu
end

/-- Only new memory: nothing that lay has turned. -/
abbrev New (w w' : World) : Prop := Below w.heap.size w w'
theorem New.refl (w : World) : New w w := Below.refl _ _
theorem New.trans {a b c : World} (h : New a b) (k : New b c) : New a c := Below.trans h (k.mono h.size)
theorem New.alloc {a w : World} (h : New a w) (o : Obj) : New a (w.alloc o) := Below.alloc h h.size o
theorem New.drew {a w : World} (h : New a w) : New a w.drew := Below.drew h
theorem New.drewN {a w : World} (h : New a w) (n : Nat) : New a (w.drewN n) := ⟨h.os, h.tape, h.output, h.size, h.block⟩
theorem New.setCell {a w : World} (h : New a w) {p : Addr} (hp : a.heap.size ≤ p.block) (u : Value) : New a (w.setCell p u) := Below.setCell h hp u

theorem New.grown_ {a w : World} (h : New a w) (row : Option Nat) : a.grownBy w row := ⟨h.os, h.tape, h.output, h.size, fun k hk _ => h.block k hk⟩

/-- What a call that only makes memory leaves: cells and marks below the old size. -/
theorem New.facts {W w1 : World} (hb : New W w1) : (∀ b o, b < W.heap.size → w1.cell? ⟨b, o, none⟩ = W.cell? ⟨b, o, none⟩) ∧ (∀ b o, b < W.heap.size → w1.frozen? ⟨b, o, none⟩ = W.frozen? ⟨b, o, none⟩) :=
  ⟨fun b o h => hb.cell (p := ⟨b, o, none⟩) h, fun b o h => hb.frozen (p := ⟨b, o, none⟩) h⟩

/-- A string out of a list of bytes. -/
def S (l : List UInt8) : ByteArray := ⟨l.toArray⟩
theorem S_data (s : ByteArray) : S s.data.toList = s := Lib.mk_data s
theorem data_S (l : List UInt8) : (S l).data.toList = l := rfl
theorem size_S (l : List UInt8) : (S l).size = l.length := by simp [S, ByteArray.size]
theorem S_inj {a b : List UInt8} (h : S a = S b) : a = b := by have := congrArg (fun s : ByteArray => s.data.toList) h; simpa [S] using this
theorem extract_S (s : ByteArray) (a b : Nat) : s.extract a b = S ((s.data.toList.drop a).take (b - a)) := Lib.extract_eq s a b
theorem size_eq (s : ByteArray) : s.size = s.data.toList.length := Lib.size_eq s
theorem bytes_ext {a b : ByteArray} (h : a.data.toList = b.data.toList) : a = b := by rw [← S_data a, ← S_data b, h]
theorem get_eq (s : ByteArray) (k : Nat) (h : k < s.size) : s[k] = s.data.toList[k]'(by rw [← size_eq]; exact h) := by
  rw [Array.getElem_toList]; rfl
theorem toList_eq (s : ByteArray) : s.toList = s.data.toList := Lib.toList_data s

end Go.Proofs.YtpoelhnceebmkaaGreatDoor
