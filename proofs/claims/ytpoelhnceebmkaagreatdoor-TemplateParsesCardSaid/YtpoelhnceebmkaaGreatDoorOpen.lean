/- Arguments opened, over any program: a slice that is read as data has its cells; what is read is read again where only new memory was made. No conditions. -/
import Derived.Test.YtpoelhnceebmkaaGreatDoorBase
import Derived.Deep.Slices
import Derived.Deep.Strs
import Derived.Lib.SmallJoins
import Derived.Carry
import Derived.OpenShut
namespace Go.Proofs.YtpoelhnceebmkaaGreatDoor
open Go Go.RowKit Go.ChangeShapes Go.WideShapes Go.Deep
section
variable {H : Type} {enc : TypeId × Value → H} {P : Program} {w : World} {base : Nat} {spare : Nat → Bool} {held : Bool}

theorem add_none {a : Addr} (h : a.spot = none) (i : Nat) : a.add i = ⟨a.block, a.off + i, none⟩ := by
  unfold Addr.add
  split
  · rename_i h0; subst h0; cases a; simp_all
  · rfl
theorem spot_none {a : Addr} {v : Value} (h : w.cell? a = some v) : a.spot = none := by
  unfold World.cell? at h
  split at h
  · split at h
    · cases h
    · rename_i h1; simpa using h1
  · cases h
theorem flatten_at {α : Type} {k : Nat} : ∀ {l : List (List α)}, (∀ x ∈ l, x.length = k) → ∀ (i j : Nat), j < k → l.flatten[i * k + j]? = (l[i]?).bind (·[j]?)
  | [], _, i, j, _ => by simp
  | x :: r, h, 0, j, hj => by
    have hx : x.length = k := h x (by simp)
    rw [List.flatten_cons, Nat.zero_mul, Nat.zero_add, List.getElem?_append_left (by omega)]; rfl
  | x :: r, h, i + 1, j, hj => by
    have hx : x.length = k := h x (by simp)
    have ih := flatten_at (l := r) (fun y hy => h y (by simp [hy])) i j hj
    rw [List.flatten_cons, List.getElem?_append_right (by rw [hx, Nat.add_mul]; omega), hx, show (i + 1) * k + j - k = i * k + j by rw [Nat.add_mul]; omega, ih]
    rfl
theorem flatten_len {α : Type} {k : Nat} : ∀ {l : List (List α)}, (∀ x ∈ l, x.length = k) → l.flatten.length = l.length * k
  | [], _ => by simp
  | x :: r, h => by
    have hx : x.length = k := h x (by simp)
    have ih := flatten_len (l := r) (fun y hy => h y (by simp [hy]))
    rw [List.flatten_cons, List.length_append, hx, ih, List.length_cons, Nat.add_mul]; omega

/-- A slice that is read: its cells, in groups, each of which is read as an element. -/
theorem open_rows {t e k : Nat} {fuel : Nat} {v : Value} {x : DataW H × List MemPlace} (ht : P.underlying t = some (.slice e)) (hc : P.cellsOf e = k) (hk : 0 < k)
    (h : DataW.trod enc P w base spare held fuel t [v] = some x) :
    ∃ (A : Option Addr) (c fuel' : Nat) (css : List (List Value)), v = .slice A css.length c ∧ css.length ≤ c ∧ c ≤ maxLen ∧ (∀ cs ∈ css, cs.length = k) ∧ Rd w k A css.length css.flatten ∧
      ∀ cs ∈ css, ∃ y, DataW.trod enc P w base spare held fuel' e cs = some y := by
  rcases open_slice ht h with ⟨h0, _⟩ | ⟨a, len, cap, m, n, D, Pl, h0, hb, hl, hm, hmm, _, hx⟩
  · injection h0 with h0 _
    subst h0
    exact ⟨none, 0, 0, [], rfl, Nat.le_refl _, by simp [maxLen], by simp, Rd.none_ none, by simp⟩
  · injection h0 with h0 _
    subst h0
    have hlm : len ≤ m := by rw [hmm]; split <;> omega
    rw [hc] at hx
    obtain ⟨F, hF⟩ := choose_lt (α := List Value) (p := fun i cs => w.cells? base (a.add (i * k)) k = some cs ∧ DataW.trod enc P w base spare held n e cs = some (D i, Pl i)) (fun i (hi : i < len) => hx i (by omega))
    have hlen : ∀ i, i < len → (F i).length = k := fun i hi => (World.cells?_some (hF i hi).1).2.1
    have hmem : ∀ cs ∈ (List.range len).map F, cs.length = k := fun cs hcs => by
      obtain ⟨i, hi, rfl⟩ := List.mem_map.1 hcs
      exact hlen i (List.mem_range.1 hi)
    have hl2 : ((List.range len).map F).length = len := by simp
    refine ⟨some a, cap, n, (List.range len).map F, by rw [hl2], by rw [hl2]; exact hl, hm, hmem, ?_, fun cs hcs => ?_⟩
    · rw [hl2]
      refine ⟨by rw [flatten_len hmem, hl2], fun hn => ?_⟩
      have h00 := (World.cells?_some (hF 0 hn).1).2.2 0 hk
      rw [Nat.zero_mul, add_zero_, add_zero_] at h00
      have h01 : (F 0)[0]? = some ((F 0)[0]'(by rw [hlen 0 hn]; exact hk)) := List.getElem?_eq_getElem _
      have hsp := spot_none (h00.trans h01)
      have hblk := World.block_lt_of_cell? w a (h00.trans h01)
      refine ⟨a.block, a.off, by cases a; simp_all, hblk, fun j u hu => ?_⟩
      have hjl : j < len * k := by
        have := (List.getElem?_eq_some_iff.1 hu).1
        rwa [flatten_len hmem, hl2] at this
      have hjk : j % k < k := Nat.mod_lt _ hk
      have hji : j / k < len := (Nat.div_lt_iff_lt_mul hk).2 hjl
      have hdm : j / k * k + j % k = j := by rw [Nat.mul_comm]; exact Nat.div_add_mod j k
      rw [← hdm, flatten_at hmem _ _ hjk] at hu
      simp only [List.getElem?_map, List.getElem?_range hji, Option.map_some, Option.bind_some] at hu
      have := (World.cells?_some (hF _ hji).1).2.2 _ hjk
      rw [hu, add_add, hdm, add_none hsp] at this
      exact this
    · obtain ⟨i, hi, rfl⟩ := List.mem_map.1 hcs
      exact ⟨_, (hF i (List.mem_range.1 hi)).2⟩
where
  add_zero_ {a : Addr} : a.add 0 = a := by unfold Addr.add; simp

theorem len2 {α : Type} : ∀ {l : List α}, l.length = 2 → ∃ a b, l = [a, b]
  | [a, b], _ => ⟨a, b, rfl⟩
theorem len3 {α : Type} : ∀ {l : List α}, l.length = 3 → ∃ a b c, l = [a, b, c]
  | [a, b, c], _ => ⟨a, b, c, rfl⟩
theorem len4 {α : Type} : ∀ {l : List α}, l.length = 4 → ∃ a b c d, l = [a, b, c, d]
  | [a, b, c, d], _ => ⟨a, b, c, d, rfl⟩
/-- From groups of cells to the things that they are. -/
theorem list_of_all {α β : Type} {f : α → β} {q : α → Prop} : ∀ {l : List β}, (∀ b ∈ l, ∃ a, b = f a ∧ q a) → ∃ r : List α, l = r.map f ∧ ∀ a ∈ r, q a
  | [], _ => ⟨[], rfl, by simp⟩
  | b :: l, h => by
    obtain ⟨r, hr, hq⟩ := list_of_all (l := l) (fun x hx => h x (by simp [hx]))
    obtain ⟨a, rfl, ha⟩ := h b (by simp)
    exact ⟨a :: r, by rw [hr]; rfl, by simpa using ⟨ha, hq⟩⟩

/-- What was read is read again where only new memory was made. -/
theorem trodAll_stays (hl : laidOutB P = true) {W W' : World} (hb : Below W.heap.size W W') {sp : Nat → Bool} :
    ∀ {ts : List TypeId} {vs : List Value} {ds : List (DataW H)} {ps : List MemPlace}, (ts.all fun t => P.readableRec t && decide (t < P.types.size)) = true → DataW.TrodAll enc P W 0 (fun _ => true) true ts vs ds ps →
      (∀ x ∈ ps, x.block < W.heap.size) → (∀ x ∈ ps, sp x.block = true) → DataW.TrodAll enc P W' 0 sp true ts vs ds ps
  | [], [], [], _, _, h, _, _ => h
  | [], [], _ :: _, _, _, h, _, _ => h.elim
  | [], _ :: _, _, _, _, h, _, _ => by cases h
  | _ :: _, [], _, _, _, h, _, _ => by cases h
  | _ :: _, _ :: _, [], _, _, h, _, _ => h.elim
  | t :: ts, v :: vs, d :: ds, ps, ht, h, hlt, hsp => by
    obtain ⟨p, q, h1, h2, rfl⟩ := h
    simp only [List.all_cons, Bool.and_eq_true, decide_eq_true_eq] at ht
    obtain ⟨⟨t1, t2⟩, t3⟩ := ht
    exact ⟨p, q, WideElems.Trod_stays hl t1 t2 h1 (fun x hx => hb.same (hlt x (by simp [hx]))) (fun x hx => hsp x (by simp [hx])),
      trodAll_stays hl hb (by simpa using t3) h2 (fun x hx => hlt x (by simp [hx])) (fun x hx => hsp x (by simp [hx])), rfl⟩
end
end Go.Proofs.YtpoelhnceebmkaaGreatDoor
