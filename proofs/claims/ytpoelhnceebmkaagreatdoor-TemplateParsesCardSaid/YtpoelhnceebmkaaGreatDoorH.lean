/- A map[int]bool that the call has made: a set of numbers. No conditions. -/
import Derived.Test.YtpoelhnceebmkaaGreatDoorG
import Derived.Maps.RangeWalk
import Derived.Maps.OwnSet
import Derived.Maps.OwnOps
namespace Go.Proofs.YtpoelhnceebmkaaGreatDoor
open Go Go.RowKit
set_option linter.unusedSimpArgs false
set_option linter.unusedVariables false

noncomputable abbrev RB : Value → Option (DataW Unit × List MemPlace) := plainElem Tryz.prog 4
theorem lawI : Maps.Keyed Tryz.prog 3 := Maps.int_keyed Tryz.underlying3
theorem zeroB (w : World) : (zeroValue 4).run Tryz.prog w = .ok (.bool false) w := by kernel_rfl
/-- A set of numbers, as a set of keys. -/
def inK (T : Nat → Bool) : Lit → Bool
  | .int .i64 x => decide (0 ≤ x) && T x.toNat
  | _ => false
theorem inK_mk (T : Nat → Bool) (k : Nat) : inK T (.int .i64 (k : Int)) = T k := by simp [inK]
theorem wfI {k : Nat} (h : k ≤ 4611686018427387904) : (Lit.int .i64 (k : Int)).wf = true := by
  exact WalkArith.wf_i64 ⟨by omega, by omega⟩
theorem keyI {k : Nat} (h : k ≤ 4611686018427387904) : keyOf Tryz.prog 3 (.int .i64 (k : Int)) = some (.int .i64 (k : Int)) := Maps.keyOf_int_mk Tryz.underlying3 (wfI h)
theorem RB_true : RB (.bool true) = some (.lit (.bool true), []) := plainElem_bool Tryz.underlying4 true
set_option maxRecDepth 100000 in
theorem RB_inv {v : Value} {z : DataW Unit × List MemPlace} (h : RB v = some z) : ∃ x, v = .bool x ∧ z = (.lit (.bool x), []) := by
  unfold RB plainElem at h
  rw [Tryz.underlying4] at h
  cases v <;> simp at h
  exact ⟨_, rfl, h.symm⟩
/-- What the map reads as. -/
def Desc (D : DataW Unit) (T : Nat → Bool) : Prop := (∀ kl, Maps.has D kl = inK T kl) ∧ ∀ kl z, Maps.has D kl = true → D.atKey kl z = .lit (.bool true)
theorem desc_none : Desc (.map []) (fun _ => false) := ⟨fun kl => by
  rw [Maps.has_eq]; unfold inK; split <;> simp, fun kl z h => by simp [Maps.has_eq] at h⟩
theorem desc_put {D : DataW Unit} {T : Nat → Bool} (hm : Maps.IsMap D) (h : Desc D T) (k : Nat) : Desc (D.put (.int .i64 (k : Int)) (.lit (.bool true))) (fun j => T j || decide (j = k)) := by
  have hI : WideAt.IsKeyLit (.int .i64 (k : Int)) := trivial
  refine ⟨fun kl => ?_, fun kl z hh => ?_⟩
  · by_cases e : kl = .int .i64 (k : Int)
    · subst e
      rw [Maps.has_put_same hm hI, inK_mk]; simp
    · rw [Maps.has_put_other e, h.1]
      unfold inK
      split
      · rename_i x
        by_cases hx : 0 ≤ x
        · have : ¬ x.toNat = k := fun e' => e (by congr 1; omega)
          simp [this]
        · simp [hx]
      · rfl
  · by_cases e : kl = .int .i64 (k : Int)
    · subst e
      rw [Maps.atKey_put_same hm hI]
    · rw [Maps.atKey_put_other e]
      rw [Maps.has_put_other e] at hh
      exact h.2 kl z hh
/-- Block b is a map of at most n entries, whose keys are the numbers of T, each with 'true'. -/
def IMap (w : World) (b n : Nat) (T : Nat → Bool) : Prop := ∃ D, w.ownsMap Tryz.prog 3 RB b n D ∧ Desc D T
section
variable {w w' : World} {b n : Nat} {T : Nat → Bool}
theorem IMap.made (w : World) : IMap (w.alloc (.map #[] 0)) w.heap.size 0 (fun _ => false) := ⟨_, World.ownsMap_made w _ _ _, desc_none⟩
theorem IMap.kept {row : Option Nat} (h : IMap w b n T) (hg : w.grownBy w' row) (hne : some b ≠ row) : IMap w' b n T := let ⟨D, h1, h2⟩ := h; ⟨D, h1.kept hg hne, h2⟩
theorem IMap.new (h : IMap w b n T) (hn : New w w') : IMap w' b n T := h.kept (hn.grown_ none) (by simp)
theorem IMap.alloc (h : IMap w b n T) (o : Obj) : IMap (w.alloc o) b n T := h.new ((New.refl w).alloc o)
theorem IMap.lt (h : IMap w b n T) : b < w.heap.size := let ⟨_, h1, _⟩ := h; h1.lt
set_option maxRecDepth 100000 in
theorem IMap.look (h : IMap w b n T) {k : Nat} (hk : k ≤ 4611686018427387904) : (Instr.lookup 113 (.map (some b)) (.int .i64 (k : Int)) false).run Tryz.prog w = .ok (.bool (T k)) w := by
  obtain ⟨D, hown, hd⟩ := h
  obtain ⟨v, ps, hrun, hv⟩ := hown.lookup lawI Tryz.underlying113 (zeroB w) (plainElem_bool Tryz.underlying4 false) (keyI hk)
  obtain ⟨x, rfl, hx⟩ := RB_inv hv
  simp only [Prod.mk.injEq] at hx
  have h1 := hd.1 (.int .i64 (k : Int))
  rw [inK_mk] at h1
  have : x = T k := by
    cases hT : T k
    · rw [hT] at h1
      have := Maps.atKey_of_not_has h1 (.lit (.bool false))
      rw [this] at hx
      injection hx.1 with e; injection e with e; exact e.symm
    · rw [hT] at h1
      have := hd.2 _ (.lit (.bool false)) h1
      rw [this] at hx
      injection hx.1 with e; injection e with e; exact e.symm
  rw [← this]
  exact hrun
theorem IMap.put (h : IMap w b n T) (hn : n < maxLen) {k : Nat} (hk : k ≤ 4611686018427387904) : ∃ w', (Instr.mapUpdate 113 (.map (some b)) (.int .i64 (k : Int)) (.bool true)).run Tryz.prog w = .ok () w' ∧ IMap w' b (n + 1) (fun j => T j || decide (j = k)) ∧ w.grownBy w' (some b) := by
  obtain ⟨D, hown, hd⟩ := h
  obtain ⟨w', r1, r2, r3⟩ := hown.update lawI Tryz.underlying113 hn (keyI hk) RB_true
  exact ⟨w', r1, ⟨_, r2, desc_put hown.isMap hd k⟩, r3⟩
end

/-- A loop over the map: the keys of L are still to come. -/
def IRng (w : World) (b r n : Nat) (T L : Nat → Bool) (cnt : Nat) : Prop := ∃ D left, w.ranges Tryz.prog 3 RB b r n D left cnt ∧ Desc D T ∧ ∀ kl, left kl = inK L kl
section
variable {w w' : World} {b r n cnt : Nat} {T L : Nat → Bool}
theorem IRng.left_eq (h : IRng w b r n T L cnt) : w.rangeLeft b r = cnt := let ⟨_, _, h1, _⟩ := h; h1.left_eq
theorem IRng.lt (h : IRng w b r n T L cnt) : r < w.heap.size := let ⟨_, _, h1, _⟩ := h; h1.lt
theorem IRng.kept {row : Option Nat} (h : IRng w b r n T L cnt) (hg : w.grownBy w' row) (hb : some b ≠ row) (hr : some r ≠ row) : IRng w' b r n T L cnt :=
  let ⟨D, left, h1, h2⟩ := h; ⟨D, left, h1.kept hg hb hr, h2⟩
theorem IRng.new (h : IRng w b r n T L cnt) (hn : New w w') : IRng w' b r n T L cnt := h.kept (hn.grown_ none) (by simp) (by simp)
theorem IRng.owns (h : IRng w b r n T L cnt) : IMap w b n T := let ⟨D, _, h1, h2, _⟩ := h; ⟨D, h1.owns, h2⟩
end

section
variable (w : World) {ops : Array Oper} {rest : List Oper} {o : Oper} {a : Act} {Q : Exit → Act → World → Prop}
theorem wpList_iinsert (hg : o.guard = none) (m x v : Operand) (hop : o.op = Op.insert 113 m x v ∨ o.op = Op.mapUpdate 113 m x v) (b n : Nat) (T : Nat → Bool) (hm : a.eval m = .map (some b)) (h : IMap w b n T) (hn : n < maxLen) (k : Nat) (hk : k ≤ 4611686018427387904)
    (hx : a.eval x = .int .i64 (k : Int)) (hv : a.eval v = .bool true) (hK : ∀ w', IMap w' b (n + 1) (fun j => T j || decide (j = k)) → w.grownBy w' (some b) → wpList Tryz.prog ops Q rest (a.put o.dst undef) w') :
    wpList Tryz.prog ops Q (o :: rest) a w := by
  refine wpList_plain hg fun K' hK' => ?_
  obtain ⟨w', hrun, r1, r2⟩ := h.put hn hk
  unfold Oper.wp
  rcases hop with hop | hop
  · simp [execOp, hop, hm, hx, hv, hrun, Result.andThen]
    exact hK' _ _ (hK w' r1 r2)
  · simp [execOp, hop, hm, hx, hv, hrun, Result.andThen]
    exact hK' _ _ (hK w' r1 r2)
theorem wpList_ilook (hg : o.guard = none) (m x : Operand) (hop : o.op = Op.lookup 113 m x false) (b n : Nat) (T : Nat → Bool) (hm : a.eval m = .map (some b)) (h : IMap w b n T) (k : Nat) (hk : k ≤ 4611686018427387904)
    (bb : Bool) (hb : T k = bb) (hx : a.eval x = .int .i64 (k : Int)) (hK : wpList Tryz.prog ops Q rest (a.put o.dst (.bool bb)) w) :
    wpList Tryz.prog ops Q (o :: rest) a w := by
  refine wpList_plain hg fun K' hK' => ?_
  have hrun := h.look hk
  rw [hb] at hrun
  unfold Oper.wp
  simp [execOp, hop, hm, hx, hrun, Result.andThen]
  exact hK' _ _ hK
theorem wpList_irange (hg : o.guard = none) (m : Operand) (hop : o.op = Op.range 113 m) (b n : Nat) (T : Nat → Bool) (hm : a.eval m = .map (some b)) (h : IMap w b n T)
    (hK : ∀ w' cnt, IRng w' b w.heap.size n T T cnt → w.grownBy w' none → w'.heap.size = w.heap.size + 1 → wpList Tryz.prog ops Q rest (a.put o.dst (.pointer (some ⟨w.heap.size, 0, none⟩))) w') :
    wpList Tryz.prog ops Q (o :: rest) a w := by
  obtain ⟨D, hown, hd⟩ := h
  refine wpList_range_own w hg m 113 hop 3 4 lawI Tryz.underlying113 RB b n D hm hown (fun w' hr hg hs => hK w' _ ⟨D, _, hr, hd, hd.1⟩ hg hs)
set_option maxRecDepth 100000 in
theorem wpList_inext (hg : o.guard = none) (it : Operand) (hop : o.op = Op.next it false) (b r n : Nat) (T L : Nat → Bool) (cnt : Nat)
    (hit : a.eval it = .pointer (some ⟨r, 0, none⟩)) (h : IRng w b r n T L cnt)
    (hDone : (∀ k, L k = false) → wpList Tryz.prog ops Q rest (a.put o.dst (.tuple #[.bool false])) w)
    (hMore : ∀ (k : Nat) (w' : World) (cnt' : Nat), T k = true → L k = true → IRng w' b r n T (fun j => L j && !decide (j = k)) cnt' → cnt' < cnt →
      w.grownBy w' (some r) → w'.heap.size = w.heap.size → (Instr.entry (.pointer (some ⟨r, 0, none⟩))).run Tryz.prog w' = .ok (.tuple #[.int .i64 (k : Int), .bool true]) w' → wpList Tryz.prog ops Q rest (a.put o.dst (.tuple #[.bool true, .int .i64 (k : Int), .bool true])) w') :
    wpList Tryz.prog ops Q (o :: rest) a w := by
  obtain ⟨D, left, hr, hd, hl⟩ := h
  refine wpList_next_ranges w hg it hop 3 lawI RB (Value.int .i64) Value.bool (fun key kl hkey => by obtain ⟨x, rfl, _⟩ := Maps.keyOf_int_inv Tryz.underlying3 hkey; exact ⟨x, rfl⟩) (fun v y hv => by obtain ⟨c, rfl, _⟩ := RB_inv hv; exact ⟨c, rfl⟩)
    b r n D left cnt hit hr (fun _ h0 => hDone (fun k => by have := h0 (.int .i64 (k : Int)); rw [hl, inK_mk] at this; exact this)) (fun x c kl y w' cnt' hkey hlk hv hat hrg hlt hgr hsz hen => ?_)
  obtain ⟨x', ex, rfl, hwx⟩ := Maps.keyOf_int_inv Tryz.underlying3 hkey
  cases ex
  have hlk' := hlk
  rw [hl] at hlk'
  unfold inK at hlk'
  simp only [Bool.and_eq_true, decide_eq_true_eq] at hlk'
  obtain ⟨hx0, hLx⟩ := hlk'
  obtain ⟨k, rfl⟩ : ∃ k : Nat, x = (k : Int) := ⟨x.toNat, by omega⟩
  rw [Int.toNat_natCast] at hLx
  have hhas := Maps.has_true_of_atKey hat
  have hT : T k = true := by have := hd.1 (.int .i64 (k : Int)); rw [hhas, inK_mk] at this; exact this.symm
  obtain ⟨c', ec, hy⟩ := RB_inv hv
  injection ec with ec
  subst ec
  have hc : c = true := by
    have h1 := hd.2 _ (.lit (.bool true)) hhas
    rw [hat, hy] at h1
    injection h1 with e; injection e
  subst hc
  refine hMore k w' cnt' hT hLx ⟨D, _, hrg, hd, fun kl => ?_⟩ hlt hgr hsz hen
  rw [hl]
  by_cases e : kl = .int .i64 (k : Int)
  · subst e
    rw [inK_mk, inK_mk, WideAt.sameKey_self (a := .int .i64 (k : Int)) trivial]; simp
  · rw [Maps.sameKey_ne e]
    unfold inK
    split
    · rename_i x
      by_cases hx : 0 ≤ x
      · have : ¬ x.toNat = k := fun e' => e (by congr 1; omega)
        simp [this]
      · simp [hx]
    · rfl
end

/-! ### how many numbers up to M a set has -/
def cntS (T : Nat → Bool) (M : Nat) : Nat := (List.range (M + 1)).countP T
theorem cntS_le (T : Nat → Bool) (M : Nat) : cntS T M ≤ M + 1 := by
  have := List.countP_le_length (p := T) (l := List.range (M + 1)); simpa [cntS] using this
theorem cntS_add (T : Nat → Bool) {k : Nat} (h : T k = false) : ∀ m, ((List.range m).countP fun j => T j || decide (j = k)) = (List.range m).countP T + if k < m then 1 else 0
  | 0 => by simp
  | m + 1 => by
    rw [List.range_succ, List.countP_append, List.countP_append, cntS_add T h m]
    by_cases e : m = k
    · subst e
      simp [h]
    · by_cases hk : k < m
      · have : k < m + 1 := by omega
        cases hT : T m <;> simp [e, hk, this, hT]
      · have : ¬ k < m + 1 := by omega
        cases hT : T m <;> simp [e, hk, this, hT]
theorem cntS_put (T : Nat → Bool) {k M : Nat} (h : T k = false) (hk : k ≤ M) : cntS (fun j => T j || decide (j = k)) M = cntS T M + 1 := by
  rw [cntS, cntS_add T h, if_pos (by omega)]; rfl

end Go.Proofs.YtpoelhnceebmkaaGreatDoor
