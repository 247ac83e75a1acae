/- slices.Clone of the lists of a binary, binary.clone. Conditions: sizes. (Printed by mk-k1.py.) -/
import Derived.Test.YtnknmpcgbfmfjaaGreatDoorGD
import Derived.Lib.LazyBuf
import Derived.Deep.RegionHeld3
import Derived.Deep.RegionWith
import Derived.Deep.Cut
import Derived.Deep.CutRange

namespace Go.Proofs.YtnknmpcgbfmfjaaGreatDoor
open Go Go.RowKit Go.Joins
set_option linter.unusedSimpArgs false
set_option linter.unusedVariables false

theorem rd_own {w : World} {base : Nat} {e : TypeId} {k n : Nat} {v : Value} {xs : List Value} (h : w.ownsRow base e k v n xs) : ∃ A c, v = .slice A n c ∧ Rd w k A n xs ∧ ∀ a, A = some a → base ≤ a.block := by
  obtain ⟨A, c, hv, _, _, hr⟩ := own_form h
  refine ⟨A, c, hv, hr, fun a ha => ?_⟩
  rcases h.2 with ⟨hv2, _⟩ | ⟨g, cap, cur, hv2, hg, _⟩
  · rw [hv] at hv2; injection hv2 with h1; rw [ha] at h1; cases h1
  · rw [hv] at hv2; injection hv2 with h1; rw [ha] at h1; injection h1 with h1; rw [h1]; exact hg
theorem own_set {w : World} {base : Nat} {e : TypeId} {k n : Nat} {A : Option Addr} {c : Nat} {xs : List Value} (h : w.ownsRow base e k (.slice A n c) n xs) {p : Addr} (hA : ∀ a, A = some a → a.block ≠ p.block) (u : Value) : (w.setCell p u).ownsRow base e k (.slice A n c) n xs :=
  h.kept (row := some p.block) ⟨rfl, rfl, rfl, by simp [World.setCell], fun k hk hne => Below.heap_setCell w p u k (fun e => hne (by rw [e]))⟩ (by
    cases A with
    | none => exact Or.inl rfl
    | some a => exact Or.inr (fun e => hA a rfl (Option.some.inj e)))
theorem Rd.setFar {w : World} {k n : Nat} {A : Option Addr} {xs : List Value} (h : Rd w k A n xs) {p : Addr} (hA : ∀ a, A = some a → a.block ≠ p.block) (u : Value) : Rd (w.setCell p u) k A n xs :=
  ⟨h.1, fun hn => by
    obtain ⟨b, o, e, hb, hc⟩ := h.2 hn
    have := hA _ e
    refine ⟨b, o, e, by simpa [World.setCell] using hb, fun j u' hu => ?_⟩
    rw [World.cell?_setCell_other w p ⟨b, o + j, none⟩ u (fun e => by subst e; exact this rfl)]
    exact hc j u' hu⟩

theorem Tryz.info60x : (Tryz.prog.info? 60).map (fun i => (i.zero, i.size, i.bytes)) = some (some (.agg #[.string ByteArray.empty, .string ByteArray.empty, .int .i64 0, .int .i64 0, .int .i64 0]), 5, 56) := by kernel_rfl
theorem pl_one (l : List PlD) : ∀ v ∈ l.flatMap plC, v.oneCell' = true := by
  intro v hv
  obtain ⟨x, _, hx⟩ := List.mem_flatMap.1 hv
  simp only [plC, List.mem_cons, List.not_mem_nil, or_false] at hx
  rcases hx with rfl | rfl | rfl | rfl | rfl <;> rfl
theorem app_nothingpl {w : World} {base n : Nat} {v : Value} {xs : List Value} (h : w.ownsRow base 60 5 v n xs) (A : Option Addr) (c : Nat) (ty : TypeId) : (Builtin.append_ #[22, 22] ty #[v, .slice A 0 c]).run Tryz.prog w = .ok v w := by
  have hi : ∃ i0, Tryz.prog.info? 60 = some i0 ∧ i0.size = 5 := by
    obtain ⟨i0, hi, _, hs, _⟩ := info_parts Tryz.info60x
    exact ⟨i0, hi, hs⟩
  obtain ⟨i0, hi, hsz⟩ := hi
  have hlc : ∀ ad : Addr, (loadCells ad 0).run Tryz.prog w = .ok #[] w := fun ad => rfl
  rcases h.2 with ⟨rfl, rfl⟩ | ⟨g, cap, cur, rfl, _, _, hnc, _⟩
  · cases A <;> simp [Builtin.append_, run_underlying Tryz.underlying22, sizeOf, typeInfo, hi, hsz, Builtin.lenOf, Builtin.firstCells, hlc, Result.andThen]
  · cases A <;> simp [Builtin.append_, run_underlying Tryz.underlying22, sizeOf, typeInfo, hi, hsz, Builtin.lenOf, Builtin.firstCells, hlc, Result.andThen, hnc, storeCells]
theorem wpList_app_pl {w : World} {ops : Array Oper} {rest : List Oper} {o : Oper} {a : Act} {Q : Exit → Act → World → Prop} (hgd : o.guard = none) (s x : Operand)
    (ho : o.op = .call { callee := .builtin .append, args := #[s, x], argTypes := #[22, 22] })
    (base : Nat) (v : Value) (n : Nat) (xs : List Value) (hs : a.eval s = v) (hown : w.ownsRow base 60 5 v n xs)
    (A : Option Addr) (m c : Nat) (l : List PlD) (hx : a.eval x = .slice A m c) (hr : Rd w 5 A m (l.flatMap plC))
    (h63 : n + m ≤ 1000000000) (hbase : base ≤ w.heap.size)
    (h : ∀ v' w', w'.ownsRow base 60 5 v' (n + m) (xs ++ l.flatMap plC) → w.grownBy w' v.ownBlock → wpList Tryz.prog ops Q rest (a.put o.dst v') w') : wpList Tryz.prog ops Q (o :: rest) a w := by
  obtain ⟨j0, hi0, hz0, hz1, hz2⟩ := info_parts Tryz.info60x
  by_cases hm : 0 < m
  · obtain ⟨b, q, rfl, hb, hc⟩ := hr.2 hm
    exact wpList_append_own _ hgd s x 22 ho base 60 j0 (.agg #[.string ByteArray.empty, .string ByteArray.empty, .int .i64 0, .int .i64 0, .int .i64 0]) 5 56 Tryz.underlying22 hi0 hz0 hz1 hz2 rfl (by decide) v n xs hs hown ⟨b, q, none⟩ m c (l.flatMap plC) hx hr.1 (fun j u hu => by
      have hadd : (⟨b, q, none⟩ : Addr).add j = ⟨b, q + j, none⟩ := by unfold Addr.add; split <;> simp_all
      rw [hadd]; exact hc j u hu) (pl_one l)
      (by simp only [maxLen]; omega) (by omega) hbase (fun v' w' h1 h2 _ => h v' w' h1 h2)
  · obtain rfl : m = 0 := by omega
    have hw : l.flatMap plC = [] := by have := hr.1; exact List.eq_nil_of_length_eq_zero (by omega)
    have hrun := app_nothingpl hown A c o.type
    refine wpList_plain hgd fun K hK => ?_
    unfold Oper.wp
    simp [execOp, ho, resolve, invoke, builtin, hs, hx, hrun, Result.andThen]
    exact hK _ _ (h v w (by rw [hw, List.append_nil]; exact hown) ⟨rfl, rfl, rfl, Nat.le_refl _, fun _ _ _ => rfl⟩)
set_option maxHeartbeats 2000000 in
theorem clone_pl (l : List PlD) (A : Option Addr) (n c : Nat) (w : World) (hl : l.length = n) (hr : Rd w 5 A n (l.flatMap plC)) (hn : n ≤ 1000000) :
    Calls Tryz.prog 114 #[.slice A n c] w fun e w' => (∃ A' c', e = .returned (.slice A' n c') ∧ Rd w' 5 A' n (l.flatMap plC) ∧ (∀ a, A' = some a → w.heap.size ≤ a.block) ∧ w'.ownsRow w.heap.size 60 5 (.slice A' n c') n (l.flatMap plC)) ∧ New w w' := by
  have HR := Lib.hid hr
  cases A with
  | none =>
    have h0 : n = 0 := by
      rcases Nat.eq_zero_or_pos n with h | h
      · exact h
      · obtain ⟨b, o, e, _⟩ := hr.2 h; cases e
    subst h0
    have hq : l.flatMap plC = [] := by rw [List.eq_nil_of_length_eq_zero hl]; rfl
    rw [hq]
    have hnil := fun (w : World) => run_eql_slice_nil (P := Tryz.prog) w 22 60 none 0 c Tryz.underlying22
    clear hr hl hq HR
    go_enter Tryz.func114, Tryz.ntmps114
    go_wp2
    go_ret
    exact ⟨⟨none, 0, rfl, Rd.none_ _, fun a ha => (by cases ha), World.ownsRow_nil ..⟩, New.refl _⟩
  | some a =>
    have hnil := fun (w : World) => run_eql_slice_nil (P := Tryz.prog) w 22 60 (some a) n c Tryz.underlying22
    have ho1 : (w.alloc (.cells #[] 60)).ownsRow w.heap.size 60 5 (.slice (some ⟨w.heap.size, 0, none⟩) 0 0) 0 [] := ⟨rfl, .inr ⟨w.heap.size, 0, #[], rfl, Nat.le_refl _, (Blk.made w 60 #[]), Nat.le_refl _, by simp [maxLen], rfl, rfl⟩⟩
    have HO := Lib.hid ho1
    have HRA := Lib.hid (hr.alloc (.cells #[] 60))
    clear hr hl ho1
    go_enter Tryz.func114, Tryz.ntmps114
    go_wp2_with (at_builtin; refine wpList_app_pl rfl (.tmp 5) (.tmp 6) rfl w.heap.size (.slice (some ⟨w.heap.size, 0, none⟩) 0 0) 0 [] rfl HO.out (some a) n c l rfl HRA.out (by omega) (by simp) ?_; intro v2 w2 hown2 hg2)
    obtain ⟨A', c', rfl, hrd, hbs⟩ := rd_own hown2
    rw [Nat.zero_add, List.nil_append] at hrd
    go_ret
    refine ⟨⟨A', c', by rw [Nat.zero_add]; rfl, hrd, hbs, by rw [Nat.zero_add, List.nil_append] at hown2; exact hown2⟩, Below.grown ((New.refl w).alloc _) hg2 (by simp) (fun q hq => (HO.out.lt q hq).1)⟩

theorem Tryz.info3x : (Tryz.prog.info? 3).map (fun i => (i.zero, i.size, i.bytes)) = some (some (.int .i64 0), 1, 8) := by kernel_rfl
theorem fx_one (l : List Int) : ∀ v ∈ l.flatMap fxC, v.oneCell' = true := by
  intro v hv
  obtain ⟨x, _, hx⟩ := List.mem_flatMap.1 hv
  simp only [fxC, List.mem_cons, List.not_mem_nil, or_false] at hx
  rcases hx with rfl <;> rfl
theorem app_nothingfx {w : World} {base n : Nat} {v : Value} {xs : List Value} (h : w.ownsRow base 3 1 v n xs) (A : Option Addr) (c : Nat) (ty : TypeId) : (Builtin.append_ #[23, 23] ty #[v, .slice A 0 c]).run Tryz.prog w = .ok v w := by
  have hi : ∃ i0, Tryz.prog.info? 3 = some i0 ∧ i0.size = 1 := by
    obtain ⟨i0, hi, _, hs, _⟩ := info_parts Tryz.info3x
    exact ⟨i0, hi, hs⟩
  obtain ⟨i0, hi, hsz⟩ := hi
  have hlc : ∀ ad : Addr, (loadCells ad 0).run Tryz.prog w = .ok #[] w := fun ad => rfl
  rcases h.2 with ⟨rfl, rfl⟩ | ⟨g, cap, cur, rfl, _, _, hnc, _⟩
  · cases A <;> simp [Builtin.append_, run_underlying Tryz.underlying23, sizeOf, typeInfo, hi, hsz, Builtin.lenOf, Builtin.firstCells, hlc, Result.andThen]
  · cases A <;> simp [Builtin.append_, run_underlying Tryz.underlying23, sizeOf, typeInfo, hi, hsz, Builtin.lenOf, Builtin.firstCells, hlc, Result.andThen, hnc, storeCells]
theorem wpList_app_fx {w : World} {ops : Array Oper} {rest : List Oper} {o : Oper} {a : Act} {Q : Exit → Act → World → Prop} (hgd : o.guard = none) (s x : Operand)
    (ho : o.op = .call { callee := .builtin .append, args := #[s, x], argTypes := #[23, 23] })
    (base : Nat) (v : Value) (n : Nat) (xs : List Value) (hs : a.eval s = v) (hown : w.ownsRow base 3 1 v n xs)
    (A : Option Addr) (m c : Nat) (l : List Int) (hx : a.eval x = .slice A m c) (hr : Rd w 1 A m (l.flatMap fxC))
    (h63 : n + m ≤ 1000000000) (hbase : base ≤ w.heap.size)
    (h : ∀ v' w', w'.ownsRow base 3 1 v' (n + m) (xs ++ l.flatMap fxC) → w.grownBy w' v.ownBlock → wpList Tryz.prog ops Q rest (a.put o.dst v') w') : wpList Tryz.prog ops Q (o :: rest) a w := by
  obtain ⟨j0, hi0, hz0, hz1, hz2⟩ := info_parts Tryz.info3x
  by_cases hm : 0 < m
  · obtain ⟨b, q, rfl, hb, hc⟩ := hr.2 hm
    exact wpList_append_own _ hgd s x 23 ho base 3 j0 (.int .i64 0) 1 8 Tryz.underlying23 hi0 hz0 hz1 hz2 rfl (by decide) v n xs hs hown ⟨b, q, none⟩ m c (l.flatMap fxC) hx hr.1 (fun j u hu => by
      have hadd : (⟨b, q, none⟩ : Addr).add j = ⟨b, q + j, none⟩ := by unfold Addr.add; split <;> simp_all
      rw [hadd]; exact hc j u hu) (fx_one l)
      (by simp only [maxLen]; omega) (by omega) hbase (fun v' w' h1 h2 _ => h v' w' h1 h2)
  · obtain rfl : m = 0 := by omega
    have hw : l.flatMap fxC = [] := by have := hr.1; exact List.eq_nil_of_length_eq_zero (by omega)
    have hrun := app_nothingfx hown A c o.type
    refine wpList_plain hgd fun K hK => ?_
    unfold Oper.wp
    simp [execOp, ho, resolve, invoke, builtin, hs, hx, hrun, Result.andThen]
    exact hK _ _ (h v w (by rw [hw, List.append_nil]; exact hown) ⟨rfl, rfl, rfl, Nat.le_refl _, fun _ _ _ => rfl⟩)
set_option maxHeartbeats 2000000 in
theorem clone_fx (l : List Int) (A : Option Addr) (n c : Nat) (w : World) (hl : l.length = n) (hr : Rd w 1 A n (l.flatMap fxC)) (hn : n ≤ 1000000) :
    Calls Tryz.prog 115 #[.slice A n c] w fun e w' => (∃ A' c', e = .returned (.slice A' n c') ∧ Rd w' 1 A' n (l.flatMap fxC) ∧ (∀ a, A' = some a → w.heap.size ≤ a.block) ∧ w'.ownsRow w.heap.size 3 1 (.slice A' n c') n (l.flatMap fxC)) ∧ New w w' := by
  have HR := Lib.hid hr
  cases A with
  | none =>
    have h0 : n = 0 := by
      rcases Nat.eq_zero_or_pos n with h | h
      · exact h
      · obtain ⟨b, o, e, _⟩ := hr.2 h; cases e
    subst h0
    have hq : l.flatMap fxC = [] := by rw [List.eq_nil_of_length_eq_zero hl]; rfl
    rw [hq]
    have hnil := fun (w : World) => run_eql_slice_nil (P := Tryz.prog) w 23 3 none 0 c Tryz.underlying23
    clear hr hl hq HR
    go_enter Tryz.func115, Tryz.ntmps115
    go_wp2
    go_ret
    exact ⟨⟨none, 0, rfl, Rd.none_ _, fun a ha => (by cases ha), World.ownsRow_nil ..⟩, New.refl _⟩
  | some a =>
    have hnil := fun (w : World) => run_eql_slice_nil (P := Tryz.prog) w 23 3 (some a) n c Tryz.underlying23
    have ho1 : (w.alloc (.cells #[] 3)).ownsRow w.heap.size 3 1 (.slice (some ⟨w.heap.size, 0, none⟩) 0 0) 0 [] := ⟨rfl, .inr ⟨w.heap.size, 0, #[], rfl, Nat.le_refl _, (Blk.made w 3 #[]), Nat.le_refl _, by simp [maxLen], rfl, rfl⟩⟩
    have HO := Lib.hid ho1
    have HRA := Lib.hid (hr.alloc (.cells #[] 3))
    clear hr hl ho1
    go_enter Tryz.func115, Tryz.ntmps115
    go_wp2_with (at_builtin; refine wpList_app_fx rfl (.tmp 5) (.tmp 6) rfl w.heap.size (.slice (some ⟨w.heap.size, 0, none⟩) 0 0) 0 [] rfl HO.out (some a) n c l rfl HRA.out (by omega) (by simp) ?_; intro v2 w2 hown2 hg2)
    obtain ⟨A', c', rfl, hrd, hbs⟩ := rd_own hown2
    rw [Nat.zero_add, List.nil_append] at hrd
    go_ret
    refine ⟨⟨A', c', by rw [Nat.zero_add]; rfl, hrd, hbs, by rw [Nat.zero_add, List.nil_append] at hown2; exact hown2⟩, Below.grown ((New.refl w).alloc _) hg2 (by simp) (fun q hq => (HO.out.lt q hq).1)⟩

theorem Tryz.info81x : (Tryz.prog.info? 81).map (fun i => (i.zero, i.size, i.bytes)) = some (some (.agg #[.string ByteArray.empty, .string ByteArray.empty, .int .i64 0]), 3, 40) := by kernel_rfl
theorem im_one (l : List ImD) : ∀ v ∈ l.flatMap imC, v.oneCell' = true := by
  intro v hv
  obtain ⟨x, _, hx⟩ := List.mem_flatMap.1 hv
  simp only [imC, List.mem_cons, List.not_mem_nil, or_false] at hx
  rcases hx with rfl | rfl | rfl <;> rfl
theorem app_nothingim {w : World} {base n : Nat} {v : Value} {xs : List Value} (h : w.ownsRow base 81 3 v n xs) (A : Option Addr) (c : Nat) (ty : TypeId) : (Builtin.append_ #[24, 24] ty #[v, .slice A 0 c]).run Tryz.prog w = .ok v w := by
  have hi : ∃ i0, Tryz.prog.info? 81 = some i0 ∧ i0.size = 3 := by
    obtain ⟨i0, hi, _, hs, _⟩ := info_parts Tryz.info81x
    exact ⟨i0, hi, hs⟩
  obtain ⟨i0, hi, hsz⟩ := hi
  have hlc : ∀ ad : Addr, (loadCells ad 0).run Tryz.prog w = .ok #[] w := fun ad => rfl
  rcases h.2 with ⟨rfl, rfl⟩ | ⟨g, cap, cur, rfl, _, _, hnc, _⟩
  · cases A <;> simp [Builtin.append_, run_underlying Tryz.underlying24, sizeOf, typeInfo, hi, hsz, Builtin.lenOf, Builtin.firstCells, hlc, Result.andThen]
  · cases A <;> simp [Builtin.append_, run_underlying Tryz.underlying24, sizeOf, typeInfo, hi, hsz, Builtin.lenOf, Builtin.firstCells, hlc, Result.andThen, hnc, storeCells]
theorem wpList_app_im {w : World} {ops : Array Oper} {rest : List Oper} {o : Oper} {a : Act} {Q : Exit → Act → World → Prop} (hgd : o.guard = none) (s x : Operand)
    (ho : o.op = .call { callee := .builtin .append, args := #[s, x], argTypes := #[24, 24] })
    (base : Nat) (v : Value) (n : Nat) (xs : List Value) (hs : a.eval s = v) (hown : w.ownsRow base 81 3 v n xs)
    (A : Option Addr) (m c : Nat) (l : List ImD) (hx : a.eval x = .slice A m c) (hr : Rd w 3 A m (l.flatMap imC))
    (h63 : n + m ≤ 1000000000) (hbase : base ≤ w.heap.size)
    (h : ∀ v' w', w'.ownsRow base 81 3 v' (n + m) (xs ++ l.flatMap imC) → w.grownBy w' v.ownBlock → wpList Tryz.prog ops Q rest (a.put o.dst v') w') : wpList Tryz.prog ops Q (o :: rest) a w := by
  obtain ⟨j0, hi0, hz0, hz1, hz2⟩ := info_parts Tryz.info81x
  by_cases hm : 0 < m
  · obtain ⟨b, q, rfl, hb, hc⟩ := hr.2 hm
    exact wpList_append_own _ hgd s x 24 ho base 81 j0 (.agg #[.string ByteArray.empty, .string ByteArray.empty, .int .i64 0]) 3 40 Tryz.underlying24 hi0 hz0 hz1 hz2 rfl (by decide) v n xs hs hown ⟨b, q, none⟩ m c (l.flatMap imC) hx hr.1 (fun j u hu => by
      have hadd : (⟨b, q, none⟩ : Addr).add j = ⟨b, q + j, none⟩ := by unfold Addr.add; split <;> simp_all
      rw [hadd]; exact hc j u hu) (im_one l)
      (by simp only [maxLen]; omega) (by omega) hbase (fun v' w' h1 h2 _ => h v' w' h1 h2)
  · obtain rfl : m = 0 := by omega
    have hw : l.flatMap imC = [] := by have := hr.1; exact List.eq_nil_of_length_eq_zero (by omega)
    have hrun := app_nothingim hown A c o.type
    refine wpList_plain hgd fun K hK => ?_
    unfold Oper.wp
    simp [execOp, ho, resolve, invoke, builtin, hs, hx, hrun, Result.andThen]
    exact hK _ _ (h v w (by rw [hw, List.append_nil]; exact hown) ⟨rfl, rfl, rfl, Nat.le_refl _, fun _ _ _ => rfl⟩)
set_option maxHeartbeats 2000000 in
theorem clone_im (l : List ImD) (A : Option Addr) (n c : Nat) (w : World) (hl : l.length = n) (hr : Rd w 3 A n (l.flatMap imC)) (hn : n ≤ 1000000) :
    Calls Tryz.prog 116 #[.slice A n c] w fun e w' => (∃ A' c', e = .returned (.slice A' n c') ∧ Rd w' 3 A' n (l.flatMap imC) ∧ (∀ a, A' = some a → w.heap.size ≤ a.block) ∧ w'.ownsRow w.heap.size 81 3 (.slice A' n c') n (l.flatMap imC)) ∧ New w w' := by
  have HR := Lib.hid hr
  cases A with
  | none =>
    have h0 : n = 0 := by
      rcases Nat.eq_zero_or_pos n with h | h
      · exact h
      · obtain ⟨b, o, e, _⟩ := hr.2 h; cases e
    subst h0
    have hq : l.flatMap imC = [] := by rw [List.eq_nil_of_length_eq_zero hl]; rfl
    rw [hq]
    have hnil := fun (w : World) => run_eql_slice_nil (P := Tryz.prog) w 24 81 none 0 c Tryz.underlying24
    clear hr hl hq HR
    go_enter Tryz.func116, Tryz.ntmps116
    go_wp2
    go_ret
    exact ⟨⟨none, 0, rfl, Rd.none_ _, fun a ha => (by cases ha), World.ownsRow_nil ..⟩, New.refl _⟩
  | some a =>
    have hnil := fun (w : World) => run_eql_slice_nil (P := Tryz.prog) w 24 81 (some a) n c Tryz.underlying24
    have ho1 : (w.alloc (.cells #[] 81)).ownsRow w.heap.size 81 3 (.slice (some ⟨w.heap.size, 0, none⟩) 0 0) 0 [] := ⟨rfl, .inr ⟨w.heap.size, 0, #[], rfl, Nat.le_refl _, (Blk.made w 81 #[]), Nat.le_refl _, by simp [maxLen], rfl, rfl⟩⟩
    have HO := Lib.hid ho1
    have HRA := Lib.hid (hr.alloc (.cells #[] 81))
    clear hr hl ho1
    go_enter Tryz.func116, Tryz.ntmps116
    go_wp2_with (at_builtin; refine wpList_app_im rfl (.tmp 5) (.tmp 6) rfl w.heap.size (.slice (some ⟨w.heap.size, 0, none⟩) 0 0) 0 [] rfl HO.out (some a) n c l rfl HRA.out (by omega) (by simp) ?_; intro v2 w2 hown2 hg2)
    obtain ⟨A', c', rfl, hrd, hbs⟩ := rd_own hown2
    rw [Nat.zero_add, List.nil_append] at hrd
    go_ret
    refine ⟨⟨A', c', by rw [Nat.zero_add]; rfl, hrd, hbs, by rw [Nat.zero_add, List.nil_append] at hown2; exact hown2⟩, Below.grown ((New.refl w).alloc _) hg2 (by simp) (fun q hq => (HO.out.lt q hq).1)⟩

theorem Tryz.info83x : (Tryz.prog.info? 83).map (fun i => (i.zero, i.size, i.bytes)) = some (some (.agg #[.string ByteArray.empty, .int .i64 0]), 2, 24) := by kernel_rfl
theorem ex_one (l : List ExD) : ∀ v ∈ l.flatMap exC, v.oneCell' = true := by
  intro v hv
  obtain ⟨x, _, hx⟩ := List.mem_flatMap.1 hv
  simp only [exC, List.mem_cons, List.not_mem_nil, or_false] at hx
  rcases hx with rfl | rfl <;> rfl
theorem app_nothingex {w : World} {base n : Nat} {v : Value} {xs : List Value} (h : w.ownsRow base 83 2 v n xs) (A : Option Addr) (c : Nat) (ty : TypeId) : (Builtin.append_ #[25, 25] ty #[v, .slice A 0 c]).run Tryz.prog w = .ok v w := by
  have hi : ∃ i0, Tryz.prog.info? 83 = some i0 ∧ i0.size = 2 := by
    obtain ⟨i0, hi, _, hs, _⟩ := info_parts Tryz.info83x
    exact ⟨i0, hi, hs⟩
  obtain ⟨i0, hi, hsz⟩ := hi
  have hlc : ∀ ad : Addr, (loadCells ad 0).run Tryz.prog w = .ok #[] w := fun ad => rfl
  rcases h.2 with ⟨rfl, rfl⟩ | ⟨g, cap, cur, rfl, _, _, hnc, _⟩
  · cases A <;> simp [Builtin.append_, run_underlying Tryz.underlying25, sizeOf, typeInfo, hi, hsz, Builtin.lenOf, Builtin.firstCells, hlc, Result.andThen]
  · cases A <;> simp [Builtin.append_, run_underlying Tryz.underlying25, sizeOf, typeInfo, hi, hsz, Builtin.lenOf, Builtin.firstCells, hlc, Result.andThen, hnc, storeCells]
theorem wpList_app_ex {w : World} {ops : Array Oper} {rest : List Oper} {o : Oper} {a : Act} {Q : Exit → Act → World → Prop} (hgd : o.guard = none) (s x : Operand)
    (ho : o.op = .call { callee := .builtin .append, args := #[s, x], argTypes := #[25, 25] })
    (base : Nat) (v : Value) (n : Nat) (xs : List Value) (hs : a.eval s = v) (hown : w.ownsRow base 83 2 v n xs)
    (A : Option Addr) (m c : Nat) (l : List ExD) (hx : a.eval x = .slice A m c) (hr : Rd w 2 A m (l.flatMap exC))
    (h63 : n + m ≤ 1000000000) (hbase : base ≤ w.heap.size)
    (h : ∀ v' w', w'.ownsRow base 83 2 v' (n + m) (xs ++ l.flatMap exC) → w.grownBy w' v.ownBlock → wpList Tryz.prog ops Q rest (a.put o.dst v') w') : wpList Tryz.prog ops Q (o :: rest) a w := by
  obtain ⟨j0, hi0, hz0, hz1, hz2⟩ := info_parts Tryz.info83x
  by_cases hm : 0 < m
  · obtain ⟨b, q, rfl, hb, hc⟩ := hr.2 hm
    exact wpList_append_own _ hgd s x 25 ho base 83 j0 (.agg #[.string ByteArray.empty, .int .i64 0]) 2 24 Tryz.underlying25 hi0 hz0 hz1 hz2 rfl (by decide) v n xs hs hown ⟨b, q, none⟩ m c (l.flatMap exC) hx hr.1 (fun j u hu => by
      have hadd : (⟨b, q, none⟩ : Addr).add j = ⟨b, q + j, none⟩ := by unfold Addr.add; split <;> simp_all
      rw [hadd]; exact hc j u hu) (ex_one l)
      (by simp only [maxLen]; omega) (by omega) hbase (fun v' w' h1 h2 _ => h v' w' h1 h2)
  · obtain rfl : m = 0 := by omega
    have hw : l.flatMap exC = [] := by have := hr.1; exact List.eq_nil_of_length_eq_zero (by omega)
    have hrun := app_nothingex hown A c o.type
    refine wpList_plain hgd fun K hK => ?_
    unfold Oper.wp
    simp [execOp, ho, resolve, invoke, builtin, hs, hx, hrun, Result.andThen]
    exact hK _ _ (h v w (by rw [hw, List.append_nil]; exact hown) ⟨rfl, rfl, rfl, Nat.le_refl _, fun _ _ _ => rfl⟩)
set_option maxHeartbeats 2000000 in
theorem clone_ex (l : List ExD) (A : Option Addr) (n c : Nat) (w : World) (hl : l.length = n) (hr : Rd w 2 A n (l.flatMap exC)) (hn : n ≤ 1000000) :
    Calls Tryz.prog 117 #[.slice A n c] w fun e w' => (∃ A' c', e = .returned (.slice A' n c') ∧ Rd w' 2 A' n (l.flatMap exC) ∧ (∀ a, A' = some a → w.heap.size ≤ a.block) ∧ w'.ownsRow w.heap.size 83 2 (.slice A' n c') n (l.flatMap exC)) ∧ New w w' := by
  have HR := Lib.hid hr
  cases A with
  | none =>
    have h0 : n = 0 := by
      rcases Nat.eq_zero_or_pos n with h | h
      · exact h
      · obtain ⟨b, o, e, _⟩ := hr.2 h; cases e
    subst h0
    have hq : l.flatMap exC = [] := by rw [List.eq_nil_of_length_eq_zero hl]; rfl
    rw [hq]
    have hnil := fun (w : World) => run_eql_slice_nil (P := Tryz.prog) w 25 83 none 0 c Tryz.underlying25
    clear hr hl hq HR
    go_enter Tryz.func117, Tryz.ntmps117
    go_wp2
    go_ret
    exact ⟨⟨none, 0, rfl, Rd.none_ _, fun a ha => (by cases ha), World.ownsRow_nil ..⟩, New.refl _⟩
  | some a =>
    have hnil := fun (w : World) => run_eql_slice_nil (P := Tryz.prog) w 25 83 (some a) n c Tryz.underlying25
    have ho1 : (w.alloc (.cells #[] 83)).ownsRow w.heap.size 83 2 (.slice (some ⟨w.heap.size, 0, none⟩) 0 0) 0 [] := ⟨rfl, .inr ⟨w.heap.size, 0, #[], rfl, Nat.le_refl _, (Blk.made w 83 #[]), Nat.le_refl _, by simp [maxLen], rfl, rfl⟩⟩
    have HO := Lib.hid ho1
    have HRA := Lib.hid (hr.alloc (.cells #[] 83))
    clear hr hl ho1
    go_enter Tryz.func117, Tryz.ntmps117
    go_wp2_with (at_builtin; refine wpList_app_ex rfl (.tmp 5) (.tmp 6) rfl w.heap.size (.slice (some ⟨w.heap.size, 0, none⟩) 0 0) 0 [] rfl HO.out (some a) n c l rfl HRA.out (by omega) (by simp) ?_; intro v2 w2 hown2 hg2)
    obtain ⟨A', c', rfl, hrd, hbs⟩ := rd_own hown2
    rw [Nat.zero_add, List.nil_append] at hrd
    go_ret
    refine ⟨⟨A', c', by rw [Nat.zero_add]; rfl, hrd, hbs, by rw [Nat.zero_add, List.nil_append] at hown2; exact hown2⟩, Below.grown ((New.refl w).alloc _) hg2 (by simp) (fun q hq => (HO.out.lt q hq).1)⟩

theorem Tryz.info40x : (Tryz.prog.info? 40).map (fun i => (i.zero, i.size, i.bytes)) = some (some (.agg #[.string ByteArray.empty, .string ByteArray.empty]), 2, 32) := by kernel_rfl
theorem nt_one (l : List NtD) : ∀ v ∈ l.flatMap ntC, v.oneCell' = true := by
  intro v hv
  obtain ⟨x, _, hx⟩ := List.mem_flatMap.1 hv
  simp only [ntC, List.mem_cons, List.not_mem_nil, or_false] at hx
  rcases hx with rfl | rfl <;> rfl
theorem app_nothingnt {w : World} {base n : Nat} {v : Value} {xs : List Value} (h : w.ownsRow base 40 2 v n xs) (A : Option Addr) (c : Nat) (ty : TypeId) : (Builtin.append_ #[26, 26] ty #[v, .slice A 0 c]).run Tryz.prog w = .ok v w := by
  have hi : ∃ i0, Tryz.prog.info? 40 = some i0 ∧ i0.size = 2 := by
    obtain ⟨i0, hi, _, hs, _⟩ := info_parts Tryz.info40x
    exact ⟨i0, hi, hs⟩
  obtain ⟨i0, hi, hsz⟩ := hi
  have hlc : ∀ ad : Addr, (loadCells ad 0).run Tryz.prog w = .ok #[] w := fun ad => rfl
  rcases h.2 with ⟨rfl, rfl⟩ | ⟨g, cap, cur, rfl, _, _, hnc, _⟩
  · cases A <;> simp [Builtin.append_, run_underlying Tryz.underlying26, sizeOf, typeInfo, hi, hsz, Builtin.lenOf, Builtin.firstCells, hlc, Result.andThen]
  · cases A <;> simp [Builtin.append_, run_underlying Tryz.underlying26, sizeOf, typeInfo, hi, hsz, Builtin.lenOf, Builtin.firstCells, hlc, Result.andThen, hnc, storeCells]
theorem wpList_app_nt {w : World} {ops : Array Oper} {rest : List Oper} {o : Oper} {a : Act} {Q : Exit → Act → World → Prop} (hgd : o.guard = none) (s x : Operand)
    (ho : o.op = .call { callee := .builtin .append, args := #[s, x], argTypes := #[26, 26] })
    (base : Nat) (v : Value) (n : Nat) (xs : List Value) (hs : a.eval s = v) (hown : w.ownsRow base 40 2 v n xs)
    (A : Option Addr) (m c : Nat) (l : List NtD) (hx : a.eval x = .slice A m c) (hr : Rd w 2 A m (l.flatMap ntC))
    (h63 : n + m ≤ 1000000000) (hbase : base ≤ w.heap.size)
    (h : ∀ v' w', w'.ownsRow base 40 2 v' (n + m) (xs ++ l.flatMap ntC) → w.grownBy w' v.ownBlock → wpList Tryz.prog ops Q rest (a.put o.dst v') w') : wpList Tryz.prog ops Q (o :: rest) a w := by
  obtain ⟨j0, hi0, hz0, hz1, hz2⟩ := info_parts Tryz.info40x
  by_cases hm : 0 < m
  · obtain ⟨b, q, rfl, hb, hc⟩ := hr.2 hm
    exact wpList_append_own _ hgd s x 26 ho base 40 j0 (.agg #[.string ByteArray.empty, .string ByteArray.empty]) 2 32 Tryz.underlying26 hi0 hz0 hz1 hz2 rfl (by decide) v n xs hs hown ⟨b, q, none⟩ m c (l.flatMap ntC) hx hr.1 (fun j u hu => by
      have hadd : (⟨b, q, none⟩ : Addr).add j = ⟨b, q + j, none⟩ := by unfold Addr.add; split <;> simp_all
      rw [hadd]; exact hc j u hu) (nt_one l)
      (by simp only [maxLen]; omega) (by omega) hbase (fun v' w' h1 h2 _ => h v' w' h1 h2)
  · obtain rfl : m = 0 := by omega
    have hw : l.flatMap ntC = [] := by have := hr.1; exact List.eq_nil_of_length_eq_zero (by omega)
    have hrun := app_nothingnt hown A c o.type
    refine wpList_plain hgd fun K hK => ?_
    unfold Oper.wp
    simp [execOp, ho, resolve, invoke, builtin, hs, hx, hrun, Result.andThen]
    exact hK _ _ (h v w (by rw [hw, List.append_nil]; exact hown) ⟨rfl, rfl, rfl, Nat.le_refl _, fun _ _ _ => rfl⟩)
set_option maxHeartbeats 2000000 in
theorem clone_nt (l : List NtD) (A : Option Addr) (n c : Nat) (w : World) (hl : l.length = n) (hr : Rd w 2 A n (l.flatMap ntC)) (hn : n ≤ 1000000) :
    Calls Tryz.prog 118 #[.slice A n c] w fun e w' => (∃ A' c', e = .returned (.slice A' n c') ∧ Rd w' 2 A' n (l.flatMap ntC) ∧ (∀ a, A' = some a → w.heap.size ≤ a.block) ∧ w'.ownsRow w.heap.size 40 2 (.slice A' n c') n (l.flatMap ntC)) ∧ New w w' := by
  have HR := Lib.hid hr
  cases A with
  | none =>
    have h0 : n = 0 := by
      rcases Nat.eq_zero_or_pos n with h | h
      · exact h
      · obtain ⟨b, o, e, _⟩ := hr.2 h; cases e
    subst h0
    have hq : l.flatMap ntC = [] := by rw [List.eq_nil_of_length_eq_zero hl]; rfl
    rw [hq]
    have hnil := fun (w : World) => run_eql_slice_nil (P := Tryz.prog) w 26 40 none 0 c Tryz.underlying26
    clear hr hl hq HR
    go_enter Tryz.func118, Tryz.ntmps118
    go_wp2
    go_ret
    exact ⟨⟨none, 0, rfl, Rd.none_ _, fun a ha => (by cases ha), World.ownsRow_nil ..⟩, New.refl _⟩
  | some a =>
    have hnil := fun (w : World) => run_eql_slice_nil (P := Tryz.prog) w 26 40 (some a) n c Tryz.underlying26
    have ho1 : (w.alloc (.cells #[] 40)).ownsRow w.heap.size 40 2 (.slice (some ⟨w.heap.size, 0, none⟩) 0 0) 0 [] := ⟨rfl, .inr ⟨w.heap.size, 0, #[], rfl, Nat.le_refl _, (Blk.made w 40 #[]), Nat.le_refl _, by simp [maxLen], rfl, rfl⟩⟩
    have HO := Lib.hid ho1
    have HRA := Lib.hid (hr.alloc (.cells #[] 40))
    clear hr hl ho1
    go_enter Tryz.func118, Tryz.ntmps118
    go_wp2_with (at_builtin; refine wpList_app_nt rfl (.tmp 5) (.tmp 6) rfl w.heap.size (.slice (some ⟨w.heap.size, 0, none⟩) 0 0) 0 [] rfl HO.out (some a) n c l rfl HRA.out (by omega) (by simp) ?_; intro v2 w2 hown2 hg2)
    obtain ⟨A', c', rfl, hrd, hbs⟩ := rd_own hown2
    rw [Nat.zero_add, List.nil_append] at hrd
    go_ret
    refine ⟨⟨A', c', by rw [Nat.zero_add]; rfl, hrd, hbs, by rw [Nat.zero_add, List.nil_append] at hown2; exact hown2⟩, Below.grown ((New.refl w).alloc _) hg2 (by simp) (fun q hq => (HO.out.lt q hq).1)⟩

end Go.Proofs.YtnknmpcgbfmfjaaGreatDoor

