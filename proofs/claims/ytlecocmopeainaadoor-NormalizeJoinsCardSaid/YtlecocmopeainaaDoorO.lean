/- normalize.Lines: the lines in which words stand. No conditions but the lengths' own. -/
import Derived.Test.YtlecocmopeainaaDoorN4
import Derived.Test.YtlecocmopeainaaDoorTail
namespace Go.Proofs.YtlecocmopeainaaDoor
open Go Go.RowKit Go.Joins Go.Shelf
set_option linter.unusedSimpArgs false
set_option linter.unusedVariables false

/-! ### the plain law -/
/-- One more line, not below the last one. -/
def pk (acc : List (Int × Int)) (l : Int) : List (Int × Int) := match acc.getLast? with
  | some x => if l ≤ x.2 then acc.dropLast ++ [(x.1, l + 1)] else acc ++ [(l, l + 1)]
  | none => [(l, l + 1)]
def linesV (ls : List Int) : List (Int × Int) := ls.foldl pk []
theorem linesV_snoc (ls : List Int) (l : Int) : linesV (ls ++ [l]) = pk (linesV ls) l := by simp [linesV]
theorem pk_len (acc : List (Int × Int)) (l : Int) : (pk acc l).length ≤ acc.length + 1 := by
  unfold pk; split
  · split <;> simp
  · simp
theorem linesV_len (ls : List Int) : (linesV ls).length ≤ ls.length := by
  have : ∀ (ls : List Int) (acc : List (Int × Int)), (ls.foldl pk acc).length ≤ acc.length + ls.length := by
    intro ls
    induction ls with
    | nil => intro acc; simp
    | cons l r ih =>
      intro acc
      have h1 := ih (pk acc l)
      have h2 := pk_len acc l
      rw [List.foldl_cons, List.length_cons]; omega
  have h := this ls []
  simpa [linesV] using h
/-- What Lines returns: the error, the spans. -/
def linesR (p : ByteArray) (ws : List Lz) (i j : Int) : Int × List (Int × Int) :=
  if validV p ws = false then (1, []) else if i < 0 ∨ j < i ∨ (ws.length : Int) < j then (3, []) else (0, linesV (((ws.drop i.toNat).take (j.toNat - i.toNat)).map Prod.snd))
def spCells (p : ByteArray) (l : List (Int × Int)) : List Value := l.flatMap fun x => [.string p, .int .i64 x.1, .int .i64 x.2]
theorem spCells_app (p : ByteArray) (l l' : List (Int × Int)) : spCells p (l ++ l') = spCells p l ++ spCells p l' := by simp [spCells]
theorem spCells_len (p : ByteArray) (l : List (Int × Int)) : (spCells p l).length = l.length * 3 := by
  induction l with
  | nil => rfl
  | cons x l ih => simp only [spCells, List.flatMap_cons, List.length_append, List.length_cons, List.length_nil] at ih ⊢; omega
theorem spCells_at (p : ByteArray) : ∀ (l : List (Int × Int)) (k : Nat) (x : Int × Int), l[k]? = some x → (spCells p l)[k * 3]? = some (.string p) ∧ (spCells p l)[k * 3 + 1]? = some (.int .i64 x.1) ∧ (spCells p l)[k * 3 + 2]? = some (.int .i64 x.2)
  | [], k, x, h => by simp at h
  | y :: l, 0, x, h => by simp at h; subst h; exact ⟨rfl, rfl, rfl⟩
  | y :: l, k + 1, x, h => by
    have ih := spCells_at p l k x (by simpa using h)
    have e1 : (k + 1) * 3 = k * 3 + 3 := by omega
    have e2 : spCells p (y :: l) = .string p :: .int .i64 y.1 :: .int .i64 y.2 :: spCells p l := rfl
    rw [e1, e2]
    simpa using ih
theorem spCells_set (p : ByteArray) (init : List (Int × Int)) (f t n : Int) : (spCells p (init ++ [(f, t)])).set (init.length * 3 + 2) (.int .i64 n) = spCells p (init ++ [(f, n)]) := by
  rw [spCells_app, spCells_app, List.set_append_right _ _ (by rw [spCells_len]; omega), spCells_len]
  rw [show init.length * 3 + 2 - init.length * 3 = 2 by omega]; rfl
theorem last_split {acc : List (Int × Int)} (h : 0 < acc.length) : ∃ init x, acc = init ++ [x] := ⟨acc.dropLast, acc.getLast (by intro e; subst e; simp at h), (List.dropLast_concat_getLast _).symm⟩
theorem pk_hit (init : List (Int × Int)) (x : Int × Int) (l : Int) (h : l ≤ x.2) : pk (init ++ [x]) l = init ++ [(x.1, l + 1)] := by simp [pk, h]
theorem pk_miss (init : List (Int × Int)) (x : Int × Int) (l : Int) (h : ¬ l ≤ x.2) : pk (init ++ [x]) l = init ++ [x] ++ [(l, l + 1)] := by simp [pk, h]
theorem linesV_next {ws : List Lz} {k i : Nat} {x : Lz} (h : ws[k + i]? = some x) : linesV (((ws.drop k).take (i + 1)).map Prod.snd) = pk (linesV (((ws.drop k).take i).map Prod.snd)) x.2 := by
  have h2 : (ws.drop k)[i]? = some x := by rw [List.getElem?_drop]; exact h
  obtain ⟨hi, he⟩ := List.getElem?_eq_some_iff.1 h2
  rw [List.take_succ_eq_append_getElem hi, List.map_append, List.map_cons, List.map_nil, linesV_snoc, he]

theorem okFrom_in : ∀ {l : List Lz} {m : Int}, 0 ≤ m → okFrom m l = true → ∀ x ∈ l, x.2 < 1024 ∧ 0 ≤ x.2
  | [], _, _, _, x, hx => by simp at hx
  | y :: l, m, hm, h, x, hx => by
    rw [okFrom] at h
    simp only [Bool.and_eq_true, decide_eq_true_eq] at h
    rcases List.mem_cons.1 hx with rfl | hx
    · exact ⟨h.1.2, by omega⟩
    · exact okFrom_in (by omega) h.2 x hx
/-! ### the walk -/
theorem own_drewN {w : World} {base size n : Nat} {e : TypeId} {v : Value} {xs : List Value} (h : w.ownsRow base e size v n xs) (k : Nat) : (w.drewN k).ownsRow base e size v n xs := h
theorem own_len {w : World} {base size n n' : Nat} {e : TypeId} {v : Value} {xs xs' : List Value} (h : w.ownsRow base e size v n xs) (e1 : n = n') (e2 : xs = xs') : w.ownsRow base e size v n' xs' := by subst e1 e2; exact h
/-- What a call of Lines leaves. -/
def LPost (p : ByteArray) (r : Int × List (Int × Int)) (w : World) (e : Ending) (w' : World) : Prop :=
  ∃ A c, e = .returned (.tuple #[.slice A r.2.length c, .int .i64 r.1]) ∧ Rd w' 3 A r.2.length (spCells p r.2) ∧ r.2.length ≤ c ∧ c ≤ maxLen ∧ New w w'
theorem Tryd.info46 : (Tryd.prog.info? 46).map (fun i => (i.zero, i.size, i.bytes)) = some (some (.agg #[.string ⟨#[]⟩, .int .i64 0, .int .i64 0]), 3, 32) := by kernel_rfl
theorem cell_three_new (w : World) (a b c : Value) (t : TypeId) : ∀ j u, [a, b, c][j]? = some u → (w.alloc (.cells #[a, b, c] t)).cell? ((⟨w.heap.size, 0, none⟩ : Addr).add j) = some u := by
  intro j u hu
  have e : (⟨w.heap.size, 0, none⟩ : Addr).add j = ⟨w.heap.size, j, none⟩ := by unfold Addr.add; split <;> simp_all
  rw [e, cell_of_row _ w.heap.size j #[a, b, c] t (0, 0) (heap_alloc_new w _)]
  simpa using hu
theorem size_drewN (w : World) (n : Nat) : (w.drewN n).heap.size = w.heap.size := rfl
theorem lines_small (x : Lz) (h : (Lit.int .i64 x.2).wf = true) : -9223372036854775808 ≤ x.2 ∧ x.2 ≤ 9223372036854775807 := by
  simp only [Lit.wf, Bool.and_eq_true, decide_eq_true_eq] at h
  exact h

set_option maxRecDepth 100000 in
set_option maxHeartbeats 8000000 in
theorem lines_any (v : Value) (p : ByteArray) (ws : List Lz) (i j : Int) (w : World) (h : ZText w v p ws) (hf : Fit p ws) (hE : Env w) :
    Calls Tryd.prog 23 #[v, .int .i64 i, .int .i64 j] w (LPost p (linesR p ws i j) w) := by
  obtain ⟨A, c, rfl, hc1, hc2, hr⟩ := id h
  have hz : (ws.length : Int) ≤ 9223372036854775807 := by
    have h2 := hc2
    simp only [maxLen] at h2
    omega
  have hnS : New w (w.alloc (.cells #[.string p, .slice A ws.length c] 25)) := (New.refl w).alloc _
  have hlow : ∀ k e w', (e = .returned (.tuple #[.slice none 0 0, .int .i64 k]) ∧ New w w') → linesR p ws i j = (k, []) → LPost p (linesR p ws i j) w e w' := by
    rintro k e w' ⟨rfl, hn⟩ e2
    rw [e2]
    exact ⟨none, 0, rfl, Rd.none_ none, Nat.le_refl _, by simp [maxLen], hn⟩
  cases g5 : validV p ws
  · have hv : linesR p ws i j = (1, []) := if_pos g5
    refine Calls.mono ?_ (fun e w' he => hlow 1 e w' he hv)
    have H5 := Lib.hid g5
    clear hv g5 hlow
    go_enter Tryd.func23, Tryd.ntmps23
    go_wp2_with (go_at_call 16; refine (valid_any _ p ws _ (h.new hnS) hf.path (hE.new hnS) hf.words).mono ?_; rw [H5.out]; rintro e w1 ⟨rfl, hn1⟩; have B1 := (Blk.made _ _ _).new hn1; have e10 := B1.cell' 0 _ rfl; have e11 := B1.cell' 1 _ rfl)
    go_ret2
    exact ⟨rfl, hnS.trans hn1⟩
  have H5 := Lib.hid g5
  by_cases g1 : i < 0 ∨ j < i ∨ (ws.length : Int) < j
  · have hv : linesR p ws i j = (3, []) := by rw [linesR, if_neg (by rw [g5]; decide), if_pos g1]
    refine Calls.mono ?_ (fun e w' he => hlow 3 e w' he hv)
    clear hv g5 hlow
    by_cases g2 : i < 0
    · clear g1
      go_enter Tryd.func23, Tryd.ntmps23
      go_wp2_with (go_at_call 16; refine (valid_any _ p ws _ (h.new hnS) hf.path (hE.new hnS) hf.words).mono ?_; rw [H5.out]; rintro e w1 ⟨rfl, hn1⟩; have B1 := (Blk.made _ _ _).new hn1; have e10 := B1.cell' 0 _ rfl; have e11 := B1.cell' 1 _ rfl)
      go_ret2
      exact ⟨rfl, hnS.trans hn1⟩
    · by_cases g3 : j < i
      · clear g1
        go_enter Tryd.func23, Tryd.ntmps23
        go_wp2_with (go_at_call 16; refine (valid_any _ p ws _ (h.new hnS) hf.path (hE.new hnS) hf.words).mono ?_; rw [H5.out]; rintro e w1 ⟨rfl, hn1⟩; have B1 := (Blk.made _ _ _).new hn1; have e10 := B1.cell' 0 _ rfl; have e11 := B1.cell' 1 _ rfl)
        go_ret2
        exact ⟨rfl, hnS.trans hn1⟩
      · have g4 : (ws.length : Int) < j := (g1.resolve_left g2).resolve_left g3
        clear g1
        go_enter Tryd.func23, Tryd.ntmps23
        go_wp2_with (go_at_call 16; refine (valid_any _ p ws _ (h.new hnS) hf.path (hE.new hnS) hf.words).mono ?_; rw [H5.out]; rintro e w1 ⟨rfl, hn1⟩; have B1 := (Blk.made _ _ _).new hn1; have e10 := B1.cell' 0 _ rfl; have e11 := B1.cell' 1 _ rfl)
        go_ret2
        exact ⟨rfl, hnS.trans hn1⟩
  obtain ⟨k, rfl⟩ : ∃ k : Nat, i = k := ⟨i.toNat, by omega⟩
  obtain ⟨m, rfl⟩ : ∃ m : Nat, j = m := ⟨j.toNat, by omega⟩
  have hv : linesR p ws k m = (0, linesV (((ws.drop k).take (m - k)).map Prod.snd)) := by
    rw [linesR, if_neg (by rw [g5]; decide), if_neg g1]; simp
  have hkm : k ≤ m := by omega
  have hml : m ≤ ws.length := by omega
  have g2 : ¬ ((k : Int) < 0) := by omega
  have g3 : ¬ ((m : Int) < (k : Int)) := by omega
  have g4 : ¬ ((ws.length : Int) < (m : Int)) := by omega
  clear g1 hlow
  have hp : ∀ e w', (∃ A c, e = .returned (.tuple #[.slice A (linesV (((ws.drop k).take (m - k)).map Prod.snd)).length c, .int .i64 0]) ∧ Rd w' 3 A (linesV (((ws.drop k).take (m - k)).map Prod.snd)).length (spCells p (linesV (((ws.drop k).take (m - k)).map Prod.snd))) ∧ (linesV (((ws.drop k).take (m - k)).map Prod.snd)).length ≤ c ∧ c ≤ maxLen ∧ New w w') → LPost p (linesR p ws k m) w e w' := by
    rintro e w' h
    rw [hv]; exact h
  refine Calls.mono ?_ hp
  clear hp hv
  have hlv : ∀ q, (linesV (((ws.drop k).take q).map Prod.snd)).length ≤ q := fun q => Nat.le_trans (linesV_len _) (by simp; omega)
  have HLV := Lib.hid hlv
  have hsm : ∀ x ∈ ws, x.2 < 1024 ∧ 0 ≤ x.2 := fun x hx => by
    have h2 := g5
    rw [validV, Bool.and_eq_true] at h2
    exact okFrom_in (Int.le_refl 0) h2.2 x hx
  have HSM := Lib.hid hsm
  have h8 : ws.length ≤ 8192 := by
    have h2 := g5
    rw [validV, Bool.and_eq_true, Bool.and_eq_true] at h2
    simpa using h2.1.1
  clear hlv g5 hsm
  obtain ⟨i0, hinf, hz0, hz1, hz2⟩ := info_parts Tryd.info46
  by_cases hkl : k < m
  · have hck : ¬ c = k := by omega
    obtain ⟨bk, o, rfl, hbk, hc⟩ := hr.2 (by omega)
    have HC := Lib.hid hc
    clear hc
    go_enter Tryd.func23, Tryd.ntmps23
    go_wp2_with (go_at_call 16; refine (valid_any _ p ws _ (h.new hnS) hf.path (hE.new hnS) hf.words).mono ?_; rw [H5.out]; rintro e w1 ⟨rfl, hn1⟩; have B1 := (Blk.made _ _ _).new hn1; have e10 := B1.cell' 0 _ rfl; have e11 := B1.cell' 1 _ rfl)
    have hw1 : New w w1 := hnS.trans hn1
    have z1 : decide ((k : Int) < 0) = false := decide_eq_false (by omega)
    have z2 : decide (m < k) = false := decide_eq_false (by omega)
    have z3 : decide (ws.length < m) = false := decide_eq_false (by omega)
    simp only [z1, z2, z3, Bool.or_false]
    go_loopw [8, 37] (fun v8 v37 wr => ∃ (i : Nat) (acc : List (Int × Int)), v37 = .int .i64 i ∧ i ≤ m - k ∧ acc.length ≤ i ∧ wr.ownsRow w1.heap.size 46 3 v8 acc.length (spCells p acc) ∧ New w1 wr ∧ Hid (acc = [] → v8 = .slice none 0 0) ∧ Hid (linesV (((ws.drop k).take i).map Prod.snd) = acc)) (fun _ v37 _ => m - (intOf v37).toNat)
    case atStart => exact ⟨0, [], rfl, by omega, by simp, World.ownsRow_nil _ _ _ _, New.refl _, Lib.hid (fun _ => rfl), Lib.hid rfl⟩
    case round =>
      obtain ⟨i, acc, rfl, hi, hal, own, hn, HNIL, H⟩ := hrel
      by_cases hlt : i < m - k
      · have hxk : k + i < ws.length := by omega
        have hx : ws[k + i]? = some ws[k + i] := List.getElem?_eq_getElem hxk
        have hnx := linesV_next hx
        rw [H.out] at hnx
        obtain ⟨q1, q2⟩ := zCells_at ws (k + i) hxk
        have hxm := HSM.out ws[k + i] (List.getElem_mem hxk)
        have d1 : wr.cell? ⟨bk, o + k * 2 + i * 2, none⟩ = some (.string ws[k + i].1) := by
          have := (hw1.trans hn).cell (p := ⟨bk, o + k * 2 + i * 2, none⟩) hbk
          rw [this, show o + k * 2 + i * 2 = o + (k + i) * 2 by omega]
          exact HC.out _ _ q1
        have d2 : wr.cell? ⟨bk, o + k * 2 + i * 2 + 1, none⟩ = some (.int .i64 ws[k + i].2) := by
          have := (hw1.trans hn).cell (p := ⟨bk, o + k * 2 + i * 2 + 1, none⟩) hbk
          rw [this, show o + k * 2 + i * 2 + 1 = o + ((k + i) * 2 + 1) by omega]
          exact HC.out _ _ q2
        have c0 := (B1.new hn).cell' 0 _ rfl
        have c1 := (B1.new hn).cell' 1 _ rfl
        have hws : w.heap.size < wr.heap.size := (B1.new hn).lt
        have hzr := hn.size
        clear q1 q2 hx
        generalize ws[k + i] = x at *
        obtain ⟨hxm1, hxm2⟩ := hxm
        have x1 : IntKind.i64.wrap (x.2 + 1) = x.2 + 1 := IntWalk.i64_in _ (by omega)
        have x2 : x.2 ≤ 9223372036854775806 := by omega
        by_cases ha : 0 < acc.length
        · obtain ⟨init, y, rfl⟩ := last_split ha
          have own1 := own_len own (show (init ++ [y]).length = init.length + 1 by simp) rfl
          have hal1 : init.length + 1 ≤ i := by simpa using hal
          obtain ⟨g, cap, rfl, hg1, hg2⟩ := own1.form (by omega)
          have hyl : (init ++ [y])[init.length]? = some y := by simp
          obtain ⟨_, _, y2⟩ := spCells_at p (init ++ [y]) init.length y hyl
          have hcy := own1.cellAt (init.length * 3 + 2) (by omega)
          rw [y2] at hcy
          have hfz := own1.frozenAt (init.length * 3 + 2)
          have k2 : (0 : Int) ≤ (init.length : Int) := by omega
          have k4 : (init.length : Int) < ((init.length + 1 : Nat) : Int) := by omega
          have k5 : (init.length : Int) < (init.length : Int) + 1 := by omega
          clear own hal ha
          clear y2 hyl
          by_cases hy : x.2 ≤ y.2
          · have ty : decide (x.2 ≤ y.2) = true := decide_eq_true hy
            rw [pk_hit _ _ _ hy] at hnx
            have HN := Lib.hid hnx
            clear hnx
            go_wp2_with (fail)
            go_quiet (fail)
            go_wp2
            go_roundw
            case rel => exact ⟨i + 1, init ++ [(y.1, x.2 + 1)], by go_num, by omega, by simp; omega, own_len ((own_drewN (own1.alloc _) nq).stored (init.length * 3 + 2) (.int .i64 (x.2 + 1))).1 (by simp) (spCells_set p init y.1 y.2 (x.2 + 1)), ((hn.alloc _).drewN nq).setCell (p := ⟨g, _, none⟩) hg1 _, Lib.hid (fun e => by simp at e), HN⟩
            case measure => simp [intOf]; omega
          · have ty : decide (x.2 ≤ y.2) = false := decide_eq_false hy
            rw [pk_miss _ _ _ hy] at hnx
            have HN := Lib.hid hnx
            clear hnx
            go_wp2_with (fail)
            go_quiet (fail)
            go_wp2_with (at_builtin; refine wpList_append_own _ rfl (.tmp 63) (.tmp 72) 41 rfl w1.heap.size 46 i0 (.agg #[.string ⟨#[]⟩, .int .i64 0, .int .i64 0]) 3 32 Tryd.underlying41 hinf hz0 hz1 hz2 rfl (by decide) _ _ _ rfl (own_drewN ((own1.alloc _)) _ |>.alloc _) ⟨wr.heap.size + 1, 0, none⟩ 1 1 [.string p, .int .i64 x.2, .int .i64 (x.2 + 1)] rfl rfl ?c1 ?c2 ?c3 ?c4 ?c5 ?_)
            case c1 => simpa only [World.size_alloc, size_drewN] using cell_three_new ((wr.alloc (.cells #[.string x.1, .int .i64 x.2] 33)).drewN nq) (.string p) (.int .i64 x.2) (.int .i64 (x.2 + 1)) 46
            case c2 => simp [Value.oneCell']
            case c3 => simp [maxLen]; omega
            case c4 => omega
            case c5 => simp; omega
            intro v' w2 hown2 hg2 _
            go_wp2
            go_roundw
            case rel => exact ⟨i + 1, (init ++ [y]) ++ [(x.2, x.2 + 1)], by go_num, by omega, by simp; omega, own_len hown2 (by simp) (by rw [spCells_app p (init ++ [y])]; rfl), Below.grown (((hn.alloc _).drewN _).alloc _) hg2 (by simp; omega) (fun q hq => (own1.lt q hq).1), Lib.hid (fun e => by simp at e), HN⟩
            case measure => simp [intOf]; omega
        · obtain rfl : acc = [] := List.eq_nil_of_length_eq_zero (by omega)
          have k5 : IntKind.i64.wrap ((0 : Int) - 1) = -1 := IntWalk.i64_in _ (by omega)
          have HN := Lib.hid hnx
          clear hnx
          obtain rfl := HNIL.out rfl
          go_wp2_with (fail)
          go_quiet (fail)
          go_wp2_with (at_builtin; refine wpList_append_own _ rfl (.tmp 63) (.tmp 72) 41 rfl w1.heap.size 46 i0 (.agg #[.string ⟨#[]⟩, .int .i64 0, .int .i64 0]) 3 32 Tryd.underlying41 hinf hz0 hz1 hz2 rfl (by decide) _ _ _ rfl (own_drewN ((own.alloc _)) _ |>.alloc _) ⟨wr.heap.size + 1, 0, none⟩ 1 1 [.string p, .int .i64 x.2, .int .i64 (x.2 + 1)] rfl rfl ?c1 ?c2 ?c3 ?c4 ?c5 ?_)
          case c1 => simpa only [World.size_alloc, size_drewN] using cell_three_new ((wr.alloc (.cells #[.string x.1, .int .i64 x.2] 33)).drewN nq) (.string p) (.int .i64 x.2) (.int .i64 (x.2 + 1)) 46
          case c2 => simp [Value.oneCell']
          case c3 => simp [maxLen]
          case c4 => simp
          case c5 => (simp; omega)
          intro v' w2 hown2 hg2 _
          go_wp2
          go_roundw
          case rel => exact ⟨i + 1, [] ++ [(x.2, x.2 + 1)], by go_num, by omega, by simp, own_len hown2 (by simp) (by simp [spCells]), Below.grown (((hn.alloc _).drewN _).alloc _) hg2 (by simp; omega) (fun q hq => (own.lt q hq).1), Lib.hid (fun e => by simp at e), HN⟩
          case measure => (simp [intOf]; omega)
      · obtain rfl : i = m - k := by omega
        obtain ⟨A2, c2, rfl, h1, h2, hr2⟩ := own_form own
        go_wp2
        go_ret2
        rw [H.out]
        exact ⟨A2, c2, rfl, hr2, h1, h2, hw1.trans hn⟩
  · obtain rfl : k = m := by omega
    have e0 : linesV (((ws.drop k).take (k - k)).map Prod.snd) = [] := by simp [linesV]
    have E0 := Lib.hid e0
    clear e0
    go_enter Tryd.func23, Tryd.ntmps23
    go_wp2_with (go_at_call 16; refine (valid_any _ p ws _ (h.new hnS) hf.path (hE.new hnS) hf.words).mono ?_; rw [H5.out]; rintro e w1 ⟨rfl, hn1⟩; have B1 := (Blk.made _ _ _).new hn1; have e10 := B1.cell' 0 _ rfl; have e11 := B1.cell' 1 _ rfl)
    all_goals
      go_loopw [8, 37] (fun v8 v37 wr => v8 = .slice none 0 0 ∧ v37 = .int .i64 0 ∧ wr = w1) (fun _ v37 _ => 0)
      case atStart => exact ⟨rfl, rfl, rfl⟩
      case round =>
        obtain ⟨rfl, rfl, rfl⟩ := hrel
        go_wp2
        go_ret2
        rw [E0.out]
        exact ⟨none, 0, rfl, Rd.none_ none, Nat.le_refl _, by simp [maxLen], hnS.trans hn1⟩
end Go.Proofs.YtlecocmopeainaaDoor
