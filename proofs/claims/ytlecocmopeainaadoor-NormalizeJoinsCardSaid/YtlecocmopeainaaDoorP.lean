/- normalize.Print: the text of words that fit. No conditions but the lengths' own. -/
import Derived.Test.YtlecocmopeainaaDoorO
import Derived.Test.YtlecocmopeainaaDoorBld
import Derived.Lib.ItoaLen
namespace Go.Proofs.YtlecocmopeainaaDoor
open Go Go.RowKit Go.Joins Go.Shelf
set_option linter.unusedSimpArgs false
set_option linter.unusedVariables false

/-! ### the plain law -/
/-- What one word adds behind a word on the line given. -/
def prStep (prev : Option Int) (x : Lz) : List UInt8 := (if prev = some x.2 then [] else (if prev = none then [] else [10]) ++ (Lib.itoa x.2 ++ [58])) ++ (32 :: x.1.data.toList)
def lastL (l : List Lz) : Option Int := l.getLast?.map Prod.snd
def prGo : Option Int → List Lz → List UInt8
  | _, [] => []
  | p, x :: r => prStep p x ++ prGo (some x.2) r
theorem prGo_snoc (x : Lz) : ∀ (l : List Lz) (p : Option Int), prGo p (l ++ [x]) = prGo p l ++ prStep ((lastL l).or p) x
  | [], p => by simp [prGo, lastL]
  | y :: l, p => by
    have ih := prGo_snoc x l (some y.2)
    rw [List.cons_append, prGo, ih, prGo, List.append_assoc]
    congr 2
    cases l with
    | nil => simp [lastL]
    | cons z l =>
      obtain ⟨q, hq⟩ : ∃ q, (z :: l).getLast? = some q := ⟨_, List.getLast?_eq_some_getLast (by simp)⟩
      simp [lastL, List.getLast?_cons_cons, hq]
theorem prGo_take {ws : List Lz} {i : Nat} {x : Lz} (h : ws[i]? = some x) : prGo none (ws.take (i + 1)) = prGo none (ws.take i) ++ prStep (lastL (ws.take i)) x := by
  obtain ⟨hi, he⟩ := List.getElem?_eq_some_iff.1 h
  rw [List.take_succ_eq_append_getElem hi, he, prGo_snoc]
  simp
theorem lastL_zero (ws : List Lz) : lastL (ws.take 0) = none := by simp [lastL]
theorem lastL_succ {ws : List Lz} {i : Nat} {x : Lz} (h : ws[i]? = some x) : lastL (ws.take (i + 1)) = some x.2 := by
  obtain ⟨hi, he⟩ := List.getElem?_eq_some_iff.1 h
  rw [List.take_succ_eq_append_getElem hi, he]
  simp [lastL]
theorem prStep_len {p : Option Int} {x : Lz} (h : x.1.size ≤ 100) (h0 : 0 ≤ x.2) (h1 : x.2 < 1024) : (prStep p x).length ≤ 130 := by
  have h2 := Lib.itoa_length_le x.2 (by omega) (by omega)
  have h3 : x.1.data.toList.length = x.1.size := Array.length_toList
  unfold prStep
  split
  · simp [h3]; omega
  · split
    · simp [h3]; omega
    · simp [h3]; omega
theorem prGo_len : ∀ {ws : List Lz} (p : Option Int), (∀ x ∈ ws, x.1.size ≤ 100 ∧ 0 ≤ x.2 ∧ x.2 < 1024) → (prGo p ws).length ≤ ws.length * 130
  | [], _, _ => by simp [prGo]
  | x :: r, p, h => by
    have ih := prGo_len (some x.2) (fun y hy => h y (List.mem_cons_of_mem _ hy))
    have h1 := h x List.mem_cons_self
    have h2 := prStep_len (p := p) h1.1 h1.2.1 h1.2.2
    rw [prGo, List.length_append, List.length_cons]; omega
/-- What Print returns: the text, the error. -/
def printV (p : ByteArray) (ws : List Lz) : ByteArray × Int :=
  if validV p ws = false then (S [], 1) else (S (prGo none ws ++ (if ws = [] then [] else [10])), 0)
/-- Words so few and short that their text fits. -/
def Small (ws : List Lz) : Prop := ws.length ≤ 200 ∧ ∀ x ∈ ws, x.1.size ≤ 100

theorem valid_lines {p : ByteArray} {ws : List Lz} (h : validV p ws = true) : ∀ x ∈ ws, x.2 < 1024 ∧ 0 ≤ x.2 := by
  intro x hx
  rw [validV, Bool.and_eq_true] at h
  exact okFrom_in (Int.le_refl 0) h.2 x hx
/-! ### the walk -/
theorem str_add {l : List UInt8} {a b : List UInt8} {s : ByteArray} (h : s = S (a ++ b)) : l ++ s.data.toList = l ++ a ++ b := by subst h; simp [S]
theorem colon_data (l : List UInt8) : (S l ++ ByteArray.mk #[58]).data.toList = l ++ [58] := by simp [S]
theorem blank_data (s : ByteArray) : (ByteArray.mk #[32] ++ s).data.toList = 32 :: s.data.toList := by simp

theorem IsB.to {B b : Nat} {l l' : List UInt8} {w : World} (h : IsB B b l w) (e : l' = l) : IsB B b l' w := e ▸ h
theorem Blk.drewN {w : World} {g : Nat} {t : TypeId} {cs : Array Value} (h : Blk w g t cs) (n : Nat) : Blk (w.drewN n) g t cs := h
theorem prStep_first (x : Lz) : prStep none x = (Lib.itoa x.2 ++ [58]) ++ (32 :: x.1.data.toList) := by simp [prStep]
theorem prStep_same (x : Lz) {l : Int} (h : x.2 = l) : prStep (some l) x = 32 :: x.1.data.toList := by subst h; simp [prStep]
theorem prStep_next (x : Lz) {l : Int} (h : ¬ x.2 = l) : prStep (some l) x = [10] ++ (Lib.itoa x.2 ++ [58]) ++ (32 :: x.1.data.toList) := by
  have : ¬ some l = some x.2 := fun e => h (Option.some.inj e).symm
  simp [prStep, this]

set_option maxRecDepth 100000 in
set_option maxHeartbeats 8000000 in
theorem print_any (v : Value) (p : ByteArray) (ws : List Lz) (w : World) (h : ZText w v p ws) (hf : Fit p ws) (hs : Small ws) (hE : Env w) :
    Calls Tryd.prog 21 #[v] w fun e w' => e = .returned (.tuple #[.string (printV p ws).1, .int .i64 (printV p ws).2]) ∧ New w w' := by
  obtain ⟨A, c, rfl, hc1, hc2, hr⟩ := id h
  have hnS : New w (w.alloc (.cells #[.string p, .slice A ws.length c] 25)) := (New.refl w).alloc _
  cases g5 : validV p ws
  · have hv : printV p ws = (S [], 1) := if_pos g5
    rw [hv]
    have H5 := Lib.hid g5
    clear hv g5
    go_enter Tryd.func21, Tryd.ntmps21
    go_wp2_with (go_at_call 16; refine (valid_any _ p ws _ (h.new hnS) hf.path (hE.new hnS) hf.words).mono ?_; rw [H5.out]; rintro e w1 ⟨rfl, hn1⟩; have B1 := (Blk.made _ _ _).new hn1; have e10 := B1.cell' 0 _ rfl; have e11 := B1.cell' 1 _ rfl)
    go_ret2
    exact ⟨rfl, hnS.trans hn1⟩
  have hsm := valid_lines g5
  have H5 := Lib.hid g5
  have hv : printV p ws = (S (prGo none ws ++ (if ws = [] then [] else [10])), 0) := by rw [printV, if_neg (by rw [g5]; decide)]
  rw [hv]
  have hall : ∀ x ∈ ws, x.1.size ≤ 100 ∧ 0 ≤ x.2 ∧ x.2 < 1024 := fun x hx => ⟨hs.2 x hx, (hsm x hx).2, (hsm x hx).1⟩
  have hlen : ∀ i, (prGo none (ws.take i)).length ≤ 26000 := fun i => by
    have h1 := prGo_len (ws := ws.take i) none (fun x hx => hall x (List.mem_of_mem_take hx))
    have h2 : (ws.take i).length ≤ 200 := by have := hs.1; simp; omega
    omega
  have HALL := Lib.hid hall
  have HLEN := Lib.hid hlen
  have hs1 := hs.1
  clear hv g5 hall hlen hsm hs
  have hz : (ws.length : Int) ≤ 9223372036854775807 := by omega
  go_enter Tryd.func21, Tryd.ntmps21
  go_wp2_with (go_at_call 16; refine (valid_any _ p ws _ (h.new hnS) hf.path (hE.new hnS) hf.words).mono ?_; rw [H5.out]; rintro e w1 ⟨rfl, hn1⟩; have B1 := (Blk.made _ _ _).new hn1; have e10 := B1.cell' 0 _ rfl; have e11 := B1.cell' 1 _ rfl; have hwl := B1.lt)
  have hw1 : New w w1 := hnS.trans hn1
  go_loopw [13] (fun v13 wr => ∃ i : Nat, v13 = .int .i64 i ∧ i ≤ ws.length ∧ New w1 wr ∧ IsB w1.heap.size w1.heap.size (prGo none (ws.take i)) wr) (fun v13 _ => ws.length - (intOf v13).toNat)
  case atStart => exact ⟨0, rfl, by omega, (New.refl w1).alloc _, IsB.fresh w1 (Nat.le_refl _)⟩
  case round =>
    obtain ⟨i, rfl, hi, hn, hb⟩ := hrel
    have c0 := (B1.new hn).cell' 0 _ rfl
    have c1 := (B1.new hn).cell' 1 _ rfl
    have hws : w.heap.size < wr.heap.size := (B1.new hn).lt
    have hzr := hn.size
    have hbl := hb.lt
    by_cases hlt : i < ws.length
    · obtain ⟨bk, o, rfl, hbk, hc⟩ := hr.2 (by omega)
      have hx : ws[i]? = some ws[i] := List.getElem?_eq_getElem hlt
      have hxa := HALL.out ws[i] (List.getElem_mem hlt)
      have hnx := prGo_take hx
      obtain ⟨q1, q2⟩ := zCells_at ws i hlt
      have d1 : wr.cell? ⟨bk, o + i * 2, none⟩ = some (.string ws[i].1) := ((hw1.trans hn).cell (p := ⟨bk, o + i * 2, none⟩) hbk).trans (hc _ _ q1)
      have d2 : wr.cell? ⟨bk, o + i * 2 + 1, none⟩ = some (.int .i64 ws[i].2) := ((hw1.trans hn).cell (p := ⟨bk, o + i * 2 + 1, none⟩) hbk).trans (hc _ _ q2)
      have hbr : bk < wr.heap.size := Nat.lt_of_lt_of_le hbk (hw1.trans hn).size
      have hl0 := HLEN.out i
      clear q1 q2 hx
      by_cases hi0 : i = 0
      · subst hi0
        generalize ws[0] = x at *
        simp only [Nat.zero_mul, Nat.add_zero, Nat.zero_add] at d1 d2
        rw [lastL_zero, prStep_first] at hnx
        obtain ⟨hxa1, hxa2, hxa3⟩ := hxa
        have HN := Lib.hid hnx
        clear hnx
        go_wp2_with (fail)
        go_quiet (fail)
        have BX := ((Blk.made wr 33 #[.string x.1, .int .i64 x.2]).drewN nq)
        have hna := (hn.alloc (.cells #[.string x.1, .int .i64 x.2] 33)).drewN nq
        have hba := (hb.alloc (.cells #[.string x.1, .int .i64 x.2] 33)).drewN nq
        have f1 := BX.cell' 1 _ rfl
        generalize hwa : (wr.alloc (.cells #[.string x.1, .int .i64 x.2] 33)).drewN nq = wa at *
        go_wp2_with (go_at_call 53; refine (itoa_any x.2 _ (by omega) (by omega) (hE.new (hw1.trans hna))).mono ?_)
        rintro e w2 ⟨rfl, hn2⟩
        have BX2 := BX.new hn2
        have hb2 := hba.new hn2
        have f2 := BX2.cell' 1 _ rfl
        have f3 := BX2.cell' 0 _ rfl
        have hz2 : w1.heap.size ≤ w2.heap.size := Nat.le_trans hna.size hn2.size
        have e1 := colon_data (Lib.itoa x.2)
        have e2 := blank_data x.1
        have hsz : (S (Lib.itoa x.2) ++ ByteArray.mk #[58]).size ≤ 30 := by
          have := Lib.itoa_length_le x.2 (by omega) (by omega)
          rw [ByteArray.size_append, size_S]
          show _ + 1 ≤ _
          omega
        have hsz2 : (ByteArray.mk #[32] ++ x.1).size ≤ 101 := by
          rw [ByteArray.size_append]
          show 1 + _ ≤ _
          omega
        have k0 : ¬ (9223372036854775807 < (Lib.itoa x.2).length + 1) := by
          have := Lib.itoa_length_le x.2 (by omega) (by omega)
          omega
        have k1 : ¬ (9223372036854775807 < 1 + x.1.size) := by omega
        go_wp2_with (go_at_call 52; refine (writeString_any w1.heap.size w1.heap.size _ (S (Lib.itoa x.2) ++ ByteArray.mk #[58]) _ hb2 (by omega) hz2).mono ?_)
        rintro e w3 ⟨rfl, hb3, hbl3, hk3⟩
        have BX3 := BX2.keptB hk3 (by omega) (by decide)
        have g2 := BX3.cell' 1 _ rfl
        have g3 := BX3.cell' 0 _ rfl
        have hz3 : w1.heap.size ≤ w3.heap.size := Nat.le_trans hz2 hbl3.size
        have hl3 : (prGo none (List.take 0 ws) ++ (S (Lib.itoa x.2) ++ ByteArray.mk #[58]).data.toList).length + (ByteArray.mk #[32] ++ x.1).size ≤ 140737488355328 := by
          rw [List.length_append, show (S (Lib.itoa x.2) ++ ByteArray.mk #[58]).data.toList.length = (S (Lib.itoa x.2) ++ ByteArray.mk #[58]).size from Array.length_toList]
          omega
        go_wp2_with (go_at_call 52; refine (writeString_any w1.heap.size w1.heap.size _ (ByteArray.mk #[32] ++ x.1) _ hb3.is hl3 hz3).mono ?_)
        rintro e w4 ⟨rfl, hb4, hbl4, hk4⟩
        go_wp2
        go_roundw
        case rel => exact ⟨0 + 1, by go_num, by omega, Below.trans (Below.trans (New.trans hna hn2) hbl3) hbl4, hb4.is.to (by rw [HN.out, e1, e2]; simp)⟩
        case measure => simp [intOf]; omega
      · obtain ⟨k, rfl⟩ : ∃ k, i = k + 1 := ⟨i - 1, by omega⟩
        have hy : ws[k]? = some ws[k] := List.getElem?_eq_getElem (by omega)
        have hya := HALL.out ws[k] (List.getElem_mem (by omega))
        rw [lastL_succ hy] at hnx
        obtain ⟨q1, q2⟩ := zCells_at ws k (by omega)
        have d4 : wr.cell? ⟨bk, o + k * 2 + 1, none⟩ = some (.int .i64 ws[k].2) := ((hw1.trans hn).cell (p := ⟨bk, o + k * 2 + 1, none⟩) hbk).trans (hc _ _ q2)
        clear q1 q2 hy
        generalize ws[k + 1] = x at *
        generalize ws[k] = y at *
        have k6 : IntKind.i64.wrap (((k + 1 : Nat) : Int) - 1) = (k : Int) := by rw [IntWalk.i64_in _ (by omega)]; omega
        have k7 : IntKind.i64.wrap ((k : Int) + 1 - 1) = (k : Int) := by rw [IntWalk.i64_in _ (by omega)]; omega
        have k8 : (((k + 1 : Nat) : Int) == 0) = false := beq_eq_false_iff_ne.2 (by omega)
        have k9 : (((k : Int) + 1) == 0) = false := beq_eq_false_iff_ne.2 (by omega)
        have k10 : (0 : Int) < (k : Int) + 1 := by omega
        have k11 : (0 : Int) ≤ (k : Int) := by omega
        have k12 : (k : Int) < (ws.length : Int) := by omega
        have k13 : (k : Int).toNat = k := by omega
        obtain ⟨hxa1, hxa2, hxa3⟩ := hxa
        by_cases hxy : x.2 = y.2
        · have t1 : (x.2 == y.2) = true := by simp [hxy]
          have t2 : decide (x.2 = y.2) = true := by simp [hxy]
          rw [prStep_same x hxy] at hnx
          have HN := Lib.hid hnx
          have HXY := Lib.hid hxy
          clear hnx hxy
          go_wp2_with (fail)
          go_quiet (fail)
          have BX := ((Blk.made wr 33 #[.string x.1, .int .i64 x.2]).drewN nq)
          have hna := (hn.alloc (.cells #[.string x.1, .int .i64 x.2] 33)).drewN nq
          have hba := (hb.alloc (.cells #[.string x.1, .int .i64 x.2] 33)).drewN nq
          have f1 := BX.cell' 1 _ rfl
          generalize hwa : (wr.alloc (.cells #[.string x.1, .int .i64 x.2] 33)).drewN nq = wa at *
          have hsz2 : (ByteArray.mk #[32] ++ x.1).size ≤ 101 := by
            rw [ByteArray.size_append]
            show 1 + _ ≤ _
            omega
          have e2 := blank_data x.1
          have f0 := BX.cell' 0 _ rfl
          have k1 : ¬ (9223372036854775807 < 1 + x.1.size) := by omega
          have hz2 := hna.size
          go_wp2_with (go_at_call 52; refine (writeString_any w1.heap.size w1.heap.size _ (ByteArray.mk #[32] ++ x.1) _ hba (by omega) hz2).mono ?_)
          rintro e w4 ⟨rfl, hb4, hbl4, hk4⟩
          go_wp2
          go_roundw
          case rel => exact ⟨k + 1 + 1, by go_num, by omega, Below.trans hna hbl4, hb4.is.to (by rw [HN.out, e2])⟩
          case measure => simp [intOf]; omega
        · have t1 : (x.2 == y.2) = false := by simp [hxy]
          have t2 : decide (x.2 = y.2) = false := by simp [hxy]
          rw [prStep_next x hxy] at hnx
          have HN := Lib.hid hnx
          have HXY := Lib.hid hxy
          clear hnx hxy
          go_wp2_with (fail)
          go_quiet (fail)
          have BX := ((Blk.made wr 33 #[.string x.1, .int .i64 x.2]).drewN nq)
          have hna := (hn.alloc (.cells #[.string x.1, .int .i64 x.2] 33)).drewN nq
          have hba := (hb.alloc (.cells #[.string x.1, .int .i64 x.2] 33)).drewN nq
          have f1 := BX.cell' 1 _ rfl
          generalize hwa : (wr.alloc (.cells #[.string x.1, .int .i64 x.2] 33)).drewN nq = wa at *
          have hz2 := hna.size
          go_wp2_with (go_at_call 51; refine (writeByte_any w1.heap.size w1.heap.size _ 10 _ hba (by omega) hz2).mono ?_)
          rintro e wb ⟨rfl, hbb, hblb, hkb⟩
          have BXb := BX.keptB hkb (by omega) (by decide)
          have f1b := BXb.cell' 1 _ rfl
          have hnb : New w1 wb := Below.trans hna hblb
          have hl1 : (prGo none (List.take (k + 1) ws) ++ [10]).length ≤ 26001 := by simp; omega
          go_wp2_with (go_at_call 53; refine (itoa_any x.2 _ (by omega) (by omega) (hE.new (hw1.trans hnb))).mono ?_)
          rintro e w2 ⟨rfl, hn2⟩
          have BX2 := BXb.new hn2
          have hb2 := hbb.is.new hn2
          have f2 := BX2.cell' 1 _ rfl
          have f3 := BX2.cell' 0 _ rfl
          have hz2 : w1.heap.size ≤ w2.heap.size := Nat.le_trans hnb.size hn2.size
          have e1 := colon_data (Lib.itoa x.2)
          have e2 := blank_data x.1
          have hsz : (S (Lib.itoa x.2) ++ ByteArray.mk #[58]).size ≤ 30 := by
            have := Lib.itoa_length_le x.2 (by omega) (by omega)
            rw [ByteArray.size_append, size_S]
            show _ + 1 ≤ _
            omega
          have hsz2 : (ByteArray.mk #[32] ++ x.1).size ≤ 101 := by
            rw [ByteArray.size_append]
            show 1 + _ ≤ _
            omega
          have k0 : ¬ (9223372036854775807 < (Lib.itoa x.2).length + 1) := by
            have := Lib.itoa_length_le x.2 (by omega) (by omega)
            omega
          have k1 : ¬ (9223372036854775807 < 1 + x.1.size) := by omega
          go_wp2_with (go_at_call 52; refine (writeString_any w1.heap.size w1.heap.size _ (S (Lib.itoa x.2) ++ ByteArray.mk #[58]) _ hb2 (by omega) hz2).mono ?_)
          rintro e w3 ⟨rfl, hb3, hbl3, hk3⟩
          have BX3 := BX2.keptB hk3 (by omega) (by decide)
          have g2 := BX3.cell' 1 _ rfl
          have g3 := BX3.cell' 0 _ rfl
          have hz3 : w1.heap.size ≤ w3.heap.size := Nat.le_trans hz2 hbl3.size
          have hl3 : (prGo none (List.take (k + 1) ws) ++ [10] ++ (S (Lib.itoa x.2) ++ ByteArray.mk #[58]).data.toList).length + (ByteArray.mk #[32] ++ x.1).size ≤ 140737488355328 := by
            rw [List.length_append, show (S (Lib.itoa x.2) ++ ByteArray.mk #[58]).data.toList.length = (S (Lib.itoa x.2) ++ ByteArray.mk #[58]).size from Array.length_toList]
            omega
          go_wp2_with (go_at_call 52; refine (writeString_any w1.heap.size w1.heap.size _ (ByteArray.mk #[32] ++ x.1) _ hb3.is hl3 hz3).mono ?_)
          rintro e w4 ⟨rfl, hb4, hbl4, hk4⟩
          go_wp2
          go_roundw
          case rel => exact ⟨k + 1 + 1, by go_num, by omega, Below.trans (Below.trans (New.trans hnb hn2) hbl3) hbl4, hb4.is.to (by rw [HN.out, e1, e2]; simp)⟩
          case measure => simp [intOf]; omega
    · obtain rfl : i = ws.length := by omega
      have hl0 := HLEN.out ws.length
      rw [List.take_length] at hb hl0
      by_cases h0 : ws = []
      · subst h0
        go_wp2_with (go_at_call 54; refine (Tryd.Builder_String_any w1.heap.size w1.heap.size (prGo none []) _ hb hn.size).mono ?_; rintro e w3 ⟨rfl, hn3⟩)
        go_ret2
        exact ⟨rfl, hw1.trans (Below.trans hn hn3)⟩
      · have h1 : 0 < ws.length := List.length_pos_iff.2 h0
        have h2 : (0 : Int) < (ws.length : Int) := by omega
        have H0 := Lib.hid h0
        clear h0
        go_wp2_with (go_at_call 51; refine (writeByte_any w1.heap.size w1.heap.size _ 10 _ hb (by omega) hn.size).mono ?_)
        rintro e w2 ⟨rfl, hb2, hbl2, hk2⟩
        go_wp2_with (go_at_call 54; refine (Tryd.Builder_String_any w1.heap.size w1.heap.size (prGo none ws ++ [10]) _ hb2.is (Nat.le_trans hn.size hbl2.size)).mono ?_; rintro e w3 ⟨rfl, hn3⟩)
        go_ret2
        exact ⟨rfl, hw1.trans (Below.trans (Below.trans hn hbl2) hn3)⟩
end Go.Proofs.YtlecocmopeainaaDoor
