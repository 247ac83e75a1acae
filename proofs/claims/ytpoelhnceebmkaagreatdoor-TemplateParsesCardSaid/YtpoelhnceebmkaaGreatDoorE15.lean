/- strings.IndexRune of braces at a rune that is no ASCII character, and strings.IndexAny of braces on any bytes: the walk and its plain law. No conditions but the text's size. -/
import Derived.Test.YtpoelhnceebmkaaGreatDoorE14
import Derived.WalkMore
import Derived.BigQuiet
import Derived.Laws.RangeAny
import Derived.Laws.Runes
import Derived.Lib.MapLaws
namespace Go.Proofs.YtpoelhnceebmkaaGreatDoor
open Go Go.RowKit Go.Shelf
set_option linter.unusedSimpArgs false
set_option linter.unusedVariables false

theorem valid_lib (r : Int) : Utf8.valid r = Lib.validRune r := by
  unfold Utf8.valid Lib.validRune
  rw [Bool.eq_iff_iff]
  simp only [Bool.or_eq_true, Bool.and_eq_true, decide_eq_true_eq]
  omega
set_option maxRecDepth 100000 in
set_option maxHeartbeats 2000000 in
theorem braceRune_high (r : Int) (h1 : 128 ≤ r) (hv : Utf8.valid r = true) (w : World) :
    Calls Tryz.prog 60 #[.string ⟨#[123, 125]⟩, .int .i32 r] w fun e w' => e = .returned (.int .i64 (-1)) ∧ New w w' := by
  have t1 : decide (r < 128) = false := decide_eq_false (by omega)
  have t0 : decide (0 ≤ r) = true := decide_eq_true (by omega)
  by_cases hb : r = 65533
  · subst hb
    have n0 := run_next_ascii (P := Tryz.prog) w ⟨#[123, 125]⟩ 0
    go_enter Tryz.func60, Tryz.ntmps60
    go_wp2
    go_loopw [5, 6] (fun v5 v6 wr => ∃ k : Nat, k ≤ 2 ∧ wr = w.iter ⟨#[123, 125]⟩ k) (fun _ _ wr => 2 - wr.iterPos w.heap.size)
    case atStart => exact ⟨0, by omega, rfl⟩
    case round =>
      obtain ⟨k, hk, rfl⟩ := hrel
      have hks : k = 0 ∨ k = 1 ∨ k = 2 := by omega
      rcases hks with rfl | rfl | rfl
      · have hnx := fun ty => run_next_ascii (P := Tryz.prog) w ⟨#[123, 125]⟩ 0 ty (by decide) (by decide)
        go_wp2
        go_round
        case measure => simp
        case rel => exact ⟨1, by omega, rfl⟩
      · have hnx := fun ty => run_next_ascii (P := Tryz.prog) w ⟨#[123, 125]⟩ 1 ty (by decide) (by decide)
        go_wp2
        go_round
        case measure => simp
        case rel => exact ⟨2, by omega, rfl⟩
      · have hnx := fun ty => run_next_end (P := Tryz.prog) w ⟨#[123, 125]⟩ 2 ty (by decide)
        go_wp2
        go_ret
        exact ⟨rfl, (New.refl w).alloc _⟩
  · have t2 : (r == 65533) = false := beq_eq_false_iff_ne.2 hb
    obtain ⟨f1, f2, f3⟩ := encode_facts r hv h1
    have hv' : Lib.validRune r = true := by rw [← valid_lib]; exact hv
    obtain ⟨E, hE⟩ : ∃ E : ByteArray, Utf8.encode r = E := ⟨_, rfl⟩
    rw [hE] at f1 f2 f3
    have u1 : IntKind.i64.wrap ((E.size : Int) - 1) = ((E.size - 1 : Nat) : Int) := by rw [IntWalk.i64_in _ (by omega)]; omega
    have hl : E.size - 1 < E.size := by omega
    have cv : ∀ W, (convert 21 9 (.int .i32 r)).run Tryz.prog W = .ok (.string E) W := fun W => by rw [run_convert_int_string W 21 9 .i32 r rfl rfl, hE]
    have f4 := f3 hl
    clear f3
    have e80 := fun w => Tryz.utf8_ValidRune r w
    rw [hv'] at e80
    have E80 := Lib.hid e80
    clear e80 hv hv' hb
    by_cases h2 : E.size = 2
    · have hl1 : 1 < E.size := by omega
      have g1 : E.size - 1 = 1 := by omega
      rw [g1] at u1
      have f5 : 128 ≤ (E[1]'hl1).toNat := by simpa only [g1] using f4
      have c1 : (((E[1]'hl1).toNat : Int) == 125) = false := beq_eq_false_iff_ne.2 (by omega)
      have c2 : ((125 : Int) == ((E[1]'hl1).toNat : Int)) = false := beq_eq_false_iff_ne.2 (by omega)
      have HI : Hid (∀ W, Calls Tryz.prog 64 #[.string ByteArray.empty, .int .u8 ((E[1]'hl1).toNat : Int)] W fun e w' => e = .returned (.int .i64 (-1)) ∧ w' = W) := Lib.hid (fun W => Tryz.strings_IndexByte ByteArray.empty _ W)
      have c3 : (((((⟨#[123, 125]⟩ : ByteArray)[1]'(by decide)).toNat : Int)) == ((E[1]'hl1).toNat : Int)) = false := c2
      have w2 : IntKind.i64.wrap 2 = 2 := by decide
      clear f4 f5 hl g1 f1 f2
      go_enter Tryz.func60, Tryz.ntmps60
      go_wp2_with (go_at_call 80; refine (E80.out _).mono ?_; rintro e w' ⟨rfl, hw⟩; rw [hw])
      go_step3
      go_wp2
      go_loopw [9, 10] (fun v9 v10 wr => v9 = .int .i64 1 ∧ wr = w) (fun _ _ _ => 1)
      case atStart => exact ⟨rfl, rfl⟩
      case round =>
        obtain ⟨rfl, rfl⟩ := hrel
        go_wp2
        go_step3
        go_wp2
        go_quiet (fail)
        obtain ⟨w5, hw5⟩ : ∃ x, x = wr.drewN nq := ⟨_, rfl⟩
        rw [← hw5]
        have hn5 : New wr w5 := by rw [hw5]; exact (New.refl wr).drewN nq
        clear hw5
        go_wp2
        go_quiet ((go_at_call 64; exact Calls.quiet_of_same (HI.out _)))
        go_wp2
        simp (config := { zetaDelta := true }) only [Exit.noGoto_ret, Exit.inBlock, Exit.then]
        go_ret
        exact ⟨rfl, hn5.drewN _⟩
    · have t3 : decide (((E.size - 1 : Nat) : Int) < 2) = false := decide_eq_false (by omega)
      go_enter Tryz.func60, Tryz.ntmps60
      go_wp2_with (go_at_call 80; refine (E80.out _).mono ?_; rintro e w' ⟨rfl, hw⟩; rw [hw])
      go_step3
      go_wp2
      go_loopw [9, 10] (fun v9 v10 wr => v9 = .int .i64 ((E.size - 1 : Nat) : Int) ∧ wr = w) (fun _ _ _ => 1)
      case atStart => exact ⟨rfl, rfl⟩
      case round =>
        obtain ⟨rfl, rfl⟩ := hrel
        go_wp2
        rw [Exit.noGoto_ret]
        go_ret
        exact ⟨rfl, New.refl _⟩

/-- What a rune that is no ASCII character is decoded from. -/
theorem decode_wide (s : ByteArray) (pos : Nat) (h : pos < s.size) (ha : 128 ≤ (s[pos]'h).toNat) :
    128 ≤ (Utf8.decode s pos).1 ∧ Utf8.valid ((Utf8.decode s pos).1 : Int) = true ∧ 1 ≤ (Utf8.decode s pos).2 ∧ pos + (Utf8.decode s pos).2 ≤ s.size ∧ ∀ (j : Nat) (b : UInt8), pos ≤ j → j < pos + (Utf8.decode s pos).2 → s.data.toList[j]? = some b → 128 ≤ b.toNat := by
  have hsz : s.data.toList.length = s.size := (size_eq s).symm
  have hg : ∀ (j : Nat) (b : UInt8), s.data.toList[j]? = some b → s.data.toList.getD j 0 = b := fun j b hb => by rw [List.getD_eq_getElem?_getD, hb]; rfl
  have h0 : s.data.toList[pos]? = some (s[pos]'h) := by rw [get_eq s _ h]; exact List.getElem?_eq_getElem (by omega)
  have b0 := hg _ _ h0
  rw [Lib.decode_N, b0, hsz]
  have k0 := UInt8.toNat_lt (s[pos]'h)
  have k1 := UInt8.toNat_lt (s.data.toList.getD (pos + 1) 0)
  have k2 := UInt8.toNat_lt (s.data.toList.getD (pos + 2) 0)
  have k3 := UInt8.toNat_lt (s.data.toList.getD (pos + 3) 0)
  rcases Lib.decodeN_shape (s.size - pos) (s[pos]'h).toNat (s.data.toList.getD (pos + 1) 0).toNat (s.data.toList.getD (pos + 2) 0).toNat (s.data.toList.getD (pos + 3) 0).toNat with ⟨c, e⟩ | ⟨c1, c2, c3, cv, e⟩ | ⟨c1, c2, c3, c4, cv, cs, e⟩ | ⟨c1, c2, c3, c4, c5, cv, cw, e⟩ | e
  · omega
  all_goals rw [e]
  all_goals refine ⟨?_, ?_, ?_, ?_, ?_⟩
  all_goals try (dsimp only; omega)
  all_goals try (rw [valid_lib]; unfold Lib.validRune; exact decide_eq_true (by dsimp only; omega))
  all_goals (intro j b i1 i2 hb; dsimp only at i2; have hj := hg _ _ hb)
  · have : j = pos ∨ j = pos + 1 := by omega
    rcases this with rfl | rfl
    · rw [← hj, b0]; exact ha
    · rw [← hj]; omega
  · have : j = pos ∨ j = pos + 1 ∨ j = pos + 2 := by omega
    rcases this with rfl | rfl | rfl
    · rw [← hj, b0]; exact ha
    · rw [← hj]; omega
    · rw [← hj]; omega
  · have : j = pos ∨ j = pos + 1 ∨ j = pos + 2 ∨ j = pos + 3 := by omega
    rcases this with rfl | rfl | rfl | rfl
    · rw [← hj, b0]; exact ha
    · rw [← hj]; omega
    · rw [← hj]; omega
    · rw [← hj]; omega
  · have : j = pos := by omega
    subst this
    rw [← hj, b0]; exact ha

theorem braces_small (b : UInt8) (h : 128 ≤ b.toNat) : ([123, 125] : List UInt8).contains b = false := by
  cases hc : ([123, 125] : List UInt8).contains b with
  | false => rfl
  | true =>
    rw [List.contains_iff_mem] at hc
    simp only [List.mem_cons, List.not_mem_nil, or_false] at hc
    rcases hc with rfl | rfl <;> simp at h
theorem noAny_far {s : List UInt8} {i n : Nat} (h : Lib.NoAny s [123, 125] i) (hb : ∀ (j : Nat) (b : UInt8), i ≤ j → j < i + n → s[j]? = some b → 128 ≤ b.toNat) : Lib.NoAny s [123, 125] (i + n) := fun j b hj e => by
  by_cases hji : j < i
  · exact h j b hji e
  · exact braces_small b (hb j b (by omega) hj e)

/-- The world in which an iterator over a string stands elsewhere. -/
def turnS (W : World) (b : Nat) (s : ByteArray) (p : Nat) : World := { W with heap := W.heap.setIfInBounds b (.stringIter s p) }
theorem turnS_at {W : World} {b p q : Nat} {s : ByteArray} (h : W.heap[b]? = some (.stringIter s q)) : (turnS W b s p).heap[b]? = some (.stringIter s p) := by
  have hb : b < W.heap.size := by
    rcases Nat.lt_or_ge b W.heap.size with h' | h'
    · exact h'
    · rw [Array.getElem?_eq_none h'] at h; cases h
  simp [turnS, Array.getElem?_setIfInBounds, hb]
theorem turnS_new {a W : World} {b : Nat} (s : ByteArray) (p : Nat) (h : New a W) (hb : a.heap.size ≤ b) : New a (turnS W b s p) :=
  ⟨h.os, h.tape, h.output, by simpa [turnS] using h.size, fun k hk => by
    have : b ≠ k := by omega
    simp only [turnS, Array.getElem?_setIfInBounds, if_neg this]
    exact h.block k hk⟩
theorem next_turn {P : Program} {W : World} {b pos : Nat} {s : ByteArray} (ty : TypeId) (h : W.heap[b]? = some (.stringIter s pos)) (hp : pos < s.size) :
    (Instr.next (.pointer (some ⟨b, 0, none⟩)) true ty).run P W = .ok (.tuple #[.bool true, .int .i64 pos, .int .i32 (Utf8.decode s pos).1]) (turnS W b s (pos + (Utf8.decode s pos).2)) := by
  simp only [Instr.next, getObj, setObj, Sem.run_bind, Sem.run, h, Result.andThen, hp, if_true, turnS]
  simp [goInt]
theorem next_stop {P : Program} {W : World} {b pos : Nat} {s : ByteArray} (ty : TypeId) (h : W.heap[b]? = some (.stringIter s pos)) (hp : ¬ pos < s.size) :
    (Instr.next (.pointer (some ⟨b, 0, none⟩)) true ty).run P W = .ok (.tuple #[.bool false]) W := by
  simp [Instr.next, getObj, Sem.run, h, hp]
theorem iterPos_of {W : World} {b pos : Nat} {s : ByteArray} (h : W.heap[b]? = some (.stringIter s pos)) : W.iterPos b = pos := by
  simp [World.iterPos, h]

set_option maxRecDepth 100000 in
set_option maxHeartbeats 4000000 in
/-- At most 8 bytes. -/
theorem braces_short (s : ByteArray) (w : World) (h8 : s.size ≤ 8) :
    Calls Tryz.prog 38 #[.string s, .string ⟨#[123, 125]⟩] w fun e w' => e = .returned (.int .i64 (brk s.data.toList)) ∧ New w w' := by
  have h8z : decide ((8 : Int) < (s.size : Int)) = false := decide_eq_false (by omega)
  have E61 := Lib.hid (fun w => Tryz.strings_shouldUseASCIISet s.size w)
  rw [h8z] at E61
  obtain ⟨B, hB⟩ : ∃ B, brk s.data.toList = B := ⟨_, rfl⟩
  rw [hB]
  have HB := Lib.hid hB
  clear hB h8z
  go_enter Tryz.func38, Tryz.ntmps38
  go_wp2_with (go_at_call 61; refine (E61.out _).mono ?_; rintro e w' ⟨rfl, hw⟩; rw [hw])
  go_loopw [9, 10] (fun _ _ wr => ∃ i : Nat, i ≤ s.size ∧ New w wr ∧ wr.heap[w.heap.size]? = some (.stringIter s i) ∧ Lib.NoAny s.data.toList [123, 125] i) (fun _ _ wr => s.size - wr.iterPos w.heap.size)
  case atStart => exact ⟨0, Nat.zero_le _, (New.refl w).alloc _, World.iter_heap w s 0, Lib.NoAny.zero _ _⟩
  case round =>
    obtain ⟨i, hi, hn, hit, hno⟩ := hrel
    have HNO := Lib.hid hno
    have HN := Lib.hid hn
    have HIT := Lib.hid hit
    clear hno hn
    by_cases hlt : i < s.size
    · have hnx := fun ty => next_turn (P := Tryz.prog) ty hit hlt
      have hgx : s.data.toList[i]? = some s[i] := by rw [get_eq s i hlt]; exact List.getElem?_eq_getElem (by rw [← size_eq]; exact hlt)
      by_cases ha : (s[i]'hlt).toNat < 128
      · rw [decode_ascii s i hlt ha] at hnx
        have HT := Lib.hid (turnS_at (p := i + 1) hit)
        have HN2 := Lib.hid (turnS_new s (i + 1) HN.out (Nat.le_refl _))
        have hpos := iterPos_of hit
        obtain ⟨W2, hW2⟩ : ∃ x, turnS wr w.heap.size s (i + 1) = x := ⟨_, rfl⟩
        dsimp only at hnx
        rw [hW2] at hnx HT HN2
        have hr0 : (0 : Int) ≤ ((s[i]'hlt).toNat : Int) := by omega
        have HR := Lib.hid (fun W => Tryz.strings_IndexRune_ascii ⟨#[123, 125]⟩ ((s[i]'hlt).toNat : Int) W hr0 (by omega))
        have hback : (((s[i]'hlt).toNat : Int)).toNat.toUInt8 = s[i]'hlt := by simp
        rw [hback] at HR
        have hcon := Lib.contains_iff_indexByte [123, 125] (s[i]'hlt)
        clear hit hW2 hback ha
        cases hin : ([123, 125] : List UInt8).contains (s[i]'hlt)
        · rw [hin] at hcon
          have t1 : decide (0 ≤ Lib.indexByte [123, 125] s[i]) = false := hcon.symm
          have HS := Lib.hid (HNO.out.succ hgx hin)
          clear hcon hin hgx
          go_wp2_with (go_at_call 60; refine (HR.out _).mono ?_; rintro e w' ⟨rfl, hw⟩; rw [hw])
          go_round
          case measure => rw [iterPos_of HT.out, hpos]; omega
          case rel => exact ⟨i + 1, by omega, HN2.out, HT.out, HS.out⟩
        · rw [hin] at hcon
          have t1 : decide (0 ≤ Lib.indexByte [123, 125] s[i]) = true := hcon.symm
          have e : B = (i : Int) := by rw [← HB.out]; exact Lib.indexAny_hit HNO.out hgx hin
          clear hcon hin hgx
          go_wp2_with (go_at_call 60; refine (HR.out _).mono ?_; rintro e w' ⟨rfl, hw⟩; rw [hw])
          go_ret
          exact ⟨by rw [e]; rfl, HN2.out⟩
      · obtain ⟨d1, d2, d3, d4, d5⟩ := decode_wide s i hlt (by omega)
        obtain ⟨rr, hrr⟩ : ∃ x, (Utf8.decode s i).1 = x := ⟨_, rfl⟩
        obtain ⟨wd, hwd⟩ : ∃ x, (Utf8.decode s i).2 = x := ⟨_, rfl⟩
        rw [hrr, hwd] at hnx
        rw [hrr] at d1 d2
        rw [hwd] at d3 d4 d5
        have HT := Lib.hid (turnS_at (p := i + wd) hit)
        have HN2 := Lib.hid (turnS_new s (i + wd) HN.out (Nat.le_refl _))
        have HS := Lib.hid (noAny_far HNO.out d5)
        have hpos := iterPos_of hit
        obtain ⟨W2, hW2⟩ : ∃ x, turnS wr w.heap.size s (i + wd) = x := ⟨_, rfl⟩
        rw [hW2] at hnx HT HN2
        have HR := Lib.hid (fun W => braceRune_high (rr : Int) (by omega) d2 W)
        have hbl : w.heap.size < W2.heap.size := by
          have := HT.out
          rcases Nat.lt_or_ge w.heap.size W2.heap.size with h' | h'
          · exact h'
          · rw [Array.getElem?_eq_none h'] at this; cases this
        clear hit hW2 hrr hwd d1 d2 d5 hgx ha
        go_wp2_with (go_at_call 60; refine (HR.out _).mono ?_; rintro e w' ⟨rfl, hw⟩)
        go_round
        case measure =>
          have := (hw.block _ hbl).trans HT.out
          rw [iterPos_of this, hpos]; omega
        case rel => exact ⟨i + wd, d4, HN2.out.trans hw, (hw.block _ hbl).trans HT.out, HS.out⟩
    · have hnx := fun ty => next_stop (P := Tryz.prog) ty hit hlt
      have e : B = -1 := by
        rw [← HB.out]
        refine Lib.indexAny_none ?_
        have : i = s.data.toList.length := by rw [← size_eq]; omega
        rw [← this]; exact HNO.out
      clear hit
      go_wp2
      go_ret
      exact ⟨by rw [e]; rfl, HN.out⟩

/-- Any text: what Parse asks of strings.IndexAny. -/
theorem braces_any (s : ByteArray) (w : World) (hs : s.size ≤ 10000) :
    Calls Tryz.prog 38 #[.string s, .string ⟨#[123, 125]⟩] w fun e w' => e = .returned (.int .i64 (brk s.data.toList)) ∧ New w w' := by
  by_cases h8 : s.size ≤ 8
  · exact braces_short s w h8
  · refine (Tryz.strings_IndexAny_long (zero_of_info (n := 256) (by kernel_rfl)).1 s ⟨#[123, 125]⟩ w (by decide) (by omega) (by omega) (by decide) ?_).mono ?_
    · intro j b hb
      have : b = 123 ∨ b = 125 := by
        have hm := List.mem_of_getElem? hb
        simpa using hm
      rcases this with rfl | rfl <;> decide
    · rintro e w' ⟨rfl, rfl⟩
      exact ⟨rfl, ((New.refl w).alloc _).alloc _⟩
end Go.Proofs.YtpoelhnceebmkaaGreatDoor
