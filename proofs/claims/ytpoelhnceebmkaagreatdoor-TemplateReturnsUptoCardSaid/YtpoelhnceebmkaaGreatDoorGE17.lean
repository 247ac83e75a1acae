/- strings.IndexRune of braces at a rune that is no ASCII character, and strings.IndexAny of braces on any bytes: the walk and its plain law. No conditions but the text's size. The reference's Parse: what stands between the steps of its walk. No conditions. The reference's Parse: one step on the list of bytes. No conditions. -/
import Derived.Test.YtpoelhnceebmkaaGreatDoorGE14
import Derived.WalkMore
import Derived.BigQuiet
import Derived.Laws.RangeAny
import Derived.Laws.Runes
import Derived.Lib.MapLaws

namespace Go.Proofs.YtpoelhnceebmkaaGreatDoor
open Go Go.RowKit Go.Shelf
set_option linter.unusedSimpArgs false
set_option linter.unusedVariables false

theorem valid_lib (r : Int) : Utf8.valid r = Lib.validRune r := by
  unfold Utf8.valid Lib.validRune
  rw [Bool.eq_iff_iff]
  simp only [Bool.or_eq_true, Bool.and_eq_true, decide_eq_true_eq]
  omega
set_option maxRecDepth 100000 in
set_option maxHeartbeats 2000000 in
theorem braceRune_high (r : Int) (h1 : 128 ≤ r) (hv : Utf8.valid r = true) (w : World) :
    Calls Tryz.prog 60 #[.string ⟨#[123, 125]⟩, .int .i32 r] w fun e w' => e = .returned (.int .i64 (-1)) ∧ New w w' := by
  have t1 : decide (r < 128) = false := decide_eq_false (by omega)
  have t0 : decide (0 ≤ r) = true := decide_eq_true (by omega)
  by_cases hb : r = 65533
  · subst hb
    have n0 := run_next_ascii (P := Tryz.prog) w ⟨#[123, 125]⟩ 0
    go_enter Tryz.func60, Tryz.ntmps60
    go_wp2
    go_loopw [5, 6] (fun v5 v6 wr => ∃ k : Nat, k ≤ 2 ∧ wr = w.iter ⟨#[123, 125]⟩ k) (fun _ _ wr => 2 - wr.iterPos w.heap.size)
    case atStart => exact ⟨0, by omega, rfl⟩
    case round =>
      obtain ⟨k, hk, rfl⟩ := hrel
      have hks : k = 0 ∨ k = 1 ∨ k = 2 := by omega
      rcases hks with rfl | rfl | rfl
      · have hnx := fun ty => run_next_ascii (P := Tryz.prog) w ⟨#[123, 125]⟩ 0 ty (by decide) (by decide)
        go_wp2
        go_round
        case measure => simp
        case rel => exact ⟨1, by omega, rfl⟩
      · have hnx := fun ty => run_next_ascii (P := Tryz.prog) w ⟨#[123, 125]⟩ 1 ty (by decide) (by decide)
        go_wp2
        go_round
        case measure => simp
        case rel => exact ⟨2, by omega, rfl⟩
      · have hnx := fun ty => run_next_end (P := Tryz.prog) w ⟨#[123, 125]⟩ 2 ty (by decide)
        go_wp2
        go_ret
        exact ⟨rfl, (New.refl w).alloc _⟩
  · have t2 : (r == 65533) = false := beq_eq_false_iff_ne.2 hb
    obtain ⟨f1, f2, f3⟩ := encode_facts r hv h1
    have hv' : Lib.validRune r = true := by rw [← valid_lib]; exact hv
    obtain ⟨E, hE⟩ : ∃ E : ByteArray, Utf8.encode r = E := ⟨_, rfl⟩
    rw [hE] at f1 f2 f3
    have u1 : IntKind.i64.wrap ((E.size : Int) - 1) = ((E.size - 1 : Nat) : Int) := by rw [IntWalk.i64_in _ (by omega)]; omega
    have hl : E.size - 1 < E.size := by omega
    have cv : ∀ W, (convert 21 9 (.int .i32 r)).run Tryz.prog W = .ok (.string E) W := fun W => by rw [run_convert_int_string W 21 9 .i32 r rfl rfl, hE]
    have f4 := f3 hl
    clear f3
    have e80 := fun w => Tryz.utf8_ValidRune r w
    rw [hv'] at e80
    have E80 := Lib.hid e80
    clear e80 hv hv' hb
    by_cases h2 : E.size = 2
    · have hl1 : 1 < E.size := by omega
      have g1 : E.size - 1 = 1 := by omega
      rw [g1] at u1
      have f5 : 128 ≤ (E[1]'hl1).toNat := by simpa only [g1] using f4
      have c1 : (((E[1]'hl1).toNat : Int) == 125) = false := beq_eq_false_iff_ne.2 (by omega)
      have c2 : ((125 : Int) == ((E[1]'hl1).toNat : Int)) = false := beq_eq_false_iff_ne.2 (by omega)
      have HI : Hid (∀ W, Calls Tryz.prog 64 #[.string ByteArray.empty, .int .u8 ((E[1]'hl1).toNat : Int)] W fun e w' => e = .returned (.int .i64 (-1)) ∧ w' = W) := Lib.hid (fun W => Tryz.strings_IndexByte ByteArray.empty _ W)
      have c3 : (((((⟨#[123, 125]⟩ : ByteArray)[1]'(by decide)).toNat : Int)) == ((E[1]'hl1).toNat : Int)) = false := c2
      have w2 : IntKind.i64.wrap 2 = 2 := by decide
      clear f4 f5 hl g1 f1 f2
      go_enter Tryz.func60, Tryz.ntmps60
      go_wp2_with (go_at_call 80; refine (E80.out _).mono ?_; rintro e w' ⟨rfl, hw⟩; rw [hw])
      go_step3
      go_wp2
      go_loopw [9, 10] (fun v9 v10 wr => v9 = .int .i64 1 ∧ wr = w) (fun _ _ _ => 1)
      case atStart => exact ⟨rfl, rfl⟩
      case round =>
        obtain ⟨rfl, rfl⟩ := hrel
        go_wp2
        go_step3
        go_wp2
        go_quiet (fail)
        obtain ⟨w5, hw5⟩ : ∃ x, x = wr.drewN nq := ⟨_, rfl⟩
        rw [← hw5]
        have hn5 : New wr w5 := by rw [hw5]; exact (New.refl wr).drewN nq
        clear hw5
        go_wp2
        go_quiet ((go_at_call 64; exact Calls.quiet_of_same (HI.out _)))
        go_wp2
        simp (config := { zetaDelta := true }) only [Exit.noGoto_ret, Exit.inBlock, Exit.then]
        go_ret
        exact ⟨rfl, hn5.drewN _⟩
    · have t3 : decide (((E.size - 1 : Nat) : Int) < 2) = false := decide_eq_false (by omega)
      go_enter Tryz.func60, Tryz.ntmps60
      go_wp2_with (go_at_call 80; refine (E80.out _).mono ?_; rintro e w' ⟨rfl, hw⟩; rw [hw])
      go_step3
      go_wp2
      go_loopw [9, 10] (fun v9 v10 wr => v9 = .int .i64 ((E.size - 1 : Nat) : Int) ∧ wr = w) (fun _ _ _ => 1)
      case atStart => exact ⟨rfl, rfl⟩
      case round =>
        obtain ⟨rfl, rfl⟩ := hrel
        go_wp2
        rw [Exit.noGoto_ret]
        go_ret
        exact ⟨rfl, New.refl _⟩

/-- What a rune that is no ASCII character is decoded from. -/
theorem decode_wide (s : ByteArray) (pos : Nat) (h : pos < s.size) (ha : 128 ≤ (s[pos]'h).toNat) :
    128 ≤ (Utf8.decode s pos).1 ∧ Utf8.valid ((Utf8.decode s pos).1 : Int) = true ∧ 1 ≤ (Utf8.decode s pos).2 ∧ pos + (Utf8.decode s pos).2 ≤ s.size ∧ ∀ (j : Nat) (b : UInt8), pos ≤ j → j < pos + (Utf8.decode s pos).2 → s.data.toList[j]? = some b → 128 ≤ b.toNat := by
  have hsz : s.data.toList.length = s.size := (size_eq s).symm
  have hg : ∀ (j : Nat) (b : UInt8), s.data.toList[j]? = some b → s.data.toList.getD j 0 = b := fun j b hb => by rw [List.getD_eq_getElem?_getD, hb]; rfl
  have h0 : s.data.toList[pos]? = some (s[pos]'h) := by rw [get_eq s _ h]; exact List.getElem?_eq_getElem (by omega)
  have b0 := hg _ _ h0
  rw [Lib.decode_N, b0, hsz]
  have k0 := UInt8.toNat_lt (s[pos]'h)
  have k1 := UInt8.toNat_lt (s.data.toList.getD (pos + 1) 0)
  have k2 := UInt8.toNat_lt (s.data.toList.getD (pos + 2) 0)
  have k3 := UInt8.toNat_lt (s.data.toList.getD (pos + 3) 0)
  rcases Lib.decodeN_shape (s.size - pos) (s[pos]'h).toNat (s.data.toList.getD (pos + 1) 0).toNat (s.data.toList.getD (pos + 2) 0).toNat (s.data.toList.getD (pos + 3) 0).toNat with ⟨c, e⟩ | ⟨c1, c2, c3, cv, e⟩ | ⟨c1, c2, c3, c4, cv, cs, e⟩ | ⟨c1, c2, c3, c4, c5, cv, cw, e⟩ | e
  · omega
  all_goals rw [e]
  all_goals refine ⟨?_, ?_, ?_, ?_, ?_⟩
  all_goals try (dsimp only; omega)
  all_goals try (rw [valid_lib]; unfold Lib.validRune; exact decide_eq_true (by dsimp only; omega))
  all_goals (intro j b i1 i2 hb; dsimp only at i2; have hj := hg _ _ hb)
  · have : j = pos ∨ j = pos + 1 := by omega
    rcases this with rfl | rfl
    · rw [← hj, b0]; exact ha
    · rw [← hj]; omega
  · have : j = pos ∨ j = pos + 1 ∨ j = pos + 2 := by omega
    rcases this with rfl | rfl | rfl
    · rw [← hj, b0]; exact ha
    · rw [← hj]; omega
    · rw [← hj]; omega
  · have : j = pos ∨ j = pos + 1 ∨ j = pos + 2 ∨ j = pos + 3 := by omega
    rcases this with rfl | rfl | rfl | rfl
    · rw [← hj, b0]; exact ha
    · rw [← hj]; omega
    · rw [← hj]; omega
    · rw [← hj]; omega
  · have : j = pos := by omega
    subst this
    rw [← hj, b0]; exact ha

theorem braces_small (b : UInt8) (h : 128 ≤ b.toNat) : ([123, 125] : List UInt8).contains b = false := by
  cases hc : ([123, 125] : List UInt8).contains b with
  | false => rfl
  | true =>
    rw [List.contains_iff_mem] at hc
    simp only [List.mem_cons, List.not_mem_nil, or_false] at hc
    rcases hc with rfl | rfl <;> simp at h
theorem noAny_far {s : List UInt8} {i n : Nat} (h : Lib.NoAny s [123, 125] i) (hb : ∀ (j : Nat) (b : UInt8), i ≤ j → j < i + n → s[j]? = some b → 128 ≤ b.toNat) : Lib.NoAny s [123, 125] (i + n) := fun j b hj e => by
  by_cases hji : j < i
  · exact h j b hji e
  · exact braces_small b (hb j b (by omega) hj e)

/-- The world in which an iterator over a string stands elsewhere. -/
def turnS (W : World) (b : Nat) (s : ByteArray) (p : Nat) : World := { W with heap := W.heap.setIfInBounds b (.stringIter s p) }
theorem turnS_at {W : World} {b p q : Nat} {s : ByteArray} (h : W.heap[b]? = some (.stringIter s q)) : (turnS W b s p).heap[b]? = some (.stringIter s p) := by
  have hb : b < W.heap.size := by
    rcases Nat.lt_or_ge b W.heap.size with h' | h'
    · exact h'
    · rw [Array.getElem?_eq_none h'] at h; cases h
  simp [turnS, Array.getElem?_setIfInBounds, hb]
theorem turnS_new {a W : World} {b : Nat} (s : ByteArray) (p : Nat) (h : New a W) (hb : a.heap.size ≤ b) : New a (turnS W b s p) :=
  ⟨h.os, h.tape, h.output, by simpa [turnS] using h.size, fun k hk => by
    have : b ≠ k := by omega
    simp only [turnS, Array.getElem?_setIfInBounds, if_neg this]
    exact h.block k hk⟩
theorem next_turn {P : Program} {W : World} {b pos : Nat} {s : ByteArray} (ty : TypeId) (h : W.heap[b]? = some (.stringIter s pos)) (hp : pos < s.size) :
    (Instr.next (.pointer (some ⟨b, 0, none⟩)) true ty).run P W = .ok (.tuple #[.bool true, .int .i64 pos, .int .i32 (Utf8.decode s pos).1]) (turnS W b s (pos + (Utf8.decode s pos).2)) := by
  simp only [Instr.next, getObj, setObj, Sem.run_bind, Sem.run, h, Result.andThen, hp, if_true, turnS]
  simp [goInt]
theorem next_stop {P : Program} {W : World} {b pos : Nat} {s : ByteArray} (ty : TypeId) (h : W.heap[b]? = some (.stringIter s pos)) (hp : ¬ pos < s.size) :
    (Instr.next (.pointer (some ⟨b, 0, none⟩)) true ty).run P W = .ok (.tuple #[.bool false]) W := by
  simp [Instr.next, getObj, Sem.run, h, hp]
theorem iterPos_of {W : World} {b pos : Nat} {s : ByteArray} (h : W.heap[b]? = some (.stringIter s pos)) : W.iterPos b = pos := by
  simp [World.iterPos, h]

set_option maxRecDepth 100000 in
set_option maxHeartbeats 4000000 in
/-- At most 8 bytes. -/
theorem braces_short (s : ByteArray) (w : World) (h8 : s.size ≤ 8) :
    Calls Tryz.prog 38 #[.string s, .string ⟨#[123, 125]⟩] w fun e w' => e = .returned (.int .i64 (brk s.data.toList)) ∧ New w w' := by
  have h8z : decide ((8 : Int) < (s.size : Int)) = false := decide_eq_false (by omega)
  have E61 := Lib.hid (fun w => Tryz.strings_shouldUseASCIISet s.size w)
  rw [h8z] at E61
  obtain ⟨B, hB⟩ : ∃ B, brk s.data.toList = B := ⟨_, rfl⟩
  rw [hB]
  have HB := Lib.hid hB
  clear hB h8z
  go_enter Tryz.func38, Tryz.ntmps38
  go_wp2_with (go_at_call 61; refine (E61.out _).mono ?_; rintro e w' ⟨rfl, hw⟩; rw [hw])
  go_loopw [9, 10] (fun _ _ wr => ∃ i : Nat, i ≤ s.size ∧ New w wr ∧ wr.heap[w.heap.size]? = some (.stringIter s i) ∧ Lib.NoAny s.data.toList [123, 125] i) (fun _ _ wr => s.size - wr.iterPos w.heap.size)
  case atStart => exact ⟨0, Nat.zero_le _, (New.refl w).alloc _, World.iter_heap w s 0, Lib.NoAny.zero _ _⟩
  case round =>
    obtain ⟨i, hi, hn, hit, hno⟩ := hrel
    have HNO := Lib.hid hno
    have HN := Lib.hid hn
    have HIT := Lib.hid hit
    clear hno hn
    by_cases hlt : i < s.size
    · have hnx := fun ty => next_turn (P := Tryz.prog) ty hit hlt
      have hgx : s.data.toList[i]? = some s[i] := by rw [get_eq s i hlt]; exact List.getElem?_eq_getElem (by rw [← size_eq]; exact hlt)
      by_cases ha : (s[i]'hlt).toNat < 128
      · rw [decode_ascii s i hlt ha] at hnx
        have HT := Lib.hid (turnS_at (p := i + 1) hit)
        have HN2 := Lib.hid (turnS_new s (i + 1) HN.out (Nat.le_refl _))
        have hpos := iterPos_of hit
        obtain ⟨W2, hW2⟩ : ∃ x, turnS wr w.heap.size s (i + 1) = x := ⟨_, rfl⟩
        dsimp only at hnx
        rw [hW2] at hnx HT HN2
        have hr0 : (0 : Int) ≤ ((s[i]'hlt).toNat : Int) := by omega
        have HR := Lib.hid (fun W => Tryz.strings_IndexRune_ascii ⟨#[123, 125]⟩ ((s[i]'hlt).toNat : Int) W hr0 (by omega))
        have hback : (((s[i]'hlt).toNat : Int)).toNat.toUInt8 = s[i]'hlt := by simp
        rw [hback] at HR
        have hcon := Lib.contains_iff_indexByte [123, 125] (s[i]'hlt)
        clear hit hW2 hback ha
        cases hin : ([123, 125] : List UInt8).contains (s[i]'hlt)
        · rw [hin] at hcon
          have t1 : decide (0 ≤ Lib.indexByte [123, 125] s[i]) = false := hcon.symm
          have HS := Lib.hid (HNO.out.succ hgx hin)
          clear hcon hin hgx
          go_wp2_with (go_at_call 60; refine (HR.out _).mono ?_; rintro e w' ⟨rfl, hw⟩; rw [hw])
          go_round
          case measure => rw [iterPos_of HT.out, hpos]; omega
          case rel => exact ⟨i + 1, by omega, HN2.out, HT.out, HS.out⟩
        · rw [hin] at hcon
          have t1 : decide (0 ≤ Lib.indexByte [123, 125] s[i]) = true := hcon.symm
          have e : B = (i : Int) := by rw [← HB.out]; exact Lib.indexAny_hit HNO.out hgx hin
          clear hcon hin hgx
          go_wp2_with (go_at_call 60; refine (HR.out _).mono ?_; rintro e w' ⟨rfl, hw⟩; rw [hw])
          go_ret
          exact ⟨by rw [e]; rfl, HN2.out⟩
      · obtain ⟨d1, d2, d3, d4, d5⟩ := decode_wide s i hlt (by omega)
        obtain ⟨rr, hrr⟩ : ∃ x, (Utf8.decode s i).1 = x := ⟨_, rfl⟩
        obtain ⟨wd, hwd⟩ : ∃ x, (Utf8.decode s i).2 = x := ⟨_, rfl⟩
        rw [hrr, hwd] at hnx
        rw [hrr] at d1 d2
        rw [hwd] at d3 d4 d5
        have HT := Lib.hid (turnS_at (p := i + wd) hit)
        have HN2 := Lib.hid (turnS_new s (i + wd) HN.out (Nat.le_refl _))
        have HS := Lib.hid (noAny_far HNO.out d5)
        have hpos := iterPos_of hit
        obtain ⟨W2, hW2⟩ : ∃ x, turnS wr w.heap.size s (i + wd) = x := ⟨_, rfl⟩
        rw [hW2] at hnx HT HN2
        have HR := Lib.hid (fun W => braceRune_high (rr : Int) (by omega) d2 W)
        have hbl : w.heap.size < W2.heap.size := by
          have := HT.out
          rcases Nat.lt_or_ge w.heap.size W2.heap.size with h' | h'
          · exact h'
          · rw [Array.getElem?_eq_none h'] at this; cases this
        clear hit hW2 hrr hwd d1 d2 d5 hgx ha
        go_wp2_with (go_at_call 60; refine (HR.out _).mono ?_; rintro e w' ⟨rfl, hw⟩)
        go_round
        case measure =>
          have := (hw.block _ hbl).trans HT.out
          rw [iterPos_of this, hpos]; omega
        case rel => exact ⟨i + wd, d4, HN2.out.trans hw, (hw.block _ hbl).trans HT.out, HS.out⟩
    · have hnx := fun ty => next_stop (P := Tryz.prog) ty hit hlt
      have e : B = -1 := by
        rw [← HB.out]
        refine Lib.indexAny_none ?_
        have : i = s.data.toList.length := by rw [← size_eq]; omega
        rw [← this]; exact HNO.out
      clear hit
      go_wp2
      go_ret
      exact ⟨by rw [e]; rfl, HN.out⟩

/-- Any text: what Parse asks of strings.IndexAny. -/
theorem braces_any (s : ByteArray) (w : World) (hs : s.size ≤ 10000) :
    Calls Tryz.prog 38 #[.string s, .string ⟨#[123, 125]⟩] w fun e w' => e = .returned (.int .i64 (brk s.data.toList)) ∧ New w w' := by
  by_cases h8 : s.size ≤ 8
  · exact braces_short s w h8
  · refine (Tryz.strings_IndexAny_long (zero_of_info (n := 256) (by kernel_rfl)).1 s ⟨#[123, 125]⟩ w (by decide) (by omega) (by omega) (by decide) ?_).mono ?_
    · intro j b hb
      have : b = 123 ∨ b = 125 := by
        have hm := List.mem_of_getElem? hb
        simpa using hm
      rcases this with rfl | rfl <;> decide
    · rintro e w' ⟨rfl, rfl⟩
      exact ⟨rfl, ((New.refl w).alloc _).alloc _⟩
end Go.Proofs.YtpoelhnceebmkaaGreatDoor

namespace Go.Proofs.YtpoelhnceebmkaaGreatDoor
open Go Go.RowKit Go.Shelf
set_option linter.unusedSimpArgs false
set_option linter.unusedVariables false

abbrev rz : Array Value := #[.string ⟨#[]⟩, .slice none 0 0, .int .i64 0, .int .i64 0]
/-- The parts so far are qs; the last one has the hole h, the words ws so far; its row lies apart from the others. -/
structure InvR (nm : ByteArray) (w : World) (m g cP : Nat) (qs : List QV) (h : Int) (ws : List ByteArray) (u : Value) (wr : World) : Prop where
  new : New w wr
  len : qs.length = m
  res : Blk wr w.heap.size 30 rz
  tpl : Blk wr (w.heap.size + 2) 25 #[.string nm, .slice (some ⟨g, 0, none⟩) (m + 1) cP]
  row : wr.ownsRow w.heap.size 58 2 (.slice (some ⟨g, 0, none⟩) (m + 1) cP) (m + 1) (qCells qs ++ [.int .i64 h, u])
  own : ∀ q ∈ qs, wr.ownsRow w.heap.size 9 1 q.2 q.1.2.length (sCells q.1.2)
  last : wr.ownsRow w.heap.size 9 1 u ws.length (sCells ws)
  apart : ∀ q ∈ qs, ∀ b, u.ownBlock = some b → q.2.ownBlock ≠ some b
theorem InvR.turn {nm : ByteArray} {w : World} {m g cP : Nat} {qs : List QV} {h : Int} {ws : List ByteArray} {u : Value} {wr W : World} (I : InvR nm w m g cP qs h ws u wr) (hn : New wr W) : InvR nm w m g cP qs h ws u W :=
  ⟨I.new.trans hn, I.len, I.res.new hn, I.tpl.new hn, own_new I.row hn, fun q hq => own_new (I.own q hq) hn, own_new I.last hn, I.apart⟩
theorem InvR.lastc {nm : ByteArray} {w : World} {m g cP : Nat} {qs : List QV} {h : Int} {ws : List ByteArray} {u : Value} {wr : World} (I : InvR nm w m g cP qs h ws u wr) : wr.cell? ⟨g, m * 2 + 1, none⟩ = some u := by
  rw [I.row.cellAt (m * 2 + 1) (by omega), List.getElem?_append_right (by rw [qCells_len, I.len]; omega), qCells_len, I.len]; simp
/-- One word more. -/
theorem InvR.add {nm : ByteArray} {w : World} {m g cP : Nat} {qs : List QV} {h : Int} {ws : List ByteArray} {u v2 : Value} {wr w2 : World} (I : InvR nm w m g cP qs h ws u wr) (x : ByteArray)
    (hown : w2.ownsRow w.heap.size 9 1 v2 (ws.length + 1) (sCells ws ++ [.string x])) (hgrow : ((wr.alloc (.cells #[.string x] 9)).drew).grownBy w2 u.ownBlock)
    (hv : v2.ownBlock = u.ownBlock ∨ v2.ownBlock = some ((wr.alloc (.cells #[.string x] 9)).drew).heap.size) :
    InvR nm w m g cP qs h (ws ++ [x]) v2 (w2.setCell ⟨g, m * 2 + 1, none⟩ v2) := by
  have e1 : w.heap.size ≠ g := fun e => own_off_blk I.row I.res (by decide) (by rw [e]; rfl)
  have e2 : w.heap.size + 2 ≠ g := fun e => own_off_blk I.row I.tpl (by decide) (by rw [e]; rfl)
  have hg : w.heap.size ≤ g ∧ g < wr.heap.size := I.row.lt g rfl
  have hz := I.new.size
  have hlow := I.last.lt
  have res2 : Blk w2 w.heap.size 30 rz := ((I.res.alloc _).drew).grown hgrow (blk_apart I.res I.last (by decide))
  have tpl2 : Blk w2 (w.heap.size + 2) 25 #[.string nm, .slice (some ⟨g, 0, none⟩) (m + 1) cP] := ((I.tpl.alloc _).drew).grown hgrow (blk_apart I.tpl I.last (by decide))
  have row2 : w2.ownsRow w.heap.size 58 2 (.slice (some ⟨g, 0, none⟩) (m + 1) cP) (m + 1) (qCells qs ++ [.int .i64 h, u]) := ((I.row.alloc _).drew).kept hgrow (.inr (fun e => own_off I.row I.last (by decide) e.symm rfl))
  have own2 : ∀ q ∈ qs, w2.ownsRow w.heap.size 9 1 q.2 q.1.2.length (sCells q.1.2) := fun q hq => by
    refine (((I.own q hq).alloc _).drew).kept hgrow ?_
    cases hu : u.ownBlock with
    | none => cases hv : q.2.ownBlock with
      | none => exact .inl rfl
      | some b => exact .inr (fun e => by cases e)
    | some b => exact .inr (I.apart q hq b hu)
  have hst := (row2.stored (m * 2 + 1) v2).1
  have hgs := (row2.stored (m * 2 + 1) v2).2
  rw [show (qCells qs ++ [.int .i64 h, u]).set (m * 2 + 1) v2 = qCells qs ++ [.int .i64 h, v2] by rw [List.set_append, if_neg (by rw [qCells_len, I.len]; omega), qCells_len, I.len]; simp] at hst
  refine ⟨?_, I.len, res2.far (p := ⟨g, m * 2 + 1, none⟩) e1 v2, tpl2.far (p := ⟨g, m * 2 + 1, none⟩) e2 v2, hst, fun q hq => (own2 q hq).kept hgs (.inr (fun e => own_off (own2 q hq) row2 (by decide) (g := g) rfl e)), ?_, ?_⟩
  · exact (Below.grown ((I.new.alloc _).drew) hgrow (by show _ ≤ (wr.alloc _).heap.size; rw [World.size_alloc]; omega) (fun k e => (hlow k e).1)).setCell (p := ⟨g, m * 2 + 1, none⟩) hg.1 v2
  · exact own_to (hown.kept hgs (.inr (fun e => own_off hown row2 (by decide) (g := g) rfl e))) (by simp) (by simp [sCells])
  · intro q hq b hb
    rcases hv with hv | hv
    · exact I.apart q hq b (hv ▸ hb)
    · intro e
      have := ((I.own q hq).lt b e).2
      rw [hv] at hb
      have h3 : (wr.alloc (.cells #[.string x] 9)).heap.size = b := Option.some.inj hb
      rw [World.size_alloc] at h3
      omega
/-- One part more. -/
theorem InvR.push {nm : ByteArray} {w : World} {m g cP g2 c2 : Nat} {qs : List QV} {h h2 : Int} {ws : List ByteArray} {u : Value} {wr W : World} (I : InvR nm w m g cP qs h ws u wr) 
    (h0 : wr.grownBy W (some g)) (h1 : W.ownsRow w.heap.size 58 2 (.slice (some ⟨g2, 0, none⟩) (m + 1 + 1) c2) (m + 1 + 1) (qCells qs ++ [.int .i64 h, u] ++ [.int .i64 h2, .slice none 0 0])) :
    InvR nm w (m + 1) g2 c2 (qs ++ [((h, ws), u)]) h2 [] (.slice none 0 0) (W.setCell ⟨w.heap.size + 2, 1, none⟩ (.slice (some ⟨g2, 0, none⟩) (m + 1 + 1) c2)) := by
  have e1 : w.heap.size ≠ g := fun e => own_off_blk I.row I.res (by decide) (by rw [e]; rfl)
  have e2 : w.heap.size + 2 ≠ g := fun e => own_off_blk I.row I.tpl (by decide) (by rw [e]; rfl)
  have hg : w.heap.size ≤ g ∧ g < wr.heap.size := I.row.lt g rfl
  have T := I.tpl.grown h0 (fun e => e2 (Option.some.inj e))
  have own : ∀ q ∈ qs ++ [((h, ws), u)], W.ownsRow w.heap.size 9 1 q.2 q.1.2.length (sCells q.1.2) := fun q hq => by
    rcases List.mem_append.1 hq with hq | hq
    · exact (I.own q hq).kept h0 (.inr (fun e => own_off (I.own q hq) I.row (by decide) rfl e))
    · rw [List.mem_singleton.1 hq]
      exact I.last.kept h0 (.inr (fun e => own_off I.last I.row (by decide) rfl e))
  refine ⟨(Below.grown I.new h0 I.new.size (fun k e => by cases e; exact hg.1)).setCell (p := ⟨w.heap.size + 2, 1, none⟩) (by show w.heap.size ≤ w.heap.size + 2; omega) _, by rw [List.length_append, I.len]; rfl, (I.res.grown h0 (fun e => e1 (Option.some.inj e))).far (by show w.heap.size ≠ w.heap.size + 2; omega) _, (T.put 1 _).same (by simp),
    own_to (h1.kept (grown_set W _ _) (.inr (fun e => own_off_blk h1 T (by decide) e))) rfl (by rw [qCells_app]; simp [qCells]), fun q hq => (own q hq).kept (grown_set W _ _) (.inr (fun e => own_off_blk (own q hq) T (by decide) e)), World.ownsRow_nil _ _ _ _, fun q hq b hb => by simp [Value.ownBlock] at hb⟩
/-- The template that is handed back. -/
theorem InvR.done {nm : ByteArray} {w : World} {m g cP : Nat} {qs : List QV} {h : Int} {ws : List ByteArray} {u : Value} {wr W : World} (I : InvR nm w m g cP qs h ws u wr) (hn : Below w.heap.size wr W) (hk : ∀ k, k ≠ w.heap.size → k < wr.heap.size → W.heap[k]? = wr.heap[k]?) (hz : wr.heap.size ≤ W.heap.size) :
    TRd W (.agg #[.string nm, .slice (some ⟨g, 0, none⟩) (m + 1) cP]) nm (pts qs ++ [(h, ws)]) := by
  have hgr : wr.grownBy W (some w.heap.size) := ⟨hn.os, hn.tape, hn.output, hz, fun k h1 h2 => hk k (fun e => h2 (by rw [e])) h1⟩
  have row := I.row.kept hgr (.inr (fun e => own_off_blk I.row I.res (by decide) e))
  have last := I.last.kept hgr (.inr (fun e => own_off_blk I.last I.res (by decide) e))
  have own : ∀ q ∈ qs, W.ownsRow w.heap.size 9 1 q.2 q.1.2.length (sCells q.1.2) := fun q hq => (I.own q hq).kept hgr (.inr (fun e => own_off_blk (I.own q hq) I.res (by decide) e))
  have wrd : ∀ {v : Value} {ws : List ByteArray}, W.ownsRow w.heap.size 9 1 v ws.length (sCells ws) → WRd W v ws := fun h => by
    obtain ⟨A, c, rfl, h1, h2, h3⟩ := own_form h
    exact ⟨A, c, rfl, h1, h2, h3⟩
  have hl : (pts qs ++ [(h, ws)]).length = m + 1 := by simp [pts, I.len]
  obtain ⟨A, c, e, h1, h2, h3⟩ := own_form row
  injection e with e1 e2 e3
  subst e1 e3
  refine ⟨some ⟨g, 0, none⟩, cP, by rw [hl], by rw [hl]; exact h1, h2, rfl, (qs ++ [((h, ws), u)]).map (·.2), by simp [pts], ?_, ?_⟩
  · have e : pts qs ++ [(h, ws)] = (qs ++ [((h, ws), u)]).map (·.1) := by simp [pts]
    rw [hl, e, ← qCells_pt, qCells_app]
    exact h3
  · intro i h4 h5
    have hi : i < (qs ++ [((h, ws), u)]).length := by simpa using h5
    have e : (pts qs ++ [(h, ws)])[i] = ((qs ++ [((h, ws), u)])[i]).1 := by
      have : pts qs ++ [(h, ws)] = (qs ++ [((h, ws), u)]).map (·.1) := by simp [pts]
      simp only [this, List.getElem_map]
    rw [List.getElem_map, e]
    have hm : (qs ++ [((h, ws), u)])[i] ∈ qs ++ [((h, ws), u)] := List.getElem_mem _
    rcases List.mem_append.1 hm with h6 | h6
    · exact wrd (own _ h6)
    · rw [List.mem_singleton.1 h6]; exact wrd last
/-- The template at hand, as count reads it. -/
theorem InvR.trd {nm : ByteArray} {w : World} {m g cP : Nat} {qs : List QV} {h : Int} {ws : List ByteArray} {u : Value} {wr : World} (I : InvR nm w m g cP qs h ws u wr) : TRd wr (.agg #[.string nm, .slice (some ⟨g, 0, none⟩) (m + 1) cP]) nm (pts qs ++ [(h, ws)]) :=
  I.done (Below.refl _ _) (fun _ _ _ => rfl) (Nat.le_refl _)
theorem InvR.full {nm : ByteArray} {w : World} {m g cP : Nat} {qs : List QV} {h : Int} {ws : List ByteArray} {u : Value} {wr W : World} (I : InvR nm w m g cP qs h ws u wr) (hn : New wr W) (a b c d : Value) :
    Blk ((((W.setCell ⟨w.heap.size, 0, none⟩ a).setCell ⟨w.heap.size, 1, none⟩ b).setCell ⟨w.heap.size, 2, none⟩ c).setCell ⟨w.heap.size, 3, none⟩ d) w.heap.size 30 #[a, b, c, d] ∧
    New w ((((W.setCell ⟨w.heap.size, 0, none⟩ a).setCell ⟨w.heap.size, 1, none⟩ b).setCell ⟨w.heap.size, 2, none⟩ c).setCell ⟨w.heap.size, 3, none⟩ d) ∧
    TRd ((((W.setCell ⟨w.heap.size, 0, none⟩ a).setCell ⟨w.heap.size, 1, none⟩ b).setCell ⟨w.heap.size, 2, none⟩ c).setCell ⟨w.heap.size, 3, none⟩ d) (.agg #[.string nm, .slice (some ⟨g, 0, none⟩) (m + 1) cP]) nm (pts qs ++ [(h, ws)]) := by
  have I2 := I.turn hn
  refine ⟨((((I2.res.put 0 a).put 1 b).put 2 c).put 3 d).same (by simp), (((I2.new.setCell (p := ⟨w.heap.size, 0, none⟩) (Nat.le_refl _) a).setCell (p := ⟨w.heap.size, 1, none⟩) (Nat.le_refl _) b).setCell (p := ⟨w.heap.size, 2, none⟩) (Nat.le_refl _) c).setCell (p := ⟨w.heap.size, 3, none⟩) (Nat.le_refl _) d, ?_⟩
  have hk : ∀ k, k ≠ w.heap.size → ((((W.setCell ⟨w.heap.size, 0, none⟩ a).setCell ⟨w.heap.size, 1, none⟩ b).setCell ⟨w.heap.size, 2, none⟩ c).setCell ⟨w.heap.size, 3, none⟩ d).heap[k]? = W.heap[k]? := fun k hk => (((Below.heap_setCell _ ⟨w.heap.size, 3, none⟩ d k hk).trans (Below.heap_setCell _ ⟨w.heap.size, 2, none⟩ c k hk)).trans (Below.heap_setCell _ ⟨w.heap.size, 1, none⟩ b k hk)).trans (Below.heap_setCell _ ⟨w.heap.size, 0, none⟩ a k hk)
  refine I2.done ⟨rfl, rfl, rfl, ?_, fun k h1 => hk k (by omega)⟩ (fun k h1 _ => hk k h1) ?_
  · simp [World.setCell]
  · simp [World.setCell]
/-- Between the append and the store. -/
theorem InvR.mid {nm : ByteArray} {w : World} {m g cP : Nat} {qs : List QV} {h : Int} {ws : List ByteArray} {u : Value} {wr w2 : World} (I : InvR nm w m g cP qs h ws u wr) (x : ByteArray)
    (hgrow : ((wr.alloc (.cells #[.string x] 9)).drew).grownBy w2 u.ownBlock) :
    Blk w2 (w.heap.size + 2) 25 #[.string nm, .slice (some ⟨g, 0, none⟩) (m + 1) cP] ∧ w2.ownsRow w.heap.size 58 2 (.slice (some ⟨g, 0, none⟩) (m + 1) cP) (m + 1) (qCells qs ++ [.int .i64 h, u]) ∧ w2.cell? ⟨g, m * 2 + 1, none⟩ = some u ∧ w2.frozen? ⟨g, m * 2 + 1, none⟩ = false := by
  have row2 : w2.ownsRow w.heap.size 58 2 (.slice (some ⟨g, 0, none⟩) (m + 1) cP) (m + 1) (qCells qs ++ [.int .i64 h, u]) := ((I.row.alloc _).drew).kept hgrow (.inr (fun e => own_off I.row I.last (by decide) e.symm rfl))
  refine ⟨((I.tpl.alloc _).drew).grown hgrow (blk_apart I.tpl I.last (by decide)), row2, ?_, row2.frozenAt _⟩
  rw [row2.cellAt (m * 2 + 1) (by omega), List.getElem?_append_right (by rw [qCells_len, I.len]; omega), qCells_len, I.len]; simp
/-- What the four stores into the result meet. -/
theorem InvR.store {nm : ByteArray} {w : World} {m g cP : Nat} {qs : List QV} {h : Int} {ws : List ByteArray} {u : Value} {W : World} (I : InvR nm w m g cP qs h ws u W) (a b c : Value) :
    W.cell? ⟨w.heap.size, 0, none⟩ = some (.string ⟨#[]⟩) ∧ W.frozen? ⟨w.heap.size, 0, none⟩ = false ∧
    (W.setCell ⟨w.heap.size, 0, none⟩ a).cell? ⟨w.heap.size, 1, none⟩ = some (.slice none 0 0) ∧ (W.setCell ⟨w.heap.size, 0, none⟩ a).frozen? ⟨w.heap.size, 1, none⟩ = false ∧
    ((W.setCell ⟨w.heap.size, 0, none⟩ a).setCell ⟨w.heap.size, 1, none⟩ b).cell? ⟨w.heap.size, 2, none⟩ = some (.int .i64 0) ∧ ((W.setCell ⟨w.heap.size, 0, none⟩ a).setCell ⟨w.heap.size, 1, none⟩ b).frozen? ⟨w.heap.size, 2, none⟩ = false ∧
    (((W.setCell ⟨w.heap.size, 0, none⟩ a).setCell ⟨w.heap.size, 1, none⟩ b).setCell ⟨w.heap.size, 2, none⟩ c).cell? ⟨w.heap.size, 3, none⟩ = some (.int .i64 0) ∧ (((W.setCell ⟨w.heap.size, 0, none⟩ a).setCell ⟨w.heap.size, 1, none⟩ b).setCell ⟨w.heap.size, 2, none⟩ c).frozen? ⟨w.heap.size, 3, none⟩ = false :=
  ⟨I.res.cell' 0 _ rfl, I.res.free 0, (I.res.put 0 a).cell' 1 _ rfl, (I.res.put 0 a).free 1, ((I.res.put 0 a).put 1 b).cell' 2 _ rfl, ((I.res.put 0 a).put 1 b).free 2, (((I.res.put 0 a).put 1 b).put 2 c).cell' 3 _ rfl, (((I.res.put 0 a).put 1 b).put 2 c).free 3⟩
/-- Another row stays where a word is added. -/
theorem InvR.add_row {nm : ByteArray} {w : World} {m g cP : Nat} {qs : List QV} {h : Int} {ws : List ByteArray} {u v2 : Value} {wr w2 : World} (I : InvR nm w m g cP qs h ws u wr) (x : ByteArray)
    (hgrow : ((wr.alloc (.cells #[.string x] 9)).drew).grownBy w2 u.ownBlock) {base s n : Nat} {e : TypeId} {v : Value} {xs : List Value} (hr : wr.ownsRow base e s v n xs) (h9 : e ≠ 9) (h58 : e ≠ 58) :
    w2.ownsRow base e s v n xs ∧ (w2.setCell ⟨g, m * 2 + 1, none⟩ v2).ownsRow base e s v n xs := by
  have h1 : w2.ownsRow base e s v n xs := by
    refine ((hr.alloc _).drew).kept hgrow ?_
    cases hu : u.ownBlock with
    | none => cases hv : v.ownBlock with
      | none => exact .inl rfl
      | some b => exact .inr (fun e => by cases e)
    | some b => exact .inr (own_off hr I.last h9 hu)
  have row2 : w2.ownsRow w.heap.size 58 2 (.slice (some ⟨g, 0, none⟩) (m + 1) cP) (m + 1) (qCells qs ++ [.int .i64 h, u]) := ((I.row.alloc _).drew).kept hgrow (.inr (fun e => own_off I.row I.last (by decide) e.symm rfl))
  exact ⟨h1, h1.kept (row2.stored (m * 2 + 1) v2).2 (.inr (fun e => own_off h1 row2 h58 (g := g) rfl e))⟩

theorem total_part {ps : List Pt} {p : Pt} (h : p ∈ ps) : p.2.length ≤ total ps := by
  induction ps with
  | nil => cases h
  | cons q r ih =>
    have e : total (q :: r) = q.2.length + total r := by simp [total]
    rcases List.mem_cons.1 h with rfl | h
    · omega
    · have := ih h; omega
theorem total_upto : ∀ (ps : List Pt) (i : Nat), total (ps.take i) ≤ total ps
  | [], i => by simp
  | q :: r, 0 => by simp [total]
  | q :: r, i + 1 => by
    have e : total (q :: r) = q.2.length + total r := by simp [total]
    have e2 : total ((q :: r).take (i + 1)) = q.2.length + total (r.take i) := by simp [total]
    have := total_upto r i
    omega
theorem total_W : ∀ (ps : List Pt), total ps = totW ps
  | [] => rfl
  | q :: r => by
    have e : total (q :: r) = q.2.length + total r := by simp [total]
    rw [e, total_W r]; rfl
set_option maxRecDepth 100000 in
set_option maxHeartbeats 1000000 in
theorem count_wide (v : Value) (nm : ByteArray) (ps : List Pt) (w : World) (h : TRd w v nm ps) (hs1 : ps.length ≤ 1000000) (hs2 : totW ps ≤ 1000000) :
    Calls Tryz.prog 42 #[v] w fun e w' => e = .returned (.int .i64 (totW ps : Nat)) ∧ New w w' := by
  rw [← total_W] at hs2 ⊢
  obtain ⟨A, c, rfl, hc1, hc2, hr⟩ := h
  have hnS : New w (w.alloc (.cells #[.string nm, .slice A ps.length c] 25)) := (New.refl w).alloc _
  have HTK : Hid (∀ i, total (ps.take i) ≤ 1000000) := Lib.hid (fun i => Nat.le_trans (total_upto ps i) hs2)
  have HS2 : Hid (∀ p ∈ ps, p.2.length ≤ 1000000) := Lib.hid (fun p hp => Nat.le_trans (total_part hp) hs2)
  obtain ⟨n, hn0⟩ : ∃ n, ps.length = n := ⟨_, rfl⟩
  rw [hn0] at hr hc1 hs1 hnS ⊢
  have HN := Lib.hid hn0
  clear hs2 hn0
  go_enter Tryz.func42, Tryz.ntmps42
  go_wp2
  obtain ⟨wS, hwS⟩ : ∃ x, x = w.alloc (.cells #[.string nm, .slice A n c] 25) := ⟨_, rfl⟩
  rw [← hwS]
  have B0 : Blk wS w.heap.size 25 #[.string nm, .slice A n c] := by rw [hwS]; exact Blk.made w _ _
  rw [← hwS] at hnS
  have k1 := B0.cell' 1 _ rfl
  have HR := Lib.hid (hr.new hnS)
  clear hwS hr
  go_loopw [3, 4] (fun v3 v4 wr => ∃ i : Nat, v4 = .int .i64 i ∧ i ≤ n ∧ v3 = .int .i64 (total (ps.take i) : Nat) ∧ wr = wS) (fun _ v4 _ => n - (intOf v4).toNat)
  case atStart => exact ⟨0, rfl, by omega, by simp [total], rfl⟩
  case round =>
    obtain ⟨i, rfl, hi, rfl, rfl⟩ := hrel
    by_cases hlt : i < n
    · obtain ⟨bk, o, vp, p, rfl, hp, d1, d2, hw⟩ := HR.out.at hlt
      obtain ⟨Aw, cw, rfl, hw1, hw2, _⟩ := hw
      have hpl := HS2.out p (List.mem_of_getElem? hp)
      have htt := total_take hp
      have ht1 := HTK.out (i + 1)
      have u1 : IntKind.i64.wrap ((total (ps.take i) : Int) + (p.2.length : Int)) = (total (ps.take (i + 1)) : Int) := by rw [htt, IntWalk.i64_in _ (by omega)]; omega
      have i0 : (0 : Int) ≤ (i : Int) := by omega
      have i1 : (i : Int) < (n : Int) := by omega
      clear htt
      go_wp2
      go_roundw
      case rel => exact ⟨i + 1, by go_num, by omega, rfl, trivial⟩
      case measure => simp [intOf]; omega
    · obtain rfl : i = n := by omega
      have ht : total (ps.take i) = total ps := by rw [List.take_of_length_le (by rw [HN.out]; exact Nat.le_refl _)]
      rw [ht]
      go_wp2
      go_ret
      exact ⟨rfl, hnS⟩
end Go.Proofs.YtpoelhnceebmkaaGreatDoor

namespace Go.Proofs.YtpoelhnceebmkaaGreatDoor
open Go Go.RowKit Go.Shelf
set_option linter.unusedSimpArgs false
set_option linter.unusedVariables false

theorem wordsL_nil : wordsL [] = [] := by
  unfold wordsL spansV
  rfl
theorem wordsT_texts (t : ByteArray) : (wordsT t).map (·.1) = wordsL t.data.toList := by
  rw [wordsT, wordsL, S_data, List.map_map]
  rfl
theorem hole1_pos (a : UInt8) (h : (hole1 a).2 ≠ 0) : 1 ≤ (hole1 a).1 := by
  rw [hole1_eq] at h ⊢
  split at h
  · rename_i h1
    rw [if_pos h1]
    show 1 ≤ a.toNat - 48
    omega
  · exact absurd rfl h
theorem hole2_pos (a b : UInt8) (h : (hole2 a b).2 ≠ 0) : 1 ≤ (hole2 a b).1 := by
  rw [hole2_eq] at h ⊢
  split at h
  · rename_i h1
    rw [if_pos h1]
    show 1 ≤ (a.toNat - 48) * 10 + (b.toNat - 48)
    omega
  · exact absurd rfl h
theorem holeV_pos (l : List UInt8) (h : (holeV l).2 ≠ 0) : 1 ≤ (holeV l).1 := by
  unfold holeV at h ⊢
  split at h
  · rename_i h1
    rw [if_pos h1]
    exact hole1_pos _ h
  · rename_i h1
    rw [if_neg h1]
    split at h
    · rename_i h2
      rw [if_pos h2]
      exact hole2_pos _ _ h
    · exact absurd rfl h
theorem holeV_close (r : List UInt8) : (holeV (125 :: r)).2 = 0 := by
  have h0 := idx_hit r
  rw [holeV]
  rw [if_neg (fun h => by rw [h0] at h; have := h.1; simp at this), if_neg (fun h => by rw [h0] at h; have := h.1; simp at this)]
/-- The part's text is read up to n: no brace so far; n is 0, the end, or a brace. -/
structure St (L : List UInt8) (n : Nat) : Prop where
  le : n ≤ L.length
  no : Lib.NoAny L [123, 125] n
  at_ : n = 0 ∨ n = L.length ∨ L[n]? = some 123 ∨ L[n]? = some 125
theorem St.zero (L : List UInt8) : St L 0 := ⟨Nat.zero_le _, fun j b hj => by omega, .inl rfl⟩
theorem St.brkAt {L : List UInt8} {n : Nat} (h : St L n) (hb : L[n]? = some 123 ∨ L[n]? = some 125) : brk L = n := by
  rcases hb with hb | hb
  · exact Lib.indexAny_hit h.no hb (by decide)
  · exact Lib.indexAny_hit h.no hb (by decide)
theorem St.fin {L : List UInt8} {n f a last : Nat} {ps : List Pt} {h : Int} (H : St L n) (hn : n = L.length) (hf : 0 < f) : goV f L a last ps h = finV (ps ++ [(h, wordsL (L.take n))]) last (wordsL (L.take n)) := by
  subst hn
  have hb : brk L = -1 := Lib.indexAny_none H.no
  rw [goV_at hf, if_pos (by rw [hb]; decide), List.take_length]
theorem St.close {L : List UInt8} {n f a last : Nat} {ps : List Pt} {h : Int} (H : St L n) (hn : L[n]? = some 125) (hf : 0 < f) : goV f L a last ps h = (none, a + n, 4) := by
  have hb := H.brkAt (.inr hn)
  obtain ⟨hi, he⟩ := List.getElem?_eq_some_iff.1 hn
  rw [goV_at hf, hb, if_neg (by omega), if_pos (by rw [Int.toNat_natCast, List.drop_eq_getElem_cons hi, he]; exact holeV_close _), Int.toNat_natCast]
theorem St.bad {L : List UInt8} {n f a last : Nat} {ps : List Pt} {h : Int} (H : St L n) (hn : L[n]? = some 123) (hf : 0 < f) (h0 : (holeV (L.drop n)).2 = 0) : goV f L a last ps h = (none, a + n, 4) := by
  have hb := H.brkAt (.inl hn)
  rw [goV_at hf, hb, if_neg (by omega), if_pos (by rw [Int.toNat_natCast]; exact h0), Int.toNat_natCast]
theorem St.bare {L : List UInt8} {n f a last : Nat} {ps : List Pt} {h : Int} (H : St L n) (hn : L[n]? = some 123) (hf : 0 < f) (h0 : (holeV (L.drop n)).2 ≠ 0) (hw : wordsL (L.take n) = []) : goV f L a last ps h = (none, a + n, 5) := by
  have hb := H.brkAt (.inl hn)
  rw [goV_at hf, hb, if_neg (by omega), if_neg (by rw [Int.toNat_natCast]; exact h0), if_pos (by rw [Int.toNat_natCast]; exact hw), Int.toNat_natCast]
theorem St.next {L : List UInt8} {n f a last : Nat} {ps : List Pt} {h : Int} (H : St L n) (hn : L[n]? = some 123) (hf : 0 < f) (h0 : (holeV (L.drop n)).2 ≠ 0) (hw : wordsL (L.take n) ≠ []) :
    goV f L a last ps h = goV (f - 1) (L.drop (n + (holeV (L.drop n)).2)) (a + n + (holeV (L.drop n)).2) (a + n) (ps ++ [(h, wordsL (L.take n))]) ((holeV (L.drop n)).1 : Nat) := by
  have hb := H.brkAt (.inl hn)
  rw [goV_at hf, hb, if_neg (by omega), if_neg (by rw [Int.toNat_natCast]; exact h0), if_neg (by rw [Int.toNat_natCast]; exact hw), Int.toNat_natCast]
/-- The end: what the last part's words lead to, in the reference's order. -/
theorem finV_ref {ps : List Pt} {last : Nat} {h : Int} {ws : List ByteArray} (hp : ps ≠ [] → 0 < totW ps) : finV (ps ++ [(h, ws)]) last ws =
    if totW (ps ++ [(h, ws)]) = 0 then (none, 0, 1) else if ws = [] then (none, last, 5) else if 256 < totW (ps ++ [(h, ws)]) then (none, 0, 10) else (some (ps ++ [(h, ws)]), 0, 0) := by
  have e : totW (ps ++ [(h, ws)]) = totW ps + ws.length := by rw [totW_app]; simp [totW]
  have e2 : (ps ++ [(h, ws)]).length = ps.length + 1 := by simp
  rw [finV, e, e2]
  by_cases hps : ps = []
  · subst hps
    rw [if_neg (fun q => by simp at q)]
    by_cases hw : ws = []
    · subst hw
      rw [if_pos (by simp [totW]), if_pos (by simp [totW])]
    · have : 0 < ws.length := List.length_pos_iff.2 hw
      have h0 : totW [] = 0 := rfl
      rw [if_neg (show ¬ totW [] + ws.length = 0 by omega), if_neg (show ¬ totW [] + ws.length = 0 by omega), if_neg hw]
  · have h1 := hp hps
    have h2 : 0 < ps.length := List.length_pos_iff.2 hps
    by_cases hw : ws = []
    · rw [if_pos ⟨by omega, hw⟩, if_neg (by omega), if_pos hw]
    · rw [if_neg (fun q => hw q.2), if_neg (show ¬ totW ps + ws.length = 0 by omega), if_neg (show ¬ totW ps + ws.length = 0 by omega), if_neg hw]
end Go.Proofs.YtpoelhnceebmkaaGreatDoor

