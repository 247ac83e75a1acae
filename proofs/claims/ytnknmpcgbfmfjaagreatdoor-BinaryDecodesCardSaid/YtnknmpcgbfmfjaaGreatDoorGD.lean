/- Note of the program and of the reference, the reference's At. Conditions: sizes. (Printed by mk-d1.py.) A row of bytes, byte by byte; four zeros copied into it; a string out of it. No conditions. Plain of the program. Conditions: sizes. Plain of the reference. Conditions: sizes. -/
import Derived.Test.YtnknmpcgbfmfjaaGreatDoorGC2
import Derived.Test.YtnknmpcgbfmfjaaGreatDoorGBase
import Derived.Lib.LazyBuf
import Derived.Lib.ConvBytes
import Derived.Laws.IdiomStrings
import Derived.Lib.SmallJoins

namespace Go.Proofs.YtnknmpcgbfmfjaaGreatDoor
open Go Go.RowKit Go.Joins
set_option linter.unusedSimpArgs false
set_option linter.unusedVariables false

def noteV (l : List NtD) (s : ByteArray) : ByteArray × Bool := match l.find? fun p => decide (p.name = s) with
  | some p => (p.text, true)
  | none => (⟨#[]⟩, false)
theorem note_find {l : List NtD} {s : ByteArray} {k : Nat} {p : NtD} (hp : l[k]? = some p) (hno : ∀ q ∈ l.take k, q.name ≠ s) (hin : p.name = s) : noteV l s = (p.text, true) := by
  obtain ⟨hk, he⟩ := List.getElem?_eq_some_iff.1 hp
  have hl : l = l.take k ++ p :: l.drop (k + 1) := by rw [← he, ← List.drop_eq_getElem_cons hk, List.take_append_drop]
  have : l.find? (fun p => decide (p.name = s)) = some p := by
    rw [hl, List.find?_append]
    have h0 : (l.take k).find? (fun p => decide (p.name = s)) = none := by
      rw [List.find?_eq_none]
      intro q hq
      simp [hno q hq]
    rw [h0, List.find?_cons_of_pos (by simp [hin])]
    rfl
  unfold noteV
  rw [this]
theorem note_none {l : List NtD} {s : ByteArray} (hno : ∀ q ∈ l, q.name ≠ s) : noteV l s = (⟨#[]⟩, false) := by
  have : l.find? (fun p => decide (p.name = s)) = none := by
    rw [List.find?_eq_none]
    intro q hq
    simp [hno q hq]
  unfold noteV
  rw [this]
set_option maxRecDepth 100000 in
set_option maxHeartbeats 4000000 in
theorem note_any (b : Bn) (h : BH) (s : ByteArray) (w : World) (hr : BRd w b h) (hl : b.notes.length ≤ 1000000) :
    Calls Tryz.prog 23 #[.agg (bcells b h), .string s] w fun e w' => e = .returned (.tuple #[.string (noteV b.notes s).1, .bool (noteV b.notes s).2]) ∧ New w w' := by
  have hR5 := hr.r5
  obtain ⟨kind, entry, image, places, fix, imps, exps, notes⟩ := b
  obtain ⟨a1, c1, a2, c2, a3, c3, a4, c4, a5, c5⟩ := h
  simp only [bcells] at hR5 hl ⊢
  obtain ⟨n, hn⟩ : ∃ n, notes.length = n := ⟨_, rfl⟩
  rw [hn] at hR5 hl ⊢
  have HL := Lib.hid hn
  have HR := Lib.hid hR5
  generalize places.length = n1 at *
  generalize fix.length = n2 at *
  generalize imps.length = n3 at *
  generalize exps.length = n4 at *
  obtain ⟨X, hX⟩ : ∃ X, noteV notes s = X := ⟨_, rfl⟩
  rw [hX]
  have HX := Lib.hid hX
  have hw1 := (New.refl w).alloc (.cells #[.int .i64 kind, .int .i64 entry, .string image, .slice a1 n1 c1, .slice a2 n2 c2, .slice a3 n3 c3, .slice a4 n4 c4, .slice a5 n c5] 28)
  clear hr hR5 hn hX
  go_enter Tryz.func23, Tryz.ntmps23
  go_wp2
  go_loopw [11] (fun v11 wr => ∃ i : Nat, v11 = .int .i64 i ∧ i ≤ n ∧ New w wr ∧ Hid (∀ q ∈ notes.take i, q.name ≠ s)) (fun v11 _ => n - (intOf v11).toNat)
  case atStart => exact ⟨0, rfl, by omega, hw1, Lib.hid (by simp)⟩
  case round =>
    clear hw1
    obtain ⟨i, rfl, hi9, hnr, HNO⟩ := hrel
    by_cases hlt : i < n
    · obtain ⟨bk, o, rfl, hbk, p, hp, hcell⟩ := rd_row (f := ntC) (k := 2) (fun _ => rfl) HL.out (HR.out.below hnr) hlt
      have HTK : Hid (∀ q ∈ notes.take (i + 1), q ∈ notes.take i ∨ q = p) := Lib.hid (fun q hq => by
        obtain ⟨hi, he⟩ := List.getElem?_eq_some_iff.1 hp
        rw [List.take_succ_eq_append_getElem hi, List.mem_append, he] at hq
        simpa using hq)
      have HY := Lib.hid (fun h => note_find (s := s) hp HNO.out h)
      obtain ⟨pn, pt⟩ := p
      have q0 := hcell 0 (.string pn) (by omega) rfl
      have q1 := hcell 1 (.string pt) (by omega) rfl
      simp only [Nat.add_zero] at q0
      rw [← Nat.add_assoc] at q1
      simp only at HY
      have i0 : (0 : Int) ≤ (i : Int) := by omega
      have i1 : (i : Int) < (n : Int) := by omega
      have HE := Lib.hid (str_eq pn s)
      clear hcell hp
      by_cases he : pn = s
      · have c9 : (pn.toList == s.toList) = true := by rw [HE.out, decide_eq_true he]
        have hx : X = (pt, true) := by rw [← HX.out]; exact HY.out he
        subst hx
        clear he
        go_wp2
        exact bodyPost_ret (v := .tuple #[.string pt, .bool true]) (by simp [results, Tryz.results23, go_sem]) rfl ⟨rfl, hnr.alloc _⟩
      · have c9 : (pn.toList == s.toList) = false := by rw [HE.out, decide_eq_false he]
        have HNE := Lib.hid he
        clear he
        go_wp2
        go_roundw
        case rel => exact ⟨i + 1, by go_num, by omega, hnr.alloc _, Lib.hid (fun q hq => by
          rcases HTK.out q hq with h | rfl
          · exact HNO.out q h
          · exact HNE.out)⟩
        case measure => simp [intOf]; omega
    · obtain rfl : i = n := by omega
      have hx : X = (⟨#[]⟩, false) := by rw [← HX.out]; exact note_none (fun q hq => HNO.out q (by rw [List.take_of_length_le (by rw [HL.out]; exact Nat.le_refl _)]; exact hq))
      subst hx
      go_wp2
      exact bodyPost_ret (v := .tuple #[.string ⟨#[]⟩, .bool false]) (by simp [results, Tryz.results23, go_sem]) rfl ⟨rfl, hnr⟩
set_option maxRecDepth 100000 in
set_option maxHeartbeats 4000000 in
theorem rnote_any (b : Bn) (h : BH) (s : ByteArray) (w : World) (hr : BRd w b h) (hl : b.notes.length ≤ 1000000) :
    Calls Tryz.prog 24 #[.agg (bcells b h), .string s] w fun e w' => e = .returned (.tuple #[.string (noteV b.notes s).1, .bool (noteV b.notes s).2]) ∧ New w w' := by
  have hR5 := hr.r5
  obtain ⟨kind, entry, image, places, fix, imps, exps, notes⟩ := b
  obtain ⟨a1, c1, a2, c2, a3, c3, a4, c4, a5, c5⟩ := h
  simp only [bcells] at hR5 hl ⊢
  obtain ⟨n, hn⟩ : ∃ n, notes.length = n := ⟨_, rfl⟩
  rw [hn] at hR5 hl ⊢
  have HL := Lib.hid hn
  have HR := Lib.hid hR5
  generalize places.length = n1 at *
  generalize fix.length = n2 at *
  generalize imps.length = n3 at *
  generalize exps.length = n4 at *
  obtain ⟨X, hX⟩ : ∃ X, noteV notes s = X := ⟨_, rfl⟩
  rw [hX]
  have HX := Lib.hid hX
  have hw1 := (New.refl w).alloc (.cells #[.int .i64 kind, .int .i64 entry, .string image, .slice a1 n1 c1, .slice a2 n2 c2, .slice a3 n3 c3, .slice a4 n4 c4, .slice a5 n c5] 28)
  clear hr hR5 hn hX
  go_enter Tryz.func24, Tryz.ntmps24
  go_wp2
  go_loopw [11] (fun v11 wr => ∃ i : Nat, v11 = .int .i64 i ∧ i ≤ n ∧ New w wr ∧ Hid (∀ q ∈ notes.take i, q.name ≠ s)) (fun v11 _ => n - (intOf v11).toNat)
  case atStart => exact ⟨0, rfl, by omega, hw1, Lib.hid (by simp)⟩
  case round =>
    clear hw1
    obtain ⟨i, rfl, hi9, hnr, HNO⟩ := hrel
    by_cases hlt : i < n
    · obtain ⟨bk, o, rfl, hbk, p, hp, hcell⟩ := rd_row (f := ntC) (k := 2) (fun _ => rfl) HL.out (HR.out.below hnr) hlt
      have HTK : Hid (∀ q ∈ notes.take (i + 1), q ∈ notes.take i ∨ q = p) := Lib.hid (fun q hq => by
        obtain ⟨hi, he⟩ := List.getElem?_eq_some_iff.1 hp
        rw [List.take_succ_eq_append_getElem hi, List.mem_append, he] at hq
        simpa using hq)
      have HY := Lib.hid (fun h => note_find (s := s) hp HNO.out h)
      obtain ⟨pn, pt⟩ := p
      have q0 := hcell 0 (.string pn) (by omega) rfl
      have q1 := hcell 1 (.string pt) (by omega) rfl
      simp only [Nat.add_zero] at q0
      rw [← Nat.add_assoc] at q1
      simp only at HY
      have i0 : (0 : Int) ≤ (i : Int) := by omega
      have i1 : (i : Int) < (n : Int) := by omega
      have HE := Lib.hid (str_eq pn s)
      clear hcell hp
      by_cases he : pn = s
      · have c9 : (pn.toList == s.toList) = true := by rw [HE.out, decide_eq_true he]
        have hx : X = (pt, true) := by rw [← HX.out]; exact HY.out he
        subst hx
        clear he
        go_wp2
        exact bodyPost_ret (v := .tuple #[.string pt, .bool true]) (by simp [results, Tryz.results24, go_sem]) rfl ⟨rfl, hnr.alloc _⟩
      · have c9 : (pn.toList == s.toList) = false := by rw [HE.out, decide_eq_false he]
        have HNE := Lib.hid he
        clear he
        go_wp2
        go_roundw
        case rel => exact ⟨i + 1, by go_num, by omega, hnr.alloc _, Lib.hid (fun q hq => by
          rcases HTK.out q hq with h | rfl
          · exact HNO.out q h
          · exact HNE.out)⟩
        case measure => simp [intOf]; omega
    · obtain rfl : i = n := by omega
      have hx : X = (⟨#[]⟩, false) := by rw [← HX.out]; exact note_none (fun q hq => HNO.out q (by rw [List.take_of_length_le (by rw [HL.out]; exact Nat.le_refl _)]; exact hq))
      subst hx
      go_wp2
      exact bodyPost_ret (v := .tuple #[.string ⟨#[]⟩, .bool false]) (by simp [results, Tryz.results24, go_sem]) rfl ⟨rfl, hnr⟩
set_option maxRecDepth 100000 in
set_option maxHeartbeats 4000000 in
theorem rat_any (b : Bn) (h : BH) (a : Int) (w : World) (hr : BRd w b h) (ha : W64 a) (hw : WfP b.places) (hl : b.places.length ≤ 1000000) :
    Calls Tryz.prog 26 #[.agg (bcells b h), .int .i64 a] w fun e w' => e = .returned (.tuple #[.int .i64 (max (idxV b.places a) 0), .bool (decide (0 ≤ idxV b.places a))]) ∧ New w w' := by
  have hR1 := hr.r1
  obtain ⟨kind, entry, image, places, fix, imps, exps, notes⟩ := b
  obtain ⟨a1, c1, a2, c2, a3, c3, a4, c4, a5, c5⟩ := h
  simp only [bcells] at hR1 hw hl ⊢
  have HW := Lib.hid hw
  obtain ⟨n, hn⟩ : ∃ n, places.length = n := ⟨_, rfl⟩
  rw [hn] at hR1 hl ⊢
  have HL := Lib.hid hn
  have HR := Lib.hid hR1
  generalize fix.length = n2 at *
  generalize imps.length = n3 at *
  generalize exps.length = n4 at *
  generalize notes.length = n5 at *
  obtain ⟨X, hX⟩ : ∃ X, idxV places a = X := ⟨_, rfl⟩
  rw [hX]
  have HX := Lib.hid hX
  have hw1 := (New.refl w).alloc (.cells #[.int .i64 kind, .int .i64 entry, .string image, .slice a1 n c1, .slice a2 n2 c2, .slice a3 n3 c3, .slice a4 n4 c4, .slice a5 n5 c5] 28)
  clear hr hR1 hw hn hX
  go_enter Tryz.func26, Tryz.ntmps26
  go_wp2
  go_loopw [11] (fun v11 wr => ∃ i : Nat, v11 = .int .i64 i ∧ i ≤ n ∧ New w wr ∧ Hid (∀ q ∈ places.take i, inV q a = false)) (fun v11 _ => n - (intOf v11).toNat)
  case atStart => exact ⟨0, rfl, by omega, hw1, Lib.hid (by simp)⟩
  case round =>
    clear hw1
    obtain ⟨i, rfl, hi9, hnr, HNO⟩ := hrel
    by_cases hlt : i < n
    · obtain ⟨bk, o, rfl, hbk, p, hp, hcell⟩ := rd_row (f := plC) (k := 5) (fun _ => rfl) HL.out (HR.out.below hnr) hlt
      obtain ⟨w1, w2⟩ := HW.out p (List.mem_of_getElem? hp)
      have HTK : Hid (∀ q ∈ places.take (i + 1), q ∈ places.take i ∨ q = p) := Lib.hid (fun q hq => by
        obtain ⟨hi, he⟩ := List.getElem?_eq_some_iff.1 hp
        rw [List.take_succ_eq_append_getElem hi, List.mem_append, he] at hq
        simpa using hq)
      have HY := Lib.hid (fun h => idx_find (a := a) hp HNO.out h)
      obtain ⟨po, ps, pk, pa, pz⟩ := p
      have q0 := hcell 0 (.string po) (by omega) rfl
      have q1 := hcell 1 (.string ps) (by omega) rfl
      have q2 := hcell 2 (.int .i64 pk) (by omega) rfl
      have q3 := hcell 3 (.int .i64 pa) (by omega) rfl
      have q4 := hcell 4 (.int .i64 pz) (by omega) rfl
      simp only [Nat.add_zero] at q0
      rw [← Nat.add_assoc] at q1 q2 q3 q4
      simp only at w1 w2
      have i0 : (0 : Int) ≤ (i : Int) := by omega
      have i1 : (i : Int) < (n : Int) := by omega
      have HV : Hid (inV ⟨po, ps, pk, pa, pz⟩ a = (decide (pa ≤ a) && decide (0 < pz) && decide (a - pa < pz))) := Lib.hid rfl
      clear hcell hp
      by_cases c2' : 0 < pz
      · by_cases c1' : pa ≤ a
        · have s1 := u64_sub a pa c1' ha w1
          have s2 := u64_pos pz (by omega) w2
          by_cases c3' : a - pa < pz
          · have hx : X = (i : Int) := by rw [← HX.out]; exact HY.out (by rw [HV.out]; simp [c1', c2', c3'])
            subst hx
            have hm : max (i : Int) 0 = (i : Int) := by omega
            have hd : decide ((0 : Int) ≤ (i : Int)) = true := decide_eq_true (by omega)
            have HM := Lib.hid hm
            have HD := Lib.hid hd
            clear hm hd
            go_wp2
            exact bodyPost_ret (v := .tuple #[.int .i64 (i : Int), .bool true]) (by simp [results, Tryz.results26, go_sem]) rfl ⟨by rw [HM.out, HD.out], hnr.alloc _⟩
          · have HNO2 : Hid (inV ⟨po, ps, pk, pa, pz⟩ a = false) := Lib.hid (by rw [HV.out]; simp [c3'])
            go_wp2
            go_roundw
            case rel => exact ⟨i + 1, by go_num, by omega, hnr.alloc _, Lib.hid (fun q hq => by
              rcases HTK.out q hq with h | rfl
              · exact HNO.out q h
              · exact HNO2.out)⟩
            case measure => simp [intOf]; omega
        · have HNO2 : Hid (inV ⟨po, ps, pk, pa, pz⟩ a = false) := Lib.hid (by rw [HV.out]; simp [c1'])
          go_wp2
          go_roundw
          case rel => exact ⟨i + 1, by go_num, by omega, hnr.alloc _, Lib.hid (fun q hq => by
            rcases HTK.out q hq with h | rfl
            · exact HNO.out q h
            · exact HNO2.out)⟩
          case measure => simp [intOf]; omega
      · have HNO2 : Hid (inV ⟨po, ps, pk, pa, pz⟩ a = false) := Lib.hid (by rw [HV.out]; simp [c2'])
        go_wp2
        go_roundw
        case rel => exact ⟨i + 1, by go_num, by omega, hnr.alloc _, Lib.hid (fun q hq => by
          rcases HTK.out q hq with h | rfl
          · exact HNO.out q h
          · exact HNO2.out)⟩
        case measure => simp [intOf]; omega
    · obtain rfl : i = n := by omega
      have hx : X = -1 := by rw [← HX.out]; exact idx_none (fun q hq => HNO.out q (by rw [List.take_of_length_le (by rw [HL.out]; exact Nat.le_refl _)]; exact hq))
      subst hx
      go_wp2
      exact bodyPost_ret (v := .tuple #[.int .i64 0, .bool false]) (by simp [results, Tryz.results26, go_sem]) rfl ⟨rfl, hnr⟩
end Go.Proofs.YtnknmpcgbfmfjaaGreatDoor

namespace Go.Proofs.YtnknmpcgbfmfjaaGreatDoor
open Go Go.RowKit

def BRow (w : World) (g n : Nat) (f : Nat → UInt8) : Prop := g < w.heap.size ∧ ∀ j, j < n → w.cell? ⟨g, j, none⟩ = some (.int .u8 ((f j).toNat : Int)) ∧ w.frozen? ⟨g, j, none⟩ = false
theorem BRow.new {w w' : World} {g n : Nat} {f : Nat → UInt8} (h : BRow w g n f) (hn : New w w') : BRow w' g n f :=
  ⟨by have := hn.size; have := h.1; omega, fun j hj => ⟨(hn.cell (p := ⟨g, j, none⟩) h.1).trans (h.2 j hj).1, (hn.frozen (p := ⟨g, j, none⟩) h.1).trans (h.2 j hj).2⟩⟩
theorem BRow.congr {w : World} {g n : Nat} {f f' : Nat → UInt8} (h : BRow w g n f) (e : ∀ j, j < n → f j = f' j) : BRow w g n f' :=
  ⟨h.1, fun j hj => by rw [← e j hj]; exact h.2 j hj⟩
theorem BRow.made (w : World) (e : TypeId) (s : ByteArray) : BRow (Lib.bytesWorld w e s) w.heap.size s.size (fun j => s.data.toList.getD j 0) := by
  refine ⟨by rw [Lib.bytesWorld_size]; omega, fun j hj => ⟨Lib.bytesWorld_cell w e s j hj, ?_⟩⟩
  have hb := Lib.bytesWorld_at_new w e s
  have hz : s.size ≤ (Lib.bytesCells w e s).size := by
    unfold Lib.bytesCells
    rw [Array.size_append, Array.size_map]
    show s.data.size ≤ _
    omega
  unfold World.frozen?
  rw [hb]
  simp
  omega
def zero4 : List Value := [.int .u8 0, .int .u8 0, .int .u8 0, .int .u8 0]
theorem zero4_at (k : Nat) (hk : k < zero4.length) : zero4[k] = .int .u8 0 := by
  have h4 : k < 4 := hk
  match k, h4 with
  | 0, _ => rfl
  | 1, _ => rfl
  | 2, _ => rfl
  | 3, _ => rfl
theorem BRow.zap {w : World} {g n : Nat} {f : Nat → UInt8} (h : BRow w g n f) (a : Nat) (ha : a + 4 ≤ n) : BRow (w.setCells g a zero4) g n (fun j => if a ≤ j ∧ j < a + 4 then 0 else f j) := by
  have hsz : ∀ (vs : List Value) (o : Nat) (w : World), (w.setCells g o vs).heap.size = w.heap.size := by
    intro vs
    induction vs with
    | nil => intro o w; rfl
    | cons v r ih => intro o w; rw [World.setCells, ih]; simp [World.setCell]
  refine ⟨by rw [hsz]; exact h.1, fun j hj => ⟨?_, by rw [World.frozen?_setCells]; exact (h.2 j hj).2⟩⟩
  have hin : ∀ k, k < zero4.length → (w.cell? ⟨g, a + k, none⟩).isSome = true := fun k hk => by
    rw [(h.2 (a + k) (by have : zero4.length = 4 := rfl; omega)).1]; rfl
  by_cases hc : a ≤ j ∧ j < a + 4
  · have := World.cell?_setCells_in g zero4 a w hin (j - a) (by have : zero4.length = 4 := rfl; omega)
    rw [show a + (j - a) = j by omega] at this
    rw [this]
    simp only [hc, and_self, if_true]
    rw [zero4_at]
    rfl
  · rw [World.cell?_setCells_out g zero4 a w ⟨g, j, none⟩ (fun _ _ => by have : zero4.length = 4 := rfl; simp only; omega)]
    simp only [hc, if_false]
    exact (h.2 j hj).1
theorem zap_below {B g a : Nat} {w0 w : World} (h : Below B w0 w) (hg : B ≤ g) : Below B w0 (w.setCells g a zero4) := below_setCells hg _ _ _ h
theorem zap_blk {w : World} {g a b : Nat} {t : TypeId} {cs : Array Value} (h : Blk w b t cs) (hne : b ≠ g) : Blk (w.setCells g a zero4) b t cs := by
  have : ∀ (vs : List Value) (o : Nat) (w : World), Blk w b t cs → Blk (w.setCells g o vs) b t cs := by
    intro vs
    induction vs with
    | nil => intro o w h; exact h
    | cons v r ih => intro o w h; exact ih (o + 1) _ (h.far (by exact hne) v)
  exact this _ _ _ h
theorem run_zap {P : Program} {w : World} {g n : Nat} {f : Nat → UInt8} (h : BRow w g n f) (dT sT ty e : TypeId) (a dLen dCap : Nat) (hu : P.underlying dT = some (.slice e)) (hz : ∀ w, (Go.sizeOf e).run P w = .ok 1 w) (ha : a + 4 ≤ n) (hd : 4 ≤ dLen) :
    (Builtin.copy_ #[dT, sT] ty #[.slice (some ⟨g, a, none⟩) dLen dCap, .string ⟨#[0, 0, 0, 0]⟩]).run P w = .ok (goInt 4) (w.setCells g a zero4) := by
  have := run_copy_string (P := P) w dT sT ty e g a dLen dCap ⟨#[0, 0, 0, 0]⟩ hu hz (by show 4 ≤ dLen; exact hd)
    (fun j hj => by
      have hj4 : j < 4 := hj
      rw [(h.2 (a + j) (by omega)).1]; rfl)
    (fun j hj => by
      have hj4 : j < 4 := hj
      exact (h.2 (a + j) (by omega)).2)
  exact this
theorem run_string {P : Program} {w : World} {g n : Nat} {f : Nat → UInt8} (h : BRow w g n f) (src dst e : TypeId) (o m cap : Nat) (hs : P.underlying src = some (.slice e)) (he : P.underlying e = some (.int .u8)) (hd : P.underlying dst = some .string) (hm : o + m ≤ n) :
    (convert src dst (.slice (some ⟨g, o, none⟩) m cap)).run P w = .ok (.string (S ((List.range m).map fun j => f (o + j)))) w := by
  have hl : ((List.range m).map fun j => f (o + j)).length = m := by simp
  have := run_convert_bytes_back (P := P) w src dst e ⟨g, o, none⟩ cap ((List.range m).map fun j => f (o + j)) hs he hd (fun j hj => by
    have hj2 : j < m := by rw [hl] at hj; exact hj
    have hadd : (⟨g, o, none⟩ : Addr).add j = ⟨g, o + j, none⟩ := by unfold Addr.add; split <;> simp_all
    rw [hadd, (h.2 (o + j) (by omega)).1]
    simp)
  rw [hl] at this
  exact this
end Go.Proofs.YtnknmpcgbfmfjaaGreatDoor

namespace Go.Proofs.YtnknmpcgbfmfjaaGreatDoor
open Go Go.RowKit Go.Joins
set_option linter.unusedSimpArgs false
set_option linter.unusedVariables false

theorem fix_within {ps : List PlD} {img : ByteArray} : ∀ {l T : List Int}, fixGo ps img l T = true → ∀ a ∈ l, withinV ps a = true
  | [], T, h, a, ha => by cases ha
  | b :: r, T, h, a, ha => by
    rw [fixGo, Bool.and_eq_true] at h
    rcases List.mem_cons.1 ha with rfl | ha
    · have := h.1
      unfold fixOK takeV at this
      simp only [Bool.and_eq_true] at this
      exact this.1.2.1
    · exact fix_within h.2 a ha
def imgB (s : ByteArray) (k : Nat) : UInt8 := s.data.toList.getD k 0
def plainF (img : ByteArray) (fix : List Int) (pos j : Nat) : UInt8 := if coverB fix ((pos : Int) + (j : Int)) = true then 0 else imgB img (pos + j)
def plainL (img : ByteArray) (fix : List Int) (p : PlD) : List UInt8 := (List.range p.size.toNat).map (plainF img fix p.pos.toNat)
def plainV (b : Bn) (i : Int) : ByteArray × Int :=
  if checkV b = true then (if 0 ≤ i ∧ i < b.places.length then (match b.places[i.toNat]? with
    | some p => (S (plainL b.image b.fix p), 0)
    | none => (⟨#[]⟩, 3)) else (⟨#[]⟩, 3)) else (⟨#[]⟩, 1)
theorem plainV_bad {b : Bn} {i : Int} (h : checkV b = false) : plainV b i = (⟨#[]⟩, 1) := by
  unfold plainV; rw [h]; rfl
theorem plainV_range {b : Bn} {i : Int} (h : checkV b = true) (hn : ¬ (0 ≤ i ∧ i < b.places.length)) : plainV b i = (⟨#[]⟩, 3) := by
  unfold plainV; rw [h, if_pos rfl, if_neg hn]
theorem plainV_at {b : Bn} {i : Int} {k : Nat} {p : PlD} (h : checkV b = true) (hk : i = (k : Int)) (hp : b.places[k]? = some p) : plainV b i = (S (plainL b.image b.fix p), 0) := by
  have := (List.getElem?_eq_some_iff.1 hp).1
  subst hk
  unfold plainV
  rw [h, if_pos rfl, if_pos (by omega), Int.toNat_natCast, hp]
theorem cover_snoc (T : List Int) (a j : Int) : coverB (T ++ [a]) j = (coverB T j || (decide (a ≤ j) && decide (j < a + 4))) := by
  unfold coverB
  rw [List.any_append]
  simp
theorem plain_in (img : ByteArray) (T : List Int) (pos k a : Nat) (ha : a = pos + k) : ∀ j, (if k ≤ j ∧ j < k + 4 then 0 else plainF img T pos j) = plainF img (T ++ [(a : Int)]) pos j := by
  intro j
  unfold plainF
  rw [cover_snoc]
  by_cases h : k ≤ j ∧ j < k + 4
  · rw [if_pos h, decide_eq_true (by omega : (a : Int) ≤ (pos : Int) + (j : Int)), decide_eq_true (by omega : (pos : Int) + (j : Int) < (a : Int) + 4)]
    simp
  · rw [if_neg h]
    have : (decide ((a : Int) ≤ (pos : Int) + (j : Int)) && decide ((pos : Int) + (j : Int) < (a : Int) + 4)) = false := by
      rw [Bool.eq_false_iff]
      simp only [ne_eq, Bool.and_eq_true, decide_eq_true_eq]
      omega
    rw [this, Bool.or_false]
theorem plain_out (img : ByteArray) (T : List Int) (pos n : Nat) (a : Int) (ha : a + 4 ≤ (pos : Int) ∨ (pos : Int) + (n : Int) ≤ a) : ∀ j, j < n → plainF img T pos j = plainF img (T ++ [a]) pos j := by
  intro j hj
  unfold plainF
  rw [cover_snoc]
  have : (decide (a ≤ (pos : Int) + (j : Int)) && decide ((pos : Int) + (j : Int) < a + 4)) = false := by
    rw [Bool.eq_false_iff]
    simp only [ne_eq, Bool.and_eq_true, decide_eq_true_eq]
    omega
  rw [this, Bool.or_false]
theorem fix_apart {b : Bn} (hP : PlOK b) {a : Int} (hw : withinV b.places a = true) {p : PlD} (hp : p ∈ b.places) :
    (p.pos ≤ a ∧ a < p.pos + p.size → a + 4 ≤ p.pos + p.size) ∧ (¬ (p.pos ≤ a ∧ a < p.pos + p.size) → a + 4 ≤ p.pos ∨ p.pos + p.size ≤ a) := by
  unfold withinV at hw
  rw [List.any_eq_true] at hw
  obtain ⟨q, hq, hw⟩ := hw
  have hin := within_in hw
  unfold withinP at hw
  simp only [Bool.and_eq_true, decide_eq_true_eq] at hw
  constructor
  · intro h
    obtain ⟨k, hk, rfl⟩ := List.mem_iff_getElem.1 hp
    have : q = b.places[k] := in_one hP.ord (List.getElem?_eq_getElem hk) (by unfold inV; simp only [Bool.and_eq_true, decide_eq_true_eq]; omega) hq hin
    subst this
    exact hw.2
  · intro h
    obtain ⟨k, hk, rfl⟩ := List.mem_iff_getElem.1 hp
    obtain ⟨j, hj, rfl⟩ := List.mem_iff_getElem.1 hq
    have ho := List.pairwise_iff_getElem.1 hP.ord
    rcases Nat.lt_trichotomy j k with h1 | h1 | h1
    · have := ho j k hj hk h1; omega
    · subst h1; omega
    · have := ho k j hk hj h1; omega
theorem check_words {b : Bn} (h : checkV b = true) : placedV b = true ∧ wordsV b = true := by
  unfold checkV at h
  simp only [Bool.and_eq_true] at h
  exact ⟨h.1.1.1, h.1.1.2⟩
theorem check_fix {b : Bn} (h : checkV b = true) : ∀ a ∈ b.fix, withinV b.places a = true := by
  have := (check_words h).2
  unfold wordsV at this
  rw [Bool.and_eq_true] at this
  exact fix_within this.1
theorem take_snocI {l : List Int} {i : Nat} {a : Int} (h : l[i]? = some a) : l.take (i + 1) = l.take i ++ [a] := by
  obtain ⟨hi, he⟩ := List.getElem?_eq_some_iff.1 h
  rw [List.take_succ_eq_append_getElem hi, he]
theorem new_bytes (w : World) (e : TypeId) (s : ByteArray) : New w (Lib.bytesWorld w e s) := below_bytesWorld _ _ _ _ (Nat.le_refl _)
theorem sizeOf5 : ∀ w, (Go.sizeOf 5).run Tryz.prog w = .ok 1 w := fun _ => by kernel_rfl
theorem img_piece (s : ByteArray) (a n j : Nat) (h : a + n ≤ s.size) (hj : j < n) : (s.extract a (a + n)).data.toList.getD j 0 = imgB s (a + j) := by
  unfold imgB
  rw [extract_S, data_S, List.getD_eq_getElem?_getD, List.getD_eq_getElem?_getD, List.getElem?_take, if_pos (by omega), List.getElem?_drop]
set_option maxRecDepth 100000 in
set_option maxHeartbeats 8000000 in
theorem plain_any (b : Bn) (h : BH) (i : Int) (w : World) (hr : BRd w b h) (hz : SzB b) (hE : Env w) (hi : W64 i) :
    Calls Tryz.prog 27 #[.agg (bcells b h), .int .i64 i] w fun e w' => e = .returned (.tuple #[.string (plainV b i).1, .int .i64 (plainV b i).2]) ∧ New w w' := by
  have HC := Lib.hid (fun W (hn : New w W) => check_any b h W (hr.new hn) hz (hE.new hn))
  have HV1 := Lib.hid (fun h : checkV b = false => plainV_bad (i := i) h)
  have HV2 := Lib.hid (fun (h : checkV b = true) (h2 : ¬ (0 ≤ i ∧ i < b.places.length)) => plainV_range h h2)
  have HV3 := Lib.hid (fun (h : checkV b = true) (k : Nat) p (hk : i = (k : Int)) (hp : b.places[k]? = some p) => plainV_at h hk hp)
  have hce : chkE b = if checkV b = true then 0 else 1 := rfl
  rw [hce] at HC
  have HP := Lib.hid (fun h : checkV b = true => placed_ok (check_words h).1)
  have HF := Lib.hid (fun h : checkV b = true => check_fix h)
  have HA := Lib.hid (fun (hc : checkV b = true) a (ha : a ∈ b.fix) p (hp : p ∈ b.places) => fix_apart (HP.out hc) (HF.out hc a ha) hp)
  have HR1 := Lib.hid hr.r1
  have HR2 := Lib.hid hr.r2
  have HZ := Lib.hid hz.fx
  have hl1 := hz.l1
  have hl2 := hz.l2
  have himg := hz.img
  have BX := Blk.made w 28 (bcells b h)
  have hnX := (New.refl w).alloc (.cells (bcells b h) 28)
  obtain ⟨X, hX⟩ : ∃ X, plainV b i = X := ⟨_, rfl⟩
  rw [hX] at HV1 HV2 HV3 ⊢
  obtain ⟨cv, hcv⟩ : ∃ v, checkV b = v := ⟨_, rfl⟩
  rw [hcv] at HV1 HV2 HV3 HC HP HF HA
  have HM := Lib.hid (fun (hc : cv = true) => (HP.out hc).mem)
  have HLE := Lib.hid (fun (hc : cv = true) => (HP.out hc).le)
  clear HP HF hce hX hcv hr hz hE
  obtain ⟨kind, entry, image, places, fix, imps, exps, notes⟩ := b
  obtain ⟨a1, c1, a2, c2, a3, c3, a4, c4, a5, c5⟩ := h
  simp only [bcells] at BX hnX HC HV1 HV2 HV3 HA HR1 HR2 HZ HM HLE hl1 hl2 himg ⊢
  obtain ⟨n1, hn1⟩ : ∃ n, places.length = n := ⟨_, rfl⟩
  obtain ⟨n2, hn2⟩ : ∃ n, fix.length = n := ⟨_, rfl⟩
  rw [hn1, hn2] at BX hnX HC ⊢
  rw [hn1] at HV2 HR1 hl1
  rw [hn2] at HR2 hl2
  have HL1 := Lib.hid hn1
  have HL2 := Lib.hid hn2
  generalize imps.length = n3 at *
  generalize exps.length = n4 at *
  generalize notes.length = n5 at *
  clear hn1 hn2
  cases cv
  · have hx : X = (⟨#[]⟩, 1) := HV1.out rfl
    subst hx
    go_enter Tryz.func27, Tryz.ntmps27
    go_wp2_with (go_at_call 14; (with_reducible refine (HC.out _ hnX).mono ?_); rintro e w1 ⟨rfl, k1⟩)
    exact bodyPost_ret (v := .tuple #[.string ⟨#[]⟩, .int .i64 1]) (by simp [results, Tryz.results27, go_sem]) rfl ⟨rfl, hnX.trans k1⟩
  · by_cases hb : 0 ≤ i ∧ i < (n1 : Int)
    · obtain ⟨hb1, hb2⟩ := hb
      obtain ⟨k, rfl⟩ : ∃ k : Nat, i = (k : Int) := ⟨i.toNat, by omega⟩
      have hk : k < n1 := by omega
      have t1 : ¬ (k : Int) < 0 := by omega
      have t2 : ¬ (n1 : Int) ≤ (k : Int) := by omega
      obtain ⟨bk, o, rfl, hbk, p, hp, hcell⟩ := rd_row (f := plC) (k := 5) (fun _ => rfl) HL1.out HR1.out hk
      have HXX : Hid (X = (S (plainL image fix p), 0)) := Lib.hid (HV3.out rfl k p rfl hp)
      have hpm := List.mem_of_getElem? hp
      obtain ⟨m1, m2, m3⟩ := HM.out rfl p hpm
      have hle := HLE.out rfl
      have HA2 := Lib.hid (fun a ha => HA.out rfl a ha p hpm)
      obtain ⟨po, ps, pk, pa, pz⟩ := p
      simp only at m1 m2 m3 HA2
      obtain ⟨pn, rfl⟩ : ∃ pn : Nat, pa = (pn : Int) := ⟨pa.toNat, by omega⟩
      obtain ⟨zn, rfl⟩ : ∃ zn : Nat, pz = (zn : Int) := ⟨pz.toNat, by omega⟩
      have q0 := hcell 0 (.string po) (by omega) rfl
      have q1 := hcell 1 (.string ps) (by omega) rfl
      have q2 := hcell 2 (.int .i64 pk) (by omega) rfl
      have q3 := hcell 3 (.int .i64 (pn : Nat)) (by omega) rfl
      have q4 := hcell 4 (.int .i64 (zn : Nat)) (by omega) rfl
      simp only [Nat.add_zero] at q0
      rw [← Nat.add_assoc] at q1 q2 q3 q4
      have s1 : (pn : Int) ≤ (pn : Int) + (zn : Int) := by omega
      have s2 : (pn : Int) + (zn : Int) ≤ (image.size : Int) := by omega
      have s3 : ((pn : Int) + (zn : Int)).toNat = pn + zn := by omega
      have s4 : pn + zn ≤ image.size := by omega
      have hxs : (image.extract pn (pn + zn)).size = zn := by simp; omega
      have hconv := fun W => Lib.run_convert_string_bytes (P := Tryz.prog) W 9 85 5 (image.extract pn (pn + zn)) Tryz.underlying9 Tryz.underlying85 Tryz.underlying5
      have HPC := Lib.hid (fun j hj => img_piece image pn zn j s4 hj)
      rw [hxs] at hconv
      clear hcell hp hpm HV1 HV2 HV3 HA HM HLE hb1 hb2
      go_enter Tryz.func27, Tryz.ntmps27
      go_wp2_with (go_at_call 14; (with_reducible refine (HC.out _ hnX).mono ?_); rintro e w1 ⟨rfl, k1⟩; have B1 := BX.new k1; have d2 := B1.cell' 2 _ rfl; have d3 := B1.cell' 3 _ rfl; have d4 := B1.cell' 4 _ rfl; have p0 := cell_new (hnX.trans k1) q0; have p1 := cell_new (hnX.trans k1) q1; have p2 := cell_new (hnX.trans k1) q2; have p3 := cell_new (hnX.trans k1) q3; have p4 := cell_new (hnX.trans k1) q4; have BA := B1.alloc (.cells #[.string po, .string ps, .int .i64 pk, .int .i64 (pn : Nat), .int .i64 (zn : Nat)] 60); have e2 := BA.cell' 2 _ rfl; have hnB := New.trans (hnX.trans k1) (New.trans ((New.refl w1).alloc (.cells #[.string po, .string ps, .int .i64 pk, .int .i64 (pn : Nat), .int .i64 (zn : Nat)] 60)) (new_bytes _ 5 (image.extract pn (pn + zn)))); have BB := BA.new (new_bytes _ 5 (image.extract pn (pn + zn))); have e4 := BB.cell' 4 _ rfl; have BP := (Blk.made w1 60 #[.string po, .string ps, .int .i64 pk, .int .i64 (pn : Nat), .int .i64 (zn : Nat)]).new (new_bytes _ 5 (image.extract pn (pn + zn))); have BR0 := BRow.made (w1.alloc (.cells #[.string po, .string ps, .int .i64 pk, .int .i64 (pn : Nat), .int .i64 (zn : Nat)] 60)) 5 (image.extract pn (pn + zn)))
      have hge := grownCap_ge (w1.alloc (.cells #[.string po, .string ps, .int .i64 pk, .int .i64 (pn : Nat), .int .i64 (zn : Nat)] 60)) zn 0 5
      rw [World.size_alloc, hxs] at BR0
      generalize grownCap (w1.alloc (.cells #[.string po, .string ps, .int .i64 pk, .int .i64 (pn : Nat), .int .i64 (zn : Nat)] 60)) zn 0 5 = cap at *
      have BR1 : BRow (Lib.bytesWorld (w1.alloc (.cells #[.string po, .string ps, .int .i64 pk, .int .i64 (pn : Nat), .int .i64 (zn : Nat)] 60)) 5 (image.extract pn (pn + zn))) (w1.heap.size + 1) zn (plainF image (fix.take 0) pn) := BR0.congr (fun j hj => by
        rw [HPC.out j hj]
        unfold plainF
        simp [coverB])
      generalize Lib.bytesWorld (w1.alloc (.cells #[.string po, .string ps, .int .i64 pk, .int .i64 (pn : Nat), .int .i64 (zn : Nat)] 60)) 5 (image.extract pn (pn + zn)) = wB at *
      have hgs : w.heap.size ≤ w1.heap.size := by have := (hnX.trans k1).size; simpa using this
      have hgb : w.heap.size < w1.heap.size := by have := B1.lt; exact this
      have HX2 : Hid (X = (S (plainL image fix ⟨po, ps, pk, (pn : Int), (zn : Int)⟩), 0)) := Lib.hid HXX.out
      clear BR0 B1 BA hconv HC HPC d2 d3 d4 p0 p1 p2 p3 p4 q0 q1 q2 q3 q4 e2 HXX
      go_loopw [44] (fun v44 wr => ∃ i : Nat, v44 = .int .i64 i ∧ i ≤ n2 ∧ New w wr ∧ Blk wr w.heap.size 28 #[.int .i64 kind, .int .i64 entry, .string image, .slice (some ⟨bk, o, none⟩) n1 c1, .slice a2 n2 c2, .slice a3 n3 c3, .slice a4 n4 c4, .slice a5 n5 c5] ∧ Blk wr w1.heap.size 60 #[.string po, .string ps, .int .i64 pk, .int .i64 (pn : Nat), .int .i64 (zn : Nat)] ∧ BRow wr (w1.heap.size + 1) zn (plainF image (fix.take i) pn)) (fun v44 _ => n2 - (intOf v44).toNat)
      case atStart => exact ⟨0, rfl, by omega, hnB, BB, BP, BR1⟩
      case round =>
        clear hnB BB BP BR1 e4
        obtain ⟨i, rfl, hi9, hnr, BB, BP, BR⟩ := hrel
        by_cases hlt : i < n2
        · have hil : i < fix.length := by rw [HL2.out]; exact hlt
          obtain ⟨bf, fo, rfl, hbf, hcf⟩ := (HR2.out.below hnr).2 (by omega)
          obtain ⟨a, ha⟩ : ∃ x, fix[i]? = some x := ⟨_, List.getElem?_eq_getElem hil⟩
          have f0 := hcf i (.int .i64 a) (by rw [flat_one, ha]; rfl)
          have hwa := HZ.out a (List.mem_of_getElem? ha)
          obtain ⟨h1, h2⟩ := HA2.out a (List.mem_of_getElem? ha)
          have HT := Lib.hid (take_snocI ha)
          have x3 := BP.cell' 3 _ rfl
          have x4 := BP.cell' 4 _ rfl
          have i0 : (0 : Int) ≤ (i : Int) := by omega
          have i1 : (i : Int) < (n2 : Int) := by omega
          clear hcf ha hil
          by_cases hin : (pn : Int) ≤ a ∧ a < (pn : Int) + (zn : Int)
          · have h4 := h1 hin
            obtain ⟨hin1, hin2⟩ := hin
            obtain ⟨ka, rfl⟩ : ∃ ka : Nat, a = (pn : Int) + (ka : Int) := ⟨(a - pn).toNat, by omega⟩
            clear h1 h2
            have hk4 : ka + 4 ≤ zn := by omega
            have e1 : (pn : Int) + (ka : Int) - (pn : Int) = (ka : Int) := by omega
            have k1' : (0 : Int) ≤ (ka : Int) := by omega
            have k2' : (ka : Int) ≤ (zn : Int) := by omega
            have kc : ¬ cap = ka := by omega
            have hz9 := run_zap (P := Tryz.prog) BR 85 9 3 5 ka (zn - ka) (cap - ka) Tryz.underlying85 sizeOf5 hk4 (by omega)
            have BRN : BRow (wr.setCells (w1.heap.size + 1) ka zero4) (w1.heap.size + 1) zn (plainF image (fix.take (i + 1)) pn) := by
              rw [HT.out]
              have hc : (pn : Int) + (ka : Int) = ((pn + ka : Nat) : Int) := by omega
              rw [hc]
              exact (BR.zap ka hk4).congr (fun j _ => plain_in image (fix.take i) pn ka (pn + ka) rfl j)
            have hnz : New w (wr.setCells (w1.heap.size + 1) ka zero4) := zap_below hnr (by omega)
            have BB2 := zap_blk (g := w1.heap.size + 1) (a := ka) BB (by omega)
            have BP2 := zap_blk (g := w1.heap.size + 1) (a := ka) BP (by omega)
            go_wp2
            go_roundw
            case rel => exact ⟨i + 1, by go_num, by omega, hnz, BB2, BP2, BRN⟩
            case measure => simp [intOf]; omega
          · have h4 := h2 hin
            have BRN : BRow wr (w1.heap.size + 1) zn (plainF image (fix.take (i + 1)) pn) := by
              rw [HT.out]
              exact BR.congr (fun j hj => plain_out image (fix.take i) pn zn a h4 j hj)
            clear h1 h2 h4
            by_cases hp1 : (pn : Int) ≤ a
            · have hp2 : ¬ a < (pn : Int) + (zn : Int) := fun q => hin ⟨hp1, q⟩
              clear hin
              go_wp2
              go_roundw
              case rel => exact ⟨i + 1, by go_num, by omega, hnr, BB, BP, BRN⟩
              case measure => simp [intOf]; omega
            · clear hin
              go_wp2
              go_roundw
              case rel => exact ⟨i + 1, by go_num, by omega, hnr, BB, BP, BRN⟩
              case measure => simp [intOf]; omega
        · obtain rfl : n2 = i := by omega
          have hft : fix.take n2 = fix := List.take_of_length_le (by rw [HL2.out]; exact Nat.le_refl _)
          rw [hft] at BR
          have hst := run_string (P := Tryz.prog) BR 85 9 5 0 zn cap Tryz.underlying85 Tryz.underlying5 Tryz.underlying9 (by omega)
          have hpl : ((List.range zn).map fun j => plainF image fix pn (0 + j)) = plainL image fix ⟨po, ps, pk, (pn : Int), (zn : Int)⟩ := by
            unfold plainL
            simp
          rw [hpl] at hst
          have hx := HX2.out
          generalize plainL image fix ⟨po, ps, pk, (pn : Int), (zn : Int)⟩ = L at *
          subst hx
          clear hft hpl
          go_wp2
          exact bodyPost_ret (v := .tuple #[.string (S L), .int .i64 0]) (by simp [results, Tryz.results27, go_sem]) rfl ⟨rfl, hnr⟩
    · have hx : X = (⟨#[]⟩, 3) := HV2.out rfl hb
      subst hx
      by_cases t1 : i < 0
      · go_enter Tryz.func27, Tryz.ntmps27
        go_wp2_with (go_at_call 14; (with_reducible refine (HC.out _ hnX).mono ?_); rintro e w1 ⟨rfl, k1⟩)
        exact bodyPost_ret (v := .tuple #[.string ⟨#[]⟩, .int .i64 3]) (by simp [results, Tryz.results27, go_sem]) rfl ⟨rfl, hnX.trans k1⟩
      · have t2 : (n1 : Int) ≤ i := by omega
        go_enter Tryz.func27, Tryz.ntmps27
        go_wp2_with (go_at_call 14; (with_reducible refine (HC.out _ hnX).mono ?_); rintro e w1 ⟨rfl, k1⟩; have d3 := (BX.new k1).cell' 3 _ rfl)
        exact bodyPost_ret (v := .tuple #[.string ⟨#[]⟩, .int .i64 3]) (by simp [results, Tryz.results27, go_sem]) rfl ⟨rfl, hnX.trans k1⟩
end Go.Proofs.YtnknmpcgbfmfjaaGreatDoor

namespace Go.Proofs.YtnknmpcgbfmfjaaGreatDoor
open Go Go.RowKit Go.Joins
set_option linter.unusedSimpArgs false
set_option linter.unusedVariables false

set_option maxRecDepth 100000 in
set_option maxHeartbeats 8000000 in
theorem rplain_any (b : Bn) (h : BH) (i : Int) (w : World) (hr : BRd w b h) (hz : SzB b) (hi : W64 i) :
    Calls Tryz.prog 28 #[.agg (bcells b h), .int .i64 i] w fun e w' => e = .returned (.tuple #[.string (plainV b i).1, .int .i64 (plainV b i).2]) ∧ New w w' := by
  have HC := Lib.hid (fun W (hn : New w W) => rcheck_any b h W (hr.new hn) hz)
  have HV1 := Lib.hid (fun h : checkV b = false => plainV_bad (i := i) h)
  have HV2 := Lib.hid (fun (h : checkV b = true) (h2 : ¬ (0 ≤ i ∧ i < b.places.length)) => plainV_range h h2)
  have HV3 := Lib.hid (fun (h : checkV b = true) (k : Nat) p (hk : i = (k : Int)) (hp : b.places[k]? = some p) => plainV_at h hk hp)
  have hce : chkE b = if checkV b = true then 0 else 1 := rfl
  rw [hce] at HC
  have HP := Lib.hid (fun h : checkV b = true => placed_ok (check_words h).1)
  have HF := Lib.hid (fun h : checkV b = true => check_fix h)
  have HA := Lib.hid (fun (hc : checkV b = true) a (ha : a ∈ b.fix) => within_bd (HP.out hc) (HF.out hc a ha))
  have HR1 := Lib.hid hr.r1
  have HR2 := Lib.hid hr.r2
  have HZ := Lib.hid hz.fx
  have hl1 := hz.l1
  have hl2 := hz.l2
  have himg := hz.img
  have BX := Blk.made w 28 (bcells b h)
  have hnX := (New.refl w).alloc (.cells (bcells b h) 28)
  obtain ⟨X, hX⟩ : ∃ X, plainV b i = X := ⟨_, rfl⟩
  rw [hX] at HV1 HV2 HV3 ⊢
  obtain ⟨cv, hcv⟩ : ∃ v, checkV b = v := ⟨_, rfl⟩
  rw [hcv] at HV1 HV2 HV3 HC HP HF HA
  have HM := Lib.hid (fun (hc : cv = true) => (HP.out hc).mem)
  have HLE := Lib.hid (fun (hc : cv = true) => (HP.out hc).le)
  clear HP HF hce hX hcv hr hz
  obtain ⟨kind, entry, image, places, fix, imps, exps, notes⟩ := b
  obtain ⟨a1, c1, a2, c2, a3, c3, a4, c4, a5, c5⟩ := h
  simp only [bcells] at BX hnX HC HV1 HV2 HV3 HA HR1 HR2 HZ HM HLE hl1 hl2 himg ⊢
  obtain ⟨n1, hn1⟩ : ∃ n, places.length = n := ⟨_, rfl⟩
  obtain ⟨n2, hn2⟩ : ∃ n, fix.length = n := ⟨_, rfl⟩
  rw [hn1, hn2] at BX hnX HC ⊢
  rw [hn1] at HV2 HR1 hl1
  rw [hn2] at HR2 hl2
  have HL1 := Lib.hid hn1
  have HL2 := Lib.hid hn2
  generalize imps.length = n3 at *
  generalize exps.length = n4 at *
  generalize notes.length = n5 at *
  clear hn1 hn2
  cases cv
  · have hx : X = (⟨#[]⟩, 1) := HV1.out rfl
    subst hx
    go_enter Tryz.func28, Tryz.ntmps28
    go_wp2_with (go_at_call 15; (with_reducible refine (HC.out _ hnX).mono ?_); rintro e w1 ⟨rfl, k1⟩)
    exact bodyPost_ret (v := .tuple #[.string ⟨#[]⟩, .int .i64 1]) (by simp [results, Tryz.results28, go_sem]) rfl ⟨rfl, hnX.trans k1⟩
  · by_cases hb : 0 ≤ i ∧ i < (n1 : Int)
    · obtain ⟨hb1, hb2⟩ := hb
      obtain ⟨k, rfl⟩ : ∃ k : Nat, i = (k : Int) := ⟨i.toNat, by omega⟩
      have hk : k < n1 := by omega
      have t1 : ¬ (k : Int) < 0 := by omega
      have t2 : ¬ (n1 : Int) ≤ (k : Int) := by omega
      obtain ⟨bk, o, rfl, hbk, p, hp, hcell⟩ := rd_row (f := plC) (k := 5) (fun _ => rfl) HL1.out HR1.out hk
      have HXX : Hid (X = (S (plainL image fix p), 0)) := Lib.hid (HV3.out rfl k p rfl hp)
      have hpm := List.mem_of_getElem? hp
      obtain ⟨m1, m2, m3⟩ := HM.out rfl p hpm
      have hle := HLE.out rfl
      have HA2 := Lib.hid (fun a ha => HA.out rfl a ha)
      obtain ⟨po, ps, pk, pa, pz⟩ := p
      simp only at m1 m2 m3
      obtain ⟨pn, rfl⟩ : ∃ pn : Nat, pa = (pn : Int) := ⟨pa.toNat, by omega⟩
      obtain ⟨zn, rfl⟩ : ∃ zn : Nat, pz = (zn : Int) := ⟨pz.toNat, by omega⟩
      have q0 := hcell 0 (.string po) (by omega) rfl
      have q1 := hcell 1 (.string ps) (by omega) rfl
      have q2 := hcell 2 (.int .i64 pk) (by omega) rfl
      have q3 := hcell 3 (.int .i64 (pn : Nat)) (by omega) rfl
      have q4 := hcell 4 (.int .i64 (zn : Nat)) (by omega) rfl
      simp only [Nat.add_zero] at q0
      rw [← Nat.add_assoc] at q1 q2 q3 q4
      obtain ⟨N, hN⟩ : ∃ N, image.size = N := ⟨_, rfl⟩
      have hconv := fun W => Lib.run_convert_string_bytes (P := Tryz.prog) W 9 85 5 image Tryz.underlying9 Tryz.underlying85 Tryz.underlying5
      rw [hN] at hconv m3 HA2
      clear hcell hp hpm HV1 HV2 HV3 HA HM HLE hb1 hb2
      go_enter Tryz.func28, Tryz.ntmps28
      go_wp2_with (go_at_call 15; (with_reducible refine (HC.out _ hnX).mono ?_); rintro e w1 ⟨rfl, k1⟩; have B1 := BX.new k1; have d2 := B1.cell' 2 _ rfl; have d3 := B1.cell' 3 _ rfl; have hnB := New.trans (hnX.trans k1) (new_bytes w1 5 image); have BB := B1.new (new_bytes w1 5 image); have e4 := BB.cell' 4 _ rfl; have BR0 := BRow.made w1 5 image)
      have hge := grownCap_ge w1 N 0 5
      rw [hN] at BR0
      generalize grownCap w1 N 0 5 = cap at *
      have BR1 : BRow (Lib.bytesWorld w1 5 image) w1.heap.size N (plainF image (fix.take 0) 0) := BR0.congr (fun j hj => by
        unfold plainF imgB
        simp [coverB])
      generalize Lib.bytesWorld w1 5 image = wB at *
      have hgb : w.heap.size < w1.heap.size := by have := B1.lt; exact this
      have HX2 : Hid (X = (S (plainL image fix ⟨po, ps, pk, (pn : Int), (zn : Int)⟩), 0)) := Lib.hid HXX.out
      have k1z := (hnX.trans k1)
      clear BR0 B1 hconv HC d2 d3 HXX
      go_loopw [28] (fun v28 wr => ∃ i : Nat, v28 = .int .i64 i ∧ i ≤ n2 ∧ New w wr ∧ Blk wr w.heap.size 28 #[.int .i64 kind, .int .i64 entry, .string image, .slice (some ⟨bk, o, none⟩) n1 c1, .slice a2 n2 c2, .slice a3 n3 c3, .slice a4 n4 c4, .slice a5 n5 c5] ∧ BRow wr w1.heap.size N (plainF image (fix.take i) 0)) (fun v28 _ => n2 - (intOf v28).toNat)
      case atStart => exact ⟨0, rfl, by omega, hnB, BB, BR1⟩
      case round =>
        clear hnB BB BR1 e4
        obtain ⟨i, rfl, hi9, hnr, BB, BR⟩ := hrel
        by_cases hlt : i < n2
        · have hil : i < fix.length := by rw [HL2.out]; exact hlt
          obtain ⟨bf, fo, rfl, hbf, hcf⟩ := (HR2.out.below hnr).2 (by omega)
          obtain ⟨a, ha⟩ : ∃ x, fix[i]? = some x := ⟨_, List.getElem?_eq_getElem hil⟩
          have f0 := hcf i (.int .i64 a) (by rw [flat_one, ha]; rfl)
          obtain ⟨h1, h2⟩ := HA2.out a (List.mem_of_getElem? ha)
          have HT := Lib.hid (take_snocI ha)
          have i0 : (0 : Int) ≤ (i : Int) := by omega
          have i1 : (i : Int) < (n2 : Int) := by omega
          clear hcf ha hil
          obtain ⟨ka, rfl⟩ : ∃ ka : Nat, a = (ka : Int) := ⟨a.toNat, by omega⟩
          have hk4 : ka + 4 ≤ N := by omega
          have k2' : (ka : Int) ≤ (N : Int) := by omega
          have kc : ¬ cap = ka := by omega
          have hz9 := run_zap (P := Tryz.prog) BR 85 9 3 5 ka (N - ka) (cap - ka) Tryz.underlying85 sizeOf5 hk4 (by omega)
          have BRN : BRow (wr.setCells w1.heap.size ka zero4) w1.heap.size N (plainF image (fix.take (i + 1)) 0) := by
            rw [HT.out]
            exact (BR.zap ka hk4).congr (fun j _ => plain_in image (fix.take i) 0 ka ka (by omega) j)
          have hnz : New w (wr.setCells w1.heap.size ka zero4) := zap_below hnr (by omega)
          have BB2 := zap_blk (g := w1.heap.size) (a := ka) BB (by omega)
          go_wp2
          go_roundw
          case rel => exact ⟨i + 1, by go_num, by omega, hnz, BB2, BRN⟩
          case measure => simp [intOf]; omega
        · obtain rfl : n2 = i := by omega
          have hft : fix.take n2 = fix := List.take_of_length_le (by rw [HL2.out]; exact Nat.le_refl _)
          rw [hft] at BR
          have g3 := BB.cell' 3 _ rfl
          have p0 := cell_new hnr q0
          have p1 := cell_new hnr q1
          have p2 := cell_new hnr q2
          have p3 := cell_new hnr q3
          have p4 := cell_new hnr q4
          have s1 : (pn : Int) ≤ (pn : Int) + (zn : Int) := by omega
          have s3 : ((pn : Int) + (zn : Int)).toNat = pn + zn := by omega
          have s4 : pn + zn ≤ N := by omega
          have s5 : (pn : Int) + (zn : Int) ≤ (N : Int) := by omega
          have s6 : (pn : Int) + (zn : Int) ≤ (cap : Int) := by omega
          have BR2 := BR.new ((New.refl wr).alloc (.cells #[.string po, .string ps, .int .i64 pk, .int .i64 (pn : Nat), .int .i64 (zn : Nat)] 60))
          have hpl : ((List.range zn).map fun j => plainF image fix 0 (pn + j)) = plainL image fix ⟨po, ps, pk, (pn : Int), (zn : Int)⟩ := by
            unfold plainL
            simp only [Int.toNat_natCast]
            refine List.map_congr_left fun j _ => ?_
            unfold plainF
            rw [Nat.zero_add, Int.natCast_add]
            simp
          have hx := HX2.out
          by_cases hcp : cap = pn
          · subst hcp
            have hst := run_string (P := Tryz.prog) BR2 85 9 5 0 zn 0 Tryz.underlying85 Tryz.underlying5 Tryz.underlying9 (by omega)
            have hpl2 : ((List.range zn).map fun j => plainF image fix 0 (0 + j)) = plainL image fix ⟨po, ps, pk, (cap : Int), (zn : Int)⟩ := by
              have hz : zn = 0 := by omega
              subst hz; rfl
            rw [hpl2] at hst
            generalize plainL image fix ⟨po, ps, pk, (cap : Int), (zn : Int)⟩ = L at *
            subst hx
            clear hft hpl hpl2 BR
            go_wp2
            exact bodyPost_ret (v := .tuple #[.string (S L), .int .i64 0]) (by simp [results, Tryz.results28, go_sem]) rfl ⟨rfl, hnr.alloc _⟩
          · have hst := run_string (P := Tryz.prog) BR2 85 9 5 pn zn (cap - pn) Tryz.underlying85 Tryz.underlying5 Tryz.underlying9 s4
            rw [hpl] at hst
            generalize plainL image fix ⟨po, ps, pk, (pn : Int), (zn : Int)⟩ = L at *
            subst hx
            clear hft hpl BR
            go_wp2
            exact bodyPost_ret (v := .tuple #[.string (S L), .int .i64 0]) (by simp [results, Tryz.results28, go_sem]) rfl ⟨rfl, hnr.alloc _⟩
    · have hx : X = (⟨#[]⟩, 3) := HV2.out rfl hb
      subst hx
      by_cases t1 : i < 0
      · go_enter Tryz.func28, Tryz.ntmps28
        go_wp2_with (go_at_call 15; (with_reducible refine (HC.out _ hnX).mono ?_); rintro e w1 ⟨rfl, k1⟩)
        exact bodyPost_ret (v := .tuple #[.string ⟨#[]⟩, .int .i64 3]) (by simp [results, Tryz.results28, go_sem]) rfl ⟨rfl, hnX.trans k1⟩
      · have t2 : (n1 : Int) ≤ i := by omega
        go_enter Tryz.func28, Tryz.ntmps28
        go_wp2_with (go_at_call 15; (with_reducible refine (HC.out _ hnX).mono ?_); rintro e w1 ⟨rfl, k1⟩; have d3 := (BX.new k1).cell' 3 _ rfl)
        exact bodyPost_ret (v := .tuple #[.string ⟨#[]⟩, .int .i64 3]) (by simp [results, Tryz.results28, go_sem]) rfl ⟨rfl, hnX.trans k1⟩
end Go.Proofs.YtnknmpcgbfmfjaaGreatDoor

