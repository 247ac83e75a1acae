/- strings.Builder at a dump whose copyCheck ends in a place that the loader refuses: copyCheck, WriteByte, WriteString. No conditions but Go's own limit on a length. codec.Number, codec.Text, and the two writers of binary.Encode. Conditions: sizes. (Printed by mk-v1.py.) -/
import Derived.Test.YtnknmpcgbfmfjaaGreatDoorGBase
import Derived.Test.YtnknmpcgbfmfjaaGreatDoorGSh
import Derived.Below
import Derived.Shelf.Strings.BuilderX
import Derived.Lib.Builder
import Derived.Lib.AppendStr
import Derived.Lib.UnsafeStr
import Derived.Lib.OthersKept
import Derived.Laws.Externs
import Derived.Test.YtnknmpcgbfmfjaaGreatDoorGC2
import Derived.Lib.ItoaLen

namespace Go.Proofs.YtnknmpcgbfmfjaaGreatDoor
open Go Go.RowKit Go.Shelf
set_option linter.unusedSimpArgs false
set_option linter.unusedVariables false

theorem Tryz.bldInfo : (Tryz.prog.info? 87).map (·.size) = some 2 := by kernel_rfl
theorem Tryz.bldLies : liesAt Tryz.prog Tryz.prog.depth 87 (2 / Tryz.prog.cellsOf 87) 0 87 1 = true := by kernel_rfl
theorem Tryz.byteInfo : (Tryz.prog.info? 5).map (fun i => (i.zero, i.size, i.bytes)) = some (some (.int .u8 0), 1, 1) := by kernel_rfl

def IsB (B b : Nat) (l : List UInt8) (w : World) : Prop := Lib.IsBuilder 87 5 B b (Lib.byteCells l) w
def AtB (B b : Nat) (l : List UInt8) (w : World) : Prop := Lib.BuilderAt 87 5 B b (.pointer (some ⟨b, 0, none⟩)) (Lib.byteCells l) w
theorem AtB.is {B b : Nat} {l : List UInt8} {w : World} (h : AtB B b l w) : IsB B b l w := Or.inr h
theorem IsB.fresh {B : Nat} (w : World) (hB : B ≤ w.heap.size) : IsB B w.heap.size [] (w.alloc (.cells #[.pointer none, .slice none 0 0] 87)) :=
  Or.inl ⟨hB, .slice none 0 0, heap_alloc_new w _, World.ownsRow_nil _ _ _ _, by simp [Value.ownBlock]⟩
theorem bldAt_alloc {T e : TypeId} {B b : Nat} {p : Value} {bs : List Value} {w : World} (h : Lib.BuilderAt T e B b p bs w) (o : Obj) : Lib.BuilderAt T e B b p bs (w.alloc o) := by
  have hlt := h.lt
  obtain ⟨h1, v, h2, h3, h4⟩ := h
  exact ⟨h1, v, (Lib.alloc_old w o b hlt).trans h2, h3.alloc o, h4⟩
theorem IsB.alloc {B b : Nat} {l : List UInt8} {w : World} (h : IsB B b l w) (o : Obj) : IsB B b l (w.alloc o) := h.imp (fun h => bldAt_alloc h o) (fun h => bldAt_alloc h o)
theorem IsB.drewN {B b : Nat} {l : List UInt8} {w : World} (h : IsB B b l w) (n : Nat) : IsB B b l (w.drewN n) := h
theorem IsB.lt {B b : Nat} {l : List UInt8} {w : World} (h : IsB B b l w) : b < w.heap.size := h.elim (·.lt) (·.lt)
theorem own_kind {w : World} {B : Nat} {e : TypeId} {v : Value} {n : Nat} {xs : List Value} (h : w.ownsRow B e 1 v n xs) : ∀ g, v.ownBlock = some g → ∃ c fz, w.heap[g]? = some (.cells c e fz) := by
  intro g hg
  rcases h.2 with ⟨rfl, _⟩ | ⟨g', cap, cur, rfl, _, hgg, _⟩
  · simp [Value.ownBlock] at hg
  · simp [Value.ownBlock] at hg
    subst hg
    exact ⟨cur, _, hgg⟩
theorem IsB.new {B b : Nat} {l : List UInt8} {w w' : World} (h : IsB B b l w) (hn : New w w') : IsB B b l w' := by
  have hlt := h.lt
  have key : ∀ p, Lib.BuilderAt 87 5 B b p (Lib.byteCells l) w → Lib.BuilderAt 87 5 B b p (Lib.byteCells l) w' := by
    rintro p ⟨h1, v, h2, h3, h4⟩
    refine ⟨h1, v, (hn.block b hlt).trans h2, h3.kept (hn.grown_ none) ?_, h4⟩
    cases h5 : v.ownBlock
    · exact Or.inl rfl
    · exact Or.inr (by simp)
  exact h.imp (key _) (key _)
theorem Blk.keptB {w w' : World} {g b : Nat} {t e : TypeId} {cs : Array Value} (h : Blk w g t cs) (hk : Lib.OthersKept e (some b) w w') (hg : g ≠ b) (ht : t ≠ e) : Blk w' g t cs :=
  hk g _ h (by simpa using hg) (fun c fz e2 => ht (by simpa using congrArg (fun o => match o with | .cells _ t _ => t | _ => t) e2))

set_option maxHeartbeats 1000000 in
set_option maxRecDepth 100000 in
theorem copyCheck_any (B b : Nat) (l : List UInt8) (w : World) (h : IsB B b l w) :
    Calls Tryz.prog 91 #[.pointer (some ⟨b, 0, none⟩)] w fun e w' => e = .returned (.tuple #[]) ∧ AtB B b l w' ∧ Below B w w' ∧ Lib.OthersKept 5 (some b) w w' := by
  obtain ⟨j, hj, hjs⟩ := Option.map_eq_some_iff.1 Tryz.bldInfo
  rcases h with h | h
  · have h0 := h.cell0
    have hsh := h.shape
    have hfz := h.frozen0
    have hto := Lib.run_to_unsafe (P := Tryz.prog) (src := 84) (dst := 193) w ⟨b, 0, none⟩ Tryz.underlying84 Tryz.underlying193 hj (by rw [hjs]; decide) hsh (Nat.zero_lt_succ 1)
    have hfrom := Lib.run_from_unsafe (P := Tryz.prog) (src := 193) (dst := 84) w ⟨b, 0, none⟩ Tryz.underlying193 Tryz.underlying84 hj hsh Tryz.bldLies
    go_enter Tryz.func91, Tryz.ntmps91
    go_wp2
    rw [run_callFunc_extern Tryz.func128 (by kernel_rfl) (by kernel_rfl) (by kernel_rfl) (e := Extern.AbiNoEscape.same) (by kernel_rfl)]
    rw [Lib.run_noEscape]
    simp only [Result.andThen]
    rw [Oper.upon_value]
    go_wp2
    go_end0
    exact ⟨rfl, h.used _, (Below.refl B w).setCell (p := ⟨b, 0, none⟩) h.1 _, (Lib.OthersKept.refl _ _ w).setCell ⟨b, 0, none⟩ rfl _⟩
  · have h0 := h.cell0
    have hneq := Lib.run_neq_ptr_same (P := Tryz.prog) (tp := 84) w ⟨b, 0, none⟩ Tryz.underlying84 hj
    go_enter Tryz.func91, Tryz.ntmps91
    go_wp2
    go_end0
    exact ⟨rfl, h, Below.refl B _, Lib.OthersKept.refl _ _ w⟩

set_option maxHeartbeats 2000000 in
set_option maxRecDepth 100000 in
theorem writeString_any (B b : Nat) (l : List UInt8) (s : ByteArray) (w : World) (h : IsB B b l w) (hl : l.length + s.size ≤ 140737488355328) (hBw : B ≤ w.heap.size) :
    Calls Tryz.prog 39 #[.pointer (some ⟨b, 0, none⟩), .string s] w fun e w' => e = .returned (.tuple #[.int .i64 s.size, .nilIface]) ∧ AtB B b (l ++ s.data.toList) w' ∧ Below B w w' ∧ Lib.OthersKept 5 (some b) w w' := by
  obtain ⟨i0, hi, hz0, hz1, hz2⟩ := info_parts Tryz.byteInfo
  go_enter Tryz.func39, Tryz.ntmps39
  go_wp2_with (go_at_call 91; refine (copyCheck_any B b l _ h).mono ?_)
  rintro e w1 ⟨rfl, h1, hb1, hk1⟩
  obtain ⟨hB, v, hbk, hown, hne⟩ := h1
  have c0 : w1.cell? ⟨b, 0, none⟩ = some (.pointer (some ⟨b, 0, none⟩)) := by rw [Lib.cell_of_heap hbk]; rfl
  have c1 : w1.cell? ⟨b, 1, none⟩ = some v := by rw [Lib.cell_of_heap hbk]; rfl
  rw [Lib.byteCells_length] at hown
  obtain ⟨A, cp, rfl, _, _, _⟩ := own_form hown
  go_wp2_with (at_builtin; refine Lib.wpList_append_own_string _ rfl _ _ 85 9 rfl B 5 i0 Tryz.underlying85 Tryz.underlying9 hi hz0 hz1 hz2 _ _ _ rfl hown s rfl ?c3 ?c4 ?c5 ?_)
  case c3 => unfold maxLen; omega
  case c4 => omega
  case c5 => have := hb1.size; omega
  intro v' w2 hown' hgrow _
  have hlt : b < w1.heap.size := (show AtB B b l w1 from ⟨hB, .slice A l.length cp, hbk, by rw [Lib.byteCells_length]; exact hown, hne⟩).lt
  have hb2 : w2.heap[b]? = some (.cells #[.pointer (some ⟨b, 0, none⟩), .slice A l.length cp] 87 (0, 0)) := by
    rw [hgrow.block b hlt (fun e => hne e.symm)]
    exact hbk
  have d0 : w2.cell? ⟨b, 0, none⟩ = some (.pointer (some ⟨b, 0, none⟩)) := by rw [Lib.cell_of_heap hb2]; rfl
  have d1 : w2.cell? ⟨b, 1, none⟩ = some (.slice A l.length cp) := by rw [Lib.cell_of_heap hb2]; rfl
  have f1 : w2.frozen? ⟨b, 1, none⟩ = false := Lib.frozen_of_heap hb2 1
  obtain ⟨ao, n', cap, rfl⟩ : ∃ ao n' cap, v' = .slice ao n' cap := by
    rcases hown'.2 with ⟨hv, _⟩ | ⟨g, cap, cur, hv, _⟩
    · exact ⟨_, _, _, hv⟩
    · exact ⟨_, _, _, hv⟩
  go_wp2
  go_ret2
  refine ⟨rfl, ?_, ?_, (hk1.grown hgrow (own_kind hown)).setCell ⟨b, 1, none⟩ rfl _⟩
  · exact Lib.BuilderAt.put (T := 87) (e := 5) hB hb2 (bs' := Lib.byteCells (l ++ s.data.toList)) (by rw [Lib.byteCells_append, ← Lib.strCells_eq]; simpa [Lib.strCells_length, Lib.byteCells_length] using hown') (by decide)
  · exact (hb1.grown hgrow (by have := hb1.size; omega) (fun k hk => (hown.lt k hk).1)).setCell (p := ⟨b, 1, none⟩) hB _
end Go.Proofs.YtnknmpcgbfmfjaaGreatDoor

namespace Go.Proofs.YtnknmpcgbfmfjaaGreatDoor
open Go Go.RowKit Go.Joins
set_option linter.unusedSimpArgs false
set_option linter.unusedVariables false

def numB (n : Int) : List UInt8 := if 0 ≤ n ∧ n ≤ 281474976710656 then Lib.itoa n ++ [59] else []
def txtB (s : ByteArray) : List UInt8 := if s.size ≤ 65536 then Lib.itoa s.size ++ [58] ++ s.data.toList ++ [44] else []
def numE (n : Int) : Int := if 0 ≤ n ∧ n ≤ 281474976710656 then 0 else 3
def txtE (s : ByteArray) : Int := if s.size ≤ 65536 then 0 else 10
theorem S_app (a b : List UInt8) : S a ++ S b = S (a ++ b) := by
  apply bytes_ext
  simp [S]

set_option maxHeartbeats 1000000 in
theorem number_any (n : Int) (w : World) (hn : W64 n) (hE : Env w) : Calls Tryz.prog 38 #[.int .i64 n] w fun e w' => e = .returned (.tuple #[.string (S (numB n)), .int .i64 (numE n)]) ∧ New w w' := by
  by_cases h : 0 ≤ n ∧ n ≤ 281474976710656
  · have h1 : numB n = Lib.itoa n ++ [59] := by unfold numB; rw [if_pos h]
    have h2 : numE n = 0 := by unfold numE; rw [if_pos h]
    obtain ⟨ha, hb⟩ := h
    have HI := Lib.hid (itoa_any n w (by omega) (by omega) hE)
    have hlen := Lib.itoa_length_le n (by omega) (by omega)
    have h4 : ¬ (9223372036854775807 < (S (Lib.itoa n)).size + 1) := by rw [size_S]; omega
    have h3 : S (Lib.itoa n) ++ ⟨#[59]⟩ = S (Lib.itoa n ++ [59]) := S_app (Lib.itoa n) [59]
    rw [h1, h2, ← h3]
    generalize S (Lib.itoa n) = s at *
    clear h1 h2 h3 hlen
    have t1 : ¬ n < 0 := by omega
    have t2 : ¬ (281474976710656 : Int) < n := by omega
    go_enter Tryz.func38, Tryz.ntmps38
    go_wp2_with (go_at_call 90; (with_reducible refine HI.out.mono ?_); rintro e w1 ⟨rfl, k1⟩)
    exact bodyPost_ret (v := .tuple #[.string (s ++ ⟨#[59]⟩), .int .i64 0]) (by simp [results, Tryz.results38, go_sem]) rfl ⟨rfl, k1⟩
  · have h1 : numB n = [] := by unfold numB; rw [if_neg h]
    have h2 : numE n = 3 := by unfold numE; rw [if_neg h]
    rw [h1, h2]
    by_cases t1 : n < 0
    · clear h h1 h2
      go_enter Tryz.func38, Tryz.ntmps38
      go_wp2
      exact bodyPost_ret (v := .tuple #[.string ⟨#[]⟩, .int .i64 3]) (by simp [results, Tryz.results38, go_sem]) rfl ⟨rfl, New.refl _⟩
    · have t2 : (281474976710656 : Int) < n := by omega
      clear h h1 h2
      go_enter Tryz.func38, Tryz.ntmps38
      go_wp2
      exact bodyPost_ret (v := .tuple #[.string ⟨#[]⟩, .int .i64 3]) (by simp [results, Tryz.results38, go_sem]) rfl ⟨rfl, New.refl _⟩
set_option maxHeartbeats 1000000 in
theorem text_any (x : ByteArray) (w : World) (hx : x.size ≤ 1000000) (hE : Env w) : Calls Tryz.prog 41 #[.string x] w fun e w' => e = .returned (.tuple #[.string (S (txtB x)), .int .i64 (txtE x)]) ∧ New w w' := by
  by_cases h : x.size ≤ 65536
  · have h1 : txtB x = Lib.itoa x.size ++ [58] ++ x.data.toList ++ [44] := by unfold txtB; rw [if_pos h]
    have h2 : txtE x = 0 := by unfold txtE; rw [if_pos h]
    have HI := Lib.hid (itoa_any (x.size : Int) w (by omega) (by omega) hE)
    have hlen := Lib.itoa_length_le (x.size : Int) (by omega) (by omega)
    rw [← size_S] at hlen
    have h3 : ((S (Lib.itoa (x.size : Int)) ++ ⟨#[58]⟩) ++ x) ++ ⟨#[44]⟩ = S (Lib.itoa x.size ++ [58] ++ x.data.toList ++ [44]) := by
      rw [show (⟨#[58]⟩ : ByteArray) = S [58] from rfl, show (⟨#[44]⟩ : ByteArray) = S [44] from rfl, S_app]
      conv => lhs; rw [← S_data x]
      rw [S_app, S_app]
      simp only [S_data]
    rw [h1, h2, ← h3]
    generalize S (Lib.itoa (x.size : Int)) = s at *
    clear h1 h2 h3
    have k0 : ¬ (9223372036854775807 < s.size + 1) := by omega
    have k1 : ¬ (9223372036854775807 < s.size + 1 + x.size) := by omega
    have k2 : ¬ (9223372036854775807 < s.size + 1 + x.size + 1) := by omega
    have t1 : ¬ (65536 : Int) < (x.size : Int) := by omega
    go_enter Tryz.func41, Tryz.ntmps41
    go_wp2_with (go_at_call 90; (with_reducible refine HI.out.mono ?_); rintro e w1 ⟨rfl, k1⟩)
    exact bodyPost_ret (v := .tuple #[.string (((s ++ ⟨#[58]⟩) ++ x) ++ ⟨#[44]⟩), .int .i64 0]) (by simp [results, Tryz.results41, go_sem]) rfl ⟨rfl, k1⟩
  · have h1 : txtB x = [] := by unfold txtB; rw [if_neg h]
    have h2 : txtE x = 10 := by unfold txtE; rw [if_neg h]
    rw [h1, h2]
    have t2 : (65536 : Int) < (x.size : Int) := by omega
    clear h h1 h2
    go_enter Tryz.func41, Tryz.ntmps41
    go_wp2
    exact bodyPost_ret (v := .tuple #[.string ⟨#[]⟩, .int .i64 10]) (by simp [results, Tryz.results41, go_sem]) rfl ⟨rfl, New.refl _⟩
theorem numB_len (n : Int) : (numB n).length ≤ 22 := by
  unfold numB
  split
  · have := Lib.itoa_length_le n (by omega) (by omega)
    rw [List.length_append]; simp; omega
  · simp
theorem txtB_len (s : ByteArray) : (txtB s).length ≤ 65559 := by
  unfold txtB
  split
  · have := Lib.itoa_length_le (s.size : Int) (by omega) (by omega)
    simp only [List.length_append, List.length_cons, List.length_nil, ← size_eq]; omega
  · simp
structure WrB (B b : Nat) (l : List UInt8) (w w' : World) : Prop where
  at_ : IsB B b l w'
  below : Below B w w'
  kept : Lib.OthersKept 5 (some b) w w'
theorem others_new {w w' : World} (b : Nat) (h : New w w') : Lib.OthersKept 5 (some b) w w' := fun g o ho _ _ => (h.block g (Array.getElem?_eq_some_iff.1 ho).1).trans ho
theorem flat_len {α : Type} (f : α → List UInt8) (m : Nat) (hf : ∀ x, (f x).length ≤ m) : ∀ l : List α, (l.flatMap f).length ≤ l.length * m
  | [] => by simp
  | x :: r => by
    have := flat_len f m hf r
    have := hf x
    rw [List.flatMap_cons, List.length_append, List.length_cons, Nat.add_mul]; omega
set_option maxRecDepth 100000 in
set_option maxHeartbeats 4000000 in
theorem wnum_any (B b : Nat) (l : List UInt8) (zs : List Int) (A : Option Addr) (n c : Nat) (w : World) (h : IsB B b l w) (hB : B ≤ w.heap.size) (hl : zs.length = n) (hn : n ≤ 1000000) (hlen : l.length + n * 22 ≤ 140737488355328)
    (hr : ∀ w', Below B w w' → Lib.OthersKept 5 (some b) w w' → Rd w' 1 A n (zs.flatMap fxC)) (hE : ∀ w', Below B w w' → Env w') (hz : ∀ z ∈ zs, W64 z) :
    Calls Tryz.prog 37 #[.slice A n c, .pointer (some ⟨b, 0, none⟩)] w fun e w' => e = .returned (.tuple #[]) ∧ WrB B b (l ++ zs.flatMap numB) w w' := by
  have HL := Lib.hid hl
  have HR := Lib.hid hr
  have HE := Lib.hid hE
  have HZ := Lib.hid hz
  have HW : Hid (WrB B b (l ++ (zs.take 0).flatMap numB) w w) := Lib.hid ⟨by simpa using h, Below.refl _ _, Lib.OthersKept.refl _ _ _⟩
  clear hl hr hE hz h
  go_enter Tryz.func37, Tryz.ntmps37
  go_wp2
  go_loopw [9] (fun v9 wr => ∃ i : Nat, v9 = .int .i64 i ∧ i ≤ n ∧ Hid (WrB B b (l ++ (zs.take i).flatMap numB) w wr)) (fun v9 _ => n - (intOf v9).toNat)
  case atStart => exact ⟨0, rfl, by omega, HW⟩
  case round =>
    clear HW
    obtain ⟨i, rfl, hi9, HS⟩ := hrel
    by_cases hlt : i < n
    · have hil : i < zs.length := by rw [HL.out]; exact hlt
      obtain ⟨bk, o, rfl, hbk, hcell⟩ := (HR.out wr HS.out.below HS.out.kept).2 (by omega)
      obtain ⟨x, hx⟩ : ∃ x, zs[i]? = some x := ⟨_, List.getElem?_eq_getElem hil⟩
      have q0 := hcell i (.int .i64 x) (by rw [flat_one, hx]; rfl)
      have hxz := HZ.out x (List.mem_of_getElem? hx)
      have HT : Hid (zs.take (i + 1) = zs.take i ++ [x]) := Lib.hid (by
        obtain ⟨h1, h2⟩ := List.getElem?_eq_some_iff.1 hx
        rw [List.take_succ_eq_append_getElem h1, h2])
      have hL : (l ++ (zs.take i).flatMap numB).length ≤ l.length + i * 22 := by
        have := flat_len numB 22 numB_len (zs.take i)
        rw [List.length_take, Nat.min_eq_left (by omega)] at this
        rw [List.length_append]; omega
      have HN := Lib.hid (number_any x wr hxz (HE.out wr HS.out.below))
      have hxl := numB_len x
      have hwB : B ≤ wr.heap.size := by have := HS.out.below.size; omega
      have hmul : i * 22 + 22 ≤ n * 22 := by
        have := Nat.mul_le_mul_right 22 (show i + 1 ≤ n by omega)
        rw [Nat.add_mul] at this; omega
      have HWS := Lib.hid (fun W (hN : New wr W) => writeString_any B b (l ++ (zs.take i).flatMap numB) (S (numB x)) W (HS.out.at_.new hN) (by rw [size_S]; omega) (by have := hN.size; omega))
      have i0 : (0 : Int) ≤ (i : Int) := by omega
      have i1 : (i : Int) < (n : Int) := by omega
      have HEQ : Hid ((l ++ (zs.take i).flatMap numB) ++ (S (numB x)).data.toList = l ++ (zs.take (i + 1)).flatMap numB) := Lib.hid (by rw [HT.out, List.flatMap_append, data_S, List.append_assoc]; simp)
      clear hcell hx hil hL hmul hxl hxz
      go_wp2_with (first
        | (go_at_call 39; (with_reducible refine (HWS.out _ n1).mono ?_); rintro e w2 ⟨rfl, ha, hb, hk⟩)
        | (go_at_call 38; (with_reducible refine HN.out.mono ?_); rintro e w1 ⟨rfl, n1⟩))
      have hnz : WrB B b (l ++ (zs.take (i + 1)).flatMap numB) w w2 := by
        rw [← HEQ.out]
        exact ⟨ha.is, (HS.out.below.trans (n1.mono hwB)).trans hb, (HS.out.kept.trans (others_new b n1)).trans hk⟩
      have HNZ := Lib.hid hnz
      clear hnz ha hb hk
      go_roundw
      case rel => exact ⟨i + 1, by go_num, by omega, HNZ⟩
      case measure => simp [intOf]; omega
    · obtain rfl : n = i := by omega
      have HF : Hid (WrB B b (l ++ zs.flatMap numB) w wr) := Lib.hid (by have := HS.out; rwa [List.take_of_length_le (by rw [HL.out]; exact Nat.le_refl _)] at this)
      go_wp2
      go_end0
      exact ⟨rfl, HF.out⟩
set_option maxRecDepth 100000 in
set_option maxHeartbeats 4000000 in
theorem wtxt_any (B b : Nat) (l : List UInt8) (zs : List ByteArray) (A : Option Addr) (n c : Nat) (w : World) (h : IsB B b l w) (hB : B ≤ w.heap.size) (hl : zs.length = n) (hn : n ≤ 1000000) (hlen : l.length + n * 65559 ≤ 140737488355328)
    (hr : ∀ w', Below B w w' → Lib.OthersKept 5 (some b) w w' → Rd w' 1 A n (zs.map Value.string)) (hE : ∀ w', Below B w w' → Env w') (hz : ∀ z ∈ zs, z.size ≤ 1000000) :
    Calls Tryz.prog 40 #[.slice A n c, .pointer (some ⟨b, 0, none⟩)] w fun e w' => e = .returned (.tuple #[]) ∧ WrB B b (l ++ zs.flatMap txtB) w w' := by
  have HL := Lib.hid hl
  have HR := Lib.hid hr
  have HE := Lib.hid hE
  have HZ := Lib.hid hz
  have HW : Hid (WrB B b (l ++ (zs.take 0).flatMap txtB) w w) := Lib.hid ⟨by simpa using h, Below.refl _ _, Lib.OthersKept.refl _ _ _⟩
  clear hl hr hE hz h
  go_enter Tryz.func40, Tryz.ntmps40
  go_wp2
  go_loopw [9] (fun v9 wr => ∃ i : Nat, v9 = .int .i64 i ∧ i ≤ n ∧ Hid (WrB B b (l ++ (zs.take i).flatMap txtB) w wr)) (fun v9 _ => n - (intOf v9).toNat)
  case atStart => exact ⟨0, rfl, by omega, HW⟩
  case round =>
    clear HW
    obtain ⟨i, rfl, hi9, HS⟩ := hrel
    by_cases hlt : i < n
    · have hil : i < zs.length := by rw [HL.out]; exact hlt
      obtain ⟨bk, o, rfl, hbk, hcell⟩ := (HR.out wr HS.out.below HS.out.kept).2 (by omega)
      obtain ⟨x, hx⟩ : ∃ x, zs[i]? = some x := ⟨_, List.getElem?_eq_getElem hil⟩
      have q0 := hcell i (.string x) (by rw [List.getElem?_map, hx]; rfl)
      have hxz := HZ.out x (List.mem_of_getElem? hx)
      have HT : Hid (zs.take (i + 1) = zs.take i ++ [x]) := Lib.hid (by
        obtain ⟨h1, h2⟩ := List.getElem?_eq_some_iff.1 hx
        rw [List.take_succ_eq_append_getElem h1, h2])
      have hL : (l ++ (zs.take i).flatMap txtB).length ≤ l.length + i * 65559 := by
        have := flat_len txtB 65559 txtB_len (zs.take i)
        rw [List.length_take, Nat.min_eq_left (by omega)] at this
        rw [List.length_append]; omega
      have HN := Lib.hid (text_any x wr hxz (HE.out wr HS.out.below))
      have hxl := txtB_len x
      have hwB : B ≤ wr.heap.size := by have := HS.out.below.size; omega
      have hmul : i * 65559 + 65559 ≤ n * 65559 := by
        have := Nat.mul_le_mul_right 65559 (show i + 1 ≤ n by omega)
        rw [Nat.add_mul] at this; omega
      have HWS := Lib.hid (fun W (hN : New wr W) => writeString_any B b (l ++ (zs.take i).flatMap txtB) (S (txtB x)) W (HS.out.at_.new hN) (by rw [size_S]; omega) (by have := hN.size; omega))
      have i0 : (0 : Int) ≤ (i : Int) := by omega
      have i1 : (i : Int) < (n : Int) := by omega
      have HEQ : Hid ((l ++ (zs.take i).flatMap txtB) ++ (S (txtB x)).data.toList = l ++ (zs.take (i + 1)).flatMap txtB) := Lib.hid (by rw [HT.out, List.flatMap_append, data_S, List.append_assoc]; simp)
      clear hcell hx hil hL hmul hxl hxz
      go_wp2_with (first
        | (go_at_call 39; (with_reducible refine (HWS.out _ n1).mono ?_); rintro e w2 ⟨rfl, ha, hb, hk⟩)
        | (go_at_call 41; (with_reducible refine HN.out.mono ?_); rintro e w1 ⟨rfl, n1⟩))
      have hnz : WrB B b (l ++ (zs.take (i + 1)).flatMap txtB) w w2 := by
        rw [← HEQ.out]
        exact ⟨ha.is, (HS.out.below.trans (n1.mono hwB)).trans hb, (HS.out.kept.trans (others_new b n1)).trans hk⟩
      have HNZ := Lib.hid hnz
      clear hnz ha hb hk
      go_roundw
      case rel => exact ⟨i + 1, by go_num, by omega, HNZ⟩
      case measure => simp [intOf]; omega
    · obtain rfl : n = i := by omega
      have HF : Hid (WrB B b (l ++ zs.flatMap txtB) w wr) := Lib.hid (by have := HS.out; rwa [List.take_of_length_le (by rw [HL.out]; exact Nat.le_refl _)] at this)
      go_wp2
      go_end0
      exact ⟨rfl, HF.out⟩
end Go.Proofs.YtnknmpcgbfmfjaaGreatDoor

