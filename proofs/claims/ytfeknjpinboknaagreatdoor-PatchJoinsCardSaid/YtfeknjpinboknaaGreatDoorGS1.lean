/- Plain: SHA3-256 on numbers. No conditions. The rotations and the tables of SHA3. No conditions. -/
import Derived.Test.YtfeknjpinboknaaGreatDoorGA
import Derived.Laws.Bits64b

namespace Go.Proofs.YtfeknjpinboknaaGreatDoor
set_option linter.unusedSimpArgs false
set_option linter.unusedVariables false

abbrev M64 : Nat := 18446744073709551616
def rotN (w n : Nat) : Nat := (w * 2 ^ n % M64) ||| (w / 2 ^ (64 - n))
def colS (s : Nat → Nat) (x : Nat) : Nat := s x ^^^ s (x + 5) ^^^ s (x + 10) ^^^ s (x + 15) ^^^ s (x + 20)
def dS (s : Nat → Nat) (x : Nat) : Nat := colS s ((x + 4) % 5) ^^^ rotN (colS s ((x + 1) % 5)) 1
def offL : List Nat := [0, 1, 62, 28, 27, 36, 44, 6, 55, 20, 3, 10, 43, 25, 39, 41, 45, 15, 21, 8, 18, 2, 61, 56, 14]
def offN (i : Nat) : Nat := offL.getD i 0
def conL : List Nat := [0x0000000000000001, 0x0000000000008082, 0x800000000000808a, 0x8000000080008000, 0x000000000000808b, 0x0000000080000001, 0x8000000080008081, 0x8000000000008009, 0x000000000000008a, 0x0000000000000088, 0x0000000080008009, 0x000000008000000a, 0x000000008000808b, 0x800000000000008b, 0x8000000000008089, 0x8000000000008003, 0x8000000000008002, 0x8000000000000080, 0x000000000000800a, 0x800000008000000a, 0x8000000080008081, 0x8000000000008080, 0x0000000080000001, 0x8000000080008008]
def conN (i : Nat) : Nat := conL.getD i 0
def dstN (i : Nat) : Nat := i / 5 + 5 * ((2 * (i % 5) + 3 * (i / 5)) % 5)
def srcN (i : Nat) : Nat := (3 * (i / 5) + i % 5) % 5 + 5 * (i % 5)
theorem src_dst : ∀ i : Fin 25, srcN (dstN i.val) = i.val ∧ dstN i.val < 25 := by decide
theorem dst_src : ∀ i : Fin 25, dstN (srcN i.val) = i.val ∧ srcN i.val < 25 := by decide
def valS (s : Nat → Nat) (i : Nat) : Nat := rotN (s i ^^^ dS s (i % 5)) (offN i)
def movS (s : Nat → Nat) (i : Nat) : Nat := valS s (srcN i)
def notN (w : Nat) : Nat := 18446744073709551615 ^^^ w
def chiS (m : Nat → Nat) (i : Nat) : Nat := m i ^^^ (notN (m (i - i % 5 + (i + 1) % 5)) &&& m (i - i % 5 + (i + 2) % 5))
def roundS (s : Nat → Nat) (c : Nat) (i : Nat) : Nat := if i = 0 then chiS (movS s) 0 ^^^ c else chiS (movS s) i
def permK (s : Nat → Nat) : Nat → (Nat → Nat)
  | 0 => s
  | k + 1 => roundS (permK s k) (conN k)
def permS (s : Nat → Nat) : Nat → Nat := permK s 24
def xorK (s : Nat → Nat) (b : Nat → Nat) : Nat → (Nat → Nat)
  | 0 => s
  | k + 1 => fun j => if j = k / 8 then xorK s b k j ^^^ (b k * 2 ^ (8 * (k % 8)) % M64) else xorK s b k j
def absS (s : Nat → Nat) (b : Nat → Nat) : Nat → Nat := permS (xorK s b 136)
def zeroS : Nat → Nat := fun _ => 0
def byteA (l : List UInt8) (i : Nat) : Nat := (l.getD i 0).toNat
def stK (l : List UInt8) : Nat → (Nat → Nat)
  | 0 => zeroS
  | k + 1 => absS (stK l k) (fun i => byteA l (136 * k + i))
def lastB (r : List UInt8) (i : Nat) : Nat := (if i < r.length then byteA r i else if i = r.length then 6 else 0) ||| (if i = 135 then 128 else 0)
def outS (s : Nat → Nat) (i : Nat) : Nat := s (i / 8) / 2 ^ (8 * (i % 8)) % 256
def endS (l : List UInt8) : Nat → Nat := absS (stK l (l.length / 136)) (lastB (l.drop (136 * (l.length / 136))))
def sumL (l : List UInt8) : List UInt8 := (List.range 32).map fun i => UInt8.ofNat (outS (endS l) i)
theorem sumL_len (l : List UInt8) : (sumL l).length = 32 := by simp [sumL]

/-! ### sizes of words -/
theorem xor_lt {a b : Nat} (ha : a < M64) (hb : b < M64) : a ^^^ b < M64 := Nat.xor_lt_two_pow (n := 64) ha hb
theorem or_lt {a b : Nat} (ha : a < M64) (hb : b < M64) : a ||| b < M64 := Nat.or_lt_two_pow (n := 64) ha hb
theorem and_lt {a b : Nat} (hb : b < M64) : a &&& b < M64 := Nat.and_lt_two_pow (n := 64) a hb
theorem rot_lt {w : Nat} (n : Nat) (h : w < M64) : rotN w n < M64 := or_lt (Nat.mod_lt _ (by decide)) (Nat.lt_of_le_of_lt (Nat.div_le_self _ _) h)
def StW (s : Nat → Nat) : Prop := ∀ i, i < 25 → s i < M64
theorem StW.col {s : Nat → Nat} (h : StW s) {x : Nat} (hx : x < 5) : colS s x < M64 :=
  xor_lt (xor_lt (xor_lt (xor_lt (h _ (by omega)) (h _ (by omega))) (h _ (by omega))) (h _ (by omega))) (h _ (by omega))
theorem StW.d {s : Nat → Nat} (h : StW s) (x : Nat) : dS s x < M64 := xor_lt (h.col (Nat.mod_lt _ (by decide))) (rot_lt _ (h.col (Nat.mod_lt _ (by decide))))
theorem StW.val {s : Nat → Nat} (h : StW s) {i : Nat} (hi : i < 25) : valS s i < M64 := rot_lt _ (xor_lt (h i hi) (h.d _))
theorem StW.mov {s : Nat → Nat} (h : StW s) : StW (movS s) := fun i hi => h.val (dst_src ⟨i, hi⟩).2
theorem StW.chi {m : Nat → Nat} (h : StW m) : StW (chiS m) := fun i hi => xor_lt (h i hi) (and_lt (h _ (by omega)))
theorem StW.round {s : Nat → Nat} {c : Nat} (h : StW s) (hc : c < M64) : StW (roundS s c) := fun i hi => by
  unfold roundS
  split
  · exact xor_lt (h.mov.chi 0 (by omega)) hc
  · exact h.mov.chi i hi
theorem con_lt : ∀ k : Fin 24, conN k.val < M64 := by decide
theorem StW.permK {s : Nat → Nat} (h : StW s) : ∀ k, k ≤ 24 → StW (permK s k)
  | 0, _ => h
  | k + 1, hk => (h.permK k (by omega)).round (con_lt ⟨k, by omega⟩)
theorem StW.perm {s : Nat → Nat} (h : StW s) : StW (permS s) := h.permK 24 (Nat.le_refl _)
theorem StW.xorK {s b : Nat → Nat} (h : StW s) : ∀ k, StW (xorK s b k)
  | 0 => h
  | k + 1 => fun i hi => by
    show (if i = k / 8 then Proofs.YtfeknjpinboknaaGreatDoor.xorK s b k i ^^^ _ else Proofs.YtfeknjpinboknaaGreatDoor.xorK s b k i) < M64
    split
    · exact xor_lt (h.xorK k i hi) (Nat.mod_lt _ (by decide))
    · exact h.xorK k i hi
theorem StW.abs {s b : Nat → Nat} (h : StW s) : StW (absS s b) := (h.xorK 136).perm
theorem StW.zero : StW zeroS := fun _ _ => (by decide : 0 < M64)
theorem StW.st (l : List UInt8) : ∀ k, StW (stK l k)
  | 0 => StW.zero
  | k + 1 => (StW.st l k).abs
theorem colS_congr {s t : Nat → Nat} (h : ∀ i, i < 25 → s i = t i) {x : Nat} (hx : x < 5) : colS s x = colS t x := by
  unfold colS; rw [h x (by omega), h (x + 5) (by omega), h (x + 10) (by omega), h (x + 15) (by omega), h (x + 20) (by omega)]
theorem dS_congr {s t : Nat → Nat} (h : ∀ i, i < 25 → s i = t i) (x : Nat) : dS s x = dS t x := by
  unfold dS; rw [colS_congr h (Nat.mod_lt _ (by decide)), colS_congr h (Nat.mod_lt _ (by decide))]
theorem movS_congr {s t : Nat → Nat} (h : ∀ i, i < 25 → s i = t i) (i : Nat) (hi : i < 25) : movS s i = movS t i := by
  unfold movS valS; rw [h _ (dst_src ⟨i, hi⟩).2, dS_congr h]
theorem chiS_congr {s t : Nat → Nat} (h : ∀ i, i < 25 → s i = t i) (i : Nat) (hi : i < 25) : chiS s i = chiS t i := by
  unfold chiS; rw [h i hi, h _ (by omega), h _ (by omega)]
theorem roundS_congr {s t : Nat → Nat} (h : ∀ i, i < 25 → s i = t i) (c i : Nat) (hi : i < 25) : roundS s c i = roundS t c i := by
  unfold roundS
  split
  · rw [chiS_congr (movS_congr h) 0 (by omega)]
  · exact chiS_congr (movS_congr h) i hi
def colK (s : Nat → Nat) : Nat → (Nat → Nat)
  | 0 => zeroS
  | k + 1 => fun x => if x = k % 5 then colK s k x ^^^ s k else colK s k x
theorem colK_end (s : Nat → Nat) : ∀ x, x < 5 → colK s 25 x = colS s x := by
  intro x hx
  match x, hx with
  | 0, _ => simp [colK, colS, zeroS]
  | 1, _ => simp [colK, colS, zeroS]
  | 2, _ => simp [colK, colS, zeroS]
  | 3, _ => simp [colK, colS, zeroS]
  | 4, _ => simp [colK, colS, zeroS]
theorem colK_lt {s : Nat → Nat} (h : StW s) : ∀ k, k ≤ 25 → ∀ x, colK s k x < M64
  | 0, _, x => by show 0 < M64; decide
  | k + 1, hk, x => by
    show (if x = k % 5 then colK s k x ^^^ s k else colK s k x) < M64
    split
    · exact xor_lt (colK_lt h k (by omega) x) (h k (by omega))
    · exact colK_lt h k (by omega) x
end Go.Proofs.YtfeknjpinboknaaGreatDoor

namespace Go.Proofs.YtfeknjpinboknaaGreatDoor
open Go Go.RowKit Go.Joins Go.Shelf
set_option linter.unusedSimpArgs false
set_option linter.unusedVariables false

theorem shl_val (w n : Nat) : IntKind.u64.wrap ((w : Int) * 2 ^ n) = ((w * 2 ^ n % M64 : Nat) : Int) := by
  rw [IntKind.wrap_u64, Int.natCast_emod, Int.natCast_mul, Int.natCast_pow]; rfl
theorem shr_val (w n : Nat) : (w : Int) / 2 ^ n = ((w / 2 ^ n : Nat) : Int) := by
  rw [Int.natCast_ediv, Int.natCast_pow]; rfl
theorem rot_val (w n : Nat) (hw : w < M64) : bits BinOp.or IntKind.u64 (IntKind.u64.wrap ((w : Int) * 2 ^ n)) ((w : Int) / 2 ^ (64 - n)) = (rotN w n : Int) := by
  rw [shl_val, shr_val, bits_or_u64_nat _ _ (Nat.mod_lt _ (by decide)) (Nat.lt_of_le_of_lt (Nat.div_le_self _ _) hw)]; rfl
theorem and63 (n : Nat) (h : n < 64) : bits BinOp.and IntKind.u64 (n : Int) 63 = (n : Int) := by
  have := bits_and_u64_nat n 63 (by omega) (by decide)
  rw [show ((63 : Nat) : Int) = 63 from rfl] at this
  rw [this, show (63 : Nat) = 2 ^ 6 - 1 from rfl, Nat.and_two_pow_sub_one_eq_mod, Nat.mod_eq_of_lt (by omega)]
theorem rot_any (w0 n : Nat) (hw : w0 < M64) (hn : n < 64) (w : World) : Calls Tryz.prog 121 #[.int .u64 (w0 : Int), .int .i64 (n : Int)] w fun e w' => e = .returned (.int .u64 (rotN w0 n : Int)) ∧ w' = w := by
  have hr := rot_val w0 n hw
  go_enter Tryz.func121, Tryz.ntmps121
  go_wp2
  go_ret
  exact ⟨rfl, rfl⟩
theorem rotl_any (w0 n : Nat) (hw : w0 < M64) (hn : n < 64) (w : World) : Calls Tryz.prog 136 #[.int .u64 (w0 : Int), .int .i64 (n : Int)] w fun e w' => e = .returned (.int .u64 (rotN w0 n : Int)) ∧ w' = w := by
  have hr := rot_val w0 n hw
  have ha := and63 n hn
  go_enter Tryz.func136, Tryz.ntmps136
  go_wp2
  go_ret
  exact ⟨rfl, rfl⟩
def offA : Array Value := (offL.map fun i : Nat => Value.int .i64 (i : Int)).toArray
def conA : Array Value := (conL.map fun i : Nat => Value.int .u64 (i : Int)).toArray
theorem offA_at (i : Nat) (h : i < 25) : offA[i]? = some (.int .i64 (offN i : Int)) := by
  rw [offA, List.getElem?_toArray, List.getElem?_map, List.getElem?_eq_getElem (show i < offL.length from h), offN, List.getD_eq_getElem?_getD, List.getElem?_eq_getElem (show i < offL.length from h)]; rfl
theorem conA_at (i : Nat) (h : i < 24) : conA[i]? = some (.int .u64 (conN i : Int)) := by
  rw [conA, List.getElem?_toArray, List.getElem?_map, List.getElem?_eq_getElem (show i < conL.length from h), conN, List.getD_eq_getElem?_getD, List.getElem?_eq_getElem (show i < conL.length from h)]; rfl
set_option maxRecDepth 100000 in
set_option maxHeartbeats 4000000 in
theorem offset_any (x y : Nat) (hx : x < 5) (hy : y < 5) (w : World) : Calls Tryz.prog 122 #[.int .i64 (x : Int), .int .i64 (y : Int)] w fun e w' => e = .returned (.int .i64 (offN (x + 5 * y) : Int)) ∧ New w w' := by
  have B := Blk.made w 3 offA
  have n1 := (New.refl w).alloc (.cells offA 3)
  have c0 : (w.alloc (.cells offA 3)).cell? ⟨w.heap.size, x + 5 * y, none⟩ = some (.int .i64 (offN (x + 5 * y) : Int)) := by
    exact B.cell' (x + 5 * y) _ (offA_at _ (by omega))
  have e1 : IntKind.i64.wrap (5 * (y : Int)) = 5 * (y : Int) := IntWalk.i64_in _ (by omega)
  have e2 : IntKind.i64.wrap ((x : Int) + 5 * (y : Int)) = ((x + 5 * y : Nat) : Int) := by rw [IntWalk.i64_in _ (by omega)]; omega
  have e3 : (0 : Int) ≤ ((x + 5 * y : Nat) : Int) := by omega
  have e4 : ((x + 5 * y : Nat) : Int) < 25 := by omega
  generalize offN (x + 5 * y) = o at *
  rw [show offA = #[.int .i64 0, .int .i64 1, .int .i64 62, .int .i64 28, .int .i64 27, .int .i64 36, .int .i64 44, .int .i64 6, .int .i64 55, .int .i64 20, .int .i64 3, .int .i64 10, .int .i64 43, .int .i64 25, .int .i64 39, .int .i64 41, .int .i64 45, .int .i64 15, .int .i64 21, .int .i64 8, .int .i64 18, .int .i64 2, .int .i64 61, .int .i64 56, .int .i64 14] from rfl] at c0 n1
  go_enter Tryz.func122, Tryz.ntmps122
  go_wp2
  go_ret
  exact ⟨rfl, n1⟩
set_option maxRecDepth 100000 in
set_option maxHeartbeats 4000000 in
theorem constant_any (k : Nat) (hk : k < 24) (w : World) : Calls Tryz.prog 105 #[.int .i64 (k : Int)] w fun e w' => e = .returned (.int .u64 (conN k : Int)) ∧ New w w' := by
  have B := Blk.made w 107 conA
  have n1 := (New.refl w).alloc (.cells conA 107)
  have c0 : (w.alloc (.cells conA 107)).cell? ⟨w.heap.size, k, none⟩ = some (.int .u64 (conN k : Int)) := by
    exact B.cell' k _ (conA_at _ hk)
  have e3 : (0 : Int) ≤ (k : Int) := by omega
  have e4 : (k : Int) < 24 := by omega
  generalize conN k = o at *
  rw [show conA = #[.int .u64 1, .int .u64 32898, .int .u64 9223372036854808714, .int .u64 9223372039002292224, .int .u64 32907, .int .u64 2147483649, .int .u64 9223372039002292353, .int .u64 9223372036854808585, .int .u64 138, .int .u64 136, .int .u64 2147516425, .int .u64 2147483658, .int .u64 2147516555, .int .u64 9223372036854775947, .int .u64 9223372036854808713, .int .u64 9223372036854808579, .int .u64 9223372036854808578, .int .u64 9223372036854775936, .int .u64 32778, .int .u64 9223372039002259466, .int .u64 9223372039002292353, .int .u64 9223372036854808704, .int .u64 2147483649, .int .u64 9223372039002292232] from rfl] at c0 n1
  go_enter Tryz.func105, Tryz.ntmps105
  go_wp2
  go_ret
  exact ⟨rfl, n1⟩
end Go.Proofs.YtfeknjpinboknaaGreatDoor

