/- The program's absorb of SHA3. Conditions: words, a whole block. The program's absorb of SHA3, walked. Conditions: words, a whole block. The program's Write of SHA3: plain steps. No conditions. -/
import Derived.Test.YtfeknjpinboknaaGreatDoorGS6
import Derived.Test.YtfeknjpinboknaaGreatDoorGW13

namespace Go.Proofs.YtfeknjpinboknaaGreatDoor
open Go Go.RowKit Go.Joins Go.Shelf
set_option linter.unusedSimpArgs false
set_option linter.unusedVariables false

abbrev SpB (w : World) (g : Nat) (s : Nat → Nat) (R : Array Value) : Prop := Blk w g 122 (wdA 25 s ++ R)
theorem SpB.at {w : World} {g : Nat} {s : Nat → Nat} {R : Array Value} (h : SpB w g s R) {i : Nat} (hi : i < 25) : w.cell? ⟨g, i, none⟩ = some (.int .u64 (s i : Int)) :=
  h.cell' i _ (by rw [Array.getElem?_append_left (by rw [wdA_size]; exact hi)]; exact wdA_at 25 s i hi)
theorem SpB.field {w : World} {g : Nat} {s : Nat → Nat} {R : Array Value} (h : SpB w g s R) {i : Nat} {v : Value} (hi : R[i]? = some v) : w.cell? ⟨g, 25 + i, none⟩ = some v :=
  h.cell' _ _ (by rw [Array.getElem?_append_right (by rw [wdA_size]; omega), wdA_size, Nat.add_sub_cancel_left]; exact hi)
theorem SpB.put {w : World} {g : Nat} {s : Nat → Nat} {R : Array Value} (h : SpB w g s R) {i : Nat} (hi : i < 25) (v : Nat) : SpB (w.setCell ⟨g, i, none⟩ (.int .u64 (v : Int))) g (putS s i v) R := by
  refine (Blk.put h i _).same ?_
  apply Array.ext_getElem?
  intro j
  by_cases hj : j < 25
  · rw [Array.getElem?_append_left (by rw [wdA_size]; exact hj), wdA_at 25 _ j hj]
    by_cases e : j = i
    · subst e
      rw [Array.getElem?_setIfInBounds_self_of_lt (by rw [Array.size_append, wdA_size]; omega), putS, if_pos rfl]
    · rw [Array.getElem?_setIfInBounds_ne (fun q => e q.symm), Array.getElem?_append_left (by rw [wdA_size]; exact hj), wdA_at 25 s j hj, putS, if_neg e]
  · rw [Array.getElem?_setIfInBounds_ne (by omega), Array.getElem?_append_right (by rw [wdA_size]; omega), Array.getElem?_append_right (by rw [wdA_size]; omega), wdA_size, wdA_size]
theorem SpB.ext {w : World} {g : Nat} {s s' : Nat → Nat} {R : Array Value} (h : SpB w g s R) (e : ∀ i, i < 25 → s i = s' i) : SpB w g s' R := h.same (by rw [wdA_ext e])
theorem spl_state (s s' : Nat → Nat) (R : Array Value) : spl (wdA 25 s ++ R) (wdA 25 s') 0 = wdA 25 s' ++ R := by
  unfold spl
  rw [List.take_zero, List.nil_append, wdA_size, Nat.zero_add, Array.toList_append, List.drop_append_of_le_length (by rw [Array.length_toList, wdA_size]; exact Nat.le_refl _), List.drop_of_length_le (by rw [Array.length_toList, wdA_size]; exact Nat.le_refl _), List.nil_append]
  apply Array.ext'
  simp
theorem grown_drew {w w' : World} {r : Option Nat} (h : w.grownBy w' r) : w.grownBy w'.drew r := ⟨h.os, h.tape, h.output, h.size, h.block⟩
theorem grown_new {w w' w2 : World} {r : Option Nat} (h : w.grownBy w' r) (hn : New w' w2) : w.grownBy w2 r := h.trans ((hn.grown_ none).but r)
theorem grown_self (w : World) (r : Option Nat) : w.grownBy w r := ⟨rfl, rfl, rfl, Nat.le_refl _, fun _ _ _ => rfl⟩
theorem setRow_grown (w : World) (g : Nat) (cs : Array Value) : w.grownBy (w.setRow g cs) (some g) := ⟨rfl, rfl, rfl, by rw [setRow_size]; exact Nat.le_refl _, fun k _ hne => setRow_other w g k cs (fun e => hne (by rw [e]))⟩
def byC (l : List UInt8) : List Value := l.map fun b => .int .u8 (b.toNat : Int)
theorem xorK_put (s b : Nat → Nat) (k j : Nat) : putS (xorK s b k) (k / 8) (xorK s b k (k / 8) ^^^ (b k * 2 ^ (8 * (k % 8)) % M64)) j = xorK s b (k + 1) j := by
  show (if j = k / 8 then _ else _) = (if j = k / 8 then xorK s b k j ^^^ _ else xorK s b k j)
  by_cases e : j = k / 8
  · rw [if_pos e, if_pos e, e]
  · rw [if_neg e, if_neg e]
theorem byteA_lt (l : List UInt8) (i : Nat) : byteA l i < 256 := by unfold byteA; exact UInt8.toNat_lt _
end Go.Proofs.YtfeknjpinboknaaGreatDoor

namespace Go.Proofs.YtfeknjpinboknaaGreatDoor
open Go Go.RowKit Go.Joins Go.Shelf
set_option linter.unusedSimpArgs false
set_option linter.unusedVariables false

set_option maxRecDepth 100000 in
set_option maxHeartbeats 16000000 in
theorem absorb_any (g : Nat) (A : Option Addr) (c : Nat) (s : Nat → Nat) (R : Array Value) (l : List UInt8) (w : World) (hs : StW s) (hB : SpB w g s R) (hr : Rd w 1 A 136 (byC l)) (hl : l.length = 136) (hne : ∀ b o, A = some ⟨b, o, none⟩ → b ≠ g) :
    Calls Tryz.prog 102 #[.pointer (some ⟨g, 0, none⟩), .slice A 136 c] w fun e w' => e = .returned (.tuple #[]) ∧ w.grownBy w' (some g) ∧ SpB w' g (absS s (byteA l)) R := by
  have HS := Lib.hid hs
  have HB := Lib.hid hB
  have HL := Lib.hid hl
  obtain ⟨b, o, rfl, hbl, hbc⟩ := hr.2 (by omega)
  have hbg := hne b o rfl
  have HC := Lib.hid (fun (k : Nat) (hk : k < 136) => hbc k (.int .u8 (byteA l k : Int)) (by rw [byC, List.getElem?_map, List.getElem?_eq_getElem (show k < l.length by omega), byteA, List.getD_eq_getElem?_getD, List.getElem?_eq_getElem (show k < l.length by omega)]; rfl))
  clear hs hB hr hl hne hbc
  go_enter Tryz.func102, Tryz.ntmps102
  go_wp2
  go_loopw [4, 7] (fun _ v7 wr => ∃ k : Nat, v7 = .int .i64 (k : Int) ∧ k ≤ 136 ∧ w.grownBy wr (some g) ∧ SpB wr g (xorK s (byteA l) k) R) (fun _ v7 _ => 136 - (intOf v7).toNat)
  case atStart => exact ⟨0, rfl, by omega, grown_self _ _, HB.out⟩
  case round =>
    obtain ⟨k, rfl, hk, hn, q⟩ := hrel
    by_cases hlt : k < 136
    · have k0 : (0 : Int) ≤ (k : Int) := by omega
      have k1 : (k : Int) < 136 := by omega
      have a1 : (k : Int) / 8 = ((k / 8 : Nat) : Int) := by omega
      have a2 : (k : Int).tdiv 8 = ((k / 8 : Nat) : Int) := by rw [Int.tdiv_eq_ediv_of_nonneg (by omega)]; omega
      have hq : k / 8 < 25 := by omega
      have a3 : (0 : Int) ≤ ((k / 8 : Nat) : Int) := by omega
      have a4 : ((k / 8 : Nat) : Int) < 25 := by omega
      have a5 : IntKind.i64.wrap ((k / 8 : Nat) : Int) = ((k / 8 : Nat) : Int) := IntWalk.i64_in _ (by omega)
      have b5 : IntKind.i64.wrap ((k % 8 : Nat) : Int) = ((k % 8 : Nat) : Int) := IntWalk.i64_in _ (by omega)
      have b1 : (k : Int) % 8 = ((k % 8 : Nat) : Int) := by omega
      have b2 : (k : Int).tmod 8 = ((k % 8 : Nat) : Int) := by rw [Int.tmod_eq_emod_of_nonneg (by omega)]; omega
      have hm : k % 8 < 8 := Nat.mod_lt _ (by decide)
      have b3 : IntKind.i64.wrap (8 * ((k % 8 : Nat) : Int)) = ((8 * (k % 8) : Nat) : Int) := by rw [IntWalk.i64_in _ (by omega)]; omega
      have b4 : (0 : Int) ≤ ((8 * (k % 8) : Nat) : Int) := by omega
      have hby := byteA_lt l k
      have c1 : IntKind.u64.wrap (byteA l k : Int) = (byteA l k : Int) := by rw [IntKind.wrap_u64]; omega
      have c2 := shl_val (byteA l k) (8 * (k % 8))
      have x0 : wr.cell? ⟨b, o + k, none⟩ = some (.int .u8 (byteA l k : Int)) := by rw [hn.cell_far ⟨b, o + k, none⟩ hbl (by simpa using hbg)]; exact HC.out k hlt
      have x1 := SpB.at q hq
      have z1 := Blk.free q (k / 8)
      have l0 := HS.out.xorK (b := byteA l) k (k / 8) hq
      have y1 := bits_xor_u64_nat _ _ l0 (show byteA l k * 2 ^ (8 * (k % 8)) % M64 < M64 from Nat.mod_lt _ (by decide))
      have HP := Lib.hid (fun j => xorK_put s (byteA l) k j)
      have Q := Lib.hid q
      have HN := Lib.hid hn
      clear q hn l0
      generalize xorK s (byteA l) k (k / 8) ^^^ (byteA l k * 2 ^ (8 * (k % 8)) % M64) = e2 at *
      generalize byteA l k * 2 ^ (8 * (k % 8)) % M64 = e1 at *
      generalize xorK s (byteA l) k (k / 8) = e0 at *
      generalize byteA l k = bv at *
      generalize k / 8 = kq at *
      generalize k % 8 = km at *
      go_wp2
      go_still_tail 20, (by kernel_rfl)
      go_wp2
      go_roundw
      case rel =>
        exact ⟨k + 1, by go_num, by omega, grown_drew (HN.out.trans (grown_set wr g kq (.int .u64 (e2 : Int)))), Blk.drew (SpB.ext (SpB.put Q.out hq e2) (fun i _ => HP.out i))⟩
      case measure => (simp [intOf]; try omega)
    · obtain rfl : k = 136 := by omega
      have CP := Lib.hid (fun W => permute_any (xorK s (byteA l) 136) (HS.out.xorK 136) W)
      obtain ⟨sx, hsx⟩ : ∃ sx, xorK s (byteA l) 136 = sx := ⟨_, rfl⟩
      obtain ⟨sp, hsp⟩ : ∃ sp, absS s (byteA l) = sp := ⟨_, rfl⟩
      have hpm : permS sx = sp := by rw [← hsx, ← hsp]; rfl
      rw [hsx] at q CP
      rw [hpm] at CP
      have HSP := Lib.hid hsp
      clear hsx hsp hpm
      obtain ⟨wo, rfl⟩ : ∃ wo : World, wo = wr := ⟨_, rfl⟩
      go_upto_region 5 with (fail)
      go_step
      iterate 4 (go_step; go_step; go_step)
      refine wpList_load_part rfl 108 (.tmp 34) rfl g 0 rfl 122 _ (wdA 25 sx) (0, 0) _ q (fun j u hj => ?_) rfl Tryz.underlying108 info108s ?_
      · rw [Array.getElem?_toList] at hj
        have hj25 : j < 25 := by have := (Array.getElem?_eq_some_iff.1 hj).1; rw [wdA_size] at this; exact this
        rw [Nat.zero_add, Array.getElem?_append_left (by rw [wdA_size]; exact hj25)]; exact hj
      go_wp2_with (fail)
      with_reducible refine (CP.out _).mono ?_
      rintro e w6 ⟨rfl, n6⟩
      rename_i K1 hK1
      show K1 _ w6
      have q6 := Blk.new q n6
      have hn6 := grown_new hn n6
      clear q hn n6
      go_step
      iterate 2 (go_step; go_step; go_step)
      refine wpList_store_part rfl 108 (.tmp 38) (.tmp 36) rfl rfl g 0 (wdA 25 sp) rfl rfl 122 _ q6 info108s (by rw [Array.size_append, wdA_size, wdA_size]; omega) (wdA_one 25 _) ?_
      rw [spl_state]
      have RB := setRow_heap w6 g _ (wdA 25 sp ++ R) 122 (0, 0) q6
      have NB := hn6.trans (setRow_grown w6 g (wdA 25 sp ++ R))
      generalize w6.setRow g (wdA 25 sp ++ R) = w7 at *
      clear q6 hn6
      go_wp2
      go_end0
      exact ⟨rfl, NB, by rw [HSP.out]; exact RB⟩
end Go.Proofs.YtfeknjpinboknaaGreatDoor

namespace Go.Proofs.YtfeknjpinboknaaGreatDoor
open Go Go.RowKit Go.Joins Go.Shelf
set_option linter.unusedSimpArgs false
set_option linter.unusedVariables false

theorem xorK_cong {s b b' : Nat → Nat} : ∀ k, (∀ i, i < k → b i = b' i) → xorK s b k = xorK s b' k
  | 0, _ => rfl
  | k + 1, h => by
    funext j
    show (if j = k / 8 then xorK s b k j ^^^ _ else xorK s b k j) = (if j = k / 8 then xorK s b' k j ^^^ _ else xorK s b' k j)
    rw [xorK_cong k (fun i hi => h i (by omega)), h k (by omega)]
theorem absS_cong {s b b' : Nat → Nat} (h : ∀ i, i < 136 → b i = b' i) : absS s b = absS s b' := by unfold absS; rw [xorK_cong 136 h]
theorem byteA_part (l : List UInt8) (o n i : Nat) (hi : i < n) : byteA ((l.drop o).take n) i = byteA l (o + i) := by
  unfold byteA
  rw [List.getD_eq_getElem?_getD, List.getD_eq_getElem?_getD, List.getElem?_take_of_lt hi, List.getElem?_drop]
theorem abs_step (l : List UInt8) (k : Nat) : absS (stK l k) (byteA ((l.drop (136 * k)).take 136)) = stK l (k + 1) := absS_cong (fun i hi => byteA_part l (136 * k) 136 i hi)
def spR (v : Value) (tk : Int) (sn : Nat → Nat) (tail sum : ByteArray) : Array Value := #[v, .int .i64 tk] ++ wdA 25 sn ++ #[.string tail, .string sum]
theorem spR_size (v : Value) (tk : Int) (sn : Nat → Nat) (tail sum : ByteArray) : (spR v tk sn tail sum).size = 29 := by simp [spR, wdA_size]
theorem spR_set0 (v v' : Value) (tk : Int) (sn : Nat → Nat) (tail sum : ByteArray) : (spR v tk sn tail sum).setIfInBounds 0 v' = spR v' tk sn tail sum := by
  simp [spR, Array.setIfInBounds_append]
theorem spR_set1 (v : Value) (tk tk' : Int) (sn : Nat → Nat) (tail sum : ByteArray) : (spR v tk sn tail sum).setIfInBounds 1 (.int .i64 tk') = spR v tk' sn tail sum := by
  simp [spR, Array.setIfInBounds_append]
theorem SpB.putF {w : World} {g : Nat} {s : Nat → Nat} {R : Array Value} (h : SpB w g s R) (i : Nat) (v : Value) : SpB (w.setCell ⟨g, 25 + i, none⟩ v) g s (R.setIfInBounds i v) := by
  refine (Blk.put h (25 + i) v).same ?_
  rw [Array.setIfInBounds_append, if_neg (by rw [wdA_size]; omega), wdA_size, Nat.add_sub_cancel_left]
set_option maxRecDepth 100000 in
theorem zeroSp : (#[.int .u64 0, .int .u64 0, .int .u64 0, .int .u64 0, .int .u64 0, .int .u64 0, .int .u64 0, .int .u64 0, .int .u64 0, .int .u64 0, .int .u64 0, .int .u64 0, .int .u64 0, .int .u64 0, .int .u64 0, .int .u64 0, .int .u64 0, .int .u64 0, .int .u64 0, .int .u64 0, .int .u64 0, .int .u64 0, .int .u64 0, .int .u64 0, .int .u64 0, .slice none 0 0, .int .i64 0,
  .int .u64 0, .int .u64 0, .int .u64 0, .int .u64 0, .int .u64 0, .int .u64 0, .int .u64 0, .int .u64 0, .int .u64 0, .int .u64 0, .int .u64 0, .int .u64 0, .int .u64 0, .int .u64 0, .int .u64 0, .int .u64 0, .int .u64 0, .int .u64 0, .int .u64 0, .int .u64 0, .int .u64 0, .int .u64 0, .int .u64 0, .int .u64 0, .int .u64 0, .string ⟨#[]⟩, .string ⟨#[]⟩] : Array Value) = wdA 25 zeroS ++ spR (.slice none 0 0) 0 zeroS ⟨#[]⟩ ⟨#[]⟩ := rfl
set_option maxRecDepth 100000 in
set_option maxHeartbeats 4000000 in
theorem new_any (w : World) : Calls Tryz.prog 77 #[] w fun e w' => e = .returned (.pointer (some ⟨w.heap.size, 0, none⟩)) ∧ w' = w.alloc (.cells (wdA 25 zeroS ++ spR (.slice none 0 0) 0 zeroS ⟨#[]⟩ ⟨#[]⟩) 122) := by
  rw [← zeroSp]
  go_enter Tryz.func77, Tryz.ntmps77
  go_wp2
  go_ret
  exact ⟨rfl, rfl⟩
end Go.Proofs.YtfeknjpinboknaaGreatDoor

