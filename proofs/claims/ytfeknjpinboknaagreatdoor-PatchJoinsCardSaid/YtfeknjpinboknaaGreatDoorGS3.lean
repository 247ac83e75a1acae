/- The reference's Round of SHA3. No conditions but the words' sizes. -/
import Derived.Test.YtfeknjpinboknaaGreatDoorGBase
import Derived.Test.YtfeknjpinboknaaGreatDoorGS1
import Derived.Test.YtfeknjpinboknaaGreatDoorGBase
import Derived.StillTailTactics
import Derived.BigQuiet
import Derived.Laws.Rows
import Derived.Laws.Tables
import Derived.Great.BuildSlice
import Derived.Laws.CopyOwn
import Derived.Deep.DeepCutAuto

namespace Go.Proofs.YtfeknjpinboknaaGreatDoor
open Go Go.RowKit Go.Joins Go.Shelf
set_option linter.unusedSimpArgs false
set_option linter.unusedVariables false

def wdA (n : Nat) (s : Nat → Nat) : Array Value := ((List.range n).map fun i => Value.int .u64 (s i : Int)).toArray
theorem wdA_size (n : Nat) (s : Nat → Nat) : (wdA n s).size = n := by simp [wdA]
theorem wdA_at (n : Nat) (s : Nat → Nat) (i : Nat) (h : i < n) : (wdA n s)[i]? = some (.int .u64 (s i : Int)) := by
  rw [wdA, List.getElem?_toArray, List.getElem?_map, List.getElem?_range h]; rfl
theorem wdA_ext {n : Nat} {s t : Nat → Nat} (h : ∀ i, i < n → s i = t i) : wdA n s = wdA n t := by
  unfold wdA; congr 1
  apply List.map_congr_left
  intro i hi
  rw [h i (List.mem_range.1 hi)]
abbrev Wd (w : World) (g t n : Nat) (s : Nat → Nat) : Prop := Blk w g t (wdA n s)
theorem Wd.at {w : World} {g t n : Nat} {s : Nat → Nat} (h : Wd w g t n s) {i : Nat} (hi : i < n) : w.cell? ⟨g, i, none⟩ = some (.int .u64 (s i : Int)) := h.cell' i _ (wdA_at n s i hi)
def putS (s : Nat → Nat) (i v : Nat) : Nat → Nat := fun j => if j = i then v else s j
theorem Wd.put {w : World} {g t n : Nat} {s : Nat → Nat} (h : Wd w g t n s) {i : Nat} (hi : i < n) (v : Nat) : Wd (w.setCell ⟨g, i, none⟩ (.int .u64 (v : Int))) g t n (putS s i v) := by
  refine (Blk.put h i _).same ?_
  apply Array.ext_getElem?
  intro j
  by_cases hj : j < n
  · rw [wdA_at n _ j hj]
    by_cases e : j = i
    · subst e
      rw [Array.getElem?_setIfInBounds_self_of_lt (by rw [wdA_size]; exact hj), putS, if_pos rfl]
    · rw [Array.getElem?_setIfInBounds_ne (fun q => e q.symm), wdA_at n s j hj, putS, if_neg e]
  · rw [Array.getElem?_eq_none (by rw [Array.size_setIfInBounds, wdA_size]; omega), Array.getElem?_eq_none (by rw [wdA_size]; omega)]
theorem Wd.ext {w : World} {g t n : Nat} {s s' : Nat → Nat} (h : Wd w g t n s) (e : ∀ i, i < n → s i = s' i) : Wd w g t n s' := h.same (wdA_ext e)
theorem zero25 : (#[.int .u64 0, .int .u64 0, .int .u64 0, .int .u64 0, .int .u64 0, .int .u64 0, .int .u64 0, .int .u64 0, .int .u64 0, .int .u64 0, .int .u64 0, .int .u64 0, .int .u64 0, .int .u64 0, .int .u64 0, .int .u64 0, .int .u64 0, .int .u64 0, .int .u64 0, .int .u64 0, .int .u64 0, .int .u64 0, .int .u64 0, .int .u64 0, .int .u64 0] : Array Value) = wdA 25 zeroS := rfl
theorem zero5 : (#[.int .u64 0, .int .u64 0, .int .u64 0, .int .u64 0, .int .u64 0] : Array Value) = wdA 5 zeroS := rfl
def tR (s : Nat → Nat) (x y : Nat) (p : Nat) : Nat := if srcN p % 5 < x ∨ srcN p % 5 = x ∧ srcN p / 5 < y then movS s p else 0
theorem tR_start (s : Nat → Nat) (p : Nat) : tR s 0 0 p = 0 := by unfold tR; rw [if_neg (by omega)]
theorem tR_next (s : Nat → Nat) {x : Nat} (hx : x < 5) {p : Nat} (hp : p < 25) : tR s x 5 p = tR s (x + 1) 0 p := by
  have h := (dst_src ⟨p, hp⟩).2
  simp only at h
  unfold tR
  by_cases e : srcN p % 5 < x + 1
  · rw [if_pos (by omega), if_pos (by omega)]
  · rw [if_neg (by omega), if_neg (by omega)]
theorem tR_end (s : Nat → Nat) {p : Nat} (hp : p < 25) : tR s 5 0 p = movS s p := by unfold tR; rw [if_pos (by omega)]
theorem tR_put (s : Nat → Nat) {x y : Nat} (hx : x < 5) (hy : y < 5) {p : Nat} (hp : p < 25) : putS (tR s x y) (y + 5 * ((2 * x + 3 * y) % 5)) (valS s (x + 5 * y)) p = tR s x (y + 1) p := by
  have h := dst_src ⟨p, hp⟩
  simp only at h
  have hd := src_dst ⟨x + 5 * y, by omega⟩
  simp only at hd
  have e1 : dstN (x + 5 * y) = y + 5 * ((2 * x + 3 * y) % 5) := by
    unfold dstN; rw [show (x + 5 * y) / 5 = y by omega, show (x + 5 * y) % 5 = x by omega]
  rw [e1] at hd
  unfold putS
  by_cases e : p = y + 5 * ((2 * x + 3 * y) % 5)
  · rw [if_pos e, tR, e, hd.1, if_pos (by omega), movS, hd.1]
  · rw [if_neg e]
    have hne : srcN p ≠ x + 5 * y := fun q => e (by rw [← h.1, q, e1])
    unfold tR
    by_cases e2 : srcN p % 5 < x ∨ srcN p % 5 = x ∧ srcN p / 5 < y
    · rw [if_pos e2, if_pos (by omega)]
    · rw [if_neg e2, if_neg (by omega)]
theorem off_lt : ∀ i : Fin 25, offN i.val < 64 := by decide
theorem Blk.drewN' {w : World} {g : Nat} {t : TypeId} {cs : Array Value} (h : Blk w g t cs) (n : Nat) : Blk (w.drewN n) g t cs := h
def cR (m : Nat → Nat) (x y : Nat) (p : Nat) : Nat := if p % 5 < x ∨ p % 5 = x ∧ p / 5 < y then chiS m p else 0
theorem cR_start (m : Nat → Nat) (p : Nat) : cR m 0 0 p = 0 := by unfold cR; rw [if_neg (by omega)]
theorem cR_next (m : Nat → Nat) {x : Nat} {p : Nat} (hp : p < 25) : cR m x 5 p = cR m (x + 1) 0 p := by
  unfold cR
  by_cases e : p % 5 < x + 1
  · rw [if_pos (by omega), if_pos (by omega)]
  · rw [if_neg (by omega), if_neg (by omega)]
theorem cR_end (m : Nat → Nat) {p : Nat} (hp : p < 25) : cR m 5 0 p = chiS m p := by unfold cR; rw [if_pos (by omega)]
theorem cR_put (m : Nat → Nat) {x y : Nat} (hx : x < 5) (hy : y < 5) {p : Nat} (hp : p < 25) : putS (cR m x y) (x + 5 * y) (m (x + 5 * y) ^^^ (notN (m ((x + 1) % 5 + 5 * y)) &&& m ((x + 2) % 5 + 5 * y))) p = cR m x (y + 1) p := by
  unfold putS
  by_cases e : p = x + 5 * y
  · subst e
    rw [if_pos rfl, cR, if_pos (by omega), chiS, show x + 5 * y - (x + 5 * y) % 5 + (x + 5 * y + 1) % 5 = (x + 1) % 5 + 5 * y by omega, show x + 5 * y - (x + 5 * y) % 5 + (x + 5 * y + 2) % 5 = (x + 2) % 5 + 5 * y by omega]
  · rw [if_neg e]
    unfold cR
    by_cases e2 : p % 5 < x ∨ p % 5 = x ∧ p / 5 < y
    · rw [if_pos e2, if_pos (by omega)]
    · rw [if_neg e2, if_neg (by omega)]
theorem notN_lt {w : Nat} (h : w < M64) : notN w < M64 := xor_lt (by decide) h
theorem not_val {w : Nat} (h : w < M64) : bits BinOp.xor IntKind.u64 IntKind.u64.max (w : Int) = (notN w : Int) := bits_xor_u64_nat 18446744073709551615 w (by decide) h
theorem info108s {n : Nat → Nat} : (Tryz.prog.info? 108).map (·.size) = some (wdA 25 n).size := by rw [wdA_size]; kernel_rfl
theorem wdA_one (n : Nat) (s : Nat → Nat) : (wdA n s).all (·.oneCell') = true := by
  rw [Array.all_eq_true]
  intro i hi
  have h : i < n := by rw [wdA_size] at hi; exact hi
  have := wdA_at n s i h
  rw [Array.getElem?_eq_getElem hi] at this
  injection this with this
  rw [this]; rfl
set_option maxRecDepth 100000 in
set_option maxHeartbeats 16000000 in
theorem rround_any (s : Nat → Nat) (c : Nat) (hs : StW s) (hc : c < M64) (w : World) : Calls Tryz.prog 104 #[.agg (wdA 25 s), .int .u64 (c : Int)] w fun e w' => e = .returned (.agg (wdA 25 (roundS s c))) ∧ New w w' := by
  have HS := Lib.hid hs
  obtain ⟨g, hg⟩ : ∃ g, w.heap.size = g := ⟨_, rfl⟩
  have HG := Lib.hid hg
  clear hg hs
  go_enter Tryz.func104, Tryz.ntmps104
  go_wp2
  rw [HG.out, zero25, zero5]
  have b1 : Wd (((w.alloc (.cells (wdA 25 s) 108)).alloc (.cells (wdA 25 zeroS) 108)).alloc (.cells (wdA 5 zeroS) 139)) g 108 25 s := by
    have := ((Blk.made w 108 (wdA 25 s)).alloc (.cells (wdA 25 zeroS) 108)).alloc (.cells (wdA 5 zeroS) 139)
    rw [HG.out] at this; exact this
  have b2 : Wd (((w.alloc (.cells (wdA 25 s) 108)).alloc (.cells (wdA 25 zeroS) 108)).alloc (.cells (wdA 5 zeroS) 139)) (g + 1) 108 25 zeroS := by
    have := (Blk.made (w.alloc (.cells (wdA 25 s) 108)) 108 (wdA 25 zeroS)).alloc (.cells (wdA 5 zeroS) 139)
    rw [World.size_alloc, HG.out] at this; exact this
  have b3 : Wd (((w.alloc (.cells (wdA 25 s) 108)).alloc (.cells (wdA 25 zeroS) 108)).alloc (.cells (wdA 5 zeroS) 139)) (g + 1 + 1) 139 5 zeroS := by
    have := Blk.made ((w.alloc (.cells (wdA 25 s) 108)).alloc (.cells (wdA 25 zeroS) 108)) 139 (wdA 5 zeroS)
    rw [World.size_alloc, World.size_alloc, HG.out] at this; exact this
  have n0 := (((New.refl w).alloc (.cells (wdA 25 s) 108)).alloc (.cells (wdA 25 zeroS) 108)).alloc (.cells (wdA 5 zeroS) 139)
  have hz0 : (((w.alloc (.cells (wdA 25 s) 108)).alloc (.cells (wdA 25 zeroS) 108)).alloc (.cells (wdA 5 zeroS) 139)).heap.size = g + 3 := by simp only [World.size_alloc]; rw [HG.out]
  generalize ((w.alloc (.cells (wdA 25 s) 108)).alloc (.cells (wdA 25 zeroS) 108)).alloc (.cells (wdA 5 zeroS) 139) = w1 at *
  go_loopw [6] (fun v6 wr => ∃ x : Nat, v6 = .int .i64 (x : Int) ∧ x ≤ 5 ∧ New w wr ∧ wr.heap.size = g + 3 ∧ Wd wr g 108 25 s ∧ Wd wr (g + 1) 108 25 zeroS ∧ Wd wr (g + 1 + 1) 139 5 (fun i => if i < x then colS s i else 0)) (fun v6 _ => 5 - (intOf v6).toNat)
  case atStart => exact ⟨0, rfl, by omega, n0, hz0, b1, b2, b3.ext (fun i _ => by simp [zeroS])⟩
  case round =>
    clear b1 b2 b3 n0 hz0
    obtain ⟨x, rfl, hx, hn, hz, q1, q2, q3⟩ := hrel
    by_cases hlt : x < 5
    · have x0 : (0 : Int) ≤ (x : Int) := by omega
      have x1 : (x : Int) < 25 := by omega
      have x2 : (x : Int) < 5 := by omega
      have av : IntKind.i64.wrap ((x : Int) + 5) = (x : Int) + 5 := IntWalk.i64_in _ (by omega)
      have aw : ((x : Int) + 5).toNat = x + 5 := by omega
      have aa : (0 : Int) ≤ (x : Int) + 5 := by omega
      have ab : (x : Int) + 5 < 25 := by omega
      have bv : IntKind.i64.wrap ((x : Int) + 10) = (x : Int) + 10 := IntWalk.i64_in _ (by omega)
      have bw : ((x : Int) + 10).toNat = x + 10 := by omega
      have ba : (0 : Int) ≤ (x : Int) + 10 := by omega
      have bb : (x : Int) + 10 < 25 := by omega
      have cv : IntKind.i64.wrap ((x : Int) + 15) = (x : Int) + 15 := IntWalk.i64_in _ (by omega)
      have cw : ((x : Int) + 15).toNat = x + 15 := by omega
      have ca : (0 : Int) ≤ (x : Int) + 15 := by omega
      have cb : (x : Int) + 15 < 25 := by omega
      have dv : IntKind.i64.wrap ((x : Int) + 20) = (x : Int) + 20 := IntWalk.i64_in _ (by omega)
      have dw : ((x : Int) + 20).toNat = x + 20 := by omega
      have da : (0 : Int) ≤ (x : Int) + 20 := by omega
      have db : (x : Int) + 20 < 25 := by omega
      have c0 := q1.at (i := x) (by omega)
      have c1 := q1.at (i := x + 5) (by omega)
      have c2 := q1.at (i := x + 10) (by omega)
      have c3 := q1.at (i := x + 15) (by omega)
      have c4 := q1.at (i := x + 20) (by omega)
      have c5 := q3.at (i := x) hlt
      have z5 := q3.free x
      have s0 := HS.out x (by omega)
      have s1 := HS.out (x + 5) (by omega)
      have s2 := HS.out (x + 10) (by omega)
      have s3 := HS.out (x + 15) (by omega)
      have s4 := HS.out (x + 20) (by omega)
      have y1 := bits_xor_u64_nat _ _ s0 s1
      have y2 := bits_xor_u64_nat _ _ (xor_lt s0 s1) s2
      have y3 := bits_xor_u64_nat _ _ (xor_lt (xor_lt s0 s1) s2) s3
      have y4 := bits_xor_u64_nat _ _ (xor_lt (xor_lt (xor_lt s0 s1) s2) s3) s4
      have HCOL : Hid (s x ^^^ s (x + 5) ^^^ s (x + 10) ^^^ s (x + 15) ^^^ s (x + 20) = colS s x) := Lib.hid rfl
      have Q1 := Lib.hid q1
      have Q2 := Lib.hid q2
      have Q3 := Lib.hid q3
      have HN := Lib.hid hn
      clear q1 q2 q3 s0 s1 s2 s3 s4 hn
      generalize s x ^^^ s (x + 5) ^^^ s (x + 10) ^^^ s (x + 15) ^^^ s (x + 20) = e4 at *
      generalize s x ^^^ s (x + 5) ^^^ s (x + 10) ^^^ s (x + 15) = e3 at *
      generalize s x ^^^ s (x + 5) ^^^ s (x + 10) = e2 at *
      generalize s x ^^^ s (x + 5) = e1 at *
      go_wp2
      go_still_tail 25, (by kernel_rfl)
      go_wp2
      go_roundw
      case rel =>
        have hne1 : g ≠ g + 1 + 1 := by omega
        have hne2 : g + 1 ≠ g + 1 + 1 := by omega
        exact ⟨x + 1, by go_num, by omega, (HN.out.setCell (p := ⟨g + 1 + 1, x, none⟩) (by rw [HG.out]; simp only; omega) _).drew, by rw [World.size_drew, World.size_setCell]; exact hz, (Q1.out.far (p := ⟨g + 1 + 1, x, none⟩) hne1 _).drew, (Q2.out.far (p := ⟨g + 1 + 1, x, none⟩) hne2 _).drew, (Wd.ext (Wd.put Q3.out hlt e4) (fun i hi => by
          show (if i = x then e4 else (if i < x then colS s i else 0)) = (if i < x + 1 then colS s i else 0)
          by_cases e : i = x
          · subst e; rw [if_pos rfl, if_pos (by omega), HCOL.out]
          · rw [if_neg e]
            by_cases e2 : i < x
            · rw [if_pos e2, if_pos (by omega)]
            · rw [if_neg e2, if_neg (by omega)])).drew⟩
      case measure => simp [intOf]; omega
    · obtain rfl : x = 5 := by omega
      have b4 := Blk.made wr 108 (wdA 25 zeroS)
      rw [hz] at b4
      have p1 := Blk.alloc q1 (.cells (wdA 25 zeroS) 108)
      have p2 := Blk.alloc q2 (.cells (wdA 25 zeroS) 108)
      have p3 : Wd _ (g + 1 + 1) 139 5 (colS s) := (Wd.ext q3 (fun i hi => by rw [if_pos hi])).alloc (.cells (wdA 25 zeroS) 108)
      have m1 := hn.alloc (.cells (wdA 25 zeroS) 108)
      clear q1 q2 q3 hn
      go_wp2
      (try rw [hz])
      rw [zero25]
      have hz4 : (wr.alloc (.cells (wdA 25 zeroS) 108)).heap.size = g + 4 := by rw [World.size_alloc, hz]
      generalize wr.alloc (.cells (wdA 25 zeroS) 108) = w2 at *
      go_loopw [8, 9, 10] (fun v8 v9 v10 wr2 => ∃ x : Nat, v8 = .int .i64 (x : Int) ∧ x ≤ 5 ∧ New w wr2 ∧ g + 4 ≤ wr2.heap.size ∧ Wd wr2 g 108 25 s ∧ Wd wr2 (g + 1) 108 25 zeroS ∧ Wd wr2 (g + 1 + 1) 139 5 (colS s) ∧ Wd wr2 (g + 3) 108 25 (tR s x 0)) (fun v8 _ _ _ => 5 - (intOf v8).toNat)
      case atStart => exact ⟨0, rfl, by omega, m1, by omega, p1, p2, p3, Wd.ext b4 (fun i hi => by rw [tR_start]; rfl)⟩
      case round =>
        clear p1 p2 p3 m1 hz4 b4 hz
        obtain ⟨x, rfl, hx, hn, hz, q1, q2, q3, q4⟩ := hrel
        obtain ⟨wo, rfl⟩ : ∃ wo : World, wo = wr := ⟨_, rfl⟩
        by_cases hlt : x < 5
        · have x0 : (0 : Int) ≤ (x : Int) := by omega
          have x2 : (x : Int) < 5 := by omega
          have a1 : IntKind.i64.wrap ((x : Int) + 4) = (x : Int) + 4 := IntWalk.i64_in _ (by omega)
          have a2 : ((x : Int) + 4) % 5 = (((x + 4) % 5 : Nat) : Int) := by omega
          have a3 : (0 : Int) ≤ (((x + 4) % 5 : Nat) : Int) := by omega
          have a4 : (((x + 4) % 5 : Nat) : Int) < 5 := by omega
          have b1 : IntKind.i64.wrap ((x : Int) + 1) = (x : Int) + 1 := IntWalk.i64_in _ (by omega)
          have b2 : ((x : Int) + 1) % 5 = (((x + 1) % 5 : Nat) : Int) := by omega
          have b3 : (0 : Int) ≤ (((x + 1) % 5 : Nat) : Int) := by omega
          have b4 : (((x + 1) % 5 : Nat) : Int) < 5 := by omega
          have c4 := q3.at (i := (x + 4) % 5) (by omega)
          have c1 := q3.at (i := (x + 1) % 5) (by omega)
          have l4 : colS s ((x + 4) % 5) < M64 := HS.out.col (by omega)
          have l1 : colS s ((x + 1) % 5) < M64 := HS.out.col (by omega)
          have CC := Lib.hid (fun W => rot_any (colS s ((x + 1) % 5)) 1 l1 (by omega) W)
          have y1 := bits_xor_u64_nat _ _ l4 (rot_lt 1 l1)
          have HD : Hid (colS s ((x + 4) % 5) ^^^ rotN (colS s ((x + 1) % 5)) 1 = dS s x) := Lib.hid rfl
          have Q1 := Lib.hid q1
          have Q2 := Lib.hid q2
          have Q3 := Lib.hid q3
          have Q4 := Lib.hid q4
          have HN := Lib.hid hn
          clear q1 q2 q3 q4 hn l4 l1
          generalize colS s ((x + 4) % 5) ^^^ rotN (colS s ((x + 1) % 5)) 1 = dv at *
          generalize rotN (colS s ((x + 1) % 5)) 1 = rv at *
          generalize colS s ((x + 1) % 5) = cv1 at *
          generalize colS s ((x + 4) % 5) = cv4 at *
          generalize (x + 1) % 5 = i1 at *
          generalize (x + 4) % 5 = i4 at *
          go_wp2
          go_quiet ((go_at_call 121; exact Calls.quiet_of_same (CC.out _)))
          go_wp2
          clear a1 a2 b1 b2
          go_loopw [10] (fun v10 wr3 => ∃ y : Nat, v10 = .int .i64 (y : Int) ∧ y ≤ 5 ∧ New w wr3 ∧ g + 4 ≤ wr3.heap.size ∧ Wd wr3 g 108 25 s ∧ Wd wr3 (g + 1) 108 25 zeroS ∧ Wd wr3 (g + 1 + 1) 139 5 (colS s) ∧ Wd wr3 (g + 3) 108 25 (tR s x y)) (fun v10 _ => 5 - (intOf v10).toNat)
          case atStart => exact ⟨0, rfl, by omega, HN.out.drewN _, (show g + 4 ≤ wo.heap.size by omega), Blk.drewN' Q1.out _, Blk.drewN' Q2.out _, Blk.drewN' Q3.out _, Blk.drewN' Q4.out _⟩
          case round =>
            clear Q1 Q2 Q3 Q4 HN hz
            obtain ⟨y, rfl, hy, hn, hz, q1, q2, q3, q4⟩ := hrel
            by_cases hlty : y < 5
            · have y0 : (0 : Int) ≤ (y : Int) := by omega
              have y2 : (y : Int) < 5 := by omega
              have d1 : IntKind.i64.wrap (2 * (x : Int)) = 2 * (x : Int) := IntWalk.i64_in _ (by omega)
              have d2 : IntKind.i64.wrap (3 * (y : Int)) = 3 * (y : Int) := IntWalk.i64_in _ (by omega)
              have d3 : IntKind.i64.wrap (2 * (x : Int) + 3 * (y : Int)) = 2 * (x : Int) + 3 * (y : Int) := IntWalk.i64_in _ (by omega)
              have d4 : (2 * (x : Int) + 3 * (y : Int)) % 5 = (((2 * x + 3 * y) % 5 : Nat) : Int) := by omega
              have d4t : (2 * (x : Int) + 3 * (y : Int)).tmod 5 = (((2 * x + 3 * y) % 5 : Nat) : Int) := by rw [Int.tmod_eq_emod_of_nonneg (by omega)]; omega
              have HZ : (2 * x + 3 * y) % 5 < 5 := Nat.mod_lt _ (by decide)
              have hput := fun (p : Nat) (hp : p < 25) => tR_put s hlt hlty hp
              have hv : valS s (x + 5 * y) = rotN (s (x + 5 * y) ^^^ dv) (offN (x + 5 * y)) := by unfold valS; rw [show (x + 5 * y) % 5 = x by omega, HD.out]
              rw [hv] at hput
              have HPUT := Lib.hid hput
              have ho : offN (x + 5 * y) < 64 := off_lt ⟨x + 5 * y, by omega⟩
              have hsx := HS.out (x + 5 * y) (by omega)
              have hdv : dv < M64 := by rw [HD.out]; exact HS.out.d x
              have e1 := bits_xor_u64_nat _ _ hsx hdv
              have CO := Lib.hid (fun W => offset_any x y hlt hlty W)
              have CR := Lib.hid (fun W => rot_any (s (x + 5 * y) ^^^ dv) (offN (x + 5 * y)) (xor_lt hsx hdv) ho W)
              have c0 := q1.at (i := x + 5 * y) (by omega)
              clear hput hv ho hsx hdv
              generalize (2 * x + 3 * y) % 5 = zz at *
              have d5 : IntKind.i64.wrap (5 * (zz : Int)) = 5 * (zz : Int) := IntWalk.i64_in _ (by omega)
              have d6 : IntKind.i64.wrap ((y : Int) + 5 * (zz : Int)) = ((y + 5 * zz : Nat) : Int) := by rw [IntWalk.i64_in _ (by omega)]; omega
              have d7 : (0 : Int) ≤ ((y + 5 * zz : Nat) : Int) := by omega
              have d8 : ((y + 5 * zz : Nat) : Int) < 25 := by omega
              have d9 : IntKind.i64.wrap (5 * (y : Int)) = 5 * (y : Int) := IntWalk.i64_in _ (by omega)
              have dA : IntKind.i64.wrap ((x : Int) + 5 * (y : Int)) = ((x + 5 * y : Nat) : Int) := by rw [IntWalk.i64_in _ (by omega)]; omega
              have dB : (0 : Int) ≤ ((x + 5 * y : Nat) : Int) := by omega
              have dC : ((x + 5 * y : Nat) : Int) < 25 := by omega
              have Q1 := Lib.hid q1
              have Q2 := Lib.hid q2
              have Q3 := Lib.hid q3
              have Q4 := Lib.hid q4
              have HN := Lib.hid hn
              clear q1 q2 q3 q4 hn
              generalize hpi : x + 5 * y = pi at *
              generalize hpd : y + 5 * zz = pd at *
              have hpi2 : pi < 25 := by omega
              have hpd2 : pd < 25 := by omega
              generalize rotN (s pi ^^^ dv) (offN pi) = nv at *
              generalize s pi ^^^ dv = xv at *
              go_upto_region 14 with (fail)
              refine wp_region_held_drew (S := (fun Y : World => Y.cell? ⟨g, pi, none⟩ = some (.int .u64 (s pi : Int)))) (by kernel_rfl) (c0) (fun hS => ?_)
              refine tkT 0 (v := ?v1) hS (fun wq hSq => ?y1) ?_; (case y1 => clear hSq; go_simp; (try with_reducible rfl)); simp only [Act.put, gqD, gqE, gqF]
              refine tkT 1 (v := ?v2) hS (fun wq hSq => ?y2) ?_; (case y2 => clear hSq; go_simp; (try with_reducible rfl)); simp only [Act.put, gqD, gqE, gqF]
              refine tkT 2 (v := ?v3) hS (fun wq hSq => ?y3) ?_; (case y3 => clear hSq; go_simp; (try with_reducible rfl)); simp only [Act.put, gqD, gqE, gqF]
              refine tkT 3 (v := ?v4) hS (fun wq hSq => ?y4) ?_; (case y4 => clear hSq; go_simp; (try with_reducible rfl)); simp only [Act.put, gqD, gqE, gqF]
              refine tkT 4 (v := ?v5) hS (fun wq hSq => ?y5) ?_; (case y5 => clear hSq; go_simp; (try with_reducible rfl)); simp only [Act.put, gqD, gqE, gqF]
              refine tkT 5 (v := ?v6) hS (fun wq hSq => ?y6) ?_; (case y6 => clear hSq; go_simp; (try with_reducible rfl)); simp only [Act.put, gqD, gqE, gqF]
              refine tkT 6 (v := ?v7) hS (fun wq hSq => ?y7) ?_; (case y7 => clear hSq; go_simp; (try with_reducible rfl)); simp only [Act.put, gqD, gqE, gqF]
              refine tkT 7 (v := ?v8) hS (fun wq hSq => ?y8) ?_; (case y8 => clear hSq; go_simp; (try with_reducible rfl)); simp only [Act.put, gqD, gqE, gqF]
              refine tkT 8 (v := ?v9) hS (fun wq hSq => ?y9) ?_; (case y9 => clear hSq; go_simp; (try with_reducible rfl)); simp only [Act.put, gqD, gqE, gqF]
              refine tkT 9 (v := ?v10) hS (fun wq hSq => ?y10) ?_; (case y10 => clear hSq; go_simp; (try with_reducible rfl)); simp only [Act.put, gqD, gqE, gqF]
              refine tkT 10 (v := ?v11) hS (fun wq hSq => ?y11) ?_; (case y11 => clear hSq; go_simp; (try with_reducible rfl)); simp only [Act.put, gqD, gqE, gqF]
              refine tkT 11 (v := ?v12) hS (fun wq hSq => ?y12) ?_; (case y12 => clear hSq; go_simp; (try with_reducible rfl)); simp only [Act.put, gqD, gqE, gqF]
              refine tkT 12 (v := ?v13) hS (fun wq hSq => ?y13) ?_; (case y13 => clear hSq; go_simp; (try with_reducible rfl)); simp only [Act.put, gqD, gqE, gqF]
              refine tkT 13 (v := ?v14) hS (fun wq hSq => ?y14) ?_; (case y14 => clear hSq; go_simp; (try with_reducible rfl)); simp only [Act.put, gqD, gqE, gqF]
              refine tkT 14 (v := ?v15) hS (fun wq hSq => ?y15) ?_; (case y15 => have hf0 := hSq; clear hSq; go_simp; (try with_reducible rfl)); simp only [Act.put, gqD, gqE, gqF]
              refine tkT 15 (v := ?v16) hS (fun wq hSq => ?y16) ?_; (case y16 => clear hSq; go_simp; (try with_reducible rfl)); simp only [Act.put, gqD, gqE, gqF]
              refine tkT 16 (v := ?v17) hS (fun wq hSq => ?y17) ?_; (case y17 => clear hSq; go_simp; (try with_reducible rfl)); simp only [Act.put, gqD, gqE, gqF]
              refine tkT 17 (v := ?v18) hS (fun wq hSq => ?y18) ?_; (case y18 => clear hSq; go_simp; (try with_reducible rfl)); simp only [Act.put, gqD, gqE, gqF]
              refine tkT 18 (v := ?v19) hS (fun wq hSq => ?y19) ?_; (case y19 => clear hSq; go_simp; (try with_reducible rfl)); simp only [Act.put, gqD, gqE, gqF]
              refine wpAnyH_ready (rs := [19]) (by kernel_rfl) (by simp) ?_
              refine AllReadyH.cons (o := ?oi20) ?hi20 (fun K hK => ?_) AllReadyH.nil
              case hi20 => (simp only [gqA, gqB, gqC]; rfl)
              go_simp
              with_reducible refine (CO.out _).mono ?_
              rintro e w5 ⟨rfl, n5⟩
              refine hK.out _ _ (Wd.at (Blk.new (Blk.drew Q1.out) n5) hpi2) (fun hS => ?_)
              clear hK K
              refine wpAnyH_ready (rs := [20]) (by kernel_rfl) (by simp) ?_
              refine AllReadyH.cons (o := ?oi21) ?hi21 (fun K hK => ?_) AllReadyH.nil
              case hi21 => (simp only [gqA, gqB, gqC]; rfl)
              go_simp
              with_reducible refine (CR.out _).mono ?_
              rintro e w6 ⟨rfl, rfl⟩
              have f1 := Wd.at (Blk.new (Blk.drew Q4.out) n5) hpd2
              have f2 := Blk.free (Blk.new (Blk.drew Q4.out) n5) pd
              refine hK.out _ _ (Wd.at (Blk.new (Blk.drew Q1.out) n5) hpi2) (fun hS => ?_)
              clear hK K
              refine tkT 21 (v := ?v22) hS (fun wq hSq => ?y22) ?_; (case y22 => clear hSq; go_simp; (try with_reducible rfl)); simp only [Act.put, gqD, gqE, gqF]
              refine wpAnyH_ready (rs := [22]) (by kernel_rfl) (by simp) ?_
              refine AllReadyH.cons (o := ?oi23) ?hi23 (fun K hK => ?_) AllReadyH.nil
              case hi23 => (simp only [gqA, gqB, gqC]; rfl)
              go_simp
              refine hK.out _ _ (Wd.at (Blk.far (p := ⟨g + 3, pd, none⟩) (Blk.new (Blk.drew Q1.out) n5) (by simp only; omega) _) hpi2) (fun hS => ?_)
              clear hK K
              refine wpAnyH_done (by kernel_rfl) ?_ _
              go_wp2
              go_roundw
              case rel =>
                have hg1 : g ≠ g + 3 := by omega
                have hg2 : g + 1 ≠ g + 3 := by omega
                have hg3 : g + 1 + 1 ≠ g + 3 := by omega
                (repeat apply Exists.intro)
                refine ⟨⟨y + 1, ?hv, by omega, ((HN.out.drew.trans n5).setCell (p := ⟨g + 3, pd, none⟩) (by rw [HG.out]; simp only; omega) _), (by rw [World.size_setCell]; have := n5.size; rw [World.size_drew] at this; omega), (Blk.new (Blk.drew Q1.out) n5).far (p := ⟨g + 3, pd, none⟩) hg1 _, (Blk.new (Blk.drew Q2.out) n5).far (p := ⟨g + 3, pd, none⟩) hg2 _, (Blk.new (Blk.drew Q3.out) n5).far (p := ⟨g + 3, pd, none⟩) hg3 _, Wd.ext (Wd.put (Blk.new (Blk.drew Q4.out) n5) hpd2 nv) (fun i hi => HPUT.out i hi)⟩, rfl⟩
                go_num
              case measure => (simp [intOf]; try omega)
            · obtain rfl : y = 5 := by omega
              go_wp2
              go_roundw
              case rel => exact ⟨x + 1, by go_num, by omega, hn, hz, q1, q2, q3, Wd.ext q4 (fun i hi => tR_next s hlt hi)⟩
              case measure => (simp [intOf]; try omega)
        · obtain rfl : x = 5 := by omega
          have Q1 := Lib.hid q1
          have p2 := Blk.alloc q2 (.cells (wdA 25 zeroS) 108)
          have p4 : Wd (wo.alloc (.cells (wdA 25 zeroS) 108)) (g + 3) 108 25 (movS s) := (Wd.ext q4 (fun i hi => tR_end s hi)).alloc (.cells (wdA 25 zeroS) 108)
          have m1 := hn.alloc (.cells (wdA 25 zeroS) 108)
          have b5 := Blk.made wo 108 (wdA 25 zeroS)
          obtain ⟨gO, hgO⟩ : ∃ gO, wo.heap.size = gO := ⟨_, rfl⟩
          rw [hgO] at b5 hz
          have HGO := Lib.hid hgO
          have HM : Hid (StW (movS s)) := Lib.hid HS.out.mov
          clear q1 q2 q3 q4 hn hgO
          go_wp2
          (try rw [HGO.out])
          rw [zero25]
          generalize wo.alloc (.cells (wdA 25 zeroS) 108) = w3 at *
          clear Q1
          go_loopw [12, 13] (fun v12 v13 wr4 => ∃ x : Nat, v12 = .int .i64 (x : Int) ∧ x ≤ 5 ∧ New w wr4 ∧ Wd wr4 (g + 1) 108 25 zeroS ∧ Wd wr4 (g + 3) 108 25 (movS s) ∧ Wd wr4 gO 108 25 (cR (movS s) x 0)) (fun v12 _ _ => 5 - (intOf v12).toNat)
          case atStart => exact ⟨0, rfl, by omega, m1, p2, p4, Wd.ext b5 (fun i hi => by rw [cR_start]; rfl)⟩
          case round =>
            clear p2 p4 m1 b5
            obtain ⟨x, rfl, hx, hn, q2, q4, q5⟩ := hrel
            obtain ⟨wq, rfl⟩ : ∃ wq : World, wq = wr := ⟨_, rfl⟩
            by_cases hlt : x < 5
            · have HN := Lib.hid hn
              have Q2 := Lib.hid q2
              have Q4 := Lib.hid q4
              have Q5 := Lib.hid q5
              clear hn q2 q4 q5
              go_wp2
              go_loopw [13] (fun v13 wr5 => ∃ y : Nat, v13 = .int .i64 (y : Int) ∧ y ≤ 5 ∧ New w wr5 ∧ Wd wr5 (g + 1) 108 25 zeroS ∧ Wd wr5 (g + 3) 108 25 (movS s) ∧ Wd wr5 gO 108 25 (cR (movS s) x y)) (fun v13 _ => 5 - (intOf v13).toNat)
              case atStart => exact ⟨0, rfl, by omega, HN.out, Q2.out, Q4.out, Q5.out⟩
              case round =>
                clear HN Q2 Q4 Q5
                obtain ⟨y, rfl, hy, hn, q2, q4, q5⟩ := hrel
                by_cases hlty : y < 5
                · have x0 : (0 : Int) ≤ (x : Int) := by omega
                  have y0 : (0 : Int) ≤ (y : Int) := by omega
                  have hp := fun (p : Nat) (hp : p < 25) => cR_put (movS s) hlt hlty hp
                  have HPUT := Lib.hid hp
                  have c0 := Wd.at q4 (i := x + 5 * y) (by omega)
                  have c1 := Wd.at q4 (i := (x + 1) % 5 + 5 * y) (by omega)
                  have c2 := Wd.at q4 (i := (x + 2) % 5 + 5 * y) (by omega)
                  have c5 := Wd.at q5 (i := x + 5 * y) (by omega)
                  have z5 := Blk.free q5 (x + 5 * y)
                  have l0 := HM.out (x + 5 * y) (by omega)
                  have l1 := HM.out ((x + 1) % 5 + 5 * y) (by omega)
                  have l2 := HM.out ((x + 2) % 5 + 5 * y) (by omega)
                  have d1 : IntKind.i64.wrap (5 * (y : Int)) = 5 * (y : Int) := IntWalk.i64_in _ (by omega)
                  have d2 : IntKind.i64.wrap ((x : Int) + 5 * (y : Int)) = ((x + 5 * y : Nat) : Int) := by rw [IntWalk.i64_in _ (by omega)]; omega
                  have d3 : IntKind.i64.wrap ((x : Int) + 1) = (x : Int) + 1 := IntWalk.i64_in _ (by omega)
                  have d4 : ((x : Int) + 1).tmod 5 = (((x + 1) % 5 : Nat) : Int) := by rw [Int.tmod_eq_emod_of_nonneg (by omega)]; omega
                  have d4' : ((x : Int) + 1) % 5 = (((x + 1) % 5 : Nat) : Int) := by omega
                  have d5 : IntKind.i64.wrap ((x : Int) + 2) = (x : Int) + 2 := IntWalk.i64_in _ (by omega)
                  have d6 : ((x : Int) + 2).tmod 5 = (((x + 2) % 5 : Nat) : Int) := by rw [Int.tmod_eq_emod_of_nonneg (by omega)]; omega
                  have d6' : ((x : Int) + 2) % 5 = (((x + 2) % 5 : Nat) : Int) := by omega
                  have h1 : (x + 1) % 5 < 5 := Nat.mod_lt _ (by decide)
                  have h2 : (x + 2) % 5 < 5 := Nat.mod_lt _ (by decide)
                  have Q2 := Lib.hid q2
                  have Q4 := Lib.hid q4
                  have Q5 := Lib.hid q5
                  have HN := Lib.hid hn
                  clear q2 q4 q5 hn hp
                  generalize (x + 1) % 5 = i1 at *
                  generalize (x + 2) % 5 = i2 at *
                  have d7 : IntKind.i64.wrap ((i1 : Int) + 5 * (y : Int)) = ((i1 + 5 * y : Nat) : Int) := by rw [IntWalk.i64_in _ (by omega)]; omega
                  have d8 : IntKind.i64.wrap ((i2 : Int) + 5 * (y : Int)) = ((i2 + 5 * y : Nat) : Int) := by rw [IntWalk.i64_in _ (by omega)]; omega
                  have e1 : (0 : Int) ≤ ((x + 5 * y : Nat) : Int) := by omega
                  have e2 : ((x + 5 * y : Nat) : Int) < 25 := by omega
                  have e3 : (0 : Int) ≤ ((i1 + 5 * y : Nat) : Int) := by omega
                  have e4 : ((i1 + 5 * y : Nat) : Int) < 25 := by omega
                  have e5 : (0 : Int) ≤ ((i2 + 5 * y : Nat) : Int) := by omega
                  have e6 : ((i2 + 5 * y : Nat) : Int) < 25 := by omega
                  have n1 := not_val l1
                  have n2 := bits_and_u64_nat _ _ (notN_lt l1) l2
                  have n3 := bits_xor_u64_nat _ _ l0 (and_lt (a := notN (movS s (i1 + 5 * y))) l2)
                  have hpd : x + 5 * y < 25 := by omega
                  clear l0 l1 l2
                  generalize movS s (x + 5 * y) ^^^ (notN (movS s (i1 + 5 * y)) &&& movS s (i2 + 5 * y)) = f3 at *
                  generalize notN (movS s (i1 + 5 * y)) &&& movS s (i2 + 5 * y) = f2 at *
                  generalize notN (movS s (i1 + 5 * y)) = f1 at *
                  generalize movS s (i1 + 5 * y) = u1 at *
                  generalize movS s (i2 + 5 * y) = u2 at *
                  generalize movS s (x + 5 * y) = u0 at *
                  generalize x + 5 * y = pd at *
                  generalize i1 + 5 * y = pd1 at *
                  generalize i2 + 5 * y = pd2 at *
                  go_wp2
                  go_still_tail 30, (by kernel_rfl)
                  go_wp2
                  go_roundw
                  case rel =>
                    have hg1 : g + 1 ≠ gO := by omega
                    have hg2 : g + 3 ≠ gO := by omega
                    exact ⟨y + 1, by go_num, by omega, (HN.out.setCell (p := ⟨gO, pd, none⟩) (by rw [HG.out]; simp only; omega) _).drew, (Q2.out.far (p := ⟨gO, pd, none⟩) hg1 _).drew, (Q4.out.far (p := ⟨gO, pd, none⟩) hg2 _).drew, (Wd.ext (Wd.put Q5.out hpd f3) (fun i hi => HPUT.out i hi)).drew⟩
                  case measure => (simp [intOf]; try omega)
                · obtain rfl : y = 5 := by omega
                  go_wp2
                  go_roundw
                  case rel => exact ⟨x + 1, by go_num, by omega, hn, q2, q4, Wd.ext q5 (fun i hi => cR_next _ hi)⟩
                  case measure => (simp [intOf]; try omega)
            · obtain rfl : x = 5 := by omega
              have q6 : Wd wq gO 108 25 (chiS (movS s)) := Wd.ext q5 (fun i hi => cR_end _ hi)
              have c0 := Wd.at q6 (i := 0) (by omega)
              have z0 := Blk.free q6 0
              have l0 := HM.out.chi 0 (by omega)
              have y1 := bits_xor_u64_nat _ _ l0 hc
              have q7 := Wd.ext (s' := roundS s c) (Wd.put q6 (i := 0) (by omega) (chiS (movS s) 0 ^^^ c)) (fun i hi => by
                unfold putS roundS
                by_cases e : i = 0
                · subst e; simp
                · simp [e])
              have hg1 : g + 1 ≠ gO := by omega
              have HQ7 := Lib.hid q7
              have HQ2 := Lib.hid (q2.far (p := ⟨gO, 0, none⟩) hg1 (.int .u64 ((chiS (movS s) 0 ^^^ c : Nat) : Int)))
              have HNN := Lib.hid (hn.setCell (p := ⟨gO, 0, none⟩) (by rw [HG.out]; simp only; omega) (.int .u64 ((chiS (movS s) 0 ^^^ c : Nat) : Int)))
              clear q2 q4 q5 q6 q7 hn l0
              generalize chiS (movS s) 0 ^^^ c = f0 at *
              generalize chiS (movS s) 0 = k0 at *
              go_upto_region 24 with (fail)
              generalize wq.setCell ⟨gO, 0, none⟩ (.int .u64 (f0 : Int)) = w5 at *
              have hsz : w5.heap[g + 1]? = some (.cells (wdA 25 zeroS) 108 (0, 0)) := HQ2.out
              go_step
              refine wpList_load_row rfl 108 (.tmp 11) rfl gO rfl 108 _ (0, 0) _ HQ7.out Tryz.underlying108 rfl info108s ?_
              refine wpList_store_rowTo rfl 108 (.tmp 4) (.tmp 128) rfl rfl (g + 1) (wdA 25 (roundS s c)) rfl rfl 108 _ hsz info108s (by rw [wdA_size, wdA_size]) (wdA_one 25 _) ?_
              have RB := setRow_heap w5 (g + 1) (wdA 25 zeroS) (wdA 25 (roundS s c)) 108 (0, 0) hsz
              have NB := below_setRow HNN.out (show w.heap.size ≤ g + 1 by rw [HG.out]; omega) (wdA 25 (roundS s c))
              generalize w5.setRow (g + 1) (wdA 25 (roundS s c)) = w6 at *
              go_wp2
              exact bodyPost_ret (v := .agg (wdA 25 (roundS s c))) (results_cell_row Tryz.results104 _ _ (g + 1) 108 _ (0, 0) _ rfl RB Tryz.underlying108 rfl info108s) rfl ⟨rfl, NB⟩
end Go.Proofs.YtfeknjpinboknaaGreatDoor

