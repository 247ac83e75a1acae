/- The program's Sum of a sponge, walked. Conditions: words, a short rest. The program's Sum: SHA3-256 of a string. Conditions: the string's size. -/
import Derived.Test.YtfeknjpinboknaaGreatDoorGBase
import Derived.Test.YtfeknjpinboknaaGreatDoorGS12
import Derived.Laws.BytesString
import Derived.Test.YtfeknjpinboknaaGreatDoorGW1

namespace Go.Proofs.YtfeknjpinboknaaGreatDoor
open Go Go.RowKit Go.Joins Go.Shelf
set_option linter.unusedSimpArgs false
set_option linter.unusedVariables false

theorem spR_27 (v : Value) (tk : Int) (sn : Nat → Nat) (tail sum : ByteArray) : (spR v tk sn tail sum)[27]? = some (.string tail) := by
  rw [spR, Array.getElem?_append_right (by simp [wdA_size])]; simp [wdA_size]
theorem spR_28 (v : Value) (tk : Int) (sn : Nat → Nat) (tail sum : ByteArray) : (spR v tk sn tail sum)[28]? = some (.string sum) := by
  rw [spR, Array.getElem?_append_right (by simp [wdA_size])]; simp [wdA_size]
theorem SpB.f53 {w : World} {g : Nat} {s sn : Nat → Nat} {v : Value} {tk : Int} {tail sum : ByteArray} (h : SpB w g s (spR v tk sn tail sum)) : w.cell? ⟨g, 53, none⟩ = some (.string sum) := SpB.field (i := 28) h (spR_28 _ _ _ _ _)
theorem conv_rd {W : World} {A : Option Addr} {n : Nat} (c : Nat) {l : List UInt8} (hl : l.length = n) (hr : Rd W 1 A n (Lib.byteCells l)) : (convert 92 9 (.slice A n c)).run Tryz.prog W = .ok (.string (S l)) W := by
  by_cases h0 : 0 < n
  · exact conv_bytes W A n c l hl hr h0
  · obtain rfl : n = 0 := by omega
    obtain rfl : l = [] := List.eq_nil_of_length_eq_zero hl
    rw [run_convert_bytes_string W 92 9 5 _ 0 c Tryz.underlying92 Tryz.underlying5 Tryz.underlying9]
    cases A <;> simp [Conv.bytesToString, loadCells]
    all_goals rfl
theorem exec_load_part {P : Program} {ev : Operand → Value} {o : Oper} {w : World} (ty : TypeId) (x : Operand) (ho : o.op = .load ty x)
    (g of : Nat) (hx : ev x = .pointer (some ⟨g, of, none⟩)) (t : TypeId) (cur cs : Array Value) (fr : Nat × Nat) (d : TypeDesc) (hg : w.heap[g]? = some (.cells cur t fr)) (hc : ∀ (j : Nat) (u : Value), cs.toList[j]? = some u → cur[of + j]? = some u)
    (hd : (match d with | .struct _ | .array _ _ => true | _ => false) = true) (hu : P.underlying ty = some d) (hi : (P.info? ty).map (·.size) = some cs.size) : (execOp ev o).run P w = .ok (.value (.agg cs)) w := by
  unfold execOp
  simp only [ho, hx, Instr.loadAt, Instr.sureAddr, Sem.run_bind, Sem.run_pure, Result.andThen_ok, run_loadVar_part w g of t ty cur cs fr d hg hc hd hu hi]
theorem exec_conv {P : Program} {ev : Operand → Value} {o : Oper} {w : World} (src dst : TypeId) (x : Operand) (ho : o.op = .convert src dst x) (v v' : Value) (hx : ev x = v) (hr : (convert src dst v).run P w = .ok v' w) : (execOp ev o).run P w = .ok (.value v') w := by
  unfold execOp
  simp only [ho, hx, Sem.run_bind, hr, Result.andThen_ok, Sem.run_pure]
theorem step_store_part {P : Program} {w : World} {ops : Array Oper} {o : Oper} {a : Act} {K : Act → World → Prop} {Q : Exit → Act → World → Prop} {E : Prop} (hgd : o.guard = none) (ty : TypeId) (x y : Operand) (ho : o.op = .store ty x y) (hd : o.dst = none)
    (g of : Nat) (cells : Array Value) (hx : a.eval x = .pointer (some ⟨g, of, none⟩)) (hy : a.eval y = .agg cells)
    (t : TypeId) (cur : Array Value) (hg : w.heap[g]? = some (.cells cur t (0, 0))) (hi : (P.info? ty).map (·.size) = some cells.size)
    (hfit : of + cells.size ≤ cur.size) (h1 : cells.all (·.oneCell') = true)
    (h : K a (w.setRow g (spl cur cells of))) : if Region.wanted o (yielded ops a.tmps) = true then Oper.wp P o a w K Q else E := by
  have hw : Region.wanted o (yielded ops a.tmps) = true := by simp [Region.wanted, hgd]
  rw [if_pos hw]
  unfold Oper.wp execOp
  simp only [ho, hx, hy, Instr.storeAt, Instr.sureAddr, Sem.run_bind, Sem.run_pure, Result.andThen_ok, run_storeVar_part w g of t ty cur cells hg hi hfit h1]
  show K (a.put o.dst undef) _
  rw [hd]
  exact h
theorem spl_seen (s sn s' : Nat → Nat) (v : Value) (tk : Int) (tail sum : ByteArray) : spl (wdA 25 s ++ spR v tk sn tail sum) (wdA 25 s') 27 = wdA 25 s ++ spR v tk s' tail sum := by
  have h1 : (wdA 25 s).toList.length = 25 := by rw [Array.length_toList, wdA_size]
  have h2 : (wdA 25 sn).toList.length = 25 := by rw [Array.length_toList, wdA_size]
  unfold spl spR
  rw [wdA_size]
  apply Array.ext'
  simp only [Array.toList_append]
  generalize (wdA 25 s).toList = a at *
  generalize (wdA 25 sn).toList = b at *
  generalize (wdA 25 s').toList = c at *
  rw [show a ++ ([v, Value.int .i64 tk] ++ b ++ [.string tail, .string sum]) = (a ++ [v, .int .i64 tk]) ++ (b ++ [.string tail, .string sum]) by simp]
  rw [List.take_left' (by simp [h1]), show (a ++ [v, Value.int .i64 tk]) ++ (b ++ [.string tail, .string sum]) = (a ++ [v, .int .i64 tk] ++ b) ++ [.string tail, .string sum] by simp, List.drop_left' (by simp [h1, h2])]
  simp
theorem spR_set27 (v : Value) (tk : Int) (sn : Nat → Nat) (tail tail' sum : ByteArray) : (spR v tk sn tail sum).setIfInBounds 27 (.string tail') = spR v tk sn tail' sum := by
  simp [spR, Array.setIfInBounds_append, wdA_size]
theorem spR_set28 (v : Value) (tk : Int) (sn : Nat → Nat) (tail sum sum' : ByteArray) : (spR v tk sn tail sum).setIfInBounds 28 (.string sum') = spR v tk sn tail sum' := by
  simp [spR, Array.setIfInBounds_append, wdA_size]
def SumS (g go B : Nat) (s : Nat → Nat) (A : Option Addr) (n c : Nat) (r out : List UInt8) (Y : World) : Prop :=
  (∃ tk sn tl sm, SpB Y g s (spR (.slice A n c) tk sn tl sm)) ∧ Y.ownsRow B 5 1 (.slice A n c) n (Lib.byteCells r) ∧ Blk Y go 5 (Lib.byteCells out).toArray
theorem SumS.grow {g go B : Nat} {s : Nat → Nat} {A : Option Addr} {n c : Nat} {r out : List UInt8} {Y Y' : World} (h : SumS g go B s A n c r out Y) (hg : Y.grownBy Y' (some g)) (hne : go ≠ g) (hB : ∃ tk sn tl sm, SpB Y' g s (spR (.slice A n c) tk sn tl sm)) : SumS g go B s A n c r out Y' := by
  obtain ⟨⟨tk, sn, tl, sm, h1⟩, h2, h3⟩ := h
  exact ⟨hB, h2.kept hg (Or.inr (ne_kind (cs := []) h2 h1 (by decide))), (hg.block go (Blk.lt h3) (fun e => hne (by injection e))).trans h3⟩
theorem SumS.rd {g go B : Nat} {s : Nat → Nat} {A : Option Addr} {n c : Nat} {r out : List UInt8} {Y : World} (h : SumS g go B s A n c r out Y) (m : Nat) (hl : out.length = m) : Rd Y 1 A n (Lib.byteCells r) ∧ Rd Y 1 (some ⟨go, 0, none⟩) m (Lib.byteCells out) :=
  ⟨Rd.of_own h.2.1, by rw [Lib.byteCells_length, hl, Nat.mul_one], fun _ => ⟨go, 0, rfl, Blk.lt h.2.2, fun j u hj => by rw [Nat.zero_add]; exact h.2.2.cell' j u (by rw [List.getElem?_toArray]; exact hj)⟩⟩
def sumO (s : Nat → Nat) (r : List UInt8) : List UInt8 := (List.range 32).map fun i => UInt8.ofNat (outS (absS s (lastB r)) i)
def outK (s : Nat → Nat) (k : Nat) : List UInt8 := (List.range 32).map fun i => if i < k then UInt8.ofNat (outS s i) else 0
theorem outK_zero (s : Nat → Nat) : outK s 0 = List.replicate 32 0 := by
  apply List.ext_getElem
  · simp [outK]
  · intro i h1 h2
    simp only [outK, List.getElem_map, List.getElem_range, List.getElem_replicate]; rfl
theorem outK_len (s : Nat → Nat) (k : Nat) : (outK s k).length = 32 := by simp [outK]
theorem outK_end (s : Nat → Nat) : outK s 32 = (List.range 32).map fun i => UInt8.ofNat (outS s i) := by
  apply List.ext_getElem
  · simp [outK]
  · intro i h1 h2
    have : i < 32 := by simpa [outK] using h1
    simp [outK, this]
theorem outK_put (s : Nat → Nat) {k : Nat} (hk : k < 32) : (outK s k).set k (UInt8.ofNat (outS s k)) = outK s (k + 1) := by
  apply List.ext_getElem
  · simp [outK]
  · intro i h1 h2
    rw [List.getElem_set]
    simp only [outK, List.getElem_map, List.getElem_range]
    by_cases e : k = i
    · subst e; simp
    · rw [if_neg e]
      by_cases e2 : i < k
      · rw [if_pos e2, if_pos (by omega)]
      · rw [if_neg e2, if_neg (by omega)]
theorem outS_lt (s : Nat → Nat) (i : Nat) : outS s i < 256 := Nat.mod_lt _ (by decide)
set_option maxRecDepth 100000 in
set_option maxHeartbeats 16000000 in
theorem spsum_any (g B : Nat) (s : Nat → Nat) (V : Value) (tk : Int) (r : List UInt8) (w : World) (hs : StW s) (hB : SpB w g s (spR V tk zeroS ⟨#[]⟩ ⟨#[]⟩)) (hO : w.ownsRow B 5 1 V r.length (Lib.byteCells r)) (hr : r.length < 136) (hBg : B ≤ g) :
    Calls Tryz.prog 79 #[.pointer (some ⟨g, 0, none⟩)] w fun e w' => e = .returned (.string (S (sumO s r))) ∧ Below B w w' := by
  have HB := Lib.hid hB
  have HO := Lib.hid hO
  have f53 := SpB.f53 hB
  have hgl := Blk.lt hB
  have CL := Lib.hid (fun W (h : New w W) => clone_any g B s zeroS V tk ⟨#[]⟩ ⟨#[]⟩ r W (hB.new h) (own_new hO h) (by omega))
  clear hB hO
  go_enter Tryz.func79, Tryz.ntmps79
  go_upto_region 1 with (fail)
  go_quiet (fail)
  have hN := (New.refl w).drewN nq
  go_wp2_with (fail)
  have CL' := Lib.hid (CL.out _ hN)
  clear CL
  obtain ⟨gn, hgn⟩ : ∃ gn, (w.drewN nq).heap.size = gn := ⟨_, rfl⟩
  have hgn2 : g < gn := by rw [← hgn]; exact hgl
  rw [hgn] at CL'
  have hwn : w.heap.size = gn := hgn
  clear hgn
  generalize w.drewN nq = w0 at *
  with_reducible refine CL'.out.mono ?_
  rintro e w1 ⟨V1, rfl, S1, O1, n1⟩
  obtain ⟨A1, c1, rfl, hc1, _, hrd1⟩ := own_form O1
  have hb1 : New w w1 := hN.trans n1
  have hgs1 : gn < w1.heap.size := Blk.lt S1
  obtain ⟨gb, hgb⟩ : ∃ gb, w1.heap.size = gb := ⟨_, rfl⟩
  obtain ⟨Z, hZ⟩ : ∃ Z, List.replicate 136 (0 : UInt8) = Z := ⟨_, rfl⟩
  have hmk := run_mk136
  rw [hZ] at hmk
  have hz := heap_alloc_new w1 (.cells (Lib.byteCells Z).toArray 5)
  rw [hgb] at hz hgs1
  have HS2 := Lib.hid (Blk.alloc S1 (.cells (Lib.byteCells Z).toArray 5))
  have HR2 := Lib.hid (hrd1.alloc (.cells (Lib.byteCells Z).toArray 5))
  have HB2 := Lib.hid (hb1.alloc (.cells (Lib.byteCells Z).toArray 5))
  have f25 := SpB.f25 HS2.out
  have HGB := Lib.hid hgb
  have HWN := Lib.hid hwn
  have HZ := Lib.hid hZ
  clear S1 O1 n1 hrd1 hb1 f53 hgb hN hwn hgl hZ
  have hzl : Z.length = 136 := by rw [← HZ.out, List.length_replicate]
  go_wp2_with (refine wpList_copy_splice rfl _ _ 92 92 rfl 5 Tryz.underlying92 (by kernel_rfl) _ _ 136 136 r.length c1 rfl rfl gb 0 (Lib.byteCells Z) 5 hz (Lib.byteCells r) ?d1 ?d2 ?d3 ?d4 gb _ (Below.refl gb _) (Nat.le_refl _) ?_)
  case d1 => rw [Lib.byteCells_length]; exact (Nat.min_eq_left (by omega)).symm
  case d2 =>
    intro h0
    rw [Lib.byteCells_length] at h0
    obtain ⟨b5, o5, rfl, _, hc5⟩ := HR2.out.2 h0
    exact ⟨by rw [HGB.out], ⟨b5, o5, none⟩, rfl, fun j u hj => by rw [add_none rfl]; exact hc5 j u hj⟩
  case d3 => rw [Lib.byteCells_length, Lib.byteCells_length]; omega
  case d4 => (intro u hu; rw [Lib.byteCells] at hu; obtain ⟨x, _, rfl⟩ := List.mem_map.1 hu; rfl)
  intro w3 hz3 hbz
  have hbs : splice (Lib.byteCells Z) 0 (Lib.byteCells r) = Lib.byteCells (r ++ List.replicate (136 - r.length) 0) := by rw [← HZ.out]; exact bySplice r (by omega)
  rw [hbs] at hz3
  have hBgb : w.heap.size ≤ gb := by rw [HWN.out]; omega
  have HB3 := Lib.hid (show New w w3 from Below.trans (show Below w.heap.size w _ from HB2.out) (hbz.mono hBgb))
  have S3 : SpB w3 gn s (spR (.slice A1 r.length c1) tk zeroS ⟨#[]⟩ ⟨#[]⟩) := (hbz.block gn hgs1).trans HS2.out
  have B3 : Blk w3 gb 5 (Lib.byteCells (r ++ List.replicate (136 - r.length) 0)).toArray := hz3.out
  have hne : gn ≠ gb := by omega
  have B4 : Blk (w3.setCell ⟨gb, r.length, none⟩ (.int .u8 6)) gb 5 (Lib.byteCells (blkL r)).toArray := (B3.put r.length _).same (bySet _ _ 6)
  have S4 := Blk.far (p := ⟨gb, r.length, none⟩) S3 hne (.int .u8 6)
  have HB4 := Lib.hid (HB3.out.setCell (p := ⟨gb, r.length, none⟩) hBgb (.int .u8 6))
  have f3 := SpB.f25 S3
  obtain ⟨u3, c3⟩ : ∃ u, w3.cell? ⟨gb, r.length, none⟩ = some u := ⟨_, B3.cell' r.length _ (byAt _ _ (by simp; omega))⟩
  have z3 := Blk.free B3 r.length
  have r0 : (0 : Int) ≤ (r.length : Int) := by omega
  have r1 : (r.length : Int) < 136 := by omega
  have d4 : (w3.setCell ⟨gb, r.length, none⟩ (.int .u8 6)).cell? ⟨gb, 135, none⟩ = some (.int .u8 (byteA (blkL r) 135 : Int)) := B4.cell' 135 _ (byAt _ _ (by rw [blkL_len hr]; decide))
  have z4 := Blk.free B4 135
  have hx : bits BinOp.xor .u8 (byteA (blkL r) 135 : Int) 128 = ((((blkL r).getD 135 0 ^^^ 128 : UInt8)).toNat : Int) := by
    have h1 := blkL_at hr (show 135 < 136 by decide)
    have h2 : ((blkL r).getD 135 0 ^^^ 128 : UInt8).toNat = byteA (blkL r) 135 ^^^ 128 := by unfold byteA; simp [UInt8.toNat_xor]
    rw [h2, h1, if_neg (by omega)]
    split <;> decide
  have HB5 := Lib.hid (HB4.out.setCell (p := ⟨gb, 135, none⟩) hBgb (.int .u8 ((((blkL r).getD 135 0 ^^^ 128 : UInt8)).toNat : Int)))
  have B5 : Blk ((w3.setCell ⟨gb, r.length, none⟩ (.int .u8 6)).setCell ⟨gb, 135, none⟩ (.int .u8 ((((blkL r).getD 135 0 ^^^ 128 : UInt8)).toNat : Int))) gb 5 (Lib.byteCells (blkE r)).toArray := (B4.put 135 _).same (bySet _ _ _)
  have S5 := Blk.far (p := ⟨gb, 135, none⟩) S4 hne (.int .u8 ((((blkL r).getD 135 0 ^^^ 128 : UInt8)).toNat : Int))
  generalize (((blkL r).getD 135 0 ^^^ 128 : UInt8)).toNat = y5 at *
  have HBR := Lib.hid (blkE_len hr)
  have HAB := Lib.hid (absorb_any gn (some ⟨gb, 0, none⟩) 136 s _ (blkE r) _ hs S5 ⟨by rw [byC, List.length_map, blkE_len hr], fun _ => ⟨gb, 0, rfl, Blk.lt B5, fun j u hj => by rw [Nat.zero_add]; exact B5.cell' j u (by rw [List.getElem?_toArray]; exact hj)⟩⟩ (blkE_len hr) (fun b o e => by injection e with e; injection e with e1 e2; omega))
  rw [absS_cong (fun i hi => blkE_at hr hi)] at HAB
  have HG5 := Lib.hid hBgb
  clear hmk hz f25 hz3 hbz S3 B3 B4 S4 HB3 HB4 S5 B5 hbs HR2 HS2 HB2
  rw [HGB.out]
  go_wp2_with (fail)
  with_reducible refine HAB.out.mono ?_
  rintro e w6 ⟨rfl, g6, S6⟩
  have N6 : New w w6 := Below.grown HB5.out g6 (by have := HB5.out.size; omega) (fun q e => by injection e with e; rw [HWN.out]; omega)
  have SG := Lib.hid (HB.out.new N6)
  have OG := Lib.hid (own_new HO.out N6)
  obtain ⟨so, hso⟩ : ∃ so, absS s (lastB r) = so := ⟨_, rfl⟩
  rw [hso] at S6
  have HSO := Lib.hid hso
  have hmk := run_mk32
  obtain ⟨Y, hY⟩ : ∃ Y, List.replicate 32 (0 : UInt8) = Y := ⟨_, rfl⟩
  rw [hY] at hmk
  have HY := Lib.hid hY
  have N7 := Lib.hid (N6.alloc (.cells (Lib.byteCells Y).toArray 5))
  have S7 := Lib.hid (Blk.alloc S6 (.cells (Lib.byteCells Y).toArray 5))
  have O7 := Lib.hid (Blk.made w6 5 (Lib.byteCells Y).toArray)
  obtain ⟨go, hgo⟩ : ∃ go, w6.heap.size = go := ⟨_, rfl⟩
  rw [hgo] at O7
  have hgo2 : gn < go := by have := Blk.lt S6; rw [hgo] at this; exact this
  have HGO := Lib.hid hgo
  have HYL : Hid (Y.length = 32) := Lib.hid (by rw [← HY.out, List.length_replicate])
  have HSW : Hid (StW so) := Lib.hid (by rw [← HSO.out]; exact hs.abs)
  clear hgo g6 N6 S6 HAB HB5 hso
  go_wp2
  generalize w6.alloc (.cells (Lib.byteCells Y).toArray 5) = w7 at *
  rw [HGO.out]
  go_loopw [6, 66] (fun _ v66 wr => ∃ k : Nat, v66 = .int .i64 (k : Int) ∧ k ≤ 32 ∧ Below gn w7 wr ∧ SpB wr gn so (spR (.slice A1 r.length c1) tk zeroS ⟨#[]⟩ ⟨#[]⟩) ∧ Blk wr go 5 (Lib.byteCells (outK so k)).toArray) (fun _ v66 _ => 32 - (intOf v66).toNat)
  case atStart => exact ⟨0, rfl, by omega, Below.refl _ _, S7.out, O7.out.same (by rw [outK_zero, HY.out])⟩
  case round =>
    obtain ⟨k, rfl, hk, hn, q, qo⟩ := hrel
    by_cases hlt : k < 32
    · have k0 : (0 : Int) ≤ (k : Int) := by omega
      have k1 : (k : Int) < 32 := by omega
      have a1 : (k : Int) / 8 = ((k / 8 : Nat) : Int) := by omega
      have a2 : (k : Int).tdiv 8 = ((k / 8 : Nat) : Int) := by rw [Int.tdiv_eq_ediv_of_nonneg (by omega)]; omega
      have hq : k / 8 < 25 := by omega
      have a3 : (0 : Int) ≤ ((k / 8 : Nat) : Int) := by omega
      have a4 : ((k / 8 : Nat) : Int) < 25 := by omega
      have a5 : IntKind.i64.wrap ((k / 8 : Nat) : Int) = ((k / 8 : Nat) : Int) := IntWalk.i64_in _ (by omega)
      have b5 : IntKind.i64.wrap ((k % 8 : Nat) : Int) = ((k % 8 : Nat) : Int) := IntWalk.i64_in _ (by omega)
      have b1 : (k : Int) % 8 = ((k % 8 : Nat) : Int) := by omega
      have b2 : (k : Int).tmod 8 = ((k % 8 : Nat) : Int) := by rw [Int.tmod_eq_emod_of_nonneg (by omega)]; omega
      have hm : k % 8 < 8 := Nat.mod_lt _ (by decide)
      have b3 : IntKind.i64.wrap (8 * ((k % 8 : Nat) : Int)) = ((8 * (k % 8) : Nat) : Int) := by rw [IntWalk.i64_in _ (by omega)]; omega
      have b4 : (0 : Int) ≤ ((8 * (k % 8) : Nat) : Int) := by omega
      have c2 := shr_val (so (k / 8)) (8 * (k % 8))
      have c3 : IntKind.u8.wrap ((so (k / 8) / 2 ^ (8 * (k % 8)) : Nat) : Int) = (outS so k : Int) := by rw [IntKind.wrap_u8, outS]; omega
      have x1 := SpB.at q hq
      obtain ⟨u1, c1'⟩ : ∃ u, wr.cell? ⟨go, k, none⟩ = some u := ⟨_, qo.cell' k _ (byAt _ _ (by rw [outK_len]; exact hlt))⟩
      have z1 := Blk.free qo k
      have QG := Lib.hid (Blk.far (p := ⟨go, k, none⟩) q (show gn ≠ go by omega) (.int .u8 (outS so k : Int)))
      have hbs : ((UInt8.ofNat (outS so k)).toNat : Int) = (outS so k : Int) := by rw [UInt8.toNat_ofNat']; have := outS_lt so k; omega
      have QO := Lib.hid ((qo.put k (.int .u8 ((UInt8.ofNat (outS so k)).toNat : Int))).same (bySet _ k _))
      rw [outK_put so hlt, hbs] at QO
      have HN := Lib.hid (hn.setCell (p := ⟨go, k, none⟩) (show gn ≤ go by omega) (.int .u8 (outS so k : Int)))
      clear q qo hn hbs
      generalize so (k / 8) / 2 ^ (8 * (k % 8)) = e2 at *
      generalize outS so k = e1 at *
      generalize so (k / 8) = e0 at *
      generalize k / 8 = kq at *
      generalize k % 8 = km at *
      go_wp2
      go_roundw
      case rel => exact ⟨k + 1, by go_num, by omega, HN.out, QG.out, QO.out⟩
      case measure => (simp [intOf]; try omega)
    · obtain rfl : k = 32 := by omega
      have hN : Below w.heap.size w wr := Below.trans (show Below w.heap.size w w7 from N7.out) (show Below w.heap.size w7 wr from by rw [HWN.out]; exact hn)
      obtain ⟨A0, c0, rfl, hc0, _, _⟩ := own_form HO.out
      have SW := HB.out.new (show New w wr from hN)
      have OW := own_new HO.out (show New w wr from hN)
      obtain ⟨A0', c0', hf0, _, _, hrd0⟩ := own_form OW
      obtain ⟨rfl, rfl⟩ : A0 = A0' ∧ c0 = c0' := by injection hf0 with e1 e2 e3; exact ⟨e1, e3⟩
      have HSW2 := Lib.hid SW
      have HQO := Lib.hid qo
      have HOW := Lib.hid OW
      have HNB := Lib.hid hN
      have HOL : Hid ((outK so 32).length = 32) := Lib.hid (outK_len so 32)
      clear hn q qo hN SW OW hf0 hrd0
      go_upto_region 15 with (fail)
      have SI : SumS g go B s A0 r.length c0 r (outK so 32) wr.drew := ⟨⟨_, _, _, _, HSW2.out.drew⟩, HOW.out, HQO.out.drew⟩
      have hgg : go ≠ g := by omega
      refine wp_region_held_drew (S := (SumS g go B s A0 r.length c0 r (outK so 32))) (by kernel_rfl) (SI) (fun hS => ?_)
      refine tkT 0 (v := ?v2) hS (fun wq hSq => ?y2) ?_; (case y2 => clear hSq; go_simp; (try with_reducible rfl)); simp only [Act.put, gqD, gqE, gqF]
      refine tkT 1 (v := ?v3) hS (fun wq hSq => ?y3) ?_; (case y3 => clear hSq; go_simp; (try with_reducible rfl)); simp only [Act.put, gqD, gqE, gqF]
      refine tkT 2 (v := ?v4) hS (fun wq hSq => ?y4) ?_; (case y4 => clear hSq; go_simp; (try with_reducible rfl)); simp only [Act.put, gqD, gqE, gqF]
      refine tkT 3 (v := ?v5) hS (fun wq hSq => ?y5) ?_; (case y5 => clear hSq; go_simp; (try with_reducible rfl)); simp only [Act.put, gqD, gqE, gqF]
      refine tkT 4 (v := ?v6) hS (fun wq hSq => ?y6) ?_; (case y6 => clear hSq; go_simp; (try with_reducible rfl)); simp only [Act.put, gqD, gqE, gqF]
      refine tkT 5 (v := ?v7) hS (fun wq hSq => ?y7) ?_; (case y7 => clear hSq; go_simp; (try with_reducible rfl)); simp only [Act.put, gqD, gqE, gqF]
      refine tkT 6 (v := .agg (wdA 25 s)) hS (fun wq hSq => ?z6) ?_
      case z6 =>
        obtain ⟨⟨tk', sn', tl', sm', qs⟩, _, _⟩ := hSq
        refine exec_load_part 108 (.tmp 90) rfl g 0 (by rfl) 122 _ (wdA 25 s) (0, 0) _ qs (fun j u hj => ?_) rfl Tryz.underlying108 info108s
        rw [Array.getElem?_toList] at hj
        have hj25 : j < 25 := by have := (Array.getElem?_eq_some_iff.1 hj).1; rw [wdA_size] at this; exact this
        rw [Nat.zero_add, Array.getElem?_append_left (by rw [wdA_size]; exact hj25)]; exact hj
      simp only [Act.put, gqD, gqE, gqF]
      refine tkT 7 (v := ?v8) hS (fun wq hSq => ?y8) ?_; (case y8 => clear hSq; go_simp; (try with_reducible rfl)); simp only [Act.put, gqD, gqE, gqF]
      refine tkT 8 (v := ?v9) hS (fun wq hSq => ?y9) ?_; (case y9 => clear hSq; go_simp; (try with_reducible rfl)); simp only [Act.put, gqD, gqE, gqF]
      refine tkT 9 (v := ?v10) hS (fun wq hSq => ?y10) ?_; (case y10 => clear hSq; go_simp; (try with_reducible rfl)); simp only [Act.put, gqD, gqE, gqF]
      refine tkT 10 (v := .slice A0 r.length c0) hS (fun wq hSq => ?z10) ?_
      case z10 =>
        obtain ⟨⟨tk', sn', tl', sm', qs⟩, _, _⟩ := hSq
        have f25 := SpB.f25 qs
        go_simp
        (try with_reducible rfl)
      simp only [Act.put, gqD, gqE, gqF]
      refine tkT 11 (v := .string (S r)) hS (fun wq hSq => ?z11) ?_
      case z11 =>
        exact exec_conv 92 9 (.tmp 95) rfl (.slice A0 r.length c0) _ (by rfl) (conv_rd c0 rfl (hSq.rd 32 HOL.out).1)
      simp only [Act.put, gqD, gqE, gqF]
      refine tkT 12 (v := ?v11) hS (fun wq hSq => ?y11) ?_; (case y11 => clear hSq; go_simp; (try with_reducible rfl)); simp only [Act.put, gqD, gqE, gqF]
      refine tkT 13 (v := .string (S (outK so 32))) hS (fun wq hSq => ?z13) ?_
      case z13 =>
        exact exec_conv 92 9 (.tmp 97) rfl (.slice (some ⟨go, 0, none⟩) 32 32) _ (by rfl) (conv_rd 32 HOL.out (hSq.rd 32 HOL.out).2)
      simp only [Act.put, gqD, gqE, gqF]
      refine tkT 14 (v := ?v12) hS (fun wq hSq => ?y12) ?_; (case y12 => clear hSq; go_simp; (try with_reducible rfl)); simp only [Act.put, gqD, gqE, gqF]
      refine tkT 15 (v := ?v13) hS (fun wq hSq => ?y13) ?_; (case y13 => clear hSq; go_simp; (try with_reducible rfl)); simp only [Act.put, gqD, gqE, gqF]
      refine wpAnyH_ready (rs := [16]) (by kernel_rfl) (by simp) ?_
      refine AllReadyH.cons (o := ?oi1) ?hi1 (fun K hK => ?_) AllReadyH.nil
      case hi1 => (simp only [gqA, gqB, gqC]; rfl)
      refine step_store_part (by rfl) 108 (.tmp 100) (.tmp 91) (by rfl) (by rfl) g 27 (wdA 25 s) (by rfl) (by rfl) 122 _ HSW2.out.drew info108s (by rw [Array.size_append, wdA_size, spR_size]; decide) (wdA_one 25 _) ?_
      rw [spl_seen]
      have RA : SpB (wr.drew.setRow g (wdA 25 s ++ spR (.slice A0 r.length c0) tk s ⟨#[]⟩ ⟨#[]⟩)) g s (spR (.slice A0 r.length c0) tk s ⟨#[]⟩ ⟨#[]⟩) := setRow_heap _ g _ _ 122 (0, 0) HSW2.out.drew
      have NA : Below B w (wr.drew.setRow g (wdA 25 s ++ spR (.slice A0 r.length c0) tk s ⟨#[]⟩ ⟨#[]⟩)) := below_setRow ((HNB.out.mono (by have := Blk.lt HB.out; omega)).drew) hBg _
      have SA : SumS g go B s A0 r.length c0 r (outK so 32) (wr.drew.setRow g (wdA 25 s ++ spR (.slice A0 r.length c0) tk s ⟨#[]⟩ ⟨#[]⟩)) := hS.grow (setRow_grown _ _ _) hgg ⟨_, _, _, _, RA⟩
      generalize wr.drew.setRow g (wdA 25 s ++ spR (.slice A0 r.length c0) tk s ⟨#[]⟩ ⟨#[]⟩) = wA at *
      have c52 := SpB.field (i := 27) RA (spR_27 _ _ _ _ _)
      have z52 := Blk.free RA 52
      refine hK.out _ _ (SA) (fun hS => ?_)
      clear hK K
      refine tkT 17 (v := ?v14) hS (fun wq hSq => ?y14) ?_; (case y14 => clear hSq; go_simp; (try with_reducible rfl)); simp only [Act.put, gqD, gqE, gqF]
      refine tkT 18 (v := ?v15) hS (fun wq hSq => ?y15) ?_; (case y15 => clear hSq; go_simp; (try with_reducible rfl)); simp only [Act.put, gqD, gqE, gqF]
      refine wpAnyH_ready (rs := [19]) (by kernel_rfl) (by simp) ?_
      refine AllReadyH.cons (o := ?oi16) ?hi16 (fun K hK => ?_) AllReadyH.nil
      case hi16 => (simp only [gqA, gqB, gqC]; rfl)
      go_simp
      have RB := SpB.putF RA 27 (.string (S r))
      rw [spR_set27] at RB
      have NB := NA.setCell (p := ⟨g, 52, none⟩) hBg (.string (S r))
      have SB := SA.grow (grown_set wA g 52 (.string (S r))) hgg ⟨_, _, _, _, RB⟩
      refine hK.out _ _ (SB) (fun hS => ?_)
      clear hK K
      clear c52 z52 RA NA SA
      generalize wA.setCell ⟨g, 52, none⟩ (.string (S r)) = wB at *
      have c53 := SpB.field (i := 28) RB (spR_28 _ _ _ _ _)
      have z53 := Blk.free RB 53
      refine tkT 20 (v := ?v17) hS (fun wq hSq => ?y17) ?_; (case y17 => clear hSq; go_simp; (try with_reducible rfl)); simp only [Act.put, gqD, gqE, gqF]
      refine tkT 21 (v := ?v18) hS (fun wq hSq => ?y18) ?_; (case y18 => clear hSq; go_simp; (try with_reducible rfl)); simp only [Act.put, gqD, gqE, gqF]
      refine wpAnyH_ready (rs := [22]) (by kernel_rfl) (by simp) ?_
      refine AllReadyH.cons (o := ?oi19) ?hi19 (fun K hK => ?_) AllReadyH.nil
      case hi19 => (simp only [gqA, gqB, gqC]; rfl)
      go_simp
      have RC := SpB.putF RB 28 (.string (S (outK so 32)))
      rw [spR_set28] at RC
      have NC := NB.setCell (p := ⟨g, 53, none⟩) hBg (.string (S (outK so 32)))
      have SC := SB.grow (grown_set wB g 53 (.string (S (outK so 32)))) hgg ⟨_, _, _, _, RC⟩
      refine hK.out _ _ (SC) (fun hS => ?_)
      clear hK K
      clear c53 z53 RB NB SB SC
      generalize wB.setCell ⟨g, 53, none⟩ (.string (S (outK so 32))) = wC at *
      refine wpAnyH_done (by kernel_rfl) ?_ _
      have x53 := SpB.field (i := 28) RC (spR_28 _ _ _ _ _)
      clear hS
      go_wp2
      go_ret
      exact ⟨by rw [outK_end, ← HSO.out]; rfl, NC⟩
end Go.Proofs.YtfeknjpinboknaaGreatDoor

namespace Go.Proofs.YtfeknjpinboknaaGreatDoor
open Go Go.RowKit Go.Joins Go.Shelf
set_option linter.unusedSimpArgs false
set_option linter.unusedVariables false

def sumV (d : ByteArray) : ByteArray := S (sumL d.data.toList)
theorem sumV_size (d : ByteArray) : (sumV d).size = 32 := by rw [sumV, size_S, sumL_len]
theorem sumV_le (d : ByteArray) : (sumV d).size ≤ 1000000 := by rw [sumV_size]; decide
theorem sumO_eq {l : List UInt8} {k : Nat} (h1 : 136 * k ≤ l.length) (h2 : l.length < 136 * k + 136) : sumO (stK l k) (l.drop (136 * k)) = sumL l := by
  obtain rfl : k = l.length / 136 := by omega
  rfl
set_option maxRecDepth 100000 in
set_option maxHeartbeats 4000000 in
theorem sumC : SumC sumV := by
  intro d w hd
  obtain ⟨g, hg⟩ : ∃ g, w.heap.size = g := ⟨_, rfl⟩
  have HG := Lib.hid hg
  have n1 := (New.refl w).alloc (.cells (wdA 25 zeroS ++ spR (.slice none 0 0) 0 zeroS ⟨#[]⟩ ⟨#[]⟩) 122)
  have B1 := Blk.made w 122 (wdA 25 zeroS ++ spR (.slice none 0 0) 0 zeroS ⟨#[]⟩ ⟨#[]⟩)
  have hs1 : (w.alloc (.cells (wdA 25 zeroS ++ spR (.slice none 0 0) 0 zeroS ⟨#[]⟩ ⟨#[]⟩) 122)).heap.size = g + 1 := by rw [World.size_alloc, hg]
  rw [hg] at B1
  clear hg
  go_enter Tryz.func53, Tryz.ntmps53
  go_wp2_with (fail)
  refine (new_any w).mono ?_
  rintro e w1 ⟨rfl, rfl⟩
  rw [HG.out]
  generalize w.alloc (.cells (wdA 25 zeroS ++ spR (.slice none 0 0) 0 zeroS ⟨#[]⟩ ⟨#[]⟩) 122) = w1 at *
  have HW := Lib.hid (write_any g g d (some ⟨w1.heap.size, 0, none⟩) 1 (w1.alloc (.cells #[.string d] 9)) (Blk.alloc B1 _) (rd_new w1 (sCells [d]) 9 _ (by simp [sCells])) hd (Nat.le_refl _))
  rw [hs1] at HW
  have n2 := n1.alloc (.cells #[.string d] 9)
  clear B1
  go_wp2_with (fail)
  generalize w1.alloc (.cells #[.string d] 9) = w2 at *
  with_reducible refine HW.out.mono ?_
  rintro e w3 ⟨v, k, rfl, h1, h2, hS, hO, hW⟩
  have HSU := Lib.hid (spsum_any g g (stK d.data.toList k) v d.size (d.data.toList.drop (136 * k)) w3 (StW.st _ _) hS (own_len hO (by rw [List.length_drop]) rfl) (by rw [List.length_drop]; omega) (Nat.le_refl _))
  rw [sumO_eq h1 h2] at HSU
  have HN : Hid (New w w3) := Lib.hid (Below.trans (show Below w.heap.size w w2 from n2) (show Below w.heap.size w2 w3 from by rw [HG.out]; exact hW))
  clear hS hO hW HW
  go_wp2_with (fail)
  with_reducible refine HSU.out.mono ?_
  rintro e w4 ⟨rfl, hN4⟩
  have HNN : New w w4 := Below.trans (show Below w.heap.size w w3 from HN.out) (show Below w.heap.size w3 w4 from by rw [HG.out]; exact hN4)
  go_wp2
  go_ret
  exact ⟨rfl, HNN⟩
end Go.Proofs.YtfeknjpinboknaaGreatDoor

