/- The program's tables and Permute of SHA3. Conditions: words. The program's Permute of SHA3. Conditions: words. A part of a block loaded and stored as a whole array; the sponge's cells. No conditions. -/
import Derived.Test.YtfeknjpinboknaaGreatDoorGS5
import Derived.Laws.CopyRow

namespace Go.Proofs.YtfeknjpinboknaaGreatDoor
open Go Go.RowKit Go.Joins Go.Shelf
set_option linter.unusedSimpArgs false
set_option linter.unusedVariables false

theorem info153s : (Tryz.prog.info? 153).map (·.size) = some offA.size := by kernel_rfl
theorem info155s : (Tryz.prog.info? 155).map (·.size) = some conA.size := by kernel_rfl
theorem underl153 : Tryz.prog.underlying 153 = some (.array 25 3) := by kernel_rfl
theorem underl155 : Tryz.prog.underlying 155 = some (.array 24 107) := by kernel_rfl
theorem offA_one : offA.all (·.oneCell') = true := by kernel_rfl
theorem conA_one : conA.all (·.oneCell') = true := by kernel_rfl
set_option maxRecDepth 100000 in
set_option maxHeartbeats 16000000 in
theorem offsets_any (w : World) : Calls Tryz.prog 128 #[] w fun e w' => e = .returned (.agg offA) ∧ New w w' := by
  obtain ⟨g, hg⟩ : ∃ g, w.heap.size = g := ⟨_, rfl⟩
  have HG := Lib.hid hg
  clear hg
  go_enter Tryz.func128, Tryz.ntmps128
  go_upto_region 1 with (fail)
  rw [HG.out]
  have hsz := heap_alloc_new w (.cells (Array.replicate 25 (Value.int .i64 0)) 153)
  rw [HG.out] at hsz
  have n0 := (New.refl w).alloc (.cells (Array.replicate 25 (Value.int .i64 0)) 153)
  rw [show (Array.replicate 25 (Value.int .i64 0)) = #[.int .i64 0, .int .i64 0, .int .i64 0, .int .i64 0, .int .i64 0, .int .i64 0, .int .i64 0, .int .i64 0, .int .i64 0, .int .i64 0, .int .i64 0, .int .i64 0, .int .i64 0, .int .i64 0, .int .i64 0, .int .i64 0, .int .i64 0, .int .i64 0, .int .i64 0, .int .i64 0, .int .i64 0, .int .i64 0, .int .i64 0, .int .i64 0, .int .i64 0] from rfl] at hsz n0
  generalize w.alloc _ = w1 at *
  go_step
  refine wpList_buildFlatArrTo rfl 153 _ 25 _ rfl .i64 (offL.map fun i : Nat => (i : Int)) (some 1) rfl underl153 (by kernel_rfl) (by kernel_rfl) (by kernel_rfl) ?_
  rw [show ((offL.map fun i : Nat => (i : Int)).map (Value.int .i64)).toArray = offA from rfl]
  refine wpList_store_rowTo rfl 153 (.tmp 0) (.tmp 1) rfl rfl g offA rfl rfl 153 _ hsz info153s rfl offA_one ?_
  have RB := setRow_heap w1 g _ offA 153 (0, 0) hsz
  have NB := below_setRow n0 (show w.heap.size ≤ g by rw [HG.out]; exact Nat.le_refl _) offA
  generalize w1.setRow g offA = w2 at *
  clear hsz n0
  go_wp2
  exact bodyPost_ret (v := .agg offA) (results_cell_row Tryz.results128 _ _ g 153 _ (0, 0) _ rfl RB underl153 rfl info153s) rfl ⟨rfl, NB⟩
set_option maxRecDepth 100000 in
set_option maxHeartbeats 16000000 in
theorem constants_any (w : World) : Calls Tryz.prog 129 #[] w fun e w' => e = .returned (.agg conA) ∧ New w w' := by
  obtain ⟨g, hg⟩ : ∃ g, w.heap.size = g := ⟨_, rfl⟩
  have HG := Lib.hid hg
  clear hg
  go_enter Tryz.func129, Tryz.ntmps129
  go_upto_region 1 with (fail)
  rw [HG.out]
  have hsz := heap_alloc_new w (.cells (Array.replicate 24 (Value.int .u64 0)) 155)
  rw [HG.out] at hsz
  have n0 := (New.refl w).alloc (.cells (Array.replicate 24 (Value.int .u64 0)) 155)
  rw [show (Array.replicate 24 (Value.int .u64 0)) = #[.int .u64 0, .int .u64 0, .int .u64 0, .int .u64 0, .int .u64 0, .int .u64 0, .int .u64 0, .int .u64 0, .int .u64 0, .int .u64 0, .int .u64 0, .int .u64 0, .int .u64 0, .int .u64 0, .int .u64 0, .int .u64 0, .int .u64 0, .int .u64 0, .int .u64 0, .int .u64 0, .int .u64 0, .int .u64 0, .int .u64 0, .int .u64 0] from rfl] at hsz n0
  generalize w.alloc _ = w1 at *
  go_step
  refine wpList_buildFlatArrTo rfl 155 _ 24 _ rfl .u64 (conL.map fun i : Nat => (i : Int)) (some 1) rfl underl155 (by kernel_rfl) (by kernel_rfl) (by kernel_rfl) ?_
  rw [show ((conL.map fun i : Nat => (i : Int)).map (Value.int .u64)).toArray = conA from rfl]
  refine wpList_store_rowTo rfl 155 (.tmp 0) (.tmp 1) rfl rfl g conA rfl rfl 155 _ hsz info155s rfl conA_one ?_
  have RB := setRow_heap w1 g _ conA 155 (0, 0) hsz
  have NB := below_setRow n0 (show w.heap.size ≤ g by rw [HG.out]; exact Nat.le_refl _) conA
  generalize w1.setRow g conA = w2 at *
  clear hsz n0
  go_wp2
  exact bodyPost_ret (v := .agg conA) (results_cell_row Tryz.results129 _ _ g 155 _ (0, 0) _ rfl RB underl155 rfl info155s) rfl ⟨rfl, NB⟩
end Go.Proofs.YtfeknjpinboknaaGreatDoor

namespace Go.Proofs.YtfeknjpinboknaaGreatDoor
open Go Go.RowKit Go.Joins Go.Shelf
set_option linter.unusedSimpArgs false
set_option linter.unusedVariables false

theorem run_ixc (k : Nat) (hk : k < 24) (W : World) : (Instr.index 155 (.agg conA) (.int .i64 (k : Int))).run Tryz.prog W = .ok (.int .u64 (conN k : Int)) W := by
  have h1 : (k : Int) < 24 := by omega
  have h2 := conA_at k hk
  simp [Instr.index, run_underlying underl155, asIntOf, h1, go_sem]
  rw [if_pos hk, h2]
  rfl
set_option maxRecDepth 100000 in
set_option maxHeartbeats 16000000 in
theorem permute_any (s : Nat → Nat) (hs : StW s) (w : World) : Calls Tryz.prog 120 #[.agg (wdA 25 s)] w fun e w' => e = .returned (.agg (wdA 25 (permS s))) ∧ New w w' := by
  have HS := Lib.hid hs
  obtain ⟨g, hg⟩ : ∃ g, w.heap.size = g := ⟨_, rfl⟩
  have HG := Lib.hid hg
  have HIX := Lib.hid run_ixc
  obtain ⟨CF, hCF⟩ : ∃ CF, conA = CF := ⟨_, rfl⟩
  have HCO := Lib.hid (fun W => constants_any W)
  rw [hCF] at HIX HCO
  clear hg hs hCF
  go_enter Tryz.func120, Tryz.ntmps120
  go_wp2_with (fail)
  rw [HG.out, zero25]
  have b1 : Wd ((w.alloc (.cells (wdA 25 s) 108)).alloc (.cells (wdA 25 zeroS) 108)) g 108 25 s := by
    have := (Blk.made w 108 (wdA 25 s)).alloc (.cells (wdA 25 zeroS) 108)
    rw [HG.out] at this; exact this
  have b2 : Wd ((w.alloc (.cells (wdA 25 s) 108)).alloc (.cells (wdA 25 zeroS) 108)) (g + 1) 108 25 zeroS := by
    have := Blk.made (w.alloc (.cells (wdA 25 s) 108)) 108 (wdA 25 zeroS)
    rw [World.size_alloc, HG.out] at this; exact this
  have n0 := ((New.refl w).alloc (.cells (wdA 25 s) 108)).alloc (.cells (wdA 25 zeroS) 108)
  generalize (w.alloc (.cells (wdA 25 s) 108)).alloc (.cells (wdA 25 zeroS) 108) = w1 at *
  rename_i K0 hK0
  with_reducible refine (offsets_any _).mono ?_
  rintro e w2 ⟨rfl, m2⟩
  show K0 _ w2
  go_step
  go_step
  go_step
  go_step
  obtain ⟨g2, hg2⟩ : ∃ g2, w2.heap.size = g2 := ⟨_, rfl⟩
  rw [hg2]
  have hgs : g + 1 < g2 := by have := (Blk.new b2 m2).lt; rw [hg2] at this; exact this
  have hsz := heap_alloc_new w2 (.cells #[.int .i64 0, .int .i64 0, .int .i64 0, .int .i64 0, .int .i64 0, .int .i64 0, .int .i64 0, .int .i64 0, .int .i64 0, .int .i64 0, .int .i64 0, .int .i64 0, .int .i64 0, .int .i64 0, .int .i64 0, .int .i64 0, .int .i64 0, .int .i64 0, .int .i64 0, .int .i64 0, .int .i64 0, .int .i64 0, .int .i64 0, .int .i64 0, .int .i64 0] 153)
  rw [hg2] at hsz
  have m3 := m2.trans ((New.refl w2).alloc (.cells #[.int .i64 0, .int .i64 0, .int .i64 0, .int .i64 0, .int .i64 0, .int .i64 0, .int .i64 0, .int .i64 0, .int .i64 0, .int .i64 0, .int .i64 0, .int .i64 0, .int .i64 0, .int .i64 0, .int .i64 0, .int .i64 0, .int .i64 0, .int .i64 0, .int .i64 0, .int .i64 0, .int .i64 0, .int .i64 0, .int .i64 0, .int .i64 0, .int .i64 0] 153))
  have hgw : w.heap.size ≤ g2 := by rw [HG.out]; omega
  have c1 := Blk.new b1 m3
  have c2 := Blk.new b2 m3
  have m4 := n0.trans m3
  clear b1 b2 n0 m2 m3 hg2
  generalize w2.alloc (.cells #[.int .i64 0, .int .i64 0, .int .i64 0, .int .i64 0, .int .i64 0, .int .i64 0, .int .i64 0, .int .i64 0, .int .i64 0, .int .i64 0, .int .i64 0, .int .i64 0, .int .i64 0, .int .i64 0, .int .i64 0, .int .i64 0, .int .i64 0, .int .i64 0, .int .i64 0, .int .i64 0, .int .i64 0, .int .i64 0, .int .i64 0, .int .i64 0, .int .i64 0] 153) = w3 at *
  refine wpList_store_rowTo rfl 153 (.tmp 3) (.tmp 6) rfl rfl g2 offA rfl rfl 153 _ hsz info153s rfl offA_one ?_
  have RB := setRow_heap w3 g2 _ offA 153 (0, 0) hsz
  have NB : New w (w3.setRow g2 offA) := below_setRow m4 hgw offA
  have d1 : (w3.setRow g2 offA).heap[g]? = some (.cells (wdA 25 s) 108 (0, 0)) := (setRow_other w3 g2 g offA (by omega)).trans c1
  have d2 : (w3.setRow g2 offA).heap[g + 1]? = some (.cells (wdA 25 zeroS) 108 (0, 0)) := (setRow_other w3 g2 (g + 1) offA (by omega)).trans c2
  clear hsz c1 c2 m4
  generalize w3.setRow g2 offA = w4 at *
  have B1 : Wd w4 g 108 25 s := d1
  have B2 : Wd w4 (g + 1) 108 25 zeroS := d2
  have B3 : Blk w4 g2 153 offA := RB
  clear d1 d2 RB
  go_wp2_with (fail)
  with_reducible refine (HCO.out _).mono ?_
  rintro e w5 ⟨rfl, m5⟩
  have q1 := Blk.new B1 m5
  have q2 := Blk.new B2 m5
  have q3 := Blk.new B3 m5
  have qn := NB.trans m5
  clear B1 B2 B3 NB m5
  go_wp2
  go_loopw [5, 8] (fun _ v8 wr => ∃ k : Nat, v8 = .int .i64 (k : Int) ∧ k ≤ 24 ∧ New w wr ∧ Wd wr g 108 25 (permK s k) ∧ Wd wr (g + 1) 108 25 zeroS ∧ Blk wr g2 153 offA) (fun _ v8 _ => 24 - (intOf v8).toNat)
  case atStart => exact ⟨0, rfl, by omega, qn, q1, q2, q3⟩
  case round =>
    clear q1 q2 q3 qn
    obtain ⟨k, rfl, hk, hn, q1, q2, q3⟩ := hrel
    by_cases hlt : k < 24
    · have k0 : (0 : Int) ≤ (k : Int) := by omega
      have k1 : (k : Int) < 24 := by omega
      have hix := HIX.out k hlt
      have CR := Lib.hid (fun W => round_any (permK s k) (conN k) (HS.out.permK k hk) (con_lt ⟨k, hlt⟩) W)
      obtain ⟨sn, hsn⟩ : ∃ sn, permK s (k + 1) = sn := ⟨_, rfl⟩
      have HSN := Lib.hid hsn
      rw [show roundS (permK s k) (conN k) = sn from hsn] at CR
      clear hsn
      generalize permK s k = sk at *
      generalize conN k = ck at *
      obtain ⟨wo, rfl⟩ : ∃ wo : World, wo = wr := ⟨_, rfl⟩
      go_upto_region 5 with (fail)
      go_step
      refine wpList_load_row rfl 108 (.tmp 1) rfl g rfl 108 _ (0, 0) _ q1 Tryz.underlying108 rfl info108s ?_
      refine wpList_load_row rfl 153 (.tmp 3) rfl g2 rfl 153 _ (0, 0) _ q3 underl153 rfl info153s ?_
      go_wp2_with (fail)
      with_reducible refine (CR.out _).mono ?_
      rintro e w6 ⟨rfl, n6⟩
      rename_i K1 hK1
      show K1 _ w6
      go_step
      have p1 := Blk.new q1 n6
      have hp2 : w6.heap[g + 1]? = some (.cells (wdA 25 zeroS) 108 (0, 0)) := Blk.new q2 n6
      have hp3 : w6.heap[g2]? = some (.cells offA 153 (0, 0)) := Blk.new q3 n6
      have NN := hn.trans n6
      clear q1 q2 q3 hn n6
      refine wpList_store_rowTo rfl 108 (.tmp 1) (.tmp 14) rfl rfl g (wdA 25 sn) rfl rfl 108 _ p1 info108s (by rw [wdA_size, wdA_size]) (wdA_one 25 _) ?_
      have R1 := setRow_heap w6 g (wdA 25 sk) (wdA 25 sn) 108 (0, 0) p1
      have R2 : (w6.setRow g (wdA 25 sn)).heap[g + 1]? = some (.cells (wdA 25 zeroS) 108 (0, 0)) := (setRow_other w6 g (g + 1) (wdA 25 sn) (by omega)).trans hp2
      have R4 : (w6.setRow g (wdA 25 sn)).heap[g2]? = some (.cells offA 153 (0, 0)) := (setRow_other w6 g g2 (wdA 25 sn) (by omega)).trans hp3
      have R3 := below_setRow NN (show w.heap.size ≤ g by rw [HG.out]; exact Nat.le_refl _) (wdA 25 sn)
      generalize w6.setRow g (wdA 25 sn) = w7 at *
      clear p1 hp2 hp3 NN
      go_wp2
      go_roundw
      case rel => exact ⟨k + 1, by go_num, by omega, R3, by rw [HSN.out]; exact R1, R2, R4⟩
      case measure => (simp [intOf]; try omega)
    · obtain rfl : k = 24 := by omega
      have q1 : Wd wr g 108 25 (permS s) := q1
      obtain ⟨sp, hsp⟩ : ∃ sp, permS s = sp := ⟨_, rfl⟩
      rw [hsp] at q1
      have HSP := Lib.hid hsp
      clear hsp q3
      have hs1 : wr.heap[g + 1]? = some (.cells (wdA 25 zeroS) 108 (0, 0)) := q2
      go_upto_region 7 with (fail)
      go_step
      refine wpList_load_row rfl 108 (.tmp 1) rfl g rfl 108 _ (0, 0) _ q1 Tryz.underlying108 rfl info108s ?_
      refine wpList_store_rowTo rfl 108 (.tmp 2) (.tmp 16) rfl rfl (g + 1) (wdA 25 sp) rfl rfl 108 _ hs1 info108s (by rw [wdA_size, wdA_size]) (wdA_one 25 _) ?_
      have RB := setRow_heap wr (g + 1) (wdA 25 zeroS) (wdA 25 sp) 108 (0, 0) hs1
      have NB := below_setRow hn (show w.heap.size ≤ g + 1 by rw [HG.out]; omega) (wdA 25 sp)
      generalize wr.setRow (g + 1) (wdA 25 sp) = w6 at *
      go_wp2
      exact bodyPost_ret (v := .agg (wdA 25 sp)) (results_cell_row Tryz.results120 _ _ (g + 1) 108 _ (0, 0) _ rfl RB Tryz.underlying108 rfl info108s) rfl ⟨by rw [HSP.out], NB⟩
end Go.Proofs.YtfeknjpinboknaaGreatDoor

namespace Go.Proofs.YtfeknjpinboknaaGreatDoor
open Go Go.RowKit Go.Joins Go.Shelf
set_option linter.unusedSimpArgs false
set_option linter.unusedVariables false

section
variable {P : Program}
theorem run_loadVar_part (w : World) (g o : Nat) (t ty : TypeId) (cur cs : Array Value) (fr : Nat × Nat) (d : TypeDesc) (hg : w.heap[g]? = some (.cells cur t fr)) (hc : ∀ (j : Nat) (u : Value), cs.toList[j]? = some u → cur[o + j]? = some u)
    (hd : (match d with | .struct _ | .array _ _ => true | _ => false) = true) (hu : P.underlying ty = some d) (hi : (P.info? ty).map (·.size) = some cs.size) :
    (loadVar ty ⟨g, o, none⟩).run P w = .ok (.agg cs) w := by
  have hl : (loadCells ⟨g, o, none⟩ cs.toList.length).run P w = .ok cs.toList.toArray w :=
    run_loadCells_list (P := P) w ⟨g, o, none⟩ cs.toList (fun j v hv => by
      have hadd : (⟨g, o, none⟩ : Addr).add j = ⟨g, o + j, none⟩ := by
        unfold Addr.add; split <;> simp_all
      rw [hadd, cell_of_row w g (o + j) cur t fr hg]
      exact hc j v hv)
  cases hq : P.info? ty with
  | none => simp [hq] at hi
  | some i =>
    have hs : i.size = cs.size := by simpa [hq] using hi
    have hagg : (isAgg ty).run P w = .ok true w := by
      unfold isAgg
      rw [Sem.run_bind, run_underlying hu w]
      cases d <;> simp_all
    simp only [Array.length_toList, Array.toArray_toList] at hl
    simp [loadVar, Sem.run_bind, hagg, sizeOf, typeInfo, hq, hs, hl]
theorem wpList_load_part {ops : Array Oper} {rest : List Oper} {o : Oper} {a : Act} {w : World} {Q : Exit → Act → World → Prop} (hgd : o.guard = none) (ty : TypeId) (x : Operand) (ho : o.op = .load ty x)
    (g of : Nat) (hx : a.eval x = .pointer (some ⟨g, of, none⟩)) (t : TypeId) (cur cs : Array Value) (fr : Nat × Nat) (d : TypeDesc) (hg : w.heap[g]? = some (.cells cur t fr)) (hc : ∀ (j : Nat) (u : Value), cs.toList[j]? = some u → cur[of + j]? = some u)
    (hd : (match d with | .struct _ | .array _ _ => true | _ => false) = true) (hu : P.underlying ty = some d) (hi : (P.info? ty).map (·.size) = some cs.size)
    (h : wpList P ops Q rest (a.put o.dst (.agg cs)) w) : wpList P ops Q (o :: rest) a w :=
  wpList_plain hgd fun _ hK => by
    unfold Oper.wp execOp
    simp only [ho, hx, Instr.loadAt, Instr.sureAddr, Sem.run_bind, Sem.run_pure, Result.andThen_ok, run_loadVar_part w g of t ty cur cs fr d hg hc hd hu hi]
    exact hK _ _ h
def spl (cur cells : Array Value) (o : Nat) : Array Value := (cur.toList.take o ++ cells.toList ++ cur.toList.drop (o + cells.size)).toArray
theorem run_storeVar_part (w : World) (g o : Nat) (t ty : TypeId) (cur cells : Array Value) (hg : w.heap[g]? = some (.cells cur t (0, 0))) (hi : (P.info? ty).map (·.size) = some cells.size)
    (hfit : o + cells.size ≤ cur.size) (h1 : cells.all (·.oneCell') = true) :
    (storeVar ty ⟨g, o, none⟩ (.agg cells)).run P w = .ok () (w.setRow g (spl cur cells o)) := by
  have := run_storeCells_at P g o t cells.toList 0 cur w hg (by simp; omega) (fun v hv => (Array.all_eq_true_iff_forall_mem.1 h1) v (by simpa using hv))
  cases hq : P.info? ty with
  | none => simp [hq] at hi
  | some i =>
    have hs : cells.size = i.size := by simp [hq] at hi; omega
    simp [storeVar, sizeOf, typeInfo, hq, Value.cells, hs, this, spl]
theorem wpList_store_part {ops : Array Oper} {rest : List Oper} {o : Oper} {a : Act} {w : World} {Q : Exit → Act → World → Prop} (hgd : o.guard = none) (ty : TypeId) (x y : Operand) (ho : o.op = .store ty x y) (hd : o.dst = none)
    (g of : Nat) (cells : Array Value) (hx : a.eval x = .pointer (some ⟨g, of, none⟩)) (hy : a.eval y = .agg cells)
    (t : TypeId) (cur : Array Value) (hg : w.heap[g]? = some (.cells cur t (0, 0))) (hi : (P.info? ty).map (·.size) = some cells.size)
    (hfit : of + cells.size ≤ cur.size) (h1 : cells.all (·.oneCell') = true)
    (h : wpList P ops Q rest a (w.setRow g (spl cur cells of))) : wpList P ops Q (o :: rest) a w :=
  wpList_plain hgd fun _ hK => by
    unfold Oper.wp execOp
    simp only [ho, hx, hy, Instr.storeAt, Instr.sureAddr, Sem.run_bind, Sem.run_pure, Result.andThen_ok, run_storeVar_part w g of t ty cur cells hg hi hfit h1]
    refine hK _ _ ?_
    rw [hd]
    exact h
end
end Go.Proofs.YtfeknjpinboknaaGreatDoor

