/- The reference's Sum: SHA3-256 of a string. Conditions: the string's size. -/
import Derived.Test.YtfeknjpinboknaaGreatDoorGS16
import Derived.Test.YtfeknjpinboknaaGreatDoorGW6

namespace Go.Proofs.YtfeknjpinboknaaGreatDoor
open Go Go.RowKit Go.Joins Go.Shelf
set_option linter.unusedSimpArgs false
set_option linter.unusedVariables false

def padL (l : List UInt8) : List UInt8 := l ++ [6] ++ List.replicate (135 - l.length % 136) 0
def padE (l : List UInt8) : List UInt8 := (padL l).set ((padL l).length - 1) ((padL l).getD ((padL l).length - 1) 0 ||| 128)
theorem padL_len (l : List UInt8) : (padL l).length = 136 * (l.length / 136 + 1) := by
  simp only [padL, List.length_append, List.length_replicate, List.length_singleton]; omega
theorem padE_len (l : List UInt8) : (padE l).length = 136 * (l.length / 136 + 1) := by rw [padE, List.length_set, padL_len]
theorem padL_at (l : List UInt8) (i : Nat) : byteA (padL l) i = if i < l.length then byteA l i else if i = l.length then 6 else 0 := by
  unfold byteA
  rw [List.getD_eq_getElem?_getD, List.getD_eq_getElem?_getD, padL, List.append_assoc]
  by_cases h : i < l.length
  · rw [if_pos h, List.getElem?_append_left h]
  · rw [if_neg h, List.getElem?_append_right (by omega)]
    by_cases h2 : i = l.length
    · rw [if_pos h2, h2, Nat.sub_self]; rfl
    · rw [if_neg h2, show i - l.length = (i - l.length - 1) + 1 by omega]
      simp only [List.singleton_append, List.getElem?_cons_succ, List.getElem?_replicate]
      split <;> rfl
theorem padE_at (l : List UInt8) (i : Nat) : byteA (padE l) i = byteA (padL l) i ||| (if i + 1 = (padL l).length then 128 else 0) := by
  have hl := padL_len l
  unfold padE
  generalize padL l = p at *
  unfold byteA
  rw [List.getD_eq_getElem?_getD, List.getElem?_set]
  by_cases h : p.length - 1 = i
  · rw [if_pos h, if_pos (by omega), if_pos (by omega)]
    subst h
    simp [UInt8.toNat_or]
  · rw [if_neg h, if_neg (by omega), Nat.or_zero, ← List.getD_eq_getElem?_getD]
theorem pad_block {l : List UInt8} {k i : Nat} (hi : i < 136) : byteA (padE l) (136 * k + i) = if k < l.length / 136 then byteA l (136 * k + i) else if k = l.length / 136 then lastB (l.drop (136 * (l.length / 136))) i else byteA (padE l) (136 * k + i) := by
  have hl := padL_len l
  by_cases h : k < l.length / 136
  · rw [if_pos h, padE_at, padL_at, if_pos (by omega), if_neg (by omega), Nat.or_zero]
  · rw [if_neg h]
    by_cases h2 : k = l.length / 136
    · rw [if_pos h2]
      subst h2
      rw [padE_at, padL_at]
      unfold lastB
      rw [List.length_drop]
      have e1 : (i < l.length - 136 * (l.length / 136)) ↔ (136 * (l.length / 136) + i < l.length) := by omega
      have e2 : (i = l.length - 136 * (l.length / 136)) ↔ (136 * (l.length / 136) + i = l.length) := by omega
      have e3 : (i = 135) ↔ (136 * (l.length / 136) + i + 1 = (padL l).length) := by omega
      have e4 : byteA (l.drop (136 * (l.length / 136))) i = byteA l (136 * (l.length / 136) + i) := by
        unfold byteA; rw [List.getD_eq_getElem?_getD, List.getD_eq_getElem?_getD, List.getElem?_drop]
      simp only [e1, e2, e3, e4]
    · rw [if_neg h2]
def padK (l : List UInt8) : Nat → (Nat → Nat)
  | 0 => zeroS
  | k + 1 => absS (padK l k) (fun i => byteA (padE l) (136 * k + i))
theorem padK_st (l : List UInt8) : ∀ k, k ≤ l.length / 136 → padK l k = stK l k
  | 0, _ => rfl
  | k + 1, h => by
    show absS (padK l k) _ = absS (stK l k) _
    rw [padK_st l k (by omega)]
    refine absS_cong (fun i hi => ?_)
    rw [pad_block hi, if_pos (by omega)]
theorem padK_end (l : List UInt8) : padK l (l.length / 136 + 1) = endS l := by
  show absS (padK l (l.length / 136)) _ = _
  rw [padK_st l _ (Nat.le_refl _), endS]
  refine absS_cong (fun i hi => ?_)
  rw [pad_block hi, if_neg (by omega), if_pos rfl]
theorem padK_w (l : List UInt8) : ∀ k, StW (padK l k)
  | 0 => StW.zero
  | k + 1 => (padK_w l k).abs
/-! ### a row of bytes that a conversion made -/
def OwnC (w : World) (base : Nat) (v : Value) (l : List UInt8) : Prop :=
  ∃ g cap cur fz, v = .slice (some ⟨g, 0, none⟩) l.length cap ∧ base ≤ g ∧ w.heap[g]? = some (.cells cur 5 fz) ∧ (fz = (0, 0) ∨ cap ≤ fz.1) ∧ l.length ≤ cap ∧ cap ≤ maxLen ∧ cur.size = cap ∧ cur.toList.take l.length = Lib.byteCells l
theorem OwnC.made (w : World) (s : ByteArray) (B : Nat) (hB : B ≤ w.heap.size) (hs : s.size ≤ 1000000) : OwnC (Lib.bytesWorld w 5 s) B (.slice (some ⟨w.heap.size, 0, none⟩) s.size (grownCap w s.size 0 5)) s.data.toList := by
  have hge := grownCap_ge w s.size 0 5
  have hsz : s.data.toList.length = s.size := (size_eq s).symm
  have hcs : (Lib.bytesCells w 5 s).size = grownCap w s.size 0 5 := by
    unfold Lib.bytesCells
    rw [Array.size_append, Array.size_map, Array.size_replicate]
    have : s.data.size = s.size := rfl
    omega
  refine ⟨w.heap.size, _, _, _, by rw [hsz], hB, Lib.bytesWorld_at_new w 5 s, Or.inr (by simp only; omega), by omega, grownCap_le_maxLen w s.size 0 5 (by simp only [maxLen]; omega), hcs, ?_⟩
  unfold Lib.bytesCells
  rw [Array.toList_append, List.take_left' (by rw [Array.length_toList, Array.size_map]; rfl), Array.toList_map]; rfl
theorem OwnC.of {w : World} {base n : Nat} {v : Value} {l : List UInt8} (h : w.ownsRow base 5 1 v n (Lib.byteCells l)) (hn : 0 < n) : OwnC w base v l := by
  have hl := h.1
  rw [Lib.byteCells_length, Nat.mul_one] at hl
  rcases h.2 with ⟨_, h0⟩ | ⟨g, cap, cur, rfl, hb, hg, hnc, hcm, hcs, ht⟩
  · omega
  · subst hl
    exact ⟨g, cap, cur, (0, 0), rfl, hb, hg, Or.inl rfl, hnc, hcm, by omega, by rw [Nat.mul_one] at ht; exact ht⟩
theorem OwnC.free {w : World} {g cap : Nat} {cur : Array Value} {fz : Nat × Nat} (hg : w.heap[g]? = some (.cells cur 5 fz)) (hf : fz = (0, 0) ∨ cap ≤ fz.1) (j : Nat) (hj : j < cap) : w.frozen? ⟨g, j, none⟩ = false := by
  obtain ⟨lo, hi⟩ := fz
  unfold World.frozen?
  rw [hg]
  simp only
  rcases hf with h | h
  · injection h with h1 h2; subst h1 h2; simp
  · simp only at h
    rw [decide_eq_false (show ¬ lo ≤ j by omega)]; rfl
theorem OwnC.cell {w : World} {B : Nat} {v : Value} {l : List UInt8} (h : OwnC w B v l) : ∃ g cap, v = .slice (some ⟨g, 0, none⟩) l.length cap ∧ B ≤ g ∧ g < w.heap.size ∧ l.length ≤ cap ∧ ∀ j, j < l.length → w.cell? ⟨g, j, none⟩ = some (.int .u8 (byteA l j : Int)) ∧ w.frozen? ⟨g, j, none⟩ = false := by
  obtain ⟨g, cap, cur, fz, rfl, hb, hg, hf, hnc, hcm, hcs, ht⟩ := h
  refine ⟨g, cap, rfl, hb, (Array.getElem?_eq_some_iff.1 hg).1, hnc, fun j hj => ⟨?_, OwnC.free hg hf j (by omega)⟩⟩
  rw [cell_of_row w g j cur 5 fz hg]
  have h1 := congrArg (·[j]?) ht
  simp only [List.getElem?_take, if_pos hj, Array.getElem?_toList] at h1
  rw [h1, ← List.getElem?_toArray]
  exact byAt l j hj
theorem OwnC.keep {w w' : World} {B : Nat} {v : Value} {l : List UInt8} (h : OwnC w B v l) (hk : ∀ g, B ≤ g → v.ownBlock = some g → w'.heap[g]? = w.heap[g]?) : OwnC w' B v l := by
  obtain ⟨g, cap, cur, fz, rfl, hb, hg, hf, hnc, hcm, hcs, ht⟩ := h
  exact ⟨g, cap, cur, fz, rfl, hb, (hk g hb rfl).trans hg, hf, hnc, hcm, hcs, ht⟩
theorem OwnC.new {w w' : World} {B : Nat} {v : Value} {l : List UInt8} (h : OwnC w B v l) (hn : New w w') : OwnC w' B v l := by
  obtain ⟨g, cap, cur, fz, rfl, hb, hg, hf, hnc, hcm, hcs, ht⟩ := h
  exact ⟨g, cap, cur, fz, rfl, hb, (hn.block g (Array.getElem?_eq_some_iff.1 hg).1).trans hg, hf, hnc, hcm, hcs, ht⟩
theorem OwnC.put {w : World} {B : Nat} {g cap : Nat} {l : List UInt8} (h : OwnC w B (.slice (some ⟨g, 0, none⟩) l.length cap) l) {i : Nat} (hi : i < l.length) (b : UInt8) : OwnC (w.setCell ⟨g, i, none⟩ (.int .u8 (b.toNat : Int))) B (.slice (some ⟨g, 0, none⟩) (l.set i b).length cap) (l.set i b) := by
  obtain ⟨g', cap', cur, fz, e, hb, hg, hf, hnc, hcm, hcs, ht⟩ := h
  obtain ⟨rfl, rfl⟩ : g = g' ∧ cap = cap' := by injection e with e1 e2 e3; injection e1 with e1; injection e1 with e1; exact ⟨e1, e3⟩
  refine ⟨g, cap, cur.setIfInBounds i (.int .u8 (b.toNat : Int)), fz, rfl, hb, ?_, hf, by rw [List.length_set]; exact hnc, hcm, by simp [hcs], ?_⟩
  · simp [World.setCell, Array.getElem?_modify, hg]
  · rw [Array.toList_setIfInBounds, List.length_set, List.take_set, ht, Lib.byteCells, Lib.byteCells, List.map_set]
theorem wpList_push {w : World} {ops : Array Oper} {rest : List Oper} {o : Oper} {a : Act} {Q : Exit → Act → World → Prop} (hgd : o.guard = none) (s x : Operand)
    (ho : o.op = .call { callee := .builtin .append, args := #[s, x], argTypes := #[92, 92] })
    (B : Nat) (v : Value) (l : List UInt8) (hs : a.eval s = v) (hown : OwnC w B v l) (b : UInt8) (ad : Nat) (hx : a.eval x = .slice (some ⟨ad, 0, none⟩) 1 1) (hc : w.cell? ⟨ad, 0, none⟩ = some (.int .u8 (b.toNat : Int)))
    (hl : l.length ≤ 2000000) (hBw : B ≤ w.heap.size)
    (h : ∀ v' w', OwnC w' B v' (l ++ [b]) → Below B w w' → wpList Tryz.prog ops Q rest (a.put o.dst v') w') : wpList Tryz.prog ops Q (o :: rest) a w := by
  obtain ⟨j0, hi0, hz0, hz1, hz2⟩ := info_parts Tryz.info5'
  have hcell := hown.cell
  obtain ⟨g, cap, cur, fz, rfl, hb, hg, hf, hnc, hcm, hcs, ht⟩ := hown
  obtain ⟨g', cap', e, _, hlt, _, hce⟩ := hcell
  obtain ⟨rfl, rfl⟩ : g = g' ∧ cap = cap' := by injection e with e1 e2 e3; injection e1 with e1; injection e1 with e1; exact ⟨e1, e3⟩
  refine wpList_append_arg w hgd s x 92 ho 5 j0 (.int .u8 0) 1 1 Tryz.underlying92 hi0 hz0 hz1 hz2 rfl (by decide) g 0 l.length cap (Lib.byteCells l) hs (by rw [Lib.byteCells_length, Nat.mul_one]) (fun j u hj => ?_) ⟨ad, 0, none⟩ 1 1 [.int .u8 (b.toNat : Int)] hx rfl (fun j u hj => ?_) (fun u hu => by rw [List.mem_singleton] at hu; subst hu; rfl) (fun hr j hj => ?_) (by simp only [maxLen]; omega) (by omega) (fun hr => ?_) (fun hr v' w' hown' hgr => ?_)
  · have hjl : j < l.length := by have := (List.getElem?_eq_some_iff.1 hj).1; rw [Lib.byteCells_length] at this; exact this
    rw [Nat.zero_add, (hce j hjl).1]
    have := byAt l j hjl
    rw [List.getElem?_toArray, hj] at this
    exact this.symm
  · have hj0 : j = 0 := by
      cases j with
      | zero => rfl
      | succ j => simp at hj
    subst hj0
    rw [add_none rfl]
    simp only [List.getElem?_cons_zero, Option.some.injEq] at hj
    subst hj
    exact hc
  · have hj0 : j = 0 := by simp at hj; omega
    subst hj0
    rw [Nat.zero_add, Nat.mul_one, Nat.add_zero]
    refine ⟨?_, OwnC.free hg hf _ (by omega)⟩
    rw [cell_of_row w g l.length cur 5 fz hg, Array.getElem?_eq_getElem (by omega)]; rfl
  · have hw : w.setCells g (0 + l.length * 1) [.int .u8 (b.toNat : Int)] = w.setCell ⟨g, l.length, none⟩ (.int .u8 (b.toNat : Int)) := by rw [Nat.zero_add, Nat.mul_one]; rfl
    rw [hw]
    refine h _ _ ⟨g, cap, cur.setIfInBounds l.length (.int .u8 (b.toNat : Int)), fz, by rw [List.length_append]; rfl, hb, ?_, hf, by rw [List.length_append]; exact hr, hcm, by simp [hcs], ?_⟩ ((Below.refl B w).setCell (p := ⟨g, _, none⟩) hb _)
    · simp [World.setCell, Array.getElem?_modify, hg]
    · rw [List.length_append, List.length_singleton, Array.toList_setIfInBounds, Lib.byteCells_append, ← ht]
      have hlc : l.length < cur.toList.length := by rw [show cur.toList.length = cur.size from Array.length_toList]; omega
      rw [List.take_add_one, List.take_set_of_le (Nat.le_refl _), List.getElem?_set_self hlc]; rfl
  · refine h v' w' (OwnC.of (n := l.length + 1) (base := B) ?_ (by omega)) (Below.grown (Below.refl B w) hgr hBw (fun q e => (by cases e)))
    have h2 : w'.ownsRow w.heap.size 5 1 v' (l.length + 1) (Lib.byteCells (l ++ [b])) := by rw [Lib.byteCells_append]; exact hown'
    refine ⟨h2.1, ?_⟩
    rcases h2.2 with q | ⟨g2, cap2, cur2, q1, q2, q3⟩
    · exact Or.inl q
    · exact Or.inr ⟨g2, cap2, cur2, q1, Nat.le_trans hBw q2, q3⟩
def lenV : Value → Nat
  | .slice _ n _ => n
  | _ => 0
def padJ (l : List UInt8) (j : Nat) : List UInt8 := l ++ [6] ++ List.replicate j 0
theorem padJ_len (l : List UInt8) (j : Nat) : (padJ l j).length = l.length + 1 + j := by simp [padJ]; omega
theorem padJ_succ (l : List UInt8) (j : Nat) : padJ l j ++ [0] = padJ l (j + 1) := by rw [padJ, padJ, List.replicate_succ', List.append_assoc _ _ [0]]
theorem padJ_end (l : List UInt8) : padJ l (135 - l.length % 136) = padL l := rfl
set_option maxRecDepth 100000 in
set_option maxHeartbeats 16000000 in
theorem sumR : SumR sumV := by
  intro d w hd
  obtain ⟨j0, hinf, hz0, hz1, hz2⟩ := info_parts Tryz.info5'
  obtain ⟨B, hB⟩ : ∃ B, w.heap.size = B := ⟨_, rfl⟩
  have HB := Lib.hid hB
  have O1 := Lib.hid (OwnC.made w d B (by rw [HB.out]; exact Nat.le_refl _) hd)
  have hconv := fun W => Lib.run_convert_string_bytes (P := Tryz.prog) W 9 92 5 d Tryz.underlying9 Tryz.underlying92 Tryz.underlying5
  have N1 : Hid (Below B w (Lib.bytesWorld w 5 d)) := Lib.hid (below_bytesWorld _ _ _ _ (by rw [HB.out]; exact Nat.le_refl _))
  have HL : Hid (d.data.toList.length = d.size) := Lib.hid (size_eq d).symm
  clear hB
  go_enter Tryz.func55, Tryz.ntmps55
  go_upto_region 2 with (fail)
  generalize Lib.bytesWorld w 5 d = w1 at *
  generalize (Value.slice (some ⟨w.heap.size, 0, none⟩) d.size (grownCap w d.size 0 5)) = V1 at *
  have hb1 : B ≤ w1.heap.size := by have := N1.out.size; rw [HB.out] at this; exact this
  have h6 : (w1.alloc (.cells #[.int .u8 6] 5)).cell? ⟨w1.heap.size, 0, none⟩ = some (.int .u8 ((6 : UInt8).toNat : Int)) := (Blk.made w1 5 #[.int .u8 6]).cell' 0 _ rfl
  have O2 := O1.out.new ((New.refl w1).alloc (.cells #[.int .u8 6] 5))
  have N2 := Below.trans N1.out (Below.alloc (Below.refl B w1) hb1 (.cells #[.int .u8 6] 5))
  go_wp2_with (at_builtin; refine wpList_push rfl _ _ rfl B _ d.data.toList rfl O2 6 w1.heap.size rfl h6 (by rw [HL.out]; omega) (by rw [World.size_alloc]; omega) ?_)
  intro V2 w2 hO2 hN2
  have N3 := Lib.hid (N2.trans hN2)
  have O3 := Lib.hid hO2
  clear O1 N1 O2 N2 h6 hN2 hO2 hconv hb1
  obtain ⟨l, hl⟩ : ∃ l, d.data.toList = l := ⟨_, rfl⟩
  have hsv : sumV d = S (sumL l) := by rw [sumV, hl]
  have HSV := Lib.hid hsv
  rw [hl] at O3 HL
  have hl9 : l.length ≤ 1000000 := by rw [HL.out]; exact hd
  clear hl hsv hd
  go_wp2
  go_loopw [3] (fun v3 wr => ∃ j : Nat, j ≤ 135 - l.length % 136 ∧ OwnC wr B v3 (padJ l j) ∧ Below B w wr) (fun v3 _ => 3000000 - lenV v3)
  case atStart => exact ⟨0, Nat.zero_le _, by have := O3.out; rw [padJ]; simpa using this, N3.out⟩
  case round =>
    obtain ⟨j, hj, hO, hN⟩ := hrel
    have hlen := padJ_len l j
    have HO := Lib.hid hO
    have HN := Lib.hid hN
    obtain ⟨gB, cap, rfl, hBg, hglt, hcap, hce⟩ := hO.cell
    have hb2 : B ≤ wr.heap.size := by have := hN.size; rw [HB.out] at this; exact this
    obtain ⟨n, hn⟩ : ∃ n, (padJ l j).length = n := ⟨_, rfl⟩
    have HNN := Lib.hid hn
    rw [hn] at hlen hce hcap
    rw [hn]
    have e1 : (n : Int).tmod 136 = ((n % 136 : Nat) : Int) := by rw [Int.tmod_eq_emod_of_nonneg (by omega)]; omega
    have e2 : (n : Int) % 136 = ((n % 136 : Nat) : Int) := by omega
    have e3 : IntKind.i64.wrap ((n % 136 : Nat) : Int) = ((n % 136 : Nat) : Int) := IntWalk.i64_in _ (by omega)
    by_cases hlt : j < 135 - l.length % 136
    · have f1 : (((n % 136 : Nat) : Int) == 0) = false := by simp; omega
      have f2 : (((n % 136 : Nat) : Int) != 0) = true := by simp; omega
      have f3 : ¬ n % 136 = 0 := by omega
      have h0 : (wr.alloc (.cells #[.int .u8 0] 5)).cell? ⟨wr.heap.size, 0, none⟩ = some (.int .u8 ((0 : UInt8).toNat : Int)) := (Blk.made wr 5 #[.int .u8 0]).cell' 0 _ rfl
      have O2 := HO.out.new ((New.refl wr).alloc (.cells #[.int .u8 0] 5))
      have N2 := Below.trans HN.out (Below.alloc (Below.refl B wr) hb2 (.cells #[.int .u8 0] 5))
      rw [hn] at O2
      clear hO hN hn hce
      generalize n % 136 = nm at *
      go_wp2_with (at_builtin; refine wpList_push rfl _ _ rfl B _ (padJ l j) rfl O2 0 wr.heap.size rfl h0 (by rw [HNN.out]; omega) (by rw [World.size_alloc]; omega) ?_)
      intro V3 w3 hO3 hN3
      rw [padJ_succ] at hO3
      have HO3 := Lib.hid hO3
      have HN4 := Lib.hid (Below.trans N2 hN3)
      obtain ⟨g3, cap3, rfl, _, _, _, _⟩ := hO3.cell
      have hl3 := padJ_len l (j + 1)
      clear hO3 hN3 O2 N2 h0
      go_wp2
      go_roundw
      case rel => exact ⟨j + 1, by omega, HO3.out, HN4.out⟩
      case measure => (simp only [lenV]; omega)
    · obtain rfl : j = 135 - l.length % 136 := by omega
      have f0 : n % 136 = 0 := by omega
      have f1 : (((n % 136 : Nat) : Int) == 0) = true := by rw [f0]; rfl
      have f2 : (((n % 136 : Nat) : Int) != 0) = false := by rw [f0]; rfl
      rw [padJ_end] at HO HNN hce
      have hpl := padL_len l
      have hn0 : n = 136 * (l.length / 136 + 1) := by rw [← HNN.out, hpl]
      have e4 : IntKind.i64.wrap ((n : Int) - 1) = ((n - 1 : Nat) : Int) := by rw [IntWalk.i64_in _ (by omega)]; omega
      have e5 : (0 : Int) ≤ ((n - 1 : Nat) : Int) := by omega
      have e6 : ((n - 1 : Nat) : Int) < (n : Int) := by omega
      obtain ⟨x1, x2⟩ := hce (n - 1) (by omega)
      have hx : bits BinOp.or .u8 (byteA (padL l) (n - 1) : Int) 128 = ((((padL l).getD (n - 1) 0 ||| 128 : UInt8)).toNat : Int) := by
        have h1 := padL_at l (n - 1)
        rw [if_neg (by omega)] at h1
        have h2 : ((padL l).getD (n - 1) 0 ||| 128 : UInt8).toNat = byteA (padL l) (n - 1) ||| 128 := by unfold byteA; simp [UInt8.toNat_or]
        rw [h2, h1]
        split <;> decide
      have hpe : (padL l).set (n - 1) ((padL l).getD (n - 1) 0 ||| 128) = padE l := by rw [padE, HNN.out]
      have HO2 := HO.out
      have HP := Lib.hid (HO2.put (i := n - 1) (by rw [HNN.out]; omega) ((padL l).getD (n - 1) 0 ||| 128))
      rw [hpe] at HP
      have HNP := Lib.hid (HN.out.setCell (p := ⟨gB, n - 1, none⟩) hBg (.int .u8 ((((padL l).getD (n - 1) 0 ||| 128 : UInt8)).toNat : Int)))
      have hsz : (wr.setCell ⟨gB, n - 1, none⟩ (.int .u8 ((((padL l).getD (n - 1) 0 ||| 128 : UInt8)).toNat : Int))).heap.size = wr.heap.size := World.size_setCell _ _ _
      generalize (((padL l).getD (n - 1) 0 ||| 128 : UInt8)).toNat = y5 at *
      generalize n % 136 = nm at *
      have HN0 := Lib.hid hn0
      clear hO hN hn HO2 hpe hce hlen hn0 hpl
      go_upto_region 6 with (fail)
      generalize wr.setCell ⟨gB, n - 1, none⟩ (.int .u8 (y5 : Int)) = w4 at *
      have S4 : Blk (w4.alloc (.cells (wdA 25 zeroS) 108)) w4.heap.size 108 (wdA 25 zeroS) := Blk.made w4 108 (wdA 25 zeroS)
      obtain ⟨gS, hgS⟩ : ∃ gS, w4.heap.size = gS := ⟨_, rfl⟩
      have HGS := Lib.hid hgS
      rw [hgS] at S4 hsz
      have hne : gB < gS := by omega
      have HPE := Lib.hid (HP.out.new ((New.refl w4).alloc (.cells (wdA 25 zeroS) 108)))
      have HN5 := Lib.hid (Below.alloc HNP.out (show B ≤ w4.heap.size by rw [hgS]; omega) (.cells (wdA 25 zeroS) 108))
      have HBS : Hid (B ≤ gS) := Lib.hid (by omega)
      have hel : (padE l).length = n := by rw [padE_len]; exact HN0.out.symm
      rw [hel] at HPE
      have HEL := Lib.hid hel
      have HS4 := Lib.hid S4
      obtain ⟨nb, hnb⟩ : ∃ nb, l.length / 136 + 1 = nb := ⟨_, rfl⟩
      rw [hnb] at HN0
      have HNBL := Lib.hid hnb
      clear HP HNP hsz hgS S4 x1 x2 hx HO HN HNN hel hnb
      go_wp2
      rw [HGS.out, zero25]
      generalize w4.alloc (.cells (wdA 25 zeroS) 108) = w5 at *
      go_loopw [5] (fun v5 wr => ∃ k m : Nat, v5 = .int .i64 (m : Int) ∧ Hid (136 * k = m) ∧ k ≤ nb ∧ OwnC wr B (.slice (some ⟨gB, 0, none⟩) n cap) (padE l) ∧ Wd wr gS 108 25 (padK l k) ∧ Below B w wr) (fun v5 _ => n - (intOf v5).toNat)
      case atStart => exact ⟨0, 0, rfl, Lib.hid rfl, by omega, HPE.out, HS4.out, HN5.out⟩
      case round =>
        obtain ⟨k, m, rfl, HM, hk, hO, hW, hN⟩ := hrel
        have hm0 := HM.out
        have HO := Lib.hid hO
        have HW := Lib.hid hW
        have HN := Lib.hid hN
        obtain ⟨wo, rfl⟩ : ∃ wo : World, wo = wr := ⟨_, rfl⟩
        have hn0 := HN0.out
        by_cases hlt2 : k < nb
        · have p0 : (m : Int) < (n : Int) := by omega
          have p1 : decide ((m : Int) < (n : Int)) = true := decide_eq_true p0
          have p2 : decide (m < n) = true := decide_eq_true (by omega)
          clear hO hW hN hn0
          go_wp2
          go_loopw [6] (fun v6 wr => ∃ i : Nat, v6 = .int .i64 (i : Int) ∧ i ≤ 136 ∧ OwnC wr B (.slice (some ⟨gB, 0, none⟩) n cap) (padE l) ∧ Wd wr gS 108 25 (xorK (padK l k) (fun i => byteA (padE l) (136 * k + i)) i) ∧ Below B w wr) (fun v6 _ => 136 - (intOf v6).toNat)
          case atStart => exact ⟨0, rfl, by omega, HO.out, HW.out, HN.out⟩
          case round =>
            obtain ⟨i, rfl, hi, hO, hW, hN⟩ := hrel
            by_cases hlt3 : i < 136
            · obtain ⟨g', cap', he, _, _, _, hce⟩ := hO.cell
              obtain ⟨rfl, rfl⟩ : gB = g' ∧ cap = cap' := by injection he with e1 e2 e3; injection e1 with e1; injection e1 with e1; exact ⟨e1, e3⟩
              have hn0 := HN0.out
              have hnbl := HNBL.out
              have hm0 := HM.out
              have k0 : (0 : Int) ≤ (i : Int) := by omega
              have k1 : (i : Int) < 136 := by omega
              have a1 : (i : Int) / 8 = ((i / 8 : Nat) : Int) := by omega
              have a2 : (i : Int).tdiv 8 = ((i / 8 : Nat) : Int) := by rw [Int.tdiv_eq_ediv_of_nonneg (by omega)]; omega
              have hq : i / 8 < 25 := by omega
              have a3 : (0 : Int) ≤ ((i / 8 : Nat) : Int) := by omega
              have a4 : ((i / 8 : Nat) : Int) < 25 := by omega
              have a5 : IntKind.i64.wrap ((i / 8 : Nat) : Int) = ((i / 8 : Nat) : Int) := IntWalk.i64_in _ (by omega)
              have b5 : IntKind.i64.wrap ((i % 8 : Nat) : Int) = ((i % 8 : Nat) : Int) := IntWalk.i64_in _ (by omega)
              have b1 : (i : Int) % 8 = ((i % 8 : Nat) : Int) := by omega
              have b2 : (i : Int).tmod 8 = ((i % 8 : Nat) : Int) := by rw [Int.tmod_eq_emod_of_nonneg (by omega)]; omega
              have hm : i % 8 < 8 := Nat.mod_lt _ (by decide)
              have b3 : IntKind.i64.wrap (8 * ((i % 8 : Nat) : Int)) = ((8 * (i % 8) : Nat) : Int) := by rw [IntWalk.i64_in _ (by omega)]; omega
              have b4 : (0 : Int) ≤ ((8 * (i % 8) : Nat) : Int) := by omega
              have b7 : min (8 * (i % 8)) 64 = 8 * (i % 8) := by omega
              have b6 : IntKind.u64.wrap ((8 * (i % 8) : Nat) : Int) = ((8 * (i % 8) : Nat) : Int) := by rw [IntKind.wrap_u64]; omega
              have d1 : IntKind.i64.wrap ((m : Int) + (i : Int)) = ((m + i : Nat) : Int) := by rw [IntWalk.i64_in _ (by omega)]; omega
              have d2 : (0 : Int) ≤ ((m + i : Nat) : Int) := by omega
              have d3 : ((m + i : Nat) : Int) < (n : Int) := by omega
              have hby := byteA_lt (padE l) (m + i)
              have c1 : IntKind.u64.wrap (byteA (padE l) (m + i) : Int) = (byteA (padE l) (m + i) : Int) := by rw [IntKind.wrap_u64]; omega
              have c2 := shl_val (byteA (padE l) (m + i)) (8 * (i % 8))
              have x0 := (hce (m + i) (by rw [HEL.out]; omega)).1
              have x1 := Wd.at hW hq
              have z1 := Blk.free hW (i / 8)
              have l0 := (padK_w l k).xorK (b := fun i => byteA (padE l) (136 * k + i)) i (i / 8) hq
              have y1 := bits_xor_u64_nat _ _ l0 (show byteA (padE l) (m + i) * 2 ^ (8 * (i % 8)) % M64 < M64 from Nat.mod_lt _ (by decide))
              have HP := Lib.hid (fun j => show putS (xorK (padK l k) (fun i => byteA (padE l) (136 * k + i)) i) (i / 8) (xorK (padK l k) (fun i => byteA (padE l) (136 * k + i)) i (i / 8) ^^^ (byteA (padE l) (m + i) * 2 ^ (8 * (i % 8)) % M64)) j = xorK (padK l k) (fun i => byteA (padE l) (136 * k + i)) (i + 1) j from by rw [← hm0]; exact xorK_put (padK l k) (fun i => byteA (padE l) (136 * k + i)) i j)
              have Q := Lib.hid hW
              have HOO := Lib.hid hO
              have HNN := Lib.hid hN
              clear hW hN hO l0 hce he hn0 hnbl hm0
              generalize xorK (padK l k) (fun i => byteA (padE l) (136 * k + i)) i (i / 8) ^^^ (byteA (padE l) (m + i) * 2 ^ (8 * (i % 8)) % M64) = v2 at *
              generalize byteA (padE l) (m + i) * 2 ^ (8 * (i % 8)) % M64 = v1 at *
              generalize xorK (padK l k) (fun i => byteA (padE l) (136 * k + i)) i (i / 8) = v0 at *
              generalize byteA (padE l) (m + i) = bv at *
              generalize m + i = ki at *
              generalize i / 8 = kq at *
              generalize 8 * (i % 8) = k8 at *
              generalize i % 8 = km at *
              go_wp2
              go_still_tail 20, (by kernel_rfl)
              go_wp2
              go_roundw
              case rel =>
                have R1 : OwnC ((wr.setCell ⟨gS, kq, none⟩ (.int .u64 (v2 : Int))).drew) B (.slice (some ⟨gB, 0, none⟩) n cap) (padE l) := (HOO.out.keep (w' := (wr.setCell ⟨gS, kq, none⟩ (.int .u64 (v2 : Int))).drew) (fun g hg e => by
                  have : gB = g := by injection e
                  subst this
                  exact (grown_set wr gS kq (.int .u64 (v2 : Int))).block gB (by have := Blk.lt Q.out; omega) (fun e => by injection e with e; omega)))
                have R2 := Blk.drew (Wd.ext (Wd.put Q.out hq v2) (fun j _ => HP.out j))
                have R3 := (HNN.out.setCell (p := ⟨gS, kq, none⟩) HBS.out (.int .u64 (v2 : Int))).drew
                exact ⟨i + 1, by go_num, by omega, R1, R2, R3⟩
              case measure => (simp [intOf]; try omega)
            · obtain rfl : i = 136 := by omega
              have CP := Lib.hid (fun W => rpermute_any _ ((padK_w l k).xorK (b := fun i => byteA (padE l) (136 * k + i)) 136) W)
              have hpm : permS (xorK (padK l k) (fun i => byteA (padE l) (136 * k + i)) 136) = padK l (k + 1) := rfl
              rw [hpm] at CP
              have HPM := Lib.hid (hpm)
              generalize xorK (padK l k) (fun i => byteA (padE l) (136 * k + i)) 136 = sx at *
              have Q := Lib.hid hW
              have HOO := Lib.hid hO
              have HNN := Lib.hid hN
              clear hO hN
              obtain ⟨wq, rfl⟩ : ∃ wq : World, wq = wr := ⟨_, rfl⟩
              go_upto_region 14 with (fail)
              go_step
              refine wpList_load_row rfl 108 (.tmp 4) rfl gS rfl 108 _ (0, 0) _ hW Tryz.underlying108 rfl info108s ?_
              go_wp2_with (fail)
              with_reducible refine (CP.out _).mono ?_
              rintro e w6 ⟨rfl, n6⟩
              rename_i K1 hK1
              show K1 _ w6
              have q6 := Blk.new Q.out n6
              have O6 := HOO.out.new n6
              have N6 := Below.trans HNN.out (show Below B wq w6 from Below.mono n6 (by have := Blk.lt Q.out; have := HBS.out; omega))
              clear hW n6
              go_step
              refine wpList_store_rowTo rfl 108 (.tmp 4) (.tmp 64) rfl rfl gS (wdA 25 (padK l (k + 1))) rfl rfl 108 _ q6 info108s (by rw [wdA_size, wdA_size]) (wdA_one 25 _) ?_
              have RB := setRow_heap w6 gS _ (wdA 25 (padK l (k + 1))) 108 (0, 0) q6
              have O7 := O6.keep (w' := w6.setRow gS (wdA 25 (padK l (k + 1)))) (fun g hg e => by
                have : gB = g := by injection e
                subst this
                exact setRow_other w6 gS gB _ (by omega))
              have N7 := below_setRow N6 HBS.out (wdA 25 (padK l (k + 1)))
              generalize w6.setRow gS (wdA 25 (padK l (k + 1))) = w7 at *
              have hm2 := HM.out
              have hm3 := HN0.out
              have HM2 : Hid (136 * (k + 1) = m + 136) := Lib.hid (by omega)
              have e9 : IntKind.i64.wrap ((m : Int) + 136) = ((m + 136 : Nat) : Int) := by rw [IntWalk.i64_in _ (by have := HNBL.out; omega)]; omega
              have HMS : Hid (m < n ∧ m < m + 136 ∧ m + 136 ≤ n) := Lib.hid (by omega)
              clear q6 O6 N6 hm2 hm3
              generalize m + 136 = m9 at *
              go_wp2
              go_roundw
              case rel => exact ⟨k + 1, m9, rfl, HM2.out, by omega, O7, RB, N7⟩
              case measure => (have := HMS.out; simp [intOf]; omega)
        · obtain rfl : k = nb := by omega
          have p0 : ¬ (m : Int) < (n : Int) := by omega
          have p1 : decide ((m : Int) < (n : Int)) = false := decide_eq_false p0
          have p2 : decide (m < n) = false := decide_eq_false (by omega)
          have hen : padK l k = endS l := by rw [← HNBL.out]; exact padK_end l
          rw [hen] at HW
          have HSW : Hid (StW (endS l)) := Lib.hid (by rw [← hen]; exact padK_w l k)
          clear hO hW hN hn0 hm0 hen
          have hmk := run_mk32
          obtain ⟨Y, hY⟩ : ∃ Y, List.replicate 32 (0 : UInt8) = Y := ⟨_, rfl⟩
          rw [hY] at hmk
          have HY := Lib.hid hY
          have hBw : B ≤ wo.heap.size := by have := HN.out.size; rw [HB.out] at this; exact this
          have N7 := Lib.hid (Below.alloc HN.out hBw (.cells (Lib.byteCells Y).toArray 5))
          have S7 := Lib.hid (Blk.alloc HW.out (.cells (Lib.byteCells Y).toArray 5))
          have O7 := Lib.hid (Blk.made wo 5 (Lib.byteCells Y).toArray)
          obtain ⟨go, hgo⟩ : ∃ go, wo.heap.size = go := ⟨_, rfl⟩
          rw [hgo] at O7 hBw
          have hgo2 : gS < go := by have := Blk.lt HW.out; rw [hgo] at this; exact this
          have HGO := Lib.hid hgo
          obtain ⟨so, hso⟩ : ∃ so, endS l = so := ⟨_, rfl⟩
          rw [hso] at S7 HSW
          have HSO := Lib.hid hso
          clear hY hgo HO HW HN hso
          go_wp2
          rw [HGO.out]
          generalize wo.alloc (.cells (Lib.byteCells Y).toArray 5) = w7 at *
          go_loopw [8] (fun v8 wr => ∃ i : Nat, v8 = .int .i64 (i : Int) ∧ i ≤ 32 ∧ Below B w wr ∧ Wd wr gS 108 25 so ∧ Blk wr go 5 (Lib.byteCells (outK so i)).toArray) (fun v8 _ => 32 - (intOf v8).toNat)
          case atStart => exact ⟨0, rfl, by omega, N7.out, S7.out, O7.out.same (by rw [outK_zero, HY.out])⟩
          case round =>
            obtain ⟨i, rfl, hi, hn, q, qo⟩ := hrel
            by_cases hlt : i < 32
            · have k0 : (0 : Int) ≤ (i : Int) := by omega
              have k1 : (i : Int) < 32 := by omega
              have a1 : (i : Int) / 8 = ((i / 8 : Nat) : Int) := by omega
              have a2 : (i : Int).tdiv 8 = ((i / 8 : Nat) : Int) := by rw [Int.tdiv_eq_ediv_of_nonneg (by omega)]; omega
              have hq : i / 8 < 25 := by omega
              have a3 : (0 : Int) ≤ ((i / 8 : Nat) : Int) := by omega
              have a4 : ((i / 8 : Nat) : Int) < 25 := by omega
              have a5 : IntKind.i64.wrap ((i / 8 : Nat) : Int) = ((i / 8 : Nat) : Int) := IntWalk.i64_in _ (by omega)
              have b5 : IntKind.i64.wrap ((i % 8 : Nat) : Int) = ((i % 8 : Nat) : Int) := IntWalk.i64_in _ (by omega)
              have b1 : (i : Int) % 8 = ((i % 8 : Nat) : Int) := by omega
              have b2 : (i : Int).tmod 8 = ((i % 8 : Nat) : Int) := by rw [Int.tmod_eq_emod_of_nonneg (by omega)]; omega
              have hm : i % 8 < 8 := Nat.mod_lt _ (by decide)
              have b3 : IntKind.i64.wrap (8 * ((i % 8 : Nat) : Int)) = ((8 * (i % 8) : Nat) : Int) := by rw [IntWalk.i64_in _ (by omega)]; omega
              have b4 : (0 : Int) ≤ ((8 * (i % 8) : Nat) : Int) := by omega
              have b7 : min (8 * (i % 8)) 64 = 8 * (i % 8) := by omega
              have b6 : IntKind.u64.wrap ((8 * (i % 8) : Nat) : Int) = ((8 * (i % 8) : Nat) : Int) := by rw [IntKind.wrap_u64]; omega
              have c2 := shr_val (so (i / 8)) (8 * (i % 8))
              have c3 : IntKind.u8.wrap ((so (i / 8) / 2 ^ (8 * (i % 8)) : Nat) : Int) = (outS so i : Int) := by rw [IntKind.wrap_u8, outS]; omega
              have x1 := Wd.at q hq
              obtain ⟨u1, c1'⟩ : ∃ u, wr.cell? ⟨go, i, none⟩ = some u := ⟨_, qo.cell' i _ (byAt _ _ (by rw [outK_len]; exact hlt))⟩
              have z1 := Blk.free qo i
              have QG := Lib.hid (Blk.far (p := ⟨go, i, none⟩) q (show gS ≠ go by omega) (.int .u8 (outS so i : Int)))
              have hbs : ((UInt8.ofNat (outS so i)).toNat : Int) = (outS so i : Int) := by rw [UInt8.toNat_ofNat']; have := outS_lt so i; omega
              have QO := Lib.hid ((qo.put i (.int .u8 ((UInt8.ofNat (outS so i)).toNat : Int))).same (bySet _ i _))
              rw [outK_put so hlt, hbs] at QO
              have HNN := Lib.hid (hn.setCell (p := ⟨go, i, none⟩) hBw (.int .u8 (outS so i : Int)))
              clear q qo hn hbs
              generalize so (i / 8) / 2 ^ (8 * (i % 8)) = v2 at *
              generalize outS so i = v1 at *
              generalize so (i / 8) = v0 at *
              generalize i / 8 = kq at *
              generalize 8 * (i % 8) = k8 at *
              generalize i % 8 = km at *
              go_wp2
              go_roundw
              case rel => exact ⟨i + 1, by go_num, by omega, HNN.out, QG.out, QO.out⟩
              case measure => (simp [intOf]; try omega)
            · obtain rfl : i = 32 := by omega
              have hcv := conv_rd (W := wr) (A := some ⟨go, 0, none⟩) 32 (outK_len so 32) ⟨by rw [Lib.byteCells_length, outK_len, Nat.mul_one], fun _ => ⟨go, 0, rfl, Blk.lt qo, fun j u hj => by rw [Nat.zero_add]; exact qo.cell' j u (by rw [List.getElem?_toArray]; exact hj)⟩⟩
              have HNN := Lib.hid hn
              have hout : S (outK so 32) = sumV d := by rw [HSV.out, outK_end, ← HSO.out]; rfl
              rw [hout] at hcv
              clear q qo hn hout
              go_wp2
              go_ret
              exact ⟨rfl, by have := HNN.out; rw [← HB.out] at this; exact this⟩
end Go.Proofs.YtfeknjpinboknaaGreatDoor

