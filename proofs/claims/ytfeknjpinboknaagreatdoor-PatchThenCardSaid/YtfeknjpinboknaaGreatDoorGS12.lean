/- The program's Write of SHA3, walked for one string. Conditions: sizes. The program's Clone of SHA3. No conditions. The last block of SHA3, as bytes: plain. No conditions. The program's Sum of SHA3: its rows. No conditions. -/
import Derived.Test.YtfeknjpinboknaaGreatDoorGS9
import Derived.Test.YtfeknjpinboknaaGreatDoorGW28
import Derived.Test.YtfeknjpinboknaaGreatDoorGE

namespace Go.Proofs.YtfeknjpinboknaaGreatDoor
open Go Go.RowKit Go.Joins Go.Shelf
set_option linter.unusedSimpArgs false
set_option linter.unusedVariables false

def restLen (w : World) (g : Nat) : Nat := match w.cell? ⟨g, 25, none⟩ with | some (.slice _ n _) => n | _ => 0
theorem restLen_at {w : World} {g n c : Nat} {A : Option Addr} (h : w.cell? ⟨g, 25, none⟩ = some (.slice A n c)) : restLen w g = n := by unfold restLen; rw [h]
theorem spR_0 (v : Value) (tk : Int) (sn : Nat → Nat) (tail sum : ByteArray) : (spR v tk sn tail sum)[0]? = some v := by rw [spR, Array.append_assoc, Array.getElem?_append_left (by simp)]; rfl
theorem spR_1 (v : Value) (tk : Int) (sn : Nat → Nat) (tail sum : ByteArray) : (spR v tk sn tail sum)[1]? = some (.int .i64 tk) := by rw [spR, Array.append_assoc, Array.getElem?_append_left (by simp)]; rfl
theorem SpB.f25 {w : World} {g : Nat} {s sn : Nat → Nat} {v : Value} {tk : Int} {tail sum : ByteArray} (h : SpB w g s (spR v tk sn tail sum)) : w.cell? ⟨g, 25, none⟩ = some v := SpB.field (i := 0) h (spR_0 _ _ _ _ _)
theorem SpB.f26 {w : World} {g : Nat} {s sn : Nat → Nat} {v : Value} {tk : Int} {tail sum : ByteArray} (h : SpB w g s (spR v tk sn tail sum)) : w.cell? ⟨g, 26, none⟩ = some (.int .i64 tk) := SpB.field (i := 1) h (spR_1 _ _ _ _ _)
theorem SpB.s25 {w : World} {g : Nat} {s sn : Nat → Nat} {v : Value} {tk : Int} {tail sum : ByteArray} (h : SpB w g s (spR v tk sn tail sum)) (v' : Value) : SpB (w.setCell ⟨g, 25, none⟩ v') g s (spR v' tk sn tail sum) := by
  have := SpB.putF h 0 v'; rw [spR_set0] at this; exact this
theorem SpB.s26 {w : World} {g : Nat} {s sn : Nat → Nat} {v : Value} {tk : Int} {tail sum : ByteArray} (h : SpB w g s (spR v tk sn tail sum)) (t : Int) : SpB (w.setCell ⟨g, 26, none⟩ (.int .i64 t)) g s (spR v t sn tail sum) := by
  have := SpB.putF h 1 (.int .i64 t); rw [spR_set1] at this; exact this
set_option maxRecDepth 100000 in
set_option maxHeartbeats 16000000 in
theorem write_any (g B : Nat) (d : ByteArray) (A : Option Addr) (c : Nat) (w : World) (hB : SpB w g zeroS (spR (.slice none 0 0) 0 zeroS ⟨#[]⟩ ⟨#[]⟩)) (hr : Rd w 1 A 1 (sCells [d])) (hd : d.size ≤ 1000000) (hBg : B ≤ g) :
    Calls Tryz.prog 78 #[.pointer (some ⟨g, 0, none⟩), .slice A 1 c] w fun e w' => ∃ v k, e = .returned (.int .i64 (d.size : Int)) ∧ 136 * k ≤ d.data.toList.length ∧ d.data.toList.length < 136 * k + 136 ∧ SpB w' g (stK d.data.toList k) (spR v d.size zeroS ⟨#[]⟩ ⟨#[]⟩) ∧ w'.ownsRow B 5 1 v (d.data.toList.length - 136 * k) (Lib.byteCells (d.data.toList.drop (136 * k))) ∧ Below B w w' := by
  obtain ⟨i0, hi, hz0, hz1, hz2⟩ := info_parts Tryz.info5'
  have HB := Lib.hid hB
  obtain ⟨b, o, rfl, hbl, hbc⟩ := hr.2 (by omega)
  have c0 : w.cell? ⟨b, o, none⟩ = some (.string d) := hbc 0 _ rfl
  have HSZ : Hid (d.size = d.data.toList.length) := Lib.hid (by rw [size_eq])
  have HC0 := Lib.hid c0
  have hgl := Blk.lt hB
  have HGB := Lib.hid hgl
  clear hB hr hbc c0 hgl
  go_enter Tryz.func78, Tryz.ntmps78
  go_wp2
  go_loopw [6, 9] (fun _ v9 wr => ∃ k : Nat, v9 = .int .i64 (k : Int) ∧ ((k = 0 ∧ wr = w) ∨ (k = 1 ∧ ∃ V k, 136 * k ≤ d.data.toList.length ∧ d.data.toList.length < 136 * k + 136 ∧ SpB wr g (stK d.data.toList k) (spR V d.size zeroS ⟨#[]⟩ ⟨#[]⟩) ∧ wr.ownsRow B 5 1 V (d.data.toList.length - 136 * k) (Lib.byteCells (d.data.toList.drop (136 * k))) ∧ Below B w wr))) (fun _ v9 _ => 1 - (intOf v9).toNat)
  case atStart => exact ⟨0, rfl, Or.inl ⟨rfl, rfl⟩⟩
  case round =>
    obtain ⟨k, rfl, ⟨rfl, rfl⟩ | ⟨rfl, V, k, hk1, hk2, hS, hO, hW⟩⟩ := hrel
    · have c0 := HC0.out
      have f26 := SpB.f26 HB.out
      have z26 := Blk.free HB.out 26
      have mw : IntKind.i64.wrap (0 + (d.size : Int)) = (d.size : Int) := by rw [Int.zero_add]; exact IntWalk.i64_in _ (by omega)
      have mw2 : IntKind.i64.wrap (d.size : Int) = (d.size : Int) := IntWalk.i64_in _ (by omega)
      have S1 := SpB.s26 HB.out (d.size : Int)
      have f25 := SpB.f25 S1
      have W1 := (New.refl wr)
      go_wp2_with (at_builtin; refine Lib.wpList_append_own_string _ rfl _ _ 92 9 rfl B 5 i0 Tryz.underlying92 Tryz.underlying9 hi hz0 hz1 hz2 _ 0 [] rfl (World.ownsRow_nil _ _ _ _) d rfl ?c3 ?c4 ?c5 ?_)
      case c3 => unfold maxLen; omega
      case c4 => omega
      case c5 => have := HGB.out; simp; omega
      intro v1 w1 hown1 hg1 _
      obtain ⟨A1, c1, rfl⟩ := own_cap hown1
      have S2 : SpB w1 g zeroS (spR (.slice none 0 0) d.size zeroS ⟨#[]⟩ ⟨#[]⟩) := Blk.grown S1 hg1 (by simp [Value.ownBlock])
      have W2 : Below B wr w1 := Below.grown ((Below.refl B wr).setCell (p := ⟨g, 26, none⟩) hBg (.int .i64 (d.size : Int))) hg1 (by have := HGB.out; rw [World.size_setCell]; omega) (fun q e => by simp [Value.ownBlock] at e)
      have hne1 := ne_kind (cs := []) hown1 S2 (by decide)
      have S3 := Lib.hid (SpB.s25 S2 (.slice A1 d.size c1))
      have O3 := Lib.hid (hown1.kept (grown_set w1 g 25 (.slice A1 d.size c1)) (Or.inr hne1))
      have W3 := Lib.hid (W2.setCell (p := ⟨g, 25, none⟩) hBg (.slice A1 d.size c1))
      have f25' := SpB.f25 S2
      have z25' := Blk.free S2 25
      rw [Lib.strCells_eq] at O3
      clear hown1 hg1 S1 S2 W1 W2 hne1 f26 z26 f25
      obtain ⟨wo, rfl⟩ : ∃ wo : World, wo = wr := ⟨_, rfl⟩
      go_wp2
      generalize w1.setCell ⟨g, 25, none⟩ (.slice A1 d.size c1) = w2 at *
      clear f25' z25'
      go_loopw [] (fun wr2 => ∃ (k : Nat) (V : Value), 136 * k ≤ d.data.toList.length ∧ SpB wr2 g (stK d.data.toList k) (spR V d.size zeroS ⟨#[]⟩ ⟨#[]⟩) ∧ wr2.ownsRow B 5 1 V (d.data.toList.length - 136 * k) (Lib.byteCells (d.data.toList.drop (136 * k))) ∧ Below B wo wr2) (fun wr2 => restLen wr2 g)
      case atStart => exact ⟨0, _, by omega, S3.out, by have := O3.out; rw [HSZ.out] at this; exact this, W3.out⟩
      case round =>
        obtain ⟨k, V, hk, hS, hO, hW⟩ := hrel
        obtain ⟨AV, cV, rfl, hcV, _, hrd⟩ := own_form hO
        have f25 := SpB.f25 hS
        have z25 := Blk.free hS 25
        have hneg := ne_kind (cs := []) hO hS (by decide)
        obtain ⟨n, hn⟩ : ∃ n, d.data.toList.length - 136 * k = n := ⟨_, rfl⟩
        rw [hn] at hO f25 hS
        by_cases hge : 136 ≤ n
        · obtain ⟨gr, cr, hfr, hb1, hb2⟩ := hO.form (by omega)
          obtain ⟨rfl, rfl⟩ : AV = some ⟨gr, 0, none⟩ ∧ cV = cr := by injection hfr with q1 q2 q3; exact ⟨q1, q3⟩
          have hgr : gr ≠ g := fun e => hneg (by subst e; rfl)
          have HAB := Lib.hid (absorb_any g (some ⟨gr, 0, none⟩) cV (stK d.data.toList k) _ ((d.data.toList.drop (136 * k)).take 136) wr (StW.st _ k) hS (by
            have := hrd.take (k := 136) (by omega)
            rw [Nat.mul_one] at this
            rw [byC, List.map_take]; exact this) (by rw [List.length_take, List.length_drop]; omega) (fun b o e => by injection e with e; injection e with e1 e2; omega))
          rw [abs_step] at HAB
          have HO := Lib.hid hO
          have HW := Lib.hid hW
          have hc136 : 136 ≤ cV := by omega
          have p0 : (136 : Int) ≤ (n : Int) := by omega
          have p1 : (136 : Int) ≤ (cV : Int) := by omega
          have HM := Lib.hid (restLen_at f25)
          clear hO hW hrd hfr hS
          obtain ⟨wp, rfl⟩ : ∃ wp : World, wp = wr := ⟨_, rfl⟩
          go_wp2_with (fail)
          with_reducible refine HAB.out.mono ?_
          rintro e w5 ⟨rfl, g5, S5⟩
          have O5 := Lib.hid (HO.out.kept g5 (Or.inr (by rw [← hn]; exact hneg)))
          have W5 := Lib.hid (Below.grown HW.out g5 (by omega) (fun q e => by injection e with e; omega))
          have f5 := SpB.f25 S5
          have z5 := Blk.free S5 25
          have hgl5 : g < w5.heap.size := Blk.lt S5
          have hrd5 := Rd.of_own O5.out
          clear f25 z25
          have HD5 := Lib.hid (fun (j : Nat) (u : Value) (hj : (Lib.byteCells (d.data.toList.drop (136 * (k + 1))))[j]? = some u) => show w5.cell? ⟨gr, 136 + j, none⟩ = some u from by
            obtain ⟨b5, o5, e5, _, hc5⟩ := hrd5.2 (by omega)
            obtain ⟨rfl, rfl⟩ : gr = b5 ∧ 0 = o5 := by injection e5 with e5; injection e5 with e1 e2; exact ⟨e1, e2⟩
            have := hc5 (136 + j) u (by
              rw [Lib.byteCells, List.getElem?_map, List.getElem?_drop] at hj
              rw [Lib.byteCells, List.getElem?_map, List.getElem?_drop, show 136 * k + (136 + j) = 136 * (k + 1) + j by omega]
              exact hj)
            rw [Nat.zero_add] at this
            exact this)
          clear hrd5
          have hdl : d.data.toList.length ≤ 1000000 := by rw [← HSZ.out]; exact hd
          by_cases hcv : cV = 136
          · subst hcv
            obtain rfl : n = 136 := by omega
            go_wp2_with (at_builtin; refine wpList_append_own _ rfl _ _ 92 rfl B 5 i0 (.int .u8 0) 1 1 Tryz.underlying92 hi hz0 hz1 hz2 rfl (by decide) _ 0 [] rfl (World.ownsRow_nil _ _ _ _) ⟨gr, 0, none⟩ (0) (0) (Lib.byteCells (d.data.toList.drop (136 * (k + 1)))) ?c0 ?c1 ?c2 ?c3 ?c4 ?c5 ?c6 ?_)
            case c0 => first | rfl | (simp [Act.eval, Act.put]; done) | (simp [Act.eval, Act.put]; omega)
            case c1 => rw [Lib.byteCells_length, List.length_drop]; omega
            case c2 => exact (fun j u hj => by rw [show d.data.toList.drop (136 * (k + 1)) = [] from List.drop_of_length_le (by omega)] at hj; simp [Lib.byteCells] at hj)
            case c3 => (intro u hu; rw [Lib.byteCells] at hu; obtain ⟨x, _, rfl⟩ := List.mem_map.1 hu; rfl)
            case c4 => unfold maxLen; omega
            case c5 => omega
            case c6 => omega
            intro v6 w6 hown6 hg6 _
            have hm6 : 0 + (0) = d.data.toList.length - 136 * (k + 1) := by omega
            have O6 := own_len hown6 (n' := d.data.toList.length - 136 * (k + 1)) (xs' := Lib.byteCells (d.data.toList.drop (136 * (k + 1)))) (by omega) (by simp)
            obtain ⟨A6, c6, rfl⟩ := own_cap O6
            have S6 := Blk.grown S5 hg6 (by simp [Value.ownBlock])
            have W6 := Below.grown W5.out hg6 (by omega) (fun q e => by simp [Value.ownBlock] at e)
            have hne6 := ne_kind (cs := []) O6 S6 (by decide)
            have S7 := Lib.hid (SpB.s25 S6 (.slice A6 (d.data.toList.length - 136 * (k + 1)) c6))
            have O7 := Lib.hid (O6.kept (grown_set w6 g 25 (.slice A6 (d.data.toList.length - 136 * (k + 1)) c6)) (Or.inr hne6))
            have W7 := Lib.hid (W6.setCell (p := ⟨g, 25, none⟩) hBg (.slice A6 (d.data.toList.length - 136 * (k + 1)) c6))
            have f6 := SpB.f25 S6
            have z6 := Blk.free S6 25
            have HM7 := Lib.hid (restLen_at (SpB.f25 S7.out))
            rw [show d.data.toList.length = d.size from HSZ.out.symm] at HM7
            clear hown6 hg6 O6 S6 W6 hne6 f5 z5
            go_wp2
            go_roundw
            case rel => exact ⟨k + 1, _, by omega, S7.out, O7.out, W7.out⟩
            case measure => (have e7 := HSZ.out; rw [HM7.out, HM.out]; omega)
          · have p2 : (136 : Int) < (cV : Int) := by omega
            go_wp2_with (at_builtin; refine wpList_append_own _ rfl _ _ 92 rfl B 5 i0 (.int .u8 0) 1 1 Tryz.underlying92 hi hz0 hz1 hz2 rfl (by decide) _ 0 [] rfl (World.ownsRow_nil _ _ _ _) ⟨gr, 136, none⟩ (n - 136) (cV - 136) (Lib.byteCells (d.data.toList.drop (136 * (k + 1)))) ?c0 ?c1 ?c2 ?c3 ?c4 ?c5 ?c6 ?_)
            case c0 => first | rfl | (simp [Act.eval, Act.put]; done) | (simp [Act.eval, Act.put]; omega)
            case c1 => rw [Lib.byteCells_length, List.length_drop]; omega
            case c2 => exact (fun j u hj => by rw [show ((⟨gr, 136, none⟩ : Addr).add j) = ⟨gr, 136 + j, none⟩ from by unfold Addr.add; split <;> simp_all]; exact HD5.out j u hj)
            case c3 => (intro u hu; rw [Lib.byteCells] at hu; obtain ⟨x, _, rfl⟩ := List.mem_map.1 hu; rfl)
            case c4 => unfold maxLen; omega
            case c5 => omega
            case c6 => omega
            intro v6 w6 hown6 hg6 _
            have hm6 : 0 + (n - 136) = d.data.toList.length - 136 * (k + 1) := by omega
            have O6 := own_len hown6 (n' := d.data.toList.length - 136 * (k + 1)) (xs' := Lib.byteCells (d.data.toList.drop (136 * (k + 1)))) (by omega) (by simp)
            obtain ⟨A6, c6, rfl⟩ := own_cap O6
            have S6 := Blk.grown S5 hg6 (by simp [Value.ownBlock])
            have W6 := Below.grown W5.out hg6 (by omega) (fun q e => by simp [Value.ownBlock] at e)
            have hne6 := ne_kind (cs := []) O6 S6 (by decide)
            have S7 := Lib.hid (SpB.s25 S6 (.slice A6 (d.data.toList.length - 136 * (k + 1)) c6))
            have O7 := Lib.hid (O6.kept (grown_set w6 g 25 (.slice A6 (d.data.toList.length - 136 * (k + 1)) c6)) (Or.inr hne6))
            have W7 := Lib.hid (W6.setCell (p := ⟨g, 25, none⟩) hBg (.slice A6 (d.data.toList.length - 136 * (k + 1)) c6))
            have f6 := SpB.f25 S6
            have z6 := Blk.free S6 25
            have HM7 := Lib.hid (restLen_at (SpB.f25 S7.out))
            rw [show d.data.toList.length = d.size from HSZ.out.symm] at HM7
            clear hown6 hg6 O6 S6 W6 hne6 f5 z5
            go_wp2
            go_roundw
            case rel => exact ⟨k + 1, _, by omega, S7.out, O7.out, W7.out⟩
            case measure => (have e7 := HSZ.out; rw [HM7.out, HM.out]; omega)
        · have hsz := HSZ.out
          have p0 : ¬ (136 : Int) ≤ (n : Int) := by omega
          have HF := Lib.hid hW
          have HS9 := Lib.hid hS
          have HO9 : Hid (wr.ownsRow B 5 1 (.slice AV n cV) (d.data.toList.length - 136 * k) (Lib.byteCells (d.data.toList.drop (136 * k)))) := Lib.hid (by rw [hn]; exact hO)
          clear hW hS hO hrd
          obtain ⟨wp, rfl⟩ : ∃ wp : World, wp = wr := ⟨_, rfl⟩
          go_wp2
          go_roundw
          case rel => exact ⟨1, by go_num, Or.inr ⟨rfl, _, k, hk, by omega, HS9.out, HO9.out, HF.out⟩⟩
          case measure => (simp [intOf]; try omega)
    · have f26 := SpB.f26 hS
      go_wp2
      go_ret
      exact ⟨V, k, rfl, hk1, hk2, hS, hO, hW⟩
end Go.Proofs.YtfeknjpinboknaaGreatDoor

namespace Go.Proofs.YtfeknjpinboknaaGreatDoor
open Go Go.RowKit Go.Joins Go.Shelf
set_option linter.unusedSimpArgs false
set_option linter.unusedVariables false

theorem app_nothingB {w : World} {base n : Nat} {v : Value} {xs : List Value} (h : w.ownsRow base 5 1 v n xs) (A : Option Addr) (c : Nat) (ty : TypeId) : (Builtin.append_ #[92, 92] ty #[v, .slice A 0 c]).run Tryz.prog w = .ok v w := by
  have hi : ∃ i0, Tryz.prog.info? 5 = some i0 := by
    obtain ⟨i0, hi, _⟩ := info_parts Tryz.info5'
    exact ⟨i0, hi⟩
  obtain ⟨i0, hi⟩ := hi
  have hlc : ∀ ad : Addr, (loadCells ad 0).run Tryz.prog w = .ok #[] w := fun ad => rfl
  rcases h.2 with ⟨rfl, rfl⟩ | ⟨g, cap, cur, rfl, _, _, hnc, _⟩
  · cases A <;> simp [Builtin.append_, run_underlying Tryz.underlying92, sizeOf, typeInfo, hi, Builtin.lenOf, Builtin.firstCells, hlc, Result.andThen]
  · cases A <;> simp [Builtin.append_, run_underlying Tryz.underlying92, sizeOf, typeInfo, hi, Builtin.lenOf, Builtin.firstCells, hlc, Result.andThen, hnc, storeCells]

theorem wpList_append_rdB {w : World} {ops : Array Oper} {rest : List Oper} {o : Oper} {a : Act} {Q : Exit → Act → World → Prop} (hgd : o.guard = none) (s x : Operand)
    (ho : o.op = .call { callee := .builtin .append, args := #[s, x], argTypes := #[92, 92] })
    (base : Nat) (v : Value) (n : Nat) (xs : List Value) (hs : a.eval s = v) (hown : w.ownsRow base 5 1 v n xs)
    (A : Option Addr) (m c : Nat) (ws : List UInt8) (hx : a.eval x = .slice A m c) (hr : Rd w 1 A m (Lib.byteCells ws))
    (h63 : n + m ≤ 1000000000) (hbase : base ≤ w.heap.size)
    (h : ∀ v' w', w'.ownsRow base 5 1 v' (n + m) (xs ++ Lib.byteCells ws) → w.grownBy w' v.ownBlock → wpList Tryz.prog ops Q rest (a.put o.dst v') w') : wpList Tryz.prog ops Q (o :: rest) a w := by
  obtain ⟨j0, hi0, hz0, hz1, hz2⟩ := info_parts Tryz.info5'
  by_cases hm : 0 < m
  · obtain ⟨b, q, rfl, hb, hc⟩ := hr.2 hm
    exact wpList_append_own _ hgd s x 92 ho base 5 j0 (.int .u8 0) 1 1 Tryz.underlying92 hi0 hz0 hz1 hz2 rfl (by decide) v n xs hs hown ⟨b, q, none⟩ m c (Lib.byteCells ws) hx hr.1 (fun j u hu => by rw [add_none rfl]; exact hc j u hu) (fun u hu => by rw [Lib.byteCells] at hu; obtain ⟨x, _, rfl⟩ := List.mem_map.1 hu; rfl)
      (by simp only [maxLen]; omega) (by omega) hbase (fun v' w' h1 h2 _ => h v' w' h1 h2)
  · obtain rfl : m = 0 := by omega
    have hw : ws = [] := by have := hr.1; rw [Lib.byteCells, List.length_map] at this; exact List.eq_nil_of_length_eq_zero (by omega)
    subst hw
    have hrun := app_nothingB hown A c o.type
    refine wpList_plain hgd fun K hK => ?_
    unfold Oper.wp
    simp [execOp, ho, resolve, invoke, builtin, hs, hx, hrun, Result.andThen]
    exact hK _ _ (h v w (by simpa [Lib.byteCells] using hown) ⟨rfl, rfl, rfl, Nat.le_refl _, fun _ _ _ => rfl⟩)


theorem spOne (s sn : Nat → Nat) (A : Option Addr) (n c : Nat) (tk : Int) (tail sum : ByteArray) : (wdA 25 s ++ spR (.slice A n c) tk sn tail sum).all (·.oneCell') = true := by
  rw [Array.all_append, wdA_one, spR, Array.all_append, Array.all_append, wdA_one]; simp [Value.oneCell']
theorem info122s {s sn : Nat → Nat} {v : Value} {tk : Int} {tail sum : ByteArray} : (Tryz.prog.info? 122).map (·.size) = some (wdA 25 s ++ spR v tk sn tail sum).size := by rw [Array.size_append, wdA_size, spR_size]; kernel_rfl
set_option maxRecDepth 100000 in
set_option maxHeartbeats 16000000 in
theorem clone_any (g B : Nat) (s sn : Nat → Nat) (V : Value) (tk : Int) (tail sum : ByteArray) (l : List UInt8) (w : World) (hB : SpB w g s (spR V tk sn tail sum)) (hO : w.ownsRow B 5 1 V l.length (Lib.byteCells l)) (hl : l.length ≤ 1000) :
    Calls Tryz.prog 103 #[.pointer (some ⟨g, 0, none⟩)] w fun e w' => ∃ V', e = .returned (.pointer (some ⟨w.heap.size, 0, none⟩)) ∧ SpB w' w.heap.size s (spR V' tk sn tail sum) ∧ w'.ownsRow w.heap.size 5 1 V' l.length (Lib.byteCells l) ∧ New w w' := by
  obtain ⟨A, c, rfl, hc, _, hrd⟩ := own_form hO
  obtain ⟨gn, hgn⟩ : ∃ gn, w.heap.size = gn := ⟨_, rfl⟩
  have HG := Lib.hid hgn
  have HB := Lib.hid hB
  have HR := Lib.hid hrd
  have hgl := Blk.lt hB
  rw [hgn] at hgl
  clear hgn hB hO hrd
  go_enter Tryz.func103, Tryz.ntmps103
  go_upto_region 1 with (fail)
  go_step
  iterate 2 (go_step; go_step; go_step)
  refine wpList_load_row rfl 122 (.tmp 5) rfl g rfl 122 _ (0, 0) _ HB.out Tryz.underlying122 rfl info122s ?_
  go_step
  go_step
  go_step
  rw [HG.out, zeroSp]
  have n0 := (New.refl w).alloc (.cells (wdA 25 zeroS ++ spR (.slice none 0 0) 0 zeroS ⟨#[]⟩ ⟨#[]⟩) 122)
  have hsz := heap_alloc_new w (.cells (wdA 25 zeroS ++ spR (.slice none 0 0) 0 zeroS ⟨#[]⟩ ⟨#[]⟩) 122)
  rw [HG.out] at hsz
  generalize w.alloc (.cells (wdA 25 zeroS ++ spR (.slice none 0 0) 0 zeroS ⟨#[]⟩ ⟨#[]⟩) 122) = w1 at *
  refine wpList_store_rowTo rfl 122 (.tmp 3) (.tmp 6) rfl rfl gn (wdA 25 s ++ spR (.slice A l.length c) tk sn tail sum) rfl rfl 122 _ hsz info122s (by rw [Array.size_append, Array.size_append, wdA_size, wdA_size, spR_size, spR_size]) (spOne _ _ _ _ _ _ _ _) ?_
  have RB := setRow_heap w1 gn _ (wdA 25 s ++ spR (.slice A l.length c) tk sn tail sum) 122 (0, 0) hsz
  have NB : New w (w1.setRow gn (wdA 25 s ++ spR (.slice A l.length c) tk sn tail sum)) := below_setRow n0 (show w.heap.size ≤ gn by rw [HG.out]; exact Nat.le_refl _) _
  generalize w1.setRow gn (wdA 25 s ++ spR (.slice A l.length c) tk sn tail sum) = w2 at *
  have SB : SpB w2 gn s (spR (.slice A l.length c) tk sn tail sum) := RB
  have f25 := SpB.f25 (HB.out.new NB)
  have hrd2 := HR.out.below NB
  have HNB := Lib.hid NB
  clear hsz n0 RB NB
  have hwl : w2.heap.size > gn := Blk.lt SB
  go_wp2_with (at_builtin; refine wpList_append_rdB rfl _ _ rfl gn _ 0 [] rfl (World.ownsRow_nil _ _ _ _) A l.length c l rfl hrd2 (by omega) (by omega) ?_)
  intro v6 w6 hown6 hg6
  obtain ⟨A6, c6, rfl⟩ := own_cap hown6
  have S6 := Blk.grown SB hg6 (by simp [Value.ownBlock])
  have W6 : New w w6 := Below.grown HNB.out hg6 (by rw [HG.out]; omega) (fun q e => by simp [Value.ownBlock] at e)
  have O6 := own_len hown6 (n' := l.length) (xs' := Lib.byteCells l) (by omega) (by simp)
  have hne6 := ne_kind (cs := []) hown6 S6 (by decide)
  have z6 := Blk.free S6 25
  have f6 := SpB.f25 S6
  have S7 := Lib.hid (SpB.s25 S6 (.slice A6 (0 + l.length) c6))
  have O7 := Lib.hid (O6.kept (grown_set w6 gn 25 (.slice A6 (0 + l.length) c6)) (Or.inr hne6))
  have W7 := Lib.hid (W6.setCell (p := ⟨gn, 25, none⟩) (by rw [HG.out]; exact Nat.le_refl _) (.slice A6 (0 + l.length) c6))
  rw [Nat.zero_add] at S7 O7 W7
  clear hown6 hg6 S6 W6 O6 hne6 f25 hrd2 SB hwl
  go_wp2
  go_ret
  rw [HG.out]
  exact ⟨_, rfl, S7.out, O7.out, W7.out⟩
end Go.Proofs.YtfeknjpinboknaaGreatDoor

namespace Go.Proofs.YtfeknjpinboknaaGreatDoor
open Go Go.RowKit Go.Joins Go.Shelf
set_option linter.unusedSimpArgs false
set_option linter.unusedVariables false

def blkL (r : List UInt8) : List UInt8 := (r ++ List.replicate (136 - r.length) 0).set r.length 6
def blkE (r : List UInt8) : List UInt8 := (blkL r).set 135 ((blkL r).getD 135 0 ^^^ 128)
theorem blkL_len {r : List UInt8} (h : r.length < 136) : (blkL r).length = 136 := by simp [blkL]; omega
theorem blkE_len {r : List UInt8} (h : r.length < 136) : (blkE r).length = 136 := by rw [blkE, List.length_set, blkL_len h]
theorem blkL_at {r : List UInt8} (h : r.length < 136) {i : Nat} (hi : i < 136) : byteA (blkL r) i = if i < r.length then byteA r i else if i = r.length then 6 else 0 := by
  unfold byteA blkL
  rw [List.getD_eq_getElem?_getD, List.getElem?_set]
  by_cases e : r.length = i
  · rw [if_pos e, if_pos (by simp; omega), if_neg (by omega), if_pos e.symm]; rfl
  · rw [if_neg e]
    by_cases e2 : i < r.length
    · rw [if_pos e2, List.getElem?_append_left e2, List.getD_eq_getElem?_getD]
    · rw [if_neg e2, if_neg (fun q => e q.symm), List.getElem?_append_right (by omega), List.getElem?_replicate, if_pos (by omega)]; rfl
theorem blkE_at {r : List UInt8} (h : r.length < 136) {i : Nat} (hi : i < 136) : byteA (blkE r) i = lastB r i := by
  have hb := blkL_at h hi
  unfold lastB
  rw [← hb]
  by_cases e : i = 135
  · subst e
    rw [if_pos rfl]
    have h2 := blkL_at h hi
    rw [if_neg (by omega)] at h2
    have e3 : byteA (blkE r) 135 = byteA (blkL r) 135 ^^^ 128 := by
      unfold byteA blkE
      rw [List.getD_eq_getElem?_getD, List.getElem?_set_self (by rw [blkL_len h]; omega)]
      simp [UInt8.toNat_xor]
    rw [e3, h2]
    split <;> rfl
  · rw [if_neg e, Nat.or_zero]
    unfold byteA blkE
    rw [List.getD_eq_getElem?_getD, List.getElem?_set_ne (fun q => e q.symm), ← List.getD_eq_getElem?_getD]
end Go.Proofs.YtfeknjpinboknaaGreatDoor

namespace Go.Proofs.YtfeknjpinboknaaGreatDoor
open Go Go.RowKit Go.Joins Go.Shelf
set_option linter.unusedSimpArgs false
set_option linter.unusedVariables false

theorem madeB (n : Nat) : madeCells #[.int .u8 0] n = (Lib.byteCells (List.replicate n 0)).toArray := by
  apply Array.ext'
  rw [toList_madeCells_one, Lib.byteCells, List.map_replicate]; rfl
theorem run_mkB (n : Nat) (hn : n ≤ 1000) (W : World) : (Instr.makeSlice 92 (.int .i64 (n : Int)) (.int .i64 (n : Int))).run Tryz.prog W = .ok (.slice (some ⟨W.heap.size, 0, none⟩) n n) (W.alloc (.cells (Lib.byteCells (List.replicate n 0)).toArray 5)) := by
  obtain ⟨j0, hinf, hz0, hz1, hz2⟩ := info_parts Tryz.info5'
  have h := run_makeSlice (P := Tryz.prog) W 92 5 j0 (.int .u8 0) Tryz.underlying92 hinf hz0 .i64 .i64 (n : Int) (n : Int) (by omega) (by omega) (by rw [hz1]; omega) (by rw [hz2]; omega) (by omega)
  rw [hz1, Int.toNat_natCast, Nat.mul_one, show (Value.int .u8 0).cells = #[.int .u8 0] from rfl, madeB] at h
  exact h
theorem run_mk136 (W : World) : (Instr.makeSlice 92 (.int .i64 136) (.int .i64 136)).run Tryz.prog W = .ok (.slice (some ⟨W.heap.size, 0, none⟩) 136 136) (W.alloc (.cells (Lib.byteCells (List.replicate 136 0)).toArray 5)) := run_mkB 136 (by decide) W
theorem run_mk32 (W : World) : (Instr.makeSlice 92 (.int .i64 32) (.int .i64 32)).run Tryz.prog W = .ok (.slice (some ⟨W.heap.size, 0, none⟩) 32 32) (W.alloc (.cells (Lib.byteCells (List.replicate 32 0)).toArray 5)) := run_mkB 32 (by decide) W
theorem bySet (l : List UInt8) (i : Nat) (b : UInt8) : (Lib.byteCells l).toArray.setIfInBounds i (.int .u8 (b.toNat : Int)) = (Lib.byteCells (l.set i b)).toArray := by
  rw [List.setIfInBounds_toArray, Lib.byteCells, Lib.byteCells, List.map_set]
theorem byAt (l : List UInt8) (i : Nat) (h : i < l.length) : (Lib.byteCells l).toArray[i]? = some (.int .u8 (byteA l i : Int)) := by
  rw [List.getElem?_toArray, Lib.byteCells, List.getElem?_map, List.getElem?_eq_getElem h, byteA, List.getD_eq_getElem?_getD, List.getElem?_eq_getElem h]; rfl
theorem bySplice (r : List UInt8) (h : r.length ≤ 136) : splice (Lib.byteCells (List.replicate 136 0)) 0 (Lib.byteCells r) = Lib.byteCells (r ++ List.replicate (136 - r.length) 0) := by
  rw [splice, Lib.byteCells_append, Lib.byteCells_length, List.take_zero, List.nil_append, Nat.zero_add, Lib.byteCells, Lib.byteCells, Lib.byteCells, ← List.map_drop, List.drop_replicate]
end Go.Proofs.YtfeknjpinboknaaGreatDoor

