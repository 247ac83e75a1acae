/- The reference's Trace. Conditions: sizes. (Printed by mk-w5.py.) -/
import Derived.Test.YtfeknjpinboknaaGreatDoorGW3
import Derived.Test.YtfeknjpinboknaaGreatDoorGV

namespace Go.Proofs.YtfeknjpinboknaaGreatDoor
open Go Go.RowKit Go.Joins Go.Shelf
set_option linter.unusedSimpArgs false
set_option linter.unusedVariables false

theorem Tryz.info44' : (Tryz.prog.info? 44).map (fun i => (i.zero, i.size, i.bytes)) = some (some (.agg #[.int .i64 0, .int .i64 0]), 2, 16) := by kernel_rfl
def TrP (base : ByteArray) (l : List Hk) (L : Int) (w : World) (e : Ending) (w' : World) : Prop := New w w' ∧
  if validV base l = true ∧ cnt 1 l + cnt 2 l = L then ∃ A c, e = .returned (.tuple #[.slice A (trO base l).1.length c, .int .i64 0]) ∧ Rd w' 2 A (trO base l).1.length ((trO base l).1.flatMap plC) ∧ (trO base l).1.length ≤ c
  else e = .returned (.tuple #[.slice none 0 0, .int .i64 (if validV base l = false then 1 else 9)])
theorem tr_step {base : ByteArray} {hs : List Hm} (ho : OkA hs) {k : Nat} {h : Hm} (hk : hs[k]? = some h) {P : List (Int × Int)} {o t : Nat} (e : trO base ((hs.take k).map Hm.d) = (P, o, t)) :
    trO base ((hs.take (k + 1)).map Hm.d) = trS (P, o, t) h.d ∧ (P.length : Int) = cnt 1 ((hs.take k).map Hm.d) + cnt 3 ((hs.take k).map Hm.d) ∧ ((trS (P, o, t) h.d).1.length : Int) = cnt 1 ((hs.take (k + 1)).map Hm.d) + cnt 3 ((hs.take (k + 1)).map Hm.d) ∧ ((trS (P, o, t) h.d).2.1 : Int) = cnt 1 ((hs.take (k + 1)).map Hm.d) + cnt 2 ((hs.take (k + 1)).map Hm.d) ∧ (trS (P, o, t) h.d).2.2 = (textL base ((hs.take (k + 1)).map Hm.d)).length := by
  have e2 : trO base ((hs.take (k + 1)).map Hm.d) = trS (P, o, t) h.d := by rw [map_take hk, trO_snoc, e]
  refine ⟨e2, ?_, ?_, ?_, ?_⟩
  · have := tr_len base _ (ok_take ho k)
    rw [e] at this; exact this
  · have := tr_len base _ (ok_take ho (k + 1))
    rw [e2] at this; exact this
  · rw [← e2, tr_old base [] _ (ok_take ho (k + 1))]; exact appO_at [] _ (ok_take ho (k + 1))
  · rw [← e2]; exact tr_text base _ (ok_take ho (k + 1))
set_option maxRecDepth 100000 in
set_option maxHeartbeats 32000000 in
theorem rtrace_any (base : ByteArray) (A : Option Addr) (n c : Nat) (hs : List Hm) (L : Int) (w : World) (hr : PRd w A n hs) (hz : SzH hs) (hb : base.size ≤ 1000000) :
    Calls Tryz.prog 24 #[.agg #[.string base, .slice A n c], .int .i64 (L : Int)] w (TrP base (hs.map Hm.d) L w) := by
  obtain ⟨j0, hinf, hz0, hz1, hz2⟩ := info_parts Tryz.info44'
  have hn0 := (New.refl w).alloc (.cells #[.string base, .slice A n c] 24)
  have B0 := Blk.made w 24 #[.string base, .slice A n c]
  have HR := Lib.hid hr
  have HL := Lib.hid hr.len
  have HCK := Lib.hid (rvalid_any base A n c hs _ (hr.new hn0) hz hb)
  cases hv : validV base (hs.map Hm.d)
  · have HN : Hid (∀ e w', e = .returned (.tuple #[.slice none 0 0, .int .i64 1]) → New w w' → TrP base (hs.map Hm.d) L w e w') := Lib.hid (fun e w' he hn => ⟨hn, by
      rw [if_neg (by rw [hv]; intro h; cases h.1), if_pos hv]; exact he⟩)
    rw [hv] at HCK
    clear hr hz hv
    go_enter Tryz.func24, Tryz.ntmps24
    go_wp2_with (go_at_call 34; (with_reducible refine HCK.out.mono ?_); rintro e w1 ⟨rfl, n1⟩)
    go_ret2
    exact HN.out _ _ rfl (hn0.trans n1)
  have HV := Lib.hid hv
  obtain ⟨ho, hln, hbz, s1, s2, s3, s4⟩ := valid_ok hv
  have HO := Lib.hid ho
  rw [hv] at HCK
  have hn1024 : n ≤ 1024 := by rw [← hr.len]; exact hln
  have HSZ := Lib.hid (fun W (hN : New w W) => counts_any base A n c hs W (hr.new hN) ho (by omega))
  obtain ⟨cc1, hcc1⟩ : ∃ q, cnt 1 (hs.map Hm.d) = q := ⟨_, rfl⟩
  obtain ⟨cc2, hcc2⟩ : ∃ q, cnt 2 (hs.map Hm.d) = q := ⟨_, rfl⟩
  obtain ⟨cc3, hcc3⟩ : ∃ q, cnt 3 (hs.map Hm.d) = q := ⟨_, rfl⟩
  have hok' : ∀ x ∈ hs.map Hm.d, OkH x := fun x hx => by obtain ⟨y, hy, rfl⟩ := List.mem_map.1 hx; exact ho y hy
  have b1 := (cnt_bound 1 hok').1
  have b2 := (cnt_bound 2 hok').1
  have b3 := (cnt_bound 3 hok').1
  rw [hcc1] at s1 s2 s3 s4 b1
  rw [hcc2] at s1 s2 b2
  rw [hcc3] at s3 s4 b3
  rw [hcc1, hcc2, hcc3] at HSZ
  have HC1 := Lib.hid hcc1
  have HC2 := Lib.hid hcc2
  have HC3 := Lib.hid hcc3
  have k0 : IntKind.i64.wrap (cc1 + cc2) = cc1 + cc2 := IntWalk.i64_in _ (by omega)
  by_cases hc : cc1 + cc2 = (L : Int)
  · subst hc
    have HY : Hid (∀ e w' A1 c1 m P, trO base (hs.map Hm.d) = P → m = P.1.length → e = .returned (.tuple #[.slice A1 m c1, .int .i64 0]) → Rd w' 2 A1 m (P.1.flatMap plC) → m ≤ c1 → New w w' → TrP base (hs.map Hm.d) (cc1 + cc2) w e w') := Lib.hid (fun e w' A1 c1 m P hP hm he h1 h2 hn => ⟨hn, by
      subst hP hm
      rw [if_pos ⟨hv, by rw [hcc1, hcc2]⟩]; exact ⟨A1, c1, he, h1, h2⟩⟩)
    have k1 : (cc1 + cc2 == cc1 + cc2) = true := by simp
    have k2 : (cc1 + cc2 != cc1 + cc2) = false := by simp
    have hfb : (base.toList = [] ∧ (base.toList == ([] : List UInt8)) = true ∧ base.size = 0) ∨ ((base.toList == ([] : List UInt8)) = false ∧ base.toList.isEmpty = false ∧ ¬ base.size = 0) := by
      rcases hbz with h | h
      · have : base.toList = [] := by rw [toList_eq]; exact List.eq_nil_of_length_eq_zero (by rw [← size_eq]; exact h)
        exact Or.inl ⟨this, by rw [this]; rfl, h⟩
      · refine Or.inr ⟨?_, ?_, by omega⟩
        · rw [toList_eq, data_cons (by omega)]; rfl
        · rw [toList_eq, data_cons (by omega)]; rfl
    have HFB := Lib.hid hfb
    clear hr hz hv hcc1 hcc2 hcc3 ho hok' hfb hbz
    go_enter Tryz.func24, Tryz.ntmps24
    go_upto_if 31 with (first | (go_at_call 34; (with_reducible refine HCK.out.mono ?_); rintro e w1 ⟨rfl, n1⟩; have hW1 := hn0.trans n1; have B1 := B0.new n1; have e11 := B1.cell' 0 _ rfl; have e10 := B1.cell' 1 _ rfl) | (go_at_call 38; (with_reducible refine (HSZ.out _ hW1).mono ?_); rintro e w2 ⟨rfl, n2⟩; have hW2 := hW1.trans n2; have B2 := B1.new n2; have e20 := B2.cell' 0 _ rfl; have e21 := B2.cell' 1 _ rfl))
    clear k1 k2 e10 e11 k0
    obtain ⟨t0, ht0⟩ : ∃ t0 : Nat, (if base.size = 0 then 0 else 1) = t0 := ⟨_, rfl⟩
    have HT0 := Lib.hid ht0
    go_cut [10] (fun v10 wc => v10 = .int .i64 (t0 : Int) ∧ wc = w2)
    case first =>
      rcases HFB.out with ⟨x1, x2, x3⟩ | ⟨x1, x2, x3⟩
      · obtain rfl : t0 = 0 := by rw [← ht0, if_pos x3]
        have y2 : (!base.toList.isEmpty) = false := by rw [x1]; rfl
        clear x3 ht0
        rw [y2]
        go_wp2
        go_meet
        case rel => exact ⟨rfl, rfl⟩
      · obtain rfl : t0 = 1 := by rw [← ht0, if_neg x3]
        have y2 : (!base.toList.isEmpty) = true := by rw [x2]; rfl
        clear x3 ht0
        rw [y2]
        go_wp2
        go_meet
        case rel => exact ⟨rfl, rfl⟩
    case rest =>
      obtain ⟨rfl, rfl⟩ := hcut
      have HTR0 : Hid (trO base ((hs.take 0).map Hm.d) = ([], 0, t0)) := Lib.hid (by rw [← ht0]; rfl)
      have hzc := hW2.size
      obtain ⟨g0, hg0⟩ : ∃ g0, wc.heap.size = g0 := ⟨_, rfl⟩
      have HG0 := Lib.hid hg0
      clear hg0 ht0 e20
      go_wp2
      clear e21
      go_loopw [9, 10, 11, 35] (fun v9 v10 v11 v35 wr => ∃ (V : Value) (k o t : Nat) (P : List (Int × Int)), V = v11 ∧ v9 = .int .i64 (o : Int) ∧ v10 = .int .i64 (t : Int) ∧ v35 = .int .i64 (k : Int) ∧ k ≤ n ∧ New wc wr ∧ wr.ownsRow g0 44 2 V P.length (P.flatMap plC) ∧ Hid (trO base ((hs.take k).map Hm.d) = (P, o, t))) (fun _ _ _ v35 _ => n - (intOf v35).toNat)
      case atStart => exact ⟨_, 0, 0, t0, [], rfl, rfl, rfl, rfl, by omega, New.refl _, World.ownsRow_nil _ _ _ _, HTR0.out⟩
      case round =>
        obtain ⟨V, k, o9, t, P, rfl, rfl, rfl, rfl, hk, hnr, hown, HTR⟩ := hrel
        by_cases hlt : k < n
        · obtain ⟨bk, o, rfl, hbk, p, hp, hcell⟩ := rd_row (f := hmC) (k := 3) (fun _ => rfl) HL.out (HR.out.new (hW2.trans hnr)).rd hlt
          have hok := HO.out p (List.mem_of_getElem? hp)
          obtain ⟨st0, st1, st2, st3, st4⟩ := tr_step HO.out hp HTR.out
          have m1 := cnt_mono HO.out 1 (k + 1)
          have m2 := cnt_mono HO.out 2 (k + 1)
          have m3 := cnt_mono HO.out 3 (k + 1)
          have m4 := cnt_mono HO.out 1 k
          have m5 := cnt_mono HO.out 3 k
          rw [HC1.out] at m1 m4
          rw [HC2.out] at m2
          rw [HC3.out] at m3 m5
          have m6 := linesL_take_bound HO.out (by rw [HL.out]; omega) (k + 1)
          have m7 := baseL_len base
          rw [textL, List.length_append] at st4
          obtain ⟨pk, pn, pl, pa, pc⟩ := p
          have q0 := hcell 0 (.int .i64 pk) (by omega) rfl
          have q1 := hcell 1 (.int .i64 pn) (by omega) rfl
          have q2 := hcell 2 (.slice pa pl.length pc) (by omega) rfl
          simp only [Nat.add_zero] at q0
          rw [← Nat.add_assoc] at q1 q2
          have i0' : (0 : Int) ≤ (k : Int) := by omega
          have i1' : (k : Int) < (n : Int) := by omega
          have k1 : 1 ≤ pk := hok.k1
          have k3' : pk ≤ 3 := hok.k3
          have n1 : 1 ≤ pn := hok.n1
          have n2 : pn ≤ 1024 := hok.n2
          generalize pl.length = nl at *
          obtain ⟨pm, rfl⟩ : ∃ pm : Nat, pn = (pm : Int) := ⟨pn.toNat, by omega⟩
          have hnr1 := hnr.alloc (.cells #[.int .i64 pk, .int .i64 pm, .slice pa nl pc] 55)
          have BH := Blk.made wr 55 #[.int .i64 pk, .int .i64 pm, .slice pa nl pc]
          have ownA := hown.alloc (.cells #[.int .i64 pk, .int .i64 pm, .slice pa nl pc] 55)
          have hzr := hnr.size
          have k9 := HG0.out
          have hneh : V.ownBlock ≠ some wr.heap.size := fun e => by have := (hown.lt _ e).2; omega
          have c0 := BH.cell' 0 _ rfl
          have c1 := BH.cell' 1 _ rfl
          obtain ⟨q, hq⟩ : ∃ q, P.length = q := ⟨_, rfl⟩
          rw [hq] at ownA st1
          have hql : q ≤ 1024 := by omega
          have HQ := Lib.hid hq
          clear hcell hp hok hown
          obtain ⟨wo, rfl⟩ : ∃ wo : World, wo = wr := ⟨_, rfl⟩
          by_cases e1 : pk = 3
          · subst e1
            rw [trS, if_pos (show (Hm.d ⟨3, (pm : Int), pl, pa, pc⟩).kind = 3 from rfl)] at st0 st2 st3 st4
            simp only [Hm.d, Int.toNat_natCast, List.length_append, pl3_len, hq] at st0 st2 st3 st4
            have u1 : o9 ≤ 2000 := by omega
            have u2 : t + 1 + pm ≤ 5000000 := by omega
            have HS2 := Lib.hid st0
            clear st0 st1 st2 st3 st4 hq m1 m2 m3 m4 m5 m6 m7
            go_wp2
            go_loopw [11, 14] (fun v11 v14 wq => ∃ (V : Value) (j : Nat), V = v11 ∧ v14 = .int .i64 (j : Int) ∧ j ≤ pm ∧ New wc wq ∧ Blk wq wo.heap.size 55 #[.int .i64 3, .int .i64 pm, .slice pa nl pc] ∧ V.ownBlock ≠ some wo.heap.size ∧ wq.ownsRow g0 44 2 V (q + j) ((P ++ pl3 (t + 1) j).flatMap plC)) (fun _ v14 _ => pm - (intOf v14).toNat)
            case atStart => exact ⟨_, 0, rfl, rfl, Nat.zero_le _, hnr1, BH, hneh, by simpa [pl3, pl1] using ownA⟩
            case round =>
              obtain ⟨V2, j, rfl, rfl, hj, hnq, BQ, hne, ownQ⟩ := hrel
              have z0 := BQ.cell' 0 _ rfl
              have z1 := BQ.cell' 1 _ rfl
              have hzq := hnq.size
              have hgr := BQ.lt
              have y1 : IntKind.i64.wrap ((t : Int) + 1 + (j : Int)) = (t : Int) + 1 + (j : Int) := IntWalk.i64_in _ (by omega)
              have y2 : IntKind.i64.wrap ((o9 : Int) + (j : Int)) = (o9 : Int) + (j : Int) := IntWalk.i64_in _ (by omega)
              by_cases hlt2 : j < pm
              · have y3 : (j : Int) < (pm : Int) := by omega
                go_wp2_with (at_builtin; refine wpList_append_own_at _ rfl _ _ 38 rfl g0 44 j0 (.agg #[.int .i64 0, .int .i64 0]) 2 16 Tryz.underlying38 hinf hz0 hz1 hz2 rfl (by decide) _ (q + j) _ rfl (ownQ.alloc _) ⟨wr.heap.size, 0, none⟩ 1 1 [.int .i64 (-1), .int .i64 ((t : Int) + 1 + (j : Int))] rfl rfl ?c1 ?c2 ?c3 ?c4 ?c5 ?_)
                case c1 => exact World.news_of_block (cs := #[.int .i64 (-1), .int .i64 ((t : Int) + 1 + (j : Int))]) (t := 44) (fr := (0, 0)) (heap_alloc_new _ _)
                case c2 => simp [Value.oneCell']
                case c3 => simp [maxLen]; omega
                case c4 => omega
                case c5 => simp; omega
                intro v5 w5 own5 hg5 _ hat5
                go_wp2
                go_roundw
                case rel => exact ⟨_, j + 1, rfl, by go_num, by omega, Below.grown (hnq.alloc _) hg5 (by simp; omega) (fun q hq => by have := (ownQ.lt q hq).1; omega), (BQ.alloc _).grown hg5 (Ne.symm hne), (fun e => by
                  rcases hat5 with h | h
                  · exact hne (by rw [← h]; exact e)
                  · rw [h] at e; simp at e; omega), by rw [pl3_succ, ← List.append_assoc, List.flatMap_append]; exact own_len own5 (by omega) (by simp [plC]; try omega)⟩
                case measure => simp [intOf]; omega
              · obtain rfl : j = pm := by omega
                have y4 : IntKind.i64.wrap ((t : Int) + 1 + (j : Int)) = (t : Int) + 1 + (j : Int) := y1
                go_wp2
                go_roundw
                case rel => exact ⟨_, k + 1, o9, t + 1 + j, P ++ pl3 (t + 1) j, rfl, by go_num, by go_num, by go_num, by omega, hnq, own_len ownQ (by rw [List.length_append, pl3_len, HQ.out]) rfl, HS2⟩
                case measure => simp [intOf]; omega
          · by_cases e2 : pk = 1
            · subst e2
              rw [trS, if_neg (show ¬ (Hm.d ⟨1, (pm : Int), pl, pa, pc⟩).kind = 3 from (by decide : ¬ (1 : Int) = 3)), if_pos (show (Hm.d ⟨1, (pm : Int), pl, pa, pc⟩).kind = 1 from rfl)] at st0 st2 st3 st4
              simp only [Hm.d, Int.toNat_natCast, List.length_append, pl1_len, hq] at st0 st2 st3 st4
              have u1 : o9 + pm ≤ 2000 := by omega
              have u2 : t + 1 ≤ 5000000 := by omega
              have HS2 := Lib.hid st0
              clear st0 st1 st2 st3 st4 hq m1 m2 m3 m4 m5 m6 m7
              go_wp2
              go_loopw [11, 14] (fun v11 v14 wq => ∃ (V : Value) (j : Nat), V = v11 ∧ v14 = .int .i64 (j : Int) ∧ j ≤ pm ∧ New wc wq ∧ Blk wq wo.heap.size 55 #[.int .i64 1, .int .i64 pm, .slice pa nl pc] ∧ V.ownBlock ≠ some wo.heap.size ∧ wq.ownsRow g0 44 2 V (q + j) ((P ++ pl1 o9 j).flatMap plC)) (fun _ v14 _ => pm - (intOf v14).toNat)
              case atStart => exact ⟨_, 0, rfl, rfl, Nat.zero_le _, hnr1, BH, hneh, by simpa [pl3, pl1] using ownA⟩
              case round =>
                obtain ⟨V2, j, rfl, rfl, hj, hnq, BQ, hne, ownQ⟩ := hrel
                have z0 := BQ.cell' 0 _ rfl
                have z1 := BQ.cell' 1 _ rfl
                have hzq := hnq.size
                have hgr := BQ.lt
                have y1 : IntKind.i64.wrap ((t : Int) + 1 + (j : Int)) = (t : Int) + 1 + (j : Int) := IntWalk.i64_in _ (by omega)
                have y2 : IntKind.i64.wrap ((o9 : Int) + (j : Int)) = (o9 : Int) + (j : Int) := IntWalk.i64_in _ (by omega)
                by_cases hlt2 : j < pm
                · have y3 : (j : Int) < (pm : Int) := by omega
                  go_wp2_with (at_builtin; refine wpList_append_own_at _ rfl _ _ 38 rfl g0 44 j0 (.agg #[.int .i64 0, .int .i64 0]) 2 16 Tryz.underlying38 hinf hz0 hz1 hz2 rfl (by decide) _ (q + j) _ rfl (ownQ.alloc _) ⟨wr.heap.size, 0, none⟩ 1 1 [.int .i64 ((o9 : Int) + (j : Int)), .int .i64 (-1)] rfl rfl ?c1 ?c2 ?c3 ?c4 ?c5 ?_)
                  case c1 => exact World.news_of_block (cs := #[.int .i64 ((o9 : Int) + (j : Int)), .int .i64 (-1)]) (t := 44) (fr := (0, 0)) (heap_alloc_new _ _)
                  case c2 => simp [Value.oneCell']
                  case c3 => simp [maxLen]; omega
                  case c4 => omega
                  case c5 => simp; omega
                  intro v5 w5 own5 hg5 _ hat5
                  go_wp2
                  go_roundw
                  case rel => exact ⟨_, j + 1, rfl, by go_num, by omega, Below.grown (hnq.alloc _) hg5 (by simp; omega) (fun q hq => by have := (ownQ.lt q hq).1; omega), (BQ.alloc _).grown hg5 (Ne.symm hne), (fun e => by
                    rcases hat5 with h | h
                    · exact hne (by rw [← h]; exact e)
                    · rw [h] at e; simp at e; omega), by rw [pl1_succ, ← List.append_assoc, List.flatMap_append]; exact own_len own5 (by omega) (by simp [plC]; try omega)⟩
                  case measure => simp [intOf]; omega
                · obtain rfl : j = pm := by omega
                  have y4 : IntKind.i64.wrap ((t : Int) + 1 + (j : Int)) = (t : Int) + 1 + (j : Int) := y1
                  go_wp2
                  go_roundw
                  case rel => exact ⟨_, k + 1, o9 + j, t + 1, P ++ pl1 o9 j, rfl, by go_num, by go_num, by go_num, by omega, hnq, own_len ownQ (by rw [List.length_append, pl1_len, HQ.out]) rfl, HS2⟩
                  case measure => simp [intOf]; omega
            · obtain rfl : pk = 2 := by omega
              rw [trS, if_neg (show ¬ (Hm.d ⟨2, (pm : Int), pl, pa, pc⟩).kind = 3 from (by decide : ¬ (2 : Int) = 3)), if_neg (show ¬ (Hm.d ⟨2, (pm : Int), pl, pa, pc⟩).kind = 1 from (by decide : ¬ (2 : Int) = 1))] at st0 st2 st3 st4
              simp only [Hm.d, Int.toNat_natCast, hq] at st0 st2 st3 st4
              have u1 : o9 + pm ≤ 2000 := by omega
              have u2 : t + 1 ≤ 5000000 := by omega
              have HS2 := Lib.hid st0
              clear st0 st1 st2 st3 st4 hq m1 m2 m3 m4 m5 m6 m7
              go_wp2
              go_loopw [11, 14] (fun v11 v14 wq => v11 = V ∧ ∃ j : Nat, v14 = .int .i64 (j : Int) ∧ j ≤ pm ∧ wq = wo.alloc (.cells #[.int .i64 2, .int .i64 pm, .slice pa nl pc] 55)) (fun _ v14 _ => pm - (intOf v14).toNat)
              case atStart => exact ⟨rfl, 0, rfl, Nat.zero_le _, rfl⟩
              case round =>
                obtain ⟨rfl, j, rfl, hj, rfl⟩ := hrel
                by_cases hlt2 : j < pm
                · have y3 : (j : Int) < (pm : Int) := by omega
                  go_wp2
                  go_roundw
                  case rel => exact ⟨by first | rfl | trivial, j + 1, by go_num, by omega, by first | rfl | trivial⟩
                  case measure => simp [intOf]; omega
                · obtain rfl : j = pm := by omega
                  go_wp2
                  go_roundw
                  case rel => exact ⟨_, k + 1, o9 + j, t + 1, P, rfl, by go_num, by go_num, by go_num, by omega, hnr1, by rw [HQ.out]; exact ownA, HS2⟩
                  case measure => simp [intOf]; omega
        · obtain rfl : k = n := by omega
          have e : hs.take k = hs := List.take_of_length_le (by rw [HL.out]; exact Nat.le_refl _)
          rw [e] at HTR
          obtain ⟨A1, c1, rfl, hcc, _, hrd⟩ := own_form hown
          have HRR := Lib.hid hrd
          have HQ := Lib.hid (HY.out _ wr A1 c1 _ _ HTR.out rfl rfl hrd hcc (hW2.trans hnr))
          clear hrd hown hcc
          go_wp2
          go_ret2
          exact HQ.out
  · have HN : Hid (∀ e w', e = .returned (.tuple #[.slice none 0 0, .int .i64 9]) → New w w' → TrP base (hs.map Hm.d) L w e w') := Lib.hid (fun e w' he hn => ⟨hn, by
      rw [if_neg (by rintro ⟨_, h⟩; rw [hcc1, hcc2] at h; exact hc h), if_neg (by rw [hv]; decide)]; exact he⟩)
    have k1 : ((L : Int) == cc1 + cc2) = false := by simp; omega
    have k2 : ((L : Int) != cc1 + cc2) = true := by simp; omega
    have k3 : ¬ (L : Int) = cc1 + cc2 := by omega
    clear hr hz hv hcc1 hcc2 hcc3 ho hok' hbz
    go_enter Tryz.func24, Tryz.ntmps24
    go_wp2_with (first | (go_at_call 34; (with_reducible refine HCK.out.mono ?_); rintro e w1 ⟨rfl, n1⟩; have hW1 := hn0.trans n1; have B1 := B0.new n1; have e11 := B1.cell' 0 _ rfl; have e10 := B1.cell' 1 _ rfl) | (go_at_call 38; (with_reducible refine (HSZ.out _ hW1).mono ?_); rintro e w2 ⟨rfl, n2⟩))
    go_ret2
    exact HN.out _ _ rfl (hW1.trans n2)
end Go.Proofs.YtfeknjpinboknaaGreatDoor

