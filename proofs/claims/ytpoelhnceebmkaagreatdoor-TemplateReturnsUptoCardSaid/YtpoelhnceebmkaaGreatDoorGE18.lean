/- The reference's Parse: the walk. Conditions: the text's size. -/
import Derived.Test.YtpoelhnceebmkaaGreatDoorGE17
import Derived.Deep.RegionHeld
import Derived.Deep.CutRange
import Derived.Deep.CutBlock

namespace Go.Proofs.YtpoelhnceebmkaaGreatDoor
open Go Go.RowKit Go.Shelf
set_option linter.unusedSimpArgs false
set_option linter.unusedVariables false

set_option maxRecDepth 100000 in
set_option maxHeartbeats 8000000 in
theorem rparse_any (nm s : ByteArray) (w : World) (hs : s.size ≤ 10000) :
    Calls Tryz.prog 11 #[.string nm, .string s] w fun e w' => ∃ ta tb, e = .returned (.agg #[ta, tb, .int .i64 ((parseV s).2.1 : Nat), .int .i64 (parseV s).2.2]) ∧ New w w' ∧ ((parseV s).1 = none → ta = .string ⟨#[]⟩ ∧ tb = .slice none 0 0) ∧ (∀ ps, (parseV s).1 = some ps → TRd w' (.agg #[ta, tb]) nm ps) := by
  obtain ⟨j0, hi0, hz0, hz1, hz2⟩ := info_parts Tryz.info58
  obtain ⟨PV, hPV⟩ : ∃ x, parseV s = x := ⟨_, rfl⟩
  rw [hPV]
  by_cases hbig : 4096 < s.size
  · have hP2 : PV = (none, 0, 10) := by rw [← hPV, parseV, if_pos hbig]
    subst hP2
    clear hPV
    have t1 : decide ((4096 : Int) < (s.size : Int)) = true := decide_eq_true (by omega)
    go_enter Tryz.func11, Tryz.ntmps11
    go_wp2
    exact bodyPost_ret (v := .agg #[.string ⟨#[]⟩, .slice none 0 0, .int .i64 0, .int .i64 10]) (by simp [results, Tryz.results11, go_sem]) rfl ⟨_, _, rfl, (New.refl w).alloc _, fun _ => ⟨rfl, rfl⟩, fun ps h => by cases h⟩
  · have t1 : decide ((4096 : Int) < (s.size : Int)) = false := decide_eq_false (by omega)
    have hP2 : goV (s.size + 1) s.data.toList 0 0 [] 0 = PV := by rw [← hPV, parseV, if_neg hbig]
    have HP := Lib.hid hP2
    clear hPV hP2
    go_enter Tryz.func11, Tryz.ntmps11
    go_wp2
    obtain ⟨w0, hw0⟩ : ∃ x, x = (((w.alloc (.cells rz 30)).alloc (.cells #[.int .i64 0, .slice none 0 0] 58)).alloc (.cells #[.string nm, .slice (some ⟨w.heap.size + 1, 0, none⟩) 1 1] 25)) := ⟨_, rfl⟩
    rw [← hw0]
    have I0 : InvR nm w 0 (w.heap.size + 1) 1 [] 0 [] (.slice none 0 0) w0 := by
      have b0 : Blk w0 w.heap.size 30 rz := by rw [hw0]; exact ((Blk.made w _ _).alloc _).alloc _
      have b1 : Blk w0 (w.heap.size + 1) 58 #[.int .i64 0, .slice none 0 0] := by rw [hw0]; have := Blk.made (w.alloc (.cells rz 30)) 58 #[.int .i64 0, .slice none 0 0]; rw [World.size_alloc] at this; exact this.alloc _
      have b2 : Blk w0 (w.heap.size + 2) 25 #[.string nm, .slice (some ⟨w.heap.size + 1, 0, none⟩) 1 1] := by rw [hw0]; have := Blk.made ((w.alloc (.cells rz 30)).alloc (.cells #[.int .i64 0, .slice none 0 0] 58)) 25 #[.string nm, .slice (some ⟨w.heap.size + 1, 0, none⟩) 1 1]; simp only [World.size_alloc] at this; exact this
      have hn : New w w0 := by rw [hw0]; exact (((New.refl w).alloc _).alloc _).alloc _
      exact ⟨hn, rfl, b0, b2, ⟨rfl, .inr ⟨w.heap.size + 1, 1, _, rfl, by omega, b1, Nat.le_refl _, by simp [maxLen], rfl, rfl⟩⟩, (fun q hq => by cases hq), World.ownsRow_nil _ _ _ _, (fun q hq => by cases hq)⟩
    clear hw0
    go_loopw [6, 7] (fun v6 v7 wr => ∃ (fr i last f m g cP : Nat) (qs : List QV) (h : Int) (u : Value), v6 = .int .i64 last ∧ v7 = .int .i64 i ∧ fr ≤ i ∧ i ≤ s.size ∧ m ≤ fr ∧ s.size - fr < f ∧ totW (pts qs) ≤ fr ∧ (0 < m → 0 < totW (pts qs)) ∧ St (s.data.toList.drop fr) (i - fr) ∧
        InvR nm w m g cP qs h (wordsL ((s.data.toList.drop fr).take (i - fr))) u wr ∧ Hid (goV f (s.data.toList.drop fr) fr last (pts qs) h = PV)) (fun _ v7 _ => s.size - (intOf v7).toNat)
    case atStart => exact ⟨0, 0, 0, s.size + 1, 0, w.heap.size + 1, 1, [], 0, .slice none 0 0, rfl, rfl, by omega, by omega, by omega, by omega, by simp [pts, totW], by omega, St.zero _, by simpa [wordsL_nil] using I0, Lib.hid HP.out⟩
    case round =>
      obtain ⟨fr, i, last, f, m, g, cP, qs, h, u, rfl, rfl, hfi, his, hmf, hf, htot, hpos, ST, I, HG⟩ := hrel
      clear HP
      obtain ⟨L, hL⟩ : ∃ x, s.data.toList.drop fr = x := ⟨_, rfl⟩
      rw [hL] at ST I HG
      have hLl : L.length = s.size - fr := by rw [← hL, List.length_drop, size_eq]
      obtain ⟨n, hn⟩ : ∃ n, i - fr = n := ⟨_, rfl⟩
      rw [hn] at ST I
      have hin : fr + n = i := by omega
      have hql := I.len
      have hwl : (wordsL (L.take n)).length ≤ n := by
        have := wordsL_len (s.extract fr (fr + n))
        rw [ext_take, hL] at this
        have h2 : (s.extract fr (fr + n)).size = n := by simp; omega
        omega
      have p1 : IntKind.i64.wrap (((m + 1 : Nat) : Int) - 1) = (m : Int) := by rw [IntWalk.i64_in _ (by omega)]; omega
      have p2 : (0 : Int) ≤ (m : Int) := by omega
      have p3 : (m : Int) < ((m + 1 : Nat) : Int) := by omega
      have p4 : (m : Int).toNat = m := by omega
      have p5 : m < m + 1 := by omega
      have i0 : (0 : Int) ≤ (i : Int) := by omega
      by_cases hlt : i < s.size
      · have hi1 : (i : Int) < (s.size : Int) := by omega
        have hget : L[n]? = some s[i] := by
          rw [← hL, List.getElem?_drop, hin, get_eq s _ hlt]; exact List.getElem?_eq_getElem _
        by_cases c125 : s[i].toNat = 125
        · have hx : s[i] = 125 := UInt8.toNat_inj.1 c125
          rw [hx] at hget
          have hgo := HG.out
          rw [ST.close hget (by omega), hin] at hgo
          subst hgo
          have d1 : ((s[i].toNat : Int) == 125) = true := beq_iff_eq.2 (by omega)
          have c0 := I.store (.string ⟨#[]⟩) (.slice none 0 0) (.int .i64 i)
          obtain ⟨c0, f0, c1, f1, c2, f2, c3, f3⟩ := c0
          obtain ⟨BB, hnn, _⟩ := I.full (New.refl _) (.string ⟨#[]⟩) (.slice none 0 0) (.int .i64 i) (.int .i64 4)
          have k6 := BB.cell' 0 _ rfl
          have k7 := BB.cell' 1 _ rfl
          have k8 := BB.cell' 2 _ rfl
          have k9 := BB.cell' 3 _ rfl
          clear hx hin hn hL
          go_wp2
          exact bodyPost_ret (v := .agg #[.string ⟨#[]⟩, .slice none 0 0, .int .i64 i, .int .i64 4]) (by simp [results, Tryz.results11, go_sem, k6, k7, k8, k9]) rfl ⟨_, _, rfl, hnn, rfl, rfl⟩
        · have d1 : ((s[i].toNat : Int) == 125) = false := beq_eq_false_iff_ne.2 (by omega)
          have k0 := I.tpl.cell' 0 _ rfl
          have k1 := I.tpl.cell' 1 _ rfl
          have k2 := I.lastc
          by_cases c123 : s[i].toNat = 123
          · have hx : s[i] = 123 := UInt8.toNat_inj.1 c123
            rw [hx] at hget
            have d2 : ((s[i].toNat : Int) == 123) = true := beq_iff_eq.2 (by omega)
            have hLn : L.drop n = s.data.toList.drop i := by rw [← hL, List.drop_drop, hin]
            have hR : rhV s i 2 = holeOut (holeV (L.drop n)) i := by
              rw [rhV_list, hLn, List.drop_eq_getElem_cons (by rw [← size_eq]; exact hlt), ← get_eq s _ hlt, hx, rhL_hole]
            have HH := Lib.hid (fun W => rhole_any s i W hs hlt)
            rw [hR] at HH
            have hvl := holeV_len (L.drop n)
            have hvv := holeV_val (L.drop n)
            have hvp := holeV_pos (L.drop n)
            rw [List.length_drop] at hvl
            have e0 := ST.bad (a := fr) (last := last) (ps := pts qs) (h := h) hget (show 0 < f by omega)
            have e1 := ST.bare (a := fr) (last := last) (ps := pts qs) (h := h) hget (show 0 < f by omega)
            have e2 := ST.next (a := fr) (last := last) (ps := pts qs) (h := h) hget (show 0 < f by omega)
            rw [hin] at e0 e1 e2
            have hgo := HG.out
            obtain ⟨⟨V1, V2⟩, hV⟩ : ∃ V, holeV (L.drop n) = V := ⟨_, rfl⟩
            rw [hV] at HH e0 e1 e2 hvl hvv hvp
            simp only at e0 e1 e2 hvl hvv hvp
            have HNX := Lib.hid e2
            clear hx hR e2 hLn
            by_cases hV2 : V2 = 0
            · subst hV2
              rw [e0 rfl] at hgo
              subst hgo
              rw [show holeOut (V1, 0) i = (0, 0) from rfl] at HH
              have c0 := I.store (.string ⟨#[]⟩) (.slice none 0 0) (.int .i64 i)
              obtain ⟨c0, f0, c1, f1, c2, f2, c3, f3⟩ := c0
              obtain ⟨BB, hnn, _⟩ := I.full (New.refl _) (.string ⟨#[]⟩) (.slice none 0 0) (.int .i64 i) (.int .i64 4)
              have k6 := BB.cell' 0 _ rfl
              have k7 := BB.cell' 1 _ rfl
              have k8 := BB.cell' 2 _ rfl
              have k9 := BB.cell' 3 _ rfl
              clear hin hn hL e0 e1 hV hvl hvv hvp hwl
              go_wp2_with (go_at_call 40; refine (HH.out _).mono ?_; rintro e w1 ⟨rfl, hw1⟩; have hw1 := hw1.symm; subst hw1)
              exact bodyPost_ret (v := .agg #[.string ⟨#[]⟩, .slice none 0 0, .int .i64 i, .int .i64 4]) (by simp [results, Tryz.results11, go_sem, k6, k7, k8, k9]) rfl ⟨_, _, rfl, hnn, rfl, rfl⟩
            · have hV1 := hvp hV2
              rw [show holeOut (V1, V2) i = ((V1 : Int), ((i + V2 : Nat) : Int)) from if_neg hV2] at HH
              have b2 : ((V1 : Int) == 0) = false := beq_eq_false_iff_ne.2 (by omega)
              obtain ⟨A2, c2, rfl, _, _, _⟩ := own_form I.last
              obtain ⟨ws, hws⟩ : ∃ x, wordsL (L.take n) = x := ⟨_, rfl⟩
              rw [hws] at e1 I k2 hwl
              by_cases hw0 : ws = []
              · subst hw0
                rw [e1 hV2 rfl] at hgo
                subst hgo
                have c0 := I.store (.string ⟨#[]⟩) (.slice none 0 0) (.int .i64 i)
                obtain ⟨c0, f0, c1, f1, c2, f2, c3, f3⟩ := c0
                obtain ⟨BB, hnn, _⟩ := I.full (New.refl _) (.string ⟨#[]⟩) (.slice none 0 0) (.int .i64 i) (.int .i64 5)
                have k6 := BB.cell' 0 _ rfl
                have k7 := BB.cell' 1 _ rfl
                have k8 := BB.cell' 2 _ rfl
                have k9 := BB.cell' 3 _ rfl
                clear hin hn hL e0 e1 hV hvl hvv hvp hwl hws
                go_wp2_with (go_at_call 40; refine (HH.out _).mono ?_; rintro e w1 ⟨rfl, hw1⟩; have hw1 := hw1.symm; subst hw1)
                exact bodyPost_ret (v := .agg #[.string ⟨#[]⟩, .slice none 0 0, .int .i64 i, .int .i64 5]) (by simp [results, Tryz.results11, go_sem, k6, k7, k8, k9]) rfl ⟨_, _, rfl, hnn, rfl, rfl⟩
              · have hwp := List.length_pos_iff.2 hw0
                have b3 : ((ws.length : Int) == 0) = false := beq_eq_false_iff_ne.2 (by omega)
                have e3 := HNX.out hV2
                rw [hws] at e3
                have HNY := Lib.hid (e3 hw0)
                have HLL := Lib.hid hL
                have HIN := Lib.hid hin
                have HI := Lib.hid I
                clear e0 e1 e3 HNX hV hws hL hin hn hvp
                go_wp2_with (first 
                  | (at_builtin; refine wpList_append_own _ rfl (.tmp 61) (.tmp 64) 23 rfl w.heap.size 58 j0 (.agg #[.int .i64 0, .slice none 0 0]) 2 32 Tryz.underlying23 hi0 hz0 hz1 hz2 rfl (by decide) _ _ _ rfl (I.row.alloc _) ⟨wr.heap.size, 0, none⟩ 1 1 [.int .i64 (V1 : Nat), .slice none 0 0] rfl rfl ?c1 ?c2 ?c3 ?c4 ?c5 ?_)
                  | (go_at_call 40; refine (HH.out _).mono ?_; rintro e w1 ⟨rfl, hw1⟩; have hw1 := hw1.symm; subst hw1))
                case c1 => exact cell_two_at _ _ rfl _ _ _
                case c2 => simp [Value.oneCell']
                case c3 => simp [maxLen]; omega
                case c4 => omega
                case c5 => have := HI.out.new.size; simp; omega
                intro v' w4 hown4 hg4 _
                obtain ⟨g4, c4, rfl, _, _⟩ := hown4.form (by omega)
                have I4 := HI.out.turn ((New.refl wr).alloc (.cells #[.int .i64 (V1 : Nat), .slice none 0 0] 58))
                have I5 := I4.push (h2 := (V1 : Nat)) hg4 (own_to hown4 rfl (by simp))
                have T4 := I4.tpl.grown hg4 (fun e => own_off_blk I4.row I4.tpl (by decide) e.symm)
                have q1 := T4.cell' 1 _ rfl
                have q2 := T4.free 1
                clear hown4 hg4 T4 I4 k0 k1 k2 I
                go_wp2
                go_roundw
                case rel =>
                  have hin9 := HIN.out
                  have hts : totW (pts (qs ++ [((h, ws), .slice A2 ws.length c2)])) = totW (pts qs) + ws.length := by rw [pts, List.map_append, totW_app]; simp [totW, pts]
                  refine ⟨i + V2, i + V2, i, f - 1, m + 1, g4, c4, qs ++ [((h, ws), .slice A2 ws.length c2)], V1, .slice none 0 0, by go_num, by go_num, by omega, by omega, by omega, by omega, by omega, by omega, ?_, ?_, Lib.hid ?_⟩
                  · rw [Nat.sub_self]; exact St.zero _
                  · rw [Nat.sub_self, List.take_zero, wordsL_nil]; exact I5
                  · have e := HNY.out
                    rw [show L.drop (n + V2) = s.data.toList.drop (i + V2) by rw [← HLL.out, List.drop_drop, show fr + (n + V2) = i + V2 by omega]] at e
                    rw [show pts (qs ++ [((h, ws), .slice A2 ws.length c2)]) = pts qs ++ [(h, ws)] by simp [pts], ← hgo, e]
                case measure => simp [intOf]; omega
          · have d2 : ((s[i].toNat : Int) == 123) = false := beq_eq_false_iff_ne.2 (by omega)
            have hn0 : n = 0 := by
              rcases ST.at_ with e | e | e | e
              · exact e
              · omega
              · rw [hget] at e; exact absurd (by rw [Option.some.inj e]; rfl) c123
              · rw [hget] at e; exact absurd (by rw [Option.some.inj e]; rfl) c125
            subst hn0
            obtain rfl : i = fr := by omega
            rw [List.take_zero, wordsL_nil] at I
            have HL := Lib.hid hL
            have HI := Lib.hid I
            clear k0 k2 hget hin hn hL ST hwl
            obtain ⟨wq, hwq⟩ : ∃ x, x = wr := ⟨_, rfl⟩
            subst hwq
            go_upto_block 2 with fail
            go_cut [7] from 22 to 116 (fun v7 wx => ∃ j : Nat, v7 = .int .i64 j ∧ i < j ∧ j ≤ s.size ∧ St L (j - i) ∧ wx = wq)
            case first =>
              go_wp2_with fail
              go_loopw [7] (fun v7 wx => ∃ j : Nat, v7 = .int .i64 j ∧ i ≤ j ∧ j ≤ s.size ∧ Lib.NoAny L [123, 125] (j - i) ∧ wx = wq) (fun v7 _ => s.size - (intOf v7).toNat)
              case atStart => exact ⟨i, rfl, by omega, by omega, (by rw [Nat.sub_self]; exact fun j b hj => absurd hj (Nat.not_lt_zero _)), rfl⟩
              case round =>
                obtain ⟨j, rfl, hj1, hj2, hno, hwx⟩ := hrel
                subst hwx
                by_cases hj : j < s.size
                · have hgj : L[j - i]? = some s[j] := by
                    rw [← HL.out, List.getElem?_drop, show i + (j - i) = j by omega, get_eq s _ hj]; exact List.getElem?_eq_getElem _
                  have hj3 : (j : Int) < (s.size : Int) := by omega
                  have hj4 : (0 : Int) ≤ (j : Int) := by omega
                  by_cases h123 : s[j].toNat = 123
                  · have hx : s[j] = 123 := UInt8.toNat_inj.1 h123
                    rw [hx] at hgj
                    have d3 : ((s[j].toNat : Int) != 123) = false := by rw [h123]; rfl
                    have hij : i < j := by
                      rcases Nat.lt_or_ge i j with h | h
                      · exact h
                      · obtain rfl : i = j := by omega
                        exact absurd h123 c123
                    have HST := Lib.hid (St.mk (L := L) (n := j - i) (by omega) hno (.inr (.inr (.inl hgj))))
                    clear hgj hno hx
                    go_wp2
                    go_meet
                    exact ⟨j, rfl, hij, hj2, HST.out, rfl⟩
                  · by_cases h125 : s[j].toNat = 125
                    · have hx : s[j] = 125 := UInt8.toNat_inj.1 h125
                      rw [hx] at hgj
                      have d3 : ((s[j].toNat : Int) != 123) = true := by rw [h125]; rfl
                      have d4 : ((s[j].toNat : Int) != 125) = false := by rw [h125]; rfl
                      have hij : i < j := by
                        rcases Nat.lt_or_ge i j with h | h
                        · exact h
                        · obtain rfl : i = j := by omega
                          exact absurd h125 c125
                      have HST := Lib.hid (St.mk (L := L) (n := j - i) (by omega) hno (.inr (.inr (.inr hgj))))
                      clear hgj hno hx
                      go_wp2
                      go_meet
                      exact ⟨j, rfl, hij, hj2, HST.out, rfl⟩
                    · have d3 : ((s[j].toNat : Int) != 123) = true := bne_iff_ne.2 (by omega)
                      have d4 : ((s[j].toNat : Int) != 125) = true := bne_iff_ne.2 (by omega)
                      have hcb : ([123, 125] : List UInt8).contains s[j] = false := by
                        have q1 : s[j] ≠ 123 := fun e => h123 (by rw [e]; rfl)
                        have q2 : s[j] ≠ 125 := fun e => h125 (by rw [e]; rfl)
                        simp [q1, q2]
                      have HNO := Lib.hid (Lib.NoAny.succ hno hgj hcb)
                      clear hgj hno hcb
                      go_wp2
                      go_roundw
                      case rel =>
                        have e := HNO.out
                        rw [show j - i + 1 = j + 1 - i by omega] at e
                        first
                          | exact ⟨j + 1, by go_num, by omega, by omega, e, trivial⟩
                          | exact ⟨j + 1, by go_num, by omega, by omega, e, rfl⟩
                          | ((repeat apply Exists.intro); exact ⟨⟨j + 1, by go_num, by omega, by omega, e, rfl⟩, rfl⟩)
                      case measure => simp [intOf]; omega
                · obtain rfl : j = s.size := by omega
                  have HST := Lib.hid (St.mk (L := L) (n := s.size - i) (by omega) hno (.inr (.inl (by omega))))
                  clear hno
                  go_wp2
                  go_meet
                  exact ⟨s.size, rfl, hlt, by omega, HST.out, rfl⟩
            case rest =>
              obtain ⟨j, rfl, hij, hj, ST2, hwc⟩ := hcut
              subst hwc
              obtain ⟨t, ht⟩ : ∃ x, s.extract i j = x := ⟨_, rfl⟩
              have htd : t.data.toList = L.take (j - i) := by rw [← ht, extract_S, data_S, HL.out]
              have hts : t.size ≤ j - i := by rw [size_eq, htd, List.length_take]; omega
              have hwt := wordsT_texts t
              rw [htd] at hwt
              have hwn : (wordsT t).length ≤ t.size := by rw [wordsT, List.length_map]; exact spans_len t
              have HWO := Lib.hid (fun W => rwords_any t W (by omega))
              obtain ⟨T, hT⟩ : ∃ x, wordsT t = x := ⟨_, rfl⟩
              rw [hT] at hwt hwn HWO
              have x0 : (i : Int) ≤ (j : Int) := by omega
              have x1 : (j : Int) ≤ (s.size : Int) := by omega
              have x2 : i ≤ j := by omega
              have HWT := Lib.hid hwt
              have HST := Lib.hid ST2
              clear hT htd hwt ST2
              go_wp2_with (go_at_call 41; refine (HWO.out _).mono ?_; rintro e w2 ⟨v12, rfl, row12, hn2⟩; obtain ⟨A12, c12, rfl, _, _, _⟩ := own_form row12)
              have I2 := HI.out.turn hn2
              obtain ⟨B12, hB12⟩ : ∃ x, wc.heap.size = x := ⟨_, rfl⟩
              rw [hB12] at row12
              clear hB12 HI k1
              go_loopw [13] (fun v13 wr => ∃ (k : Nat) (u : Value), v13 = .int .i64 k ∧ k ≤ T.length ∧ InvR nm w m g cP qs h ((T.take k).map (·.1)) u wr ∧ wr.ownsRow B12 74 2 (.slice A12 T.length c12) T.length (twCells T)) (fun v13 _ => T.length - (intOf v13).toNat)
              case atStart => exact ⟨0, u, rfl, by omega, by simpa using I2, row12⟩
              case round =>
                clear I2 row12
                obtain ⟨k, u2, rfl, hk, I, row⟩ := hrel
                by_cases hkl : k < T.length
                · have htw := (twCells_at T k hkl).1
                  obtain ⟨gw, cw, hvw, _, _⟩ := row.form (by omega)
                  injection hvw with e1 e2 e3
                  subst e1 e3
                  have hck : wr.cell? ⟨gw, k * 2, none⟩ = some (.string T[k].1) := by rw [row.cellAt (k * 2) (by omega)]; exact htw
                  have htk : (T.take (k + 1)).map (·.1) = (T.take k).map (·.1) ++ [T[k].1] := by rw [List.take_succ_eq_append_getElem hkl, List.map_append]; rfl
                  have htl : ((T.take k).map (·.1)).length = k := by rw [List.length_map, List.length_take]; omega
                  obtain ⟨x, hx⟩ : ∃ x, T[k].1 = x := ⟨_, rfl⟩
                  rw [hx] at hck htk
                  clear htw hx
                  obtain ⟨i0, hi, hw0, hw1, hw2⟩ := info_parts Tryz.info9'
                  obtain ⟨v2, w3, hrun, hown3, hgrow, _, hv⟩ := run_append_own_at (P := Tryz.prog) (wr.alloc (.cells #[.string x] 9)).drew w.heap.size 37 37 9 i0 _ 1 16 Tryz.underlying37 hi hw0 hw1 hw2 rfl (by decide)
                    u2 _ _ (I.last.alloc _) ⟨wr.heap.size, 0, none⟩ 1 1 [.string x] rfl (cell_one_new _ _ _) (by simp [Value.oneCell']) (by simp [maxLen]; omega) (by omega) (by have := I.new.size; show _ ≤ (wr.alloc _).heap.size; simp; omega)
                  obtain ⟨tplM, rowM, eM, fM⟩ := I.mid x hgrow
                  have rowN := I.add_row (v2 := v2) x hgrow row (by decide) (by decide)
                  have HN := Lib.hid (And.intro (htk ▸ I.add x hown3 hgrow hv) rowN.2)
                  have k1 := I.tpl.cell' 1 _ rfl
                  have k2 := I.lastc
                  have gL := (I.row.lt g rfl).2
                  have tL := I.tpl.lt
                  have wL := (row.lt gw rfl).2
                  have k1X : (wr.alloc (.cells #[.string x] 9)).cell? ⟨w.heap.size + 2, 1, none⟩ = some (.slice (some ⟨g, 0, none⟩) (m + 1) cP) := (World.cell?_alloc_lt wr _ ⟨w.heap.size + 2, 1, none⟩ tL).trans k1
                  have k2X : (wr.alloc (.cells #[.string x] 9)).cell? ⟨g, m * 2 + 1, none⟩ = some u2 := (World.cell?_alloc_lt wr _ ⟨g, m * 2 + 1, none⟩ gL).trans k2
                  have hckX : (wr.alloc (.cells #[.string x] 9)).cell? ⟨gw, k * 2, none⟩ = some (.string x) := (World.cell?_alloc_lt wr _ ⟨gw, k * 2, none⟩ wL).trans hck
                  have k1M := tplM.cell' 1 _ rfl
                  have hckM : w3.cell? ⟨gw, k * 2, none⟩ = some (.string x) := by
                    have := rowN.1.cellAt (k * 2) (by omega)
                    rw [this, ← row.cellAt (k * 2) (by omega)]; exact hck
                  have k1N := (HN.out.1.tpl).cell' 1 _ rfl
                  have hckN : (w3.setCell ⟨g, m * 2 + 1, none⟩ v2).cell? ⟨gw, k * 2, none⟩ = some (.string x) := by
                    have := rowN.2.cellAt (k * 2) (by omega)
                    rw [this, ← row.cellAt (k * 2) (by omega)]; exact hck
                  rw [htl] at hown3
                  obtain ⟨gv, cv, hv2, _, _⟩ := hown3.form (by omega)
                  subst hv2
                  have hSS : ∀ W : World, W.cell? ⟨w.heap.size + 2, 1, none⟩ = some (.slice (some ⟨g, 0, none⟩) (m + 1) cP) → W.cell? ⟨gw, k * 2, none⟩ = some (.string x) → (W.cell? ⟨w.heap.size + 1 + 1, 1, none⟩ = some (.slice (some ⟨g, 0, none⟩) (m + 1) cP) ∧ W.cell? ⟨gw, k * 2, none⟩ = some (.string x)) := fun W h1 h2 => ⟨h1, h2⟩
                  have hS1 := hSS wr.drew k1 hck
                  have hS2 := hSS (wr.alloc (.cells #[.string x] 9)).drew k1X hckX
                  have hS3 := hSS w3 k1M hckM
                  have hS4 := hSS _ k1N hckN
                  have y0 : (0 : Int) ≤ (k : Int) := by omega
                  have y1 : (k : Int) < (T.length : Int) := by omega
                  clear hSS k1 hck k1X hckX k1M hckM k1N hckN rowN rowM tplM hgrow hown3 I row htk hv
                  go_wp2_with fail
                  refine wp_region_held_drew (S := fun W => W.cell? ⟨w.heap.size + 1 + 1, 1, none⟩ = some (.slice (some ⟨g, 0, none⟩) (m + 1) cP) ∧ W.cell? ⟨gw, k * 2, none⟩ = some (.string x)) (by kernel_rfl) hS1 (fun hS => ?_)
                  refine wpAnyH_take (i := 0) (v := .pointer (some ⟨w.heap.size + 1 + 1, 1, none⟩)) rfl (by kernel_rfl) (by kernel_rfl) (by kernel_rfl) (fun _ _ _ h => h) (Or.inl ⟨by rfl, fun w hS => by obtain ⟨hS, hT⟩ := hS; go_simp⟩) hS ?_
                  simp only [Act.put, List.setIfInBounds_toArray, List.set_cons_zero, List.set_cons_succ]
                  refine wpAnyH_take (i := 1) (v := .slice (some ⟨g, 0, none⟩) (m + 1) cP) rfl (by kernel_rfl) (by kernel_rfl) (by kernel_rfl) (fun _ _ _ h => h) (Or.inl ⟨by rfl, fun w hS => by obtain ⟨hS, hT⟩ := hS; go_simp⟩) hS ?_
                  simp only [Act.put, List.setIfInBounds_toArray, List.set_cons_zero, List.set_cons_succ]
                  refine wpAnyH_take (i := 2) (v := .int .i64 m) rfl (by kernel_rfl) (by kernel_rfl) (by kernel_rfl) (fun _ _ _ h => h) (Or.inl ⟨by rfl, fun w hS => by obtain ⟨hS, hT⟩ := hS; go_simp⟩) hS ?_
                  simp only [Act.put, List.setIfInBounds_toArray, List.set_cons_zero, List.set_cons_succ]
                  refine wpAnyH_take (i := 3) (v := .pointer (some ⟨w.heap.size + 1 + 1, 1, none⟩)) rfl (by kernel_rfl) (by kernel_rfl) (by kernel_rfl) (fun _ _ _ h => h) (Or.inl ⟨by rfl, fun w hS => by obtain ⟨hS, hT⟩ := hS; go_simp⟩) hS ?_
                  simp only [Act.put, List.setIfInBounds_toArray, List.set_cons_zero, List.set_cons_succ]
                  refine wpAnyH_take (i := 4) (v := .slice (some ⟨g, 0, none⟩) (m + 1) cP) rfl (by kernel_rfl) (by kernel_rfl) (by kernel_rfl) (fun _ _ _ h => h) (Or.inl ⟨by rfl, fun w hS => by obtain ⟨hS, hT⟩ := hS; go_simp⟩) hS ?_
                  simp only [Act.put, List.setIfInBounds_toArray, List.set_cons_zero, List.set_cons_succ]
                  refine wpAnyH_take (i := 5) (v := .int .i64 m) rfl (by kernel_rfl) (by kernel_rfl) (by kernel_rfl) (fun _ _ _ h => h) (Or.inl ⟨by rfl, fun w hS => by obtain ⟨hS, hT⟩ := hS; go_simp⟩) hS ?_
                  simp only [Act.put, List.setIfInBounds_toArray, List.set_cons_zero, List.set_cons_succ]
                  refine wpAnyH_take (i := 6) (v := .pointer (some ⟨g, m * 2, none⟩)) rfl (by kernel_rfl) (by kernel_rfl) (by kernel_rfl) (fun _ _ _ h => h) (Or.inl ⟨by rfl, fun w hS => by obtain ⟨hS, hT⟩ := hS; (go_simp; all_goals (intro hq; omega))⟩) hS ?_
                  simp only [Act.put, List.setIfInBounds_toArray, List.set_cons_zero, List.set_cons_succ]
                  refine wpAnyH_take (i := 7) (v := .pointer (some ⟨g, m * 2 + 1, none⟩)) rfl (by kernel_rfl) (by kernel_rfl) (by kernel_rfl) (fun _ _ _ h => h) (Or.inl ⟨by rfl, fun w hS => by obtain ⟨hS, hT⟩ := hS; go_simp⟩) hS ?_
                  simp only [Act.put, List.setIfInBounds_toArray, List.set_cons_zero, List.set_cons_succ]
                  refine wpAnyH_take (i := 9) (v := .slice (some ⟨gw, 0, none⟩) T.length c12) rfl (by kernel_rfl) (by kernel_rfl) (by kernel_rfl) (fun _ _ _ h => h) (Or.inl ⟨by rfl, fun w hS => by obtain ⟨hS, hT⟩ := hS; go_simp⟩) hS ?_
                  simp only [Act.put, List.setIfInBounds_toArray, List.set_cons_zero, List.set_cons_succ]
                  refine wpAnyH_take (i := 10) (v := .int .i64 k) rfl (by kernel_rfl) (by kernel_rfl) (by kernel_rfl) (fun _ _ _ h => h) (Or.inl ⟨by rfl, fun w hS => by obtain ⟨hS, hT⟩ := hS; go_simp⟩) hS ?_
                  simp only [Act.put, List.setIfInBounds_toArray, List.set_cons_zero, List.set_cons_succ]
                  refine wpAnyH_take (i := 11) (v := .pointer (some ⟨gw, k * 2, none⟩)) rfl (by kernel_rfl) (by kernel_rfl) (by kernel_rfl) (fun _ _ _ h => h) (Or.inl ⟨by rfl, fun w hS => by obtain ⟨hS, hT⟩ := hS; go_simp⟩) hS ?_
                  simp only [Act.put, List.setIfInBounds_toArray, List.set_cons_zero, List.set_cons_succ]
                  refine wpAnyH_take (i := 12) (v := .pointer (some ⟨gw, k * 2, none⟩)) rfl (by kernel_rfl) (by kernel_rfl) (by kernel_rfl) (fun _ _ _ h => h) (Or.inl ⟨by rfl, fun w hS => by obtain ⟨hS, hT⟩ := hS; go_simp⟩) hS ?_
                  simp only [Act.put, List.setIfInBounds_toArray, List.set_cons_zero, List.set_cons_succ]
                  refine wpAnyH_take (i := 13) (v := .string x) rfl (by kernel_rfl) (by kernel_rfl) (by kernel_rfl) (fun _ _ _ h => h) (Or.inl ⟨by rfl, fun w hS => by obtain ⟨hS, hT⟩ := hS; go_simp⟩) hS ?_
                  simp only [Act.put, List.setIfInBounds_toArray, List.set_cons_zero, List.set_cons_succ]
                  refine wpAnyH_ready (rs := [8, 14]) (by kernel_rfl) (by simp) ?_
                  refine AllReadyH.cons rfl (fun K hK => ?_) (AllReadyH.cons rfl (fun K hK => ?_) AllReadyH.nil)
                  · go_simp
                    refine hK.out _ _ hS (fun _ => ?_)
                    clear hK K
                    refine wpAnyH_ready (rs := [14]) (by kernel_rfl) (by simp) ?_
                    refine AllReadyH.cons rfl (fun K hK => ?_) AllReadyH.nil
                    go_simp
                    refine hK.out _ _ hS2 (fun _ => ?_)
                    clear hK K
                    refine wpAnyH_ready (rs := [15]) (by kernel_rfl) (by simp) ?_
                    refine AllReadyH.cons rfl (fun K hK => ?_) AllReadyH.nil
                    rw [if_pos (by rfl)]
                    refine wp_run_append (.tmp 107) (.tmp 113) 37 rfl rfl rfl hrun ?_
                    simp only [Act.put, List.setIfInBounds_toArray, List.set_cons_zero, List.set_cons_succ]
                    refine hK.out _ _ hS3 (fun _ => ?_)
                    clear hK K
                    refine wpAnyH_take (i := 16) (v := .pointer (some ⟨g, m * 2, none⟩)) rfl (by kernel_rfl) (by kernel_rfl) (by kernel_rfl) (fun _ _ _ h => h) (Or.inl ⟨by rfl, fun w hS => by obtain ⟨hS, hT⟩ := hS; (go_simp; all_goals (intro hq; omega))⟩) hS3 ?_
                    simp only [Act.put, List.setIfInBounds_toArray, List.set_cons_zero, List.set_cons_succ]
                    refine wpAnyH_take (i := 17) (v := .pointer (some ⟨g, m * 2 + 1, none⟩)) rfl (by kernel_rfl) (by kernel_rfl) (by kernel_rfl) (fun _ _ _ h => h) (Or.inl ⟨by rfl, fun w hS => by obtain ⟨hS, hT⟩ := hS; go_simp⟩) hS3 ?_
                    simp only [Act.put, List.setIfInBounds_toArray, List.set_cons_zero, List.set_cons_succ]
                    refine wpAnyH_ready (rs := [18]) (by kernel_rfl) (by simp) ?_
                    refine AllReadyH.cons rfl (fun K hK => ?_) AllReadyH.nil
                    go_simp
                    refine hK.out _ _ hS4 (fun _ => ?_)
                    clear hK K
                    refine wpAnyH_done (by kernel_rfl) ?_ _
                    go_wp2
                    go_roundw
                    case rel => exact ⟨k + 1, _, by go_num, by omega, HN.out.1, HN.out.2⟩
                    case measure => simp [intOf]; omega
                  · go_simp
                    refine hK.out _ _ hS2 (fun _ => ?_)
                    clear hK K
                    refine wpAnyH_ready (rs := [8]) (by kernel_rfl) (by simp) ?_
                    refine AllReadyH.cons rfl (fun K hK => ?_) AllReadyH.nil
                    go_simp
                    refine hK.out _ _ hS2 (fun _ => ?_)
                    clear hK K
                    refine wpAnyH_ready (rs := [15]) (by kernel_rfl) (by simp) ?_
                    refine AllReadyH.cons rfl (fun K hK => ?_) AllReadyH.nil
                    rw [if_pos (by rfl)]
                    refine wp_run_append (.tmp 107) (.tmp 113) 37 rfl rfl rfl hrun ?_
                    simp only [Act.put, List.setIfInBounds_toArray, List.set_cons_zero, List.set_cons_succ]
                    refine hK.out _ _ hS3 (fun _ => ?_)
                    clear hK K
                    refine wpAnyH_take (i := 16) (v := .pointer (some ⟨g, m * 2, none⟩)) rfl (by kernel_rfl) (by kernel_rfl) (by kernel_rfl) (fun _ _ _ h => h) (Or.inl ⟨by rfl, fun w hS => by obtain ⟨hS, hT⟩ := hS; (go_simp; all_goals (intro hq; omega))⟩) hS3 ?_
                    simp only [Act.put, List.setIfInBounds_toArray, List.set_cons_zero, List.set_cons_succ]
                    refine wpAnyH_take (i := 17) (v := .pointer (some ⟨g, m * 2 + 1, none⟩)) rfl (by kernel_rfl) (by kernel_rfl) (by kernel_rfl) (fun _ _ _ h => h) (Or.inl ⟨by rfl, fun w hS => by obtain ⟨hS, hT⟩ := hS; go_simp⟩) hS3 ?_
                    simp only [Act.put, List.setIfInBounds_toArray, List.set_cons_zero, List.set_cons_succ]
                    refine wpAnyH_ready (rs := [18]) (by kernel_rfl) (by simp) ?_
                    refine AllReadyH.cons rfl (fun K hK => ?_) AllReadyH.nil
                    go_simp
                    refine hK.out _ _ hS4 (fun _ => ?_)
                    clear hK K
                    refine wpAnyH_done (by kernel_rfl) ?_ _
                    go_wp2
                    go_roundw
                    case rel => exact ⟨k + 1, _, by go_num, by omega, HN.out.1, HN.out.2⟩
                    case measure => simp [intOf]; omega
                · obtain rfl : k = T.length := by omega
                  rw [List.take_length, HWT.out] at I
                  clear row
                  go_wp2
                  go_roundw
                  case rel =>
                    first
                      | exact ⟨i, j, last, f, m, g, cP, qs, h, u2, by go_num, by go_num, by omega, by omega, by omega, by omega, by omega, by omega, (by rw [HL.out]; exact HST.out), (by rw [HL.out]; exact I), (by rw [HL.out]; exact HG)⟩
                      | ((repeat apply Exists.intro); exact ⟨⟨i, j, last, f, m, g, cP, qs, h, u2, rfl, rfl, by omega, by omega, by omega, by omega, by omega, by omega, (by rw [HL.out]; exact HST.out), (by rw [HL.out]; exact I), (by rw [HL.out]; exact HG)⟩, rfl⟩)
                  case measure => simp [intOf]; omega
      · have hie : i = s.size := by omega
        have hgo := HG.out
        rw [ST.fin (by omega) (by omega), finV_ref (fun q => hpos (by
          rw [← hql]; exact List.length_pos_iff.2 (fun e => q (by rw [e]; rfl))))] at hgo
        obtain ⟨A2, c2, rfl, _, _, _⟩ := own_form I.last
        have hts : totW (pts qs ++ [(h, wordsL (L.take n))]) = totW (pts qs) + (wordsL (L.take n)).length := by rw [totW_app]; simp [totW]
        have HC := Lib.hid (fun W (I' : InvR nm w m g cP qs h (wordsL (L.take n)) (.slice A2 (wordsL (L.take n)).length c2) W) => count_wide (.agg #[.string nm, .slice (some ⟨g, 0, none⟩) (m + 1) cP]) nm (pts qs ++ [(h, wordsL (L.take n))]) W I'.trd (by simp [pts, hql]; omega) (by rw [hts]; omega))
        rw [← hql] at hmf
        clear hts hwl
        generalize wordsL (L.take n) = ws at *
        generalize totW (pts qs ++ [(h, ws)]) = tot at *
        have HI := Lib.hid I
        have k0 := I.tpl.cell' 0 _ rfl
        have k1 := I.tpl.cell' 1 _ rfl
        clear I
        by_cases h0 : tot = 0
        · rw [if_pos h0] at hgo
          subst hgo
          have b4 : ((tot : Int) == 0) = true := beq_iff_eq.2 (by omega)
          go_wp2_with (go_at_call 42; refine (HC.out _ HI.out).mono ?_; rintro e w1 ⟨rfl, hn1⟩; obtain ⟨c0, f0, c1, f1, c2, f2, c3, f3⟩ := (HI.out.turn hn1).store (.string ⟨#[]⟩) (.slice none 0 0) (.int .i64 0))
          obtain ⟨BB, hnn, _⟩ := HI.out.full hn1 (.string ⟨#[]⟩) (.slice none 0 0) (.int .i64 0) (.int .i64 1)
          have k6 := BB.cell' 0 _ rfl
          have k7 := BB.cell' 1 _ rfl
          have k8 := BB.cell' 2 _ rfl
          have k9 := BB.cell' 3 _ rfl
          exact bodyPost_ret (v := .agg #[.string ⟨#[]⟩, .slice none 0 0, .int .i64 0, .int .i64 1]) (by simp [results, Tryz.results11, go_sem, k6, k7, k8, k9]) rfl ⟨_, _, rfl, hnn, rfl, rfl⟩
        · rw [if_neg h0] at hgo
          have b4 : ((tot : Int) == 0) = false := beq_eq_false_iff_ne.2 (by omega)
          by_cases hw0 : ws = []
          · rw [if_pos hw0] at hgo
            subst hgo hw0
            go_wp2_with (go_at_call 42; refine (HC.out _ HI.out).mono ?_; rintro e w1 ⟨rfl, hn1⟩; obtain ⟨c0, f0, c1, f1, c2, f2, c3, f3⟩ := (HI.out.turn hn1).store (.string ⟨#[]⟩) (.slice none 0 0) (.int .i64 last); have k3 := (HI.out.turn hn1).tpl.cell' 1 _ rfl; have k4 := (HI.out.turn hn1).lastc)
            obtain ⟨BB, hnn, _⟩ := HI.out.full hn1 (.string ⟨#[]⟩) (.slice none 0 0) (.int .i64 last) (.int .i64 5)
            have k6 := BB.cell' 0 _ rfl
            have k7 := BB.cell' 1 _ rfl
            have k8 := BB.cell' 2 _ rfl
            have k9 := BB.cell' 3 _ rfl
            exact bodyPost_ret (v := .agg #[.string ⟨#[]⟩, .slice none 0 0, .int .i64 last, .int .i64 5]) (by simp [results, Tryz.results11, go_sem, k6, k7, k8, k9]) rfl ⟨_, _, rfl, hnn, rfl, rfl⟩
          · rw [if_neg hw0] at hgo
            have hwp := List.length_pos_iff.2 hw0
            have b3 : ((ws.length : Int) == 0) = false := beq_eq_false_iff_ne.2 (by omega)
            clear hw0
            by_cases h6 : 256 < tot
            · rw [if_pos h6] at hgo
              subst hgo
              have b5 : decide ((256 : Int) < (tot : Int)) = true := decide_eq_true (by omega)
              go_wp2_with (first | (go_at_call 42; refine (HC.out _ (HI.out.turn hn1)).mono ?_; rintro e w2 ⟨rfl, hn2⟩; obtain ⟨c0, f0, c1, f1, c2, f2, c3, f3⟩ := (HI.out.turn (hn1.trans hn2)).store (.string ⟨#[]⟩) (.slice none 0 0) (.int .i64 0)) | (go_at_call 42; refine (HC.out _ HI.out).mono ?_; rintro e w1 ⟨rfl, hn1⟩; have k2 := (HI.out.turn hn1).tpl.cell' 0 _ rfl; have k3 := (HI.out.turn hn1).tpl.cell' 1 _ rfl; have k4 := (HI.out.turn hn1).lastc))
              obtain ⟨BB, hnn, _⟩ := HI.out.full (hn1.trans hn2) (.string ⟨#[]⟩) (.slice none 0 0) (.int .i64 0) (.int .i64 10)
              have k6 := BB.cell' 0 _ rfl
              have k7 := BB.cell' 1 _ rfl
              have k8 := BB.cell' 2 _ rfl
              have k9 := BB.cell' 3 _ rfl
              exact bodyPost_ret (v := .agg #[.string ⟨#[]⟩, .slice none 0 0, .int .i64 0, .int .i64 10]) (by simp [results, Tryz.results11, go_sem, k6, k7, k8, k9]) rfl ⟨_, _, rfl, hnn, rfl, rfl⟩
            · rw [if_neg h6] at hgo
              subst hgo
              have b5 : decide ((256 : Int) < (tot : Int)) = false := decide_eq_false (by omega)
              go_wp2_with (first | (go_at_call 42; refine (HC.out _ (HI.out.turn hn1)).mono ?_; rintro e w2 ⟨rfl, hn2⟩; obtain ⟨c0, f0, c1, f1, c2, f2, c3, f3⟩ := (HI.out.turn (hn1.trans hn2)).store (.string nm) (.slice (some ⟨g, 0, none⟩) (m + 1) cP) (.int .i64 0); have k10 := (HI.out.turn (hn1.trans hn2)).tpl.cell' 0 _ rfl; have k11 := (HI.out.turn (hn1.trans hn2)).tpl.cell' 1 _ rfl) | (go_at_call 42; refine (HC.out _ HI.out).mono ?_; rintro e w1 ⟨rfl, hn1⟩; have k2 := (HI.out.turn hn1).tpl.cell' 0 _ rfl; have k3 := (HI.out.turn hn1).tpl.cell' 1 _ rfl; have k4 := (HI.out.turn hn1).lastc))
              obtain ⟨BB, hnn, TT⟩ := HI.out.full (hn1.trans hn2) (.string nm) (.slice (some ⟨g, 0, none⟩) (m + 1) cP) (.int .i64 0) (.int .i64 0)
              have k6 := BB.cell' 0 _ rfl
              have k7 := BB.cell' 1 _ rfl
              have k8 := BB.cell' 2 _ rfl
              have k9 := BB.cell' 3 _ rfl
              exact bodyPost_ret (v := .agg #[.string nm, .slice (some ⟨g, 0, none⟩) (m + 1) cP, .int .i64 0, .int .i64 0]) (by simp [results, Tryz.results11, go_sem, k6, k7, k8, k9]) rfl ⟨_, _, rfl, hnn, TT⟩
end Go.Proofs.YtpoelhnceebmkaaGreatDoor

