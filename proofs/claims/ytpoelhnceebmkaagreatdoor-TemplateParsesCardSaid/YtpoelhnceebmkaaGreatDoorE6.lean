/- licitref35.Match: the walk. Conditions: the lists' lengths; no string is longer than a string can be. -/
import Derived.Test.YtpoelhnceebmkaaGreatDoorE5
namespace Go.Proofs.YtpoelhnceebmkaaGreatDoor
open Go Go.RowKit Go.Shelf
set_option linter.unusedSimpArgs false
set_option linter.unusedVariables false

theorem nextTo_len (ws words : List ByteArray) (h : Nat) (ends : List Nat) (k : Nat) : (nextTo ws words h ends k).length ≤ k := by
  unfold nextTo
  rw [List.length_map]
  have := List.length_filter_le (fun a => nearV ends h a && standsV ws words a) (List.range k)
  rwa [List.length_range] at this
theorem near_take {E : List Nat} {h a k e : Nat} (hk : E[k]? = some e) : nearV (E.take (k + 1)) h a = (nearV (E.take k) h a || (decide (e ≤ a) && decide (a ≤ e + h))) := by
  obtain ⟨hi, he⟩ := List.getElem?_eq_some_iff.1 hk
  unfold nearV
  rw [List.take_succ_eq_append_getElem hi, List.any_append, he]; simp
theorem iCells_at {E : List Nat} {k e : Nat} (h : E[k]? = some e) : (iCells E)[k]? = some (.int .i64 (e : Nat)) := by
  rw [iCells, List.getElem?_map, h]; rfl

set_option maxRecDepth 100000 in
set_option maxHeartbeats 8000000 in
theorem rmatch_any (v v' : Value) (nm : ByteArray) (ps : List Pt) (words : List ByteArray) (a : Int) (w : World) (h : TRd w v nm ps) (h' : WRd w v' words) (hs : SmT ps) (hx : ∀ p ∈ ps, SzX p.2) (hm : words.length ≤ 100000) :
    Calls Tryz.prog 26 #[v, v', .int .i64 a] w fun e w' => e = .returned (.int .i64 (rmatchV ps words a)) ∧ New w w' := by
  obtain ⟨j0, hj0, hz0, hz1, hz2⟩ := info_parts Tryz.info3'
  have HC0 := Lib.hid (fun w h => rcheck_any v nm ps w h hs hx)
  have HTR := Lib.hid h
  have HWR := Lib.hid h'
  have HKO := Lib.hid (fun h => check_ok (ps := ps) h)
  obtain ⟨A, c, rfl, hc1, hc2, hr⟩ := h
  obtain ⟨A', c', rfl, hc1', hc2', hr'⟩ := h'
  have hnS : New w (w.alloc (.cells #[.string nm, .slice A ps.length c] 25)) := (New.refl w).alloc _
  have HRN := Lib.hid (fun h => rmatch_no (ps := ps) (words := words) (a := a) h)
  obtain ⟨n, hn0⟩ : ∃ n, ps.length = n := ⟨_, rfl⟩
  obtain ⟨m, hm0⟩ : ∃ m, words.length = m := ⟨_, rfl⟩
  rw [hn0] at hr hc1 hnS HC0 HTR ⊢
  rw [hm0] at hr' hc1' hm HWR HRN ⊢
  have HS2 := Lib.hid hs
  have HN := Lib.hid hn0
  have HM := Lib.hid hm0
  have HTR2 := Lib.hid (HTR.out.new hnS)
  have HWR2 := Lib.hid (HWR.out.new hnS)
  have HR := Lib.hid (hr.new hnS)
  have B0 := Blk.made w 25 #[.string nm, .slice A n c]
  have k0 := B0.cell' 0 _ rfl
  have k1 := B0.cell' 1 _ rfl
  have HX := Lib.hid hx
  obtain ⟨ck, hck⟩ : ∃ t, checkV ps = t := ⟨_, rfl⟩
  rw [hck] at HC0 HRN
  have HCK := Lib.hid hck
  clear hn0 hm0 hr hr' HTR HWR hs hx hck
  by_cases q1 : ck = 0
  · by_cases q2 : a < 0
    · have e1 : (ck != 0) = false := by rw [q1]; rfl
      have e2 : decide (a < 0) = true := decide_eq_true q2
      have HV := Lib.hid (HRN.out (fun h => by omega))
      clear q1
      go_enter Tryz.func26, Tryz.ntmps26
      go_wp2_with (go_at_call 22; refine (HC0.out _ HTR2.out).mono ?_; rintro e w1 ⟨rfl, hn1⟩)
      exact bodyPost_ret (v := .int .i64 (-1)) (by simp [results, Tryz.results26, go_sem]) rfl ⟨by rw [HV.out], hnS.trans hn1⟩
    · by_cases q3 : (m : Int) ≤ a
      · have e1 : (ck != 0) = false := by rw [q1]; rfl
        have e2 : decide (a < 0) = false := decide_eq_false q2
        have e3 : decide ((m : Int) ≤ a) = true := decide_eq_true q3
        have HV := Lib.hid (HRN.out (fun h => by omega))
        clear q1
        go_enter Tryz.func26, Tryz.ntmps26
        go_wp2_with (go_at_call 22; refine (HC0.out _ HTR2.out).mono ?_; rintro e w1 ⟨rfl, hn1⟩)
        exact bodyPost_ret (v := .int .i64 (-1)) (by simp [results, Tryz.results26, go_sem]) rfl ⟨by rw [HV.out], hnS.trans hn1⟩
      · obtain ⟨av, rfl⟩ : ∃ k : Nat, a = (k : Int) := ⟨a.toNat, by omega⟩
        obtain ⟨p0, r, rfl, -, hne0, -, hh, -⟩ := HKO.out (HCK.out.trans q1)
        have hrl : r.length + 1 = n := by have := HN.out; simpa using this
        obtain ⟨b0, o0, v0, p0', rfl, hp0, d1, d2, hw0⟩ := HR.out.at (i := 0) (by omega)
        obtain rfl : p0 = p0' := by simpa using hp0
        obtain ⟨A0, c0, rfl, hq1, hq2, hwr0⟩ := id hw0
        simp only [Nat.zero_mul, Nat.add_zero] at d1 d2
        have hl0 := List.length_pos_iff.2 hne0
        have hp0l := HS2.out.2 p0 (by simp)
        have hn1k : n ≤ 1000 := by have := HS2.out.1; rw [HN.out] at this; exact this
        have e1 : (ck != 0) = false := by rw [q1]; rfl
        have e2 : decide ((av : Int) < 0) = false := decide_eq_false q2
        have e3 : decide ((m : Int) ≤ (av : Int)) = false := decide_eq_false q3
        have e4 : ¬ (av : Int) < 0 := q2
        have hH : standsV p0.2 words av = true → rmatchV (p0 :: r) words av = headI (endsL words r [av + p0.2.length]) := fun h => rmatch_head (HCK.out.trans q1) (by rw [HM.out]; omega) h
        have hNo : standsV p0.2 words av = false → rmatchV (p0 :: r) words av = -1 := fun h => rmatch_stands h
        have HST := Lib.hid (fun w h h' => rstands_any (.slice A0 p0.2.length c0) (.slice A' m c') p0.2 words av w h h' (by omega) (by rw [HM.out]; exact hm) (by omega))
        have hsle : standsV p0.2 words av = true → av + p0.2.length ≤ m := fun h => by rw [← HM.out]; exact standsV_le h
        have HHH := Lib.hid hh
        have HW0 := Lib.hid hw0
        clear q1 hp0 d1 hwr0 hw0 HRN HKO hh
        generalize standsV p0.2 words av = sv at *
        have n0 : (0 : Int) < (n : Int) := by omega
        cases sv
        · have HV := Lib.hid (hNo rfl)
          clear hNo hH hsle
          go_enter Tryz.func26, Tryz.ntmps26
          go_wp2_with (first
            | (go_at_call 56; refine (HST.out _ (HW0.out.new hn1) (HWR2.out.new hn1)).mono ?_; rintro e w2 ⟨rfl, hn2⟩)
            | (go_at_call 22; refine (HC0.out _ HTR2.out).mono ?_; rintro e w1 ⟨rfl, hn1⟩; have k3 := (B0.new hn1).cell' 1 _ rfl; have d3 := cell_new hn1 d2))
          exact bodyPost_ret (v := .int .i64 (-1)) (by simp [results, Tryz.results26, go_sem]) rfl ⟨by rw [HV.out], (hnS.trans hn1).trans hn2⟩
        · obtain ⟨EL, hEL⟩ : ∃ x, endsL words r [av + p0.2.length] = x := ⟨_, rfl⟩
          have hv := hH rfl
          rw [hEL] at hv
          have HV := Lib.hid hv
          have HEL := Lib.hid hEL
          have hsl := hsle rfl
          have u1 : IntKind.i64.wrap ((av : Int) + (p0.2.length : Int)) = ((av + p0.2.length : Nat) : Int) := by rw [IntWalk.i64_in _ (by omega)]; omega
          clear hNo hH hsle hv hEL
          go_enter Tryz.func26, Tryz.ntmps26
          go_wp2_with (first
            | (go_at_call 56; refine (HST.out _ (HW0.out.new hn1) (HWR2.out.new hn1)).mono ?_; rintro e w2 ⟨rfl, hn2⟩; have k5 := ((B0.new hn1).new hn2).cell' 1 _ rfl; have d5 := cell_new hn2 d3)
            | (go_at_call 22; refine (HC0.out _ HTR2.out).mono ?_; rintro e w1 ⟨rfl, hn1⟩; have k3 := (B0.new hn1).cell' 1 _ rfl; have d3 := cell_new hn1 d2))
          have hnA : New w w2 := (hnS.trans hn1).trans hn2
          have own0 : (w2.alloc (.cells #[.int .i64 ((av : Int) + (p0.2.length : Int))] 3)).ownsRow w2.heap.size 3 1 (.slice (some ⟨w2.heap.size, 0, none⟩) 1 1) 1 (iCells [av + p0.2.length]) :=
            ⟨rfl, .inr ⟨w2.heap.size, 1, #[.int .i64 ((av : Int) + (p0.2.length : Int))], rfl, Nat.le_refl _, heap_alloc_new w2 _, Nat.le_refl _, by simp [maxLen], rfl, by simp [iCells]⟩⟩
          go_loopw [7, 8] (fun v7 v8 wr => ∃ (i : Nat) (E : List Nat), v8 = .int .i64 i ∧ 1 ≤ i ∧ i ≤ n ∧ wr.ownsRow w2.heap.size 3 1 v7 E.length (iCells E) ∧ 0 < E.length ∧ E.length ≤ m + 1 ∧ New w2 wr ∧ Hid (∀ e ∈ E, e ≤ m) ∧ Hid (endsL words (r.drop (i - 1)) E = EL)) (fun _ v8 _ => n - (intOf v8).toNat)
          case atStart => exact ⟨1, [av + p0.2.length], rfl, by omega, by omega, own0, by simp, by simp, (New.refl w2).alloc _, Lib.hid (fun e he => by rw [List.mem_singleton.1 he]; exact hsl), Lib.hid HEL.out⟩
          case round =>
            obtain ⟨i, E, rfl, hi1, hin, ownE, hE0, hE1, hnr, HEm, HG⟩ := hrel
            obtain ⟨wo, rfl⟩ : ∃ x, x = wr := ⟨_, rfl⟩
            have k5 := (((B0.new hn1).new hn2).new hnr).cell' 1 _ rfl
            obtain ⟨AE, cE, rfl, hcE1, hcE2, hrE⟩ := own_form ownE
            by_cases hlt : i < n
            · obtain ⟨bq, oq, vq, p, eqA, hp, f1, f2, hwp⟩ := ((((HR.out.new hn1).new hn2).new hnr).at hlt)
              injection eqA with eqA
              injection eqA with eq1 eq2
              subst eq1 eq2
              obtain ⟨Ap, cp, rfl, hcp1, hcp2, hrp⟩ := id hwp
              have hpr : r[i - 1]? = some p := by
                obtain ⟨k, rfl⟩ : ∃ k, i = k + 1 := ⟨i - 1, by omega⟩
                simpa using hp
              obtain ⟨g1, g2, -, -⟩ := HHH.out p (List.mem_of_getElem? hpr)
              have hpl := HS2.out.2 p (List.mem_of_getElem? hp)
              obtain ⟨hN, hhN⟩ : ∃ k : Nat, p.1 = (k : Int) := ⟨p.1.toNat, by omega⟩
              have hgo := HG.out
              obtain ⟨hlr, her⟩ := List.getElem?_eq_some_iff.1 hpr
              rw [List.drop_eq_getElem_cons hlr, her, endsL, show p.1.toNat = hN by omega, HM.out, show i - 1 + 1 = i by omega] at hgo
              rw [hhN] at f1 g1 g2
              have HGO := Lib.hid hgo
              have HWP := Lib.hid hwp
              have i0 : (0 : Int) ≤ (i : Int) := by omega
              have i1 : (i : Int) < (n : Int) := by omega
              have B58 := Blk.made wo 58 #[.int .i64 (hN : Int), .slice Ap p.2.length cp]
              clear hgo hwp hrp hp hpr hhN HG her hlr
              go_wp2
              obtain ⟨wb, hwb⟩ : ∃ x, x = wo.alloc (.cells #[.int .i64 (hN : Int), .slice Ap p.2.length cp] 58) := ⟨_, rfl⟩
              rw [← hwb] at B58 ⊢
              have hob : New wo wb := by rw [hwb]; exact (New.refl _).alloc _
              clear hwb f1 f2
              have HPB := Lib.hid (HWP.out.new hob)
              have HWB := Lib.hid ((((HWR2.out.new hn1).new hn2).new hnr).new hob)
              have HrE := Lib.hid (hrE.below hob)
              have HEM := Lib.hid HEm.out
              clear hrE
              go_loopw [10, 11] (fun v10 v11 wr => ∃ (q : Nat) (N : List Nat), v11 = .int .i64 q ∧ q ≤ m + 1 ∧ wr.ownsRow wb.heap.size 3 1 v10 N.length (iCells N) ∧ N.length ≤ q ∧ New wb wr ∧ Hid (N = nextTo p.2 words hN E q)) (fun _ v11 _ => m + 1 - (intOf v11).toNat)
              case atStart => exact ⟨0, [], rfl, by omega, World.ownsRow_nil _ _ _ _, by simp, New.refl _, Lib.hid (by simp [nextTo])⟩
              case round =>
                obtain ⟨q, N, rfl, hq, ownN, hNl, hn4, HN4⟩ := hrel
                obtain ⟨v10, hv10⟩ : ∃ x, x = u10 := ⟨_, rfl⟩
                subst hv10
                obtain ⟨wi, rfl⟩ : ∃ x, x = wr := ⟨_, rfl⟩
                have g4 := (B58.new hn4).cell' 1 _ rfl
                by_cases hqm : q ≤ m
                · have z1 : (q : Int) ≤ (m : Int) := by omega
                  go_wp2
                  go_loopw [12, 13] (fun v12 v13 wr => ∃ (k : Nat) (b : Bool), v13 = .int .i64 k ∧ k ≤ E.length ∧ v12 = .bool b ∧ New wi wr ∧ Hid (b = nearV (E.take k) hN q)) (fun _ v13 _ => E.length - (intOf v13).toNat)
                  case atStart => exact ⟨0, false, rfl, by omega, rfl, New.refl _, Lib.hid rfl⟩
                  case round =>
                    obtain ⟨k, b, rfl, hk, rfl, hn5, HB⟩ := hrel
                    have g5 := ((B58.new hn4).new hn5).cell' 0 _ rfl
                    have g6 := ((B58.new hn4).new hn5).cell' 1 _ rfl
                    by_cases hlk : k < E.length
                    · obtain ⟨bE, oE, rfl, _, hcE⟩ := ((HrE.out.below hn4).below hn5).2 (by omega)
                      have hek : E[k]? = some E[k] := List.getElem?_eq_getElem hlk
                      have d7 : wr.cell? ⟨bE, oE + k, none⟩ = some (.int .i64 (E[k] : Nat)) := hcE k _ (iCells_at hek)
                      have hnt := near_take (h := hN) (a := q) hek
                      rw [← HB.out] at hnt
                      have hem := HEM.out _ (List.getElem_mem hlk)
                      have HNT := Lib.hid hnt
                      clear hnt hek hcE
                      generalize E[k] = e at *
                      have y0 : (0 : Int) ≤ (k : Int) := by omega
                      have y1 : (k : Int) < (E.length : Int) := by omega
                      have u2 : IntKind.i64.wrap ((e : Int) + (hN : Int)) = (e : Int) + (hN : Int) := IntWalk.i64_in _ (by omega)
                      cases b
                      · by_cases x1 : e ≤ q
                        · have t1 : decide ((e : Int) ≤ (q : Int)) = true := decide_eq_true (by omega)
                          by_cases x2 : q ≤ e + hN
                          · have t2 : decide ((q : Int) ≤ (e : Int) + (hN : Int)) = true := decide_eq_true (by omega)
                            have HR2 : Hid (true = nearV (E.take (k + 1)) hN q) := Lib.hid (by rw [HNT.out, decide_eq_true x1, decide_eq_true x2]; rfl)
                            go_wp2
                            go_quiet (fail)
                            go_wp2
                            go_roundw
                            case rel => exact ⟨k + 1, true, by go_num, by omega, rfl, hn5.drewN nq, HR2⟩
                            case measure => simp [intOf]; omega
                          · have t2 : decide ((q : Int) ≤ (e : Int) + (hN : Int)) = false := decide_eq_false (by omega)
                            have HR2 : Hid (false = nearV (E.take (k + 1)) hN q) := Lib.hid (by rw [HNT.out, decide_eq_true x1, decide_eq_false x2]; rfl)
                            go_wp2
                            go_quiet (fail)
                            go_wp2
                            go_roundw
                            case rel => exact ⟨k + 1, false, by go_num, by omega, rfl, hn5.drewN nq, HR2⟩
                            case measure => simp [intOf]; omega
                        · have t1 : decide ((e : Int) ≤ (q : Int)) = false := decide_eq_false (by omega)
                          have HR2 : Hid (false = nearV (E.take (k + 1)) hN q) := Lib.hid (by rw [HNT.out, decide_eq_false x1]; rfl)
                          go_wp2
                          go_quiet (fail)
                          go_wp2
                          go_roundw
                          case rel => exact ⟨k + 1, false, by go_num, by omega, rfl, hn5.drewN nq, HR2⟩
                          case measure => simp [intOf]; omega
                      · have HR2 : Hid (true = nearV (E.take (k + 1)) hN q) := Lib.hid (by rw [HNT.out]; rfl)
                        go_wp2
                        go_quiet (fail)
                        go_wp2
                        go_roundw
                        case rel => exact ⟨k + 1, true, by go_num, by omega, rfl, hn5.drewN nq, HR2⟩
                        case measure => simp [intOf]; omega
                    · obtain rfl : k = E.length := by omega
                      have hb := HB.out
                      rw [List.take_length] at hb
                      have HSQ := Lib.hid (fun w h h' => rstands_any (.slice Ap p.2.length cp) (.slice A' m c') p.2 words q w h h' (by omega) (by rw [HM.out]; exact hm) (by omega))
                      have hns := nextTo_succ p.2 words hN E q
                      rw [← hb, ← HN4.out] at hns
                      have HPW := Lib.hid ((HPB.out.new hn4).new hn5)
                      have HWW := Lib.hid ((HWB.out.new hn4).new hn5)
                      cases b
                      · rw [Bool.false_and, if_neg (by simp), List.append_nil] at hns
                        have HNS := Lib.hid hns
                        clear hns hb
                        go_wp2
                        go_roundw
                        case rel => exact ⟨q + 1, N, by go_num, by omega, own_new ownN hn5, by omega, hn4.trans hn5, Lib.hid HNS.out.symm⟩
                        case measure => simp [intOf]; omega
                      · rw [Bool.true_and] at hns
                        generalize standsV p.2 words q = sq at *
                        cases sq
                        · rw [if_neg (by simp), List.append_nil] at hns
                          have HNS := Lib.hid hns
                          clear hns hb
                          go_wp2_with (go_at_call 56; refine (HSQ.out _ HPW.out HWW.out).mono ?_; rintro e w9 ⟨rfl, hn9⟩)
                          go_roundw
                          case rel => exact ⟨q + 1, N, by go_num, by omega, own_new ownN (hn5.trans hn9), by omega, (hn4.trans hn5).trans hn9, Lib.hid HNS.out.symm⟩
                          case measure => simp [intOf]; omega
                        · rw [if_pos rfl] at hns
                          have HNS := Lib.hid hns
                          have u3 : IntKind.i64.wrap ((q : Int) + (p.2.length : Int)) = ((q + p.2.length : Nat) : Int) := by rw [IntWalk.i64_in _ (by omega)]; omega
                          have hbz := hn4.size
                          clear hns hb
                          go_wp2_with (first
                            | (at_builtin; refine wpList_append_own _ rfl (.tmp 99) (.tmp 105) 85 rfl wb.heap.size 3 j0 (.int .i64 0) 1 8 Tryz.underlying85 hj0 hz0 hz1 hz2 rfl (by decide) _ _ _ rfl ((own_new ownN (hn5.trans hn9)).alloc _) ⟨w9.heap.size, 0, none⟩ 1 1 [.int .i64 (q + p.2.length : Nat)] rfl rfl ?c1 ?c2 ?c3 ?c4 ?c5 ?_)
                            | (go_at_call 56; refine (HSQ.out _ HPW.out HWW.out).mono ?_; rintro e w9 ⟨rfl, hn9⟩; have g7 := (((B58.new hn4).new hn5).new hn9).cell' 1 _ rfl))
                          case c1 => exact cell_one_new _ _ _
                          case c2 => simp [Value.oneCell']
                          case c3 => simp [maxLen]; omega
                          case c4 => omega
                          case c5 => have := hn5.size; have := hn9.size; simp; omega
                          intro v' w3 hown3 hg3 _
                          go_wp2
                          go_roundw
                          case rel => exact ⟨q + 1, N ++ [q + p.2.length], by go_num, by omega, own_to hown3 (by simp) (by simp [iCells]), by simp; omega, Below.grown (((hn4.trans hn5).trans hn9).alloc _) hg3 (by have := hn5.size; have := hn9.size; simp; omega) (fun g hg => ((own_new ownN (hn5.trans hn9)).lt g hg).1), Lib.hid HNS.out.symm⟩
                          case measure => simp [intOf]; omega
                · obtain rfl : q = m + 1 := by omega
                  have hgo := HGO.out
                  rw [← HN4.out] at hgo
                  have hNm : ∀ e ∈ N, e ≤ m := fun e he => by
                    rw [HN4.out] at he
                    obtain ⟨a', h1, h2, h3, h4⟩ := nextTo_mem.1 he
                    have := standsV_le h3
                    rw [HM.out] at this
                    omega
                  have HNM := Lib.hid hNm
                  have z1 : ¬ ((m + 1 : Nat) : Int) ≤ (m : Int) := by omega
                  have z2 : ¬ (m : Int) + 1 ≤ (m : Int) := by omega
                  have hbz := hn4.size
                  have hboz := hob.size
                  have hwoz := hnr.size
                  clear hNm
                  obtain ⟨AN, cN, rfl, hcN1, hcN2, _⟩ := own_form ownN
                  by_cases hNe : N = []
                  · rw [if_pos hNe] at hgo
                    subst hgo
                    have t1 : ((N.length : Int) == 0) = true := by rw [hNe]; rfl
                    clear hNe
                    go_wp2
                    exact bodyPost_ret (v := .int .i64 (-1)) (by simp [results, Tryz.results26, go_sem]) rfl ⟨by rw [HV.out]; rfl, ((hnA.trans hnr).trans hob).trans hn4⟩
                  · rw [if_neg hNe] at hgo
                    have hNp := List.length_pos_iff.2 hNe
                    have t1 : ((N.length : Int) == 0) = false := beq_eq_false_iff_ne.2 (by omega)
                    have HGO2 := Lib.hid hgo
                    clear hNe hgo
                    go_wp2
                    go_roundw
                    case rel => exact ⟨_, _, .int .i64 ((i + 1 : Nat) : Int), ⟨i + 1, rfl, by omega, by omega, N, own_down ownN (by omega), hNp, hNl, (hnr.trans hob).trans hn4, Lib.hid HNM.out, Lib.hid HGO2.out⟩, rfl, rfl, by go_num⟩
                    case measure => simp [intOf]; omega
            · obtain rfl : i = n := by omega
              have hE := HG.out
              rw [List.drop_of_length_le (by omega), endsL] at hE
              subst hE
              obtain ⟨bE, oE, rfl, _, hcE⟩ := hrE.2 hE0
              have hek : E[0]? = some E[0] := List.getElem?_eq_getElem hE0
              have d7 : wo.cell? ⟨bE, oE, none⟩ = some (.int .i64 (E[0] : Nat)) := hcE 0 _ (iCells_at hek)
              have hh0 : headI E = (E[0] : Nat) := by
                cases E with
                | nil => simp at hE0
                | cons e l => rfl
              rw [hh0] at HV
              clear hek hcE
              generalize E[0] = e at *
              have y1 : (0 : Int) < (E.length : Int) := by omega
              go_wp2
              exact bodyPost_ret (v := .int .i64 (e : Nat)) (by simp [results, Tryz.results26, go_sem]) rfl ⟨by rw [HV.out], hnA.trans hnr⟩
  · have e1 : (ck != 0) = true := bne_iff_ne.2 q1
    have HV := Lib.hid (HRN.out (fun h => q1 h.1))
    clear q1
    go_enter Tryz.func26, Tryz.ntmps26
    go_wp2_with (go_at_call 22; refine (HC0.out _ HTR2.out).mono ?_; rintro e w1 ⟨rfl, hn1⟩)
    exact bodyPost_ret (v := .int .i64 (-1)) (by simp [results, Tryz.results26, go_sem]) rfl ⟨by rw [HV.out], hnS.trans hn1⟩
end Go.Proofs.YtpoelhnceebmkaaGreatDoor
