/- template.match: the walk. No conditions but the sizes' own. template.Match. No conditions but the sizes' own. template.Find. No conditions but the sizes' own. template.Find: the walk. No conditions but the sizes' own. -/
import Derived.Test.YtpoelhnceebmkaaGreatDoorGI

namespace Go.Proofs.YtpoelhnceebmkaaGreatDoor
open Go Go.RowKit
set_option linter.unusedSimpArgs false
set_option linter.unusedVariables false

theorem New.grownN {a w w' : World} (h : New a w) (hg : w.grownBy w' none) : New a w' := Below.grown h hg h.size (fun q hq => by cases hq)
theorem stepE_none (ws words : List ByteArray) (h : Nat) (T : Nat → Bool) : (stepE ws words h fun e => T e && !T e) = fun _ => false := by
  funext j
  unfold stepE
  have : ((List.range (h + 1)).any fun d => decide (d ≤ j - ws.length) && (T (j - ws.length - d) && !T (j - ws.length - d))) = false := by
    rw [List.any_eq_false]
    intro d _
    cases T (j - ws.length - d) <;> simp
  rw [this, Bool.and_false]
theorem lst_step {T L : Nat → Bool} {x : Int} {k : Nat} (hT : T k = true) (h : LstI T L x) : (x = -1 ∧ LstI T (fun j => L j && !decide (j = k)) (k : Int)) ∨ ∃ m : Nat, x = (m : Int) ∧ if k < m then LstI T (fun j => L j && !decide (j = k)) (k : Int) else LstI T (fun j => L j && !decide (j = k)) (m : Int) := by
  rcases h with ⟨rfl, h⟩ | ⟨m, rfl, h1, h2⟩
  · refine Or.inl ⟨rfl, Or.inr ⟨k, rfl, hT, fun j hj hl => ?_⟩⟩
    simp only [h j hj, Bool.true_and, Bool.not_eq_false', decide_eq_true_eq] at hl
    omega
  · refine Or.inr ⟨m, rfl, ?_⟩
    split
    · refine Or.inr ⟨k, rfl, hT, fun j hj hl => ?_⟩
      simp only [Bool.and_eq_false_iff, Bool.not_eq_false', decide_eq_true_eq] at hl
      rcases hl with hl | hl
      · have := h2 j hj hl; omega
      · omega
    · refine Or.inr ⟨m, rfl, h1, fun j hj hl => ?_⟩
      simp only [Bool.and_eq_false_iff, Bool.not_eq_false', decide_eq_true_eq] at hl
      rcases hl with hl | hl
      · exact h2 j hj hl
      · omega
theorem cell_new {w w' : World} {a : Addr} {v : Value} (hn : New w w') (h : w.cell? a = some v) : w'.cell? a = some v := (hn.cell (World.block_lt_of_cell? _ _ h)).trans h
set_option maxRecDepth 100000 in
set_option maxHeartbeats 4000000 in
theorem match_any (v v' : Value) (nm : ByteArray) (p0 : Pt) (r : List Pt) (words : List ByteArray) (i : Nat) (w : World) (h : TRd w v nm (p0 :: r)) (h' : WRd w v' words) (hs : SmT (p0 :: r))
    (hh : ∀ p ∈ r, 0 ≤ p.1 ∧ p.1 ≤ 99) (hm : words.length ≤ 100000) (hi : i ≤ words.length) :
    Calls Tryz.prog 55 #[v, v', .int .i64 i] w fun e w' => e = .returned (.tuple #[.int .i64 ((matchV (p0 :: r) words i).getD 0 : Nat), .bool (matchV (p0 :: r) words i).isSome]) ∧ New w w' := by
  obtain ⟨A, c, rfl, hc1, hc2, hr⟩ := h
  obtain ⟨hs1, hs2⟩ := hs
  have hnS : New w (w.alloc (.cells #[.string nm, .slice A (p0 :: r).length c] 25)) := (New.refl w).alloc _
  obtain ⟨b0, o0, v0, p0', rfl, hp0, c1, c2, hw0⟩ := (hr.new hnS).at (i := 0) (by simp)
  obtain rfl : p0 = p0' := by simpa using hp0
  obtain ⟨A0, k0, rfl, hk1, hk2, hr0⟩ := hw0
  simp only [Nat.zero_mul, Nat.add_zero] at c1 c2
  have hp0l := hs2 p0 (by simp)
  have htl := hr.tail (by simpa using hc1)
  have hst := fun w => slice_tail (some ⟨b0, o0, none⟩) (p0 :: r).length c (by simp) w
  have HS0 := Lib.hid (fun w h1 h2 => stands_any (.slice A0 p0.2.length k0) v' p0.2 words i w h1 h2 (by omega) (by omega) (by omega))
  have HW0 : Hid (WRd (w.alloc (.cells #[.string nm, .slice (some ⟨b0, o0, none⟩) (p0 :: r).length c] 25)) (.slice A0 p0.2.length k0) p0.2) := Lib.hid ⟨A0, k0, rfl, hk1, hk2, hr0⟩
  have HMV : Hid (matchV (p0 :: r) words i = if standsV p0.2 words i then leastV (endsV words r fun j => decide (j = i + p0.2.length)) words.length else none) := Lib.hid rfl
  generalize matchV (p0 :: r) words i = mv at *
  have hmm := @run_makeMap Tryz.prog
  have HH := Lib.hid hh
  have HS2 := Lib.hid hs2
  simp only [List.length_cons] at hs1 hc1 hst hnS HW0 c1 c2 ⊢
  clear hr
  obtain ⟨n, hn0⟩ : ∃ n, r.length = n := ⟨_, rfl⟩
  rw [hn0] at hc1 hs1 htl hnS hst HW0 c1 c2 ⊢
  have HN := Lib.hid hn0
  generalize (if c = 1 then (some (⟨b0, o0, none⟩ : Addr)) else (some (⟨b0, o0, none⟩ : Addr)).map (·.add (1 * 2))) = A1 at htl hst
  rw [Nat.add_sub_cancel] at hst
  clear hn0 hh hs2 hp0
  cases hsv : standsV p0.2 words i
  · rw [hsv] at HS0
    have hmv : mv = none := by have := HMV.out; rw [hsv] at this; exact this
    subst hmv
    clear hsv HMV
    go_enter Tryz.func55, Tryz.ntmps55
    go_wp2_with (go_at_call 76; refine (HS0.out _ HW0.out (h'.new hnS)).mono ?_; rintro e w1 ⟨rfl, hn1⟩)
    exact bodyPost_ret (v := .tuple #[.int .i64 0, .bool false]) (by simp [results, Tryz.results55, go_sem]) rfl ⟨rfl, hnS.trans hn1⟩
  · rw [hsv] at HS0
    have hle := standsV_le hsv
    have hmv : mv = leastV (endsV words r fun j => decide (j = i + p0.2.length)) words.length := by have := HMV.out; rw [hsv] at this; exact this
    have HV := Lib.hid hmv
    have u1 : IntKind.i64.wrap ((i : Int) + (p0.2.length : Int)) = ((i + p0.2.length : Nat) : Int) := by rw [IntWalk.i64_in _ (by omega)]; omega
    clear hsv HMV hmv
    have B0 := Blk.made w 25 #[.string nm, .slice (some ⟨b0, o0, none⟩) (n + 1) c]
    go_enter Tryz.func55, Tryz.ntmps55
    go_wp2_with (first
      | (refine wpList_iinsert _ rfl _ _ _ (Or.inl rfl) _ _ _ rfl (IMap.made _) (by decide) (i + p0.2.length) (by omega) rfl rfl ?_; intro w2 hmp2 hg2; have k3 := (((B0.new hn1).alloc (.map #[] 0)).grown hg2 (by have := (B0.new hn1).lt; simp; omega)).cell' 1 _ rfl)
      | (go_at_call 76; refine (HS0.out _ HW0.out (h'.new hnS)).mono ?_; rintro e w1 ⟨rfl, hn1⟩; have k1 := ((B0.new hn1).alloc (.map #[] 0)).cell' 1 _ rfl; have k2 := cell_new (hn1.alloc (.map #[] 0)) c2))
    have hN2 : New w w2 := Below.grown ((hnS.trans hn1).alloc _) hg2 ((hnS.trans hn1).alloc _).size (fun q hq => by cases hq; exact (hnS.trans hn1).size)
    have hT0 : (fun j => false || decide (j = i + p0.2.length)) = fun j => decide (j = i + p0.2.length) := by funext j; simp
    rw [hT0] at hmp2
    generalize w1.heap.size = b1 at hmp2 ⊢
    clear k1 k2 k3 c1 c2 hg2 hT0 HW0 hn1 hnS HS0
    go_loopw [8, 39] (fun v8 v39 wr => ∃ (j b nn : Nat) (T : Nat → Bool), v8 = .map (some b) ∧ v39 = .int .i64 j ∧ j ≤ n ∧ IMap wr b nn T ∧ nn ≤ cntS T words.length ∧ Hid (∀ k, T k = true → k ≤ words.length) ∧ New w2 wr ∧ Hid (mv = leastV (endsV words (r.drop j) T) words.length)) (fun _ v39 _ => n - (intOf v39).toNat)
    case atStart =>
      refine ⟨0, b1, 0 + 1, _, rfl, rfl, by omega, hmp2, ?_, Lib.hid (fun k hk => ?_), New.refl _, Lib.hid HV.out⟩
      · have h1 := cntS_put (fun _ => false) (k := i + p0.2.length) (M := words.length) rfl hle
        simp only [Bool.false_or] at h1
        omega
      · have : k = i + p0.2.length := by simpa using hk
        omega
    case round =>
      obtain ⟨j, b, nn, T, rfl, rfl, hj, hmp, hnn, HT, hnr, HE⟩ := hrel
      by_cases hlt : j < n
      · obtain ⟨bk, o, vp, p, rfl, hp, d1, d2, hw⟩ := ((htl.new hN2).new hnr).at hlt
        have HWp := Lib.hid hw
        obtain ⟨Aw, cw, rfl, hw1, hw2, hwr⟩ := hw
        have hpm := List.mem_of_getElem? hp
        have hpl := HS2.out p (List.mem_cons_of_mem _ hpm)
        obtain ⟨hh0, hh1⟩ := HH.out p hpm
        obtain ⟨h, hph⟩ : ∃ h : Nat, p.1 = (h : Int) := ⟨p.1.toNat, by omega⟩
        have hh2 : h ≤ 99 := by omega
        have HEn : Hid (endsV words (r.drop j) T = endsV words (r.drop (j + 1)) (stepE p.2 words h T)) := Lib.hid (by
          obtain ⟨hjr, he⟩ := List.getElem?_eq_some_iff.1 hp
          rw [List.drop_eq_getElem_cons hjr, he, endsV, hph, Int.toNat_natCast])
        rw [hph] at d1
        have HSp := Lib.hid (fun w q h1 h2 (hq : q ≤ 1000000) => stands_any (.slice Aw p.2.length cw) v' p.2 words q w h1 h2 (by omega) (by omega) hq)
        obtain ⟨ln, hln⟩ : ∃ ln, p.2.length = ln := ⟨_, rfl⟩
        rw [hln] at d2 hw1 hwr hpl HSp HWp
        have HLn := Lib.hid hln
        generalize p.2 = ws at *
        obtain ⟨wo, rfl⟩ : ∃ x, x = wr := ⟨_, rfl⟩
        have h'o : Hid (WRd wo v' words) := Lib.hid ((h'.new hN2).new hnr)
        have BP0 := (Blk.made wo 58 #[.int .i64 (h : Int), .slice Aw ln cw]).alloc (.map #[] 0)
        have MN0 := IMap.made (wo.alloc (.cells #[.int .i64 (h : Int), .slice Aw ln cw] 58))
        rw [World.size_alloc] at MN0
        have hbl := hmp.lt
        clear hln hp hpm hh0 hh1 hph hwr
        go_wp2_with (refine wpList_irange _ rfl _ rfl _ _ _ rfl ((hmp.alloc _).alloc _) ?_; intro w3 cnt3 hrg3 hg3 hs3)
        go_frame
        simp only [World.size_alloc] at hrg3 ⊢
        go_loopw [12] (fun _ wr => ∃ (L : Nat → Bool) (cnt n2 : Nat), IRng wr b (wo.heap.size + 1 + 1) nn T L cnt ∧ IMap wr (wo.heap.size + 1) n2 (stepE ws words h fun e => T e && !L e) ∧ n2 ≤ cntS (stepE ws words h fun e => T e && !L e) words.length ∧ New wo wr ∧ Blk wr wo.heap.size 58 #[.int .i64 (h : Int), .slice Aw ln cw]) (fun _ wr => wr.rangeLeft b (wo.heap.size + 1 + 1))
        case atStart =>
          have e0 : (stepE ws words h fun e => T e && !T e) = fun _ => false := stepE_none _ _ _ _
          refine ⟨T, cnt3, 0, hrg3, ?_, Nat.zero_le _, (((New.refl wo).alloc _).alloc _).grownN hg3, BP0.grown hg3 (by simp)⟩
          rw [e0]
          exact MN0.kept hg3 (by simp)
        case round =>
          obtain ⟨L, cnt, n2, hrg, hmn, hn2, hn9, BP⟩ := hrel
          go_wp2_with (refine wpList_inext _ rfl _ rfl _ _ _ _ _ _ rfl hrg ?_ ?_)
          · intro hL0
            have e0 : (stepE ws words h fun e => T e && !L e) = stepE ws words h T := stepE_congr (fun k => by rw [hL0]; simp)
            rw [e0] at hmn hn2
            have HEn2 : Hid (mv = leastV (endsV words (r.drop (j + 1)) (stepE ws words h T)) words.length) := Lib.hid (by rw [← HEn.out]; exact HE.out)
            clear e0 hrg
            go_wp2
            go_roundw
            case rel => exact ⟨j + 1, wo.heap.size + 1, n2, _, rfl, by go_num, by omega, hmn, hn2, Lib.hid (fun k hk => stepE_le hk), hnr.trans hn9, HEn2⟩
            case measure => simp [intOf]; omega
          · intro k w4 cnt4 hTk hLk hrg4 hlt4 hg4 hs4 hen
            have hleft := hrg.left_eq
            have hkM := HT.out k hTk
            have hn4 : New wo w4 := Below.grown hn9 hg4 hn9.size (fun q hq => by cases hq; omega)
            have hmn4 := hmn.kept hg4 (by simp)
            have BP4 := BP.grown hg4 (by simp; omega)
            obtain ⟨L', hL'⟩ : ∃ L', L' = fun j => L j && !decide (j = k) := ⟨_, rfl⟩
            rw [← hL'] at hrg4
            have HL' := Lib.hid hL'
            have hmnE : IMap w4 (wo.heap.size + 1) n2 (partE ws words h (fun e => T e && !L e) k k) := by rw [partE_start]; exact hmn4
            have hn2E : n2 ≤ cntS (partE ws words h (fun e => T e && !L e) k k) words.length := by rw [partE_start]; exact hn2
            clear hrg hmn hn2 BP hn9 hg4 hs4 hL' hmn4
            go_wp2
            obtain ⟨wi, rfl⟩ : ∃ x, x = wr := ⟨_, rfl⟩
            go_loopw [13] (fun v13 wr => ∃ (q n3 : Nat), v13 = .int .i64 q ∧ k ≤ q ∧ q ≤ k + h + 1 ∧ IRng wr b (wo.heap.size + 1 + 1) nn T L' cnt4 ∧ IMap wr (wo.heap.size + 1) n3 (partE ws words h (fun e => T e && !L e) k q) ∧ n3 ≤ cntS (partE ws words h (fun e => T e && !L e) k q) words.length ∧ New wo wr ∧ Blk wr wo.heap.size 58 #[.int .i64 (h : Int), .slice Aw ln cw]) (fun v13 _ => k + h + 1 - (intOf v13).toNat)
            case atStart => exact ⟨k, n2, rfl, Nat.le_refl _, by omega, hrg4, hmnE, hn2E, hn4, BP4⟩
            case round =>
              obtain ⟨q, n3, rfl, hq1, hq2, hrg5, hmn5, hn5, hnw5, BP5⟩ := hrel
              have c50 := BP5.cell' 0 _ rfl
              have c51 := BP5.cell' 1 _ rfl
              have u2 : IntKind.i64.wrap ((k : Int) + (h : Int)) = (k : Int) + (h : Int) := IntWalk.i64_in _ (by omega)
              have u3 : IntKind.i64.wrap ((q : Int) + (ln : Int)) = ((q + ln : Nat) : Int) := by rw [IntWalk.i64_in _ (by omega)]; omega
              have hmx : n3 < maxLen := by have := cntS_le (partE ws words h (fun e => T e && !L e) k q) words.length; unfold maxLen; omega
              by_cases hqk : q < k + h + 1
              · have t1 : (q : Int) ≤ (k : Int) + (h : Int) := by omega
                cases hlk : partE ws words h (fun e => T e && !L e) k q (q + ln)
                · have HS5 : Hid (∀ w, WRd w (.slice Aw ln cw) ws → WRd w v' words → Calls Tryz.prog 76 #[.slice Aw ln cw, v', .int .i64 q] w fun e w' => e = .returned (.bool (standsV ws words q)) ∧ New w w') := Lib.hid (fun w h1 h2 => HSp.out w q h1 h2 (by omega))
                  cases hsv : standsV ws words q
                  · rw [hsv] at HS5
                    have hnx := partE_skip ws words h (fun e => T e && !L e) k q hsv
                    clear hsv
                    go_wp2_with (first
                      | (refine wpList_ilook _ rfl _ _ rfl _ _ _ rfl hmn5 (q + ln) (by omega) false hlk rfl ?_)
                      | (go_at_call 76; refine (HS5.out _ (HWp.out.new hnw5) (h'o.out.new hnw5)).mono ?_; rintro e w6 ⟨rfl, hn6⟩))
                    go_roundw
                    case rel => exact ⟨q + 1, n3, by go_num, by omega, by omega, hrg5.new hn6, by rw [← hnx]; exact hmn5.new hn6, by rw [← hnx]; exact hn5, hnw5.trans hn6, BP5.new hn6⟩
                    case measure => simp [intOf]; omega
                  · rw [hsv] at HS5
                    have hle5 := standsV_le hsv
                    rw [HLn.out] at hle5
                    have hnx := partE_add ws words h (fun e => T e && !L e) k q hsv hq1
                    rw [HLn.out] at hnx
                    have hct := cntS_put (partE ws words h (fun e => T e && !L e) k q) (M := words.length) hlk hle5
                    rw [hnx] at hct
                    clear hsv
                    go_wp2_with (first
                      | (refine wpList_iinsert _ rfl _ _ _ (Or.inr rfl) _ _ _ rfl (hmn5.new hn6) hmx (q + ln) (by omega) rfl rfl ?_; intro w7 hmp7 hg7)
                      | (refine wpList_ilook _ rfl _ _ rfl _ _ _ rfl hmn5 (q + ln) (by omega) false hlk rfl ?_)
                      | (go_at_call 76; refine (HS5.out _ (HWp.out.new hnw5) (h'o.out.new hnw5)).mono ?_; rintro e w6 ⟨rfl, hn6⟩; have c61 := (BP5.new hn6).cell' 1 _ rfl))
                    rw [hnx] at hmp7
                    go_roundw
                    case rel => exact ⟨q + 1, n3 + 1, by go_num, by omega, by omega, (hrg5.new hn6).kept hg7 (by simp; omega) (by simp), hmp7, by omega, Below.grown (hnw5.trans hn6) hg7 (hnw5.trans hn6).size (fun q hq => by cases hq; omega), (BP5.new hn6).grown hg7 (by simp)⟩
                    case measure => simp [intOf]; omega
                · have hlk' := hlk
                  rw [← HLn.out] at hlk'
                  have hnx := partE_had ws words h (fun e => T e && !L e) k q hlk'
                  clear hlk'
                  go_wp2_with (refine wpList_ilook _ rfl _ _ rfl _ _ _ rfl hmn5 (q + ln) (by omega) true hlk rfl ?_)
                  go_roundw
                  case rel => exact ⟨q + 1, n3, by go_num, by omega, by omega, hrg5, by rw [← hnx]; exact hmn5, by rw [← hnx]; exact hn5, hnw5, BP5⟩
                  case measure => simp [intOf]; omega
              · obtain rfl : q = k + h + 1 := by omega
                have t1 : ¬ ((k + h + 1 : Nat) : Int) ≤ (k : Int) + (h : Int) := by omega
                have e9 : partE ws words h (fun e => T e && !L e) k (k + h + 1) = stepE ws words h fun j => T j && !L' j := by rw [partE_end ws words h T L k hTk hLk, HL'.out]
                rw [e9] at hmn5 hn5
                clear e9
                go_wp2
                go_roundw
                case rel => exact ⟨L', cnt4, n3, hrg5, hmn5, hn5, hnw5, BP5⟩
                case measure => rw [hrg5.left_eq, hleft]; exact hlt4
      · obtain rfl : j = n := by omega
        have hE := HE.out
        rw [List.drop_of_length_le (by rw [HN.out]; exact Nat.le_refl _)] at hE
        have HE2 : Hid (mv = leastV T words.length) := Lib.hid hE
        obtain ⟨wo, rfl⟩ : ∃ x, x = wr := ⟨_, rfl⟩
        clear hE HE
        go_wp2_with (refine wpList_irange _ rfl _ rfl _ _ _ rfl hmp ?_; intro w3 cnt3 hrg3 hg3 hs3)
        go_frame
        go_loopw [14] (fun v14 wr => ∃ (x : Int) (L : Nat → Bool) (cnt : Nat), v14 = .int .i64 x ∧ IRng wr b wo.heap.size nn T L cnt ∧ New wo wr ∧ Hid (LstI T L x)) (fun _ wr => wr.rangeLeft b wo.heap.size)
        case atStart => exact ⟨-1, T, cnt3, rfl, hrg3, (New.refl wo).grownN hg3, Lib.hid (Or.inl ⟨rfl, fun j h => h⟩)⟩
        case round =>
          obtain ⟨x, L, cnt, rfl, hrg, hn9, HL⟩ := hrel
          go_wp2_with (refine wpList_inext _ rfl _ rfl _ _ _ _ _ _ rfl hrg ?_ ?_)
          · intro hL0
            have HF : Hid ((x = -1 ∧ mv = none) ∨ ∃ m : Nat, x = (m : Int) ∧ mv = some m) := Lib.hid (by
              have := leastV_of (fun j => HT.out j) (by have := HL.out; rwa [show L = fun _ => false from funext hL0] at this)
              rw [← HE2.out] at this
              rcases this with h | ⟨m, h1, h2, _⟩
              · exact Or.inl h
              · exact Or.inr ⟨m, h1, h2⟩)
            have hfin : New w wr := (hN2.trans hnr).trans hn9
            clear hrg HL
            rcases HF.out with ⟨rfl, hmv⟩ | ⟨m, rfl, hmv⟩
            · go_wp2
              exact bodyPost_ret (v := .tuple #[.int .i64 0, .bool false]) (by simp [results, Tryz.results55, go_sem, show max (-1 : Int) 0 = 0 from rfl]) rfl ⟨rfl, hfin⟩
            · have m1 : (0 : Int) ≤ (m : Int) := by omega
              go_wp2
              exact bodyPost_ret (v := .tuple #[.int .i64 (m : Int), .bool true]) (by simp [results, Tryz.results55, go_sem]) rfl ⟨by rw [hmv]; rfl, hfin⟩
          · intro k w4 cnt4 hTk hLk hrg4 hlt4 hg4 hs4 hen
            have hl := hrg.left_eq
            have hn4 : New wo w4 := Below.grown hn9 hg4 hn9.size (fun q hq => by cases hq; exact Nat.le_refl _)
            have HS : Hid ((x = -1 ∧ LstI T (fun j => L j && !decide (j = k)) (k : Int)) ∨ ∃ m : Nat, x = (m : Int) ∧ if k < m then LstI T (fun j => L j && !decide (j = k)) (k : Int) else LstI T (fun j => L j && !decide (j = k)) (m : Int)) := Lib.hid (lst_step hTk HL.out)
            clear hrg HL
            rcases HS.out with ⟨rfl, h1⟩ | ⟨m, rfl, h1⟩
            · have HH1 := Lib.hid h1
              clear h1 HS
              go_wp2
              go_roundw
              case rel => exact ⟨k, _, cnt4, rfl, hrg4, hn4, HH1⟩
              case measure => rw [hrg4.left_eq, hl]; exact hlt4
            · have m0 : ¬ (m : Int) < 0 := by omega
              by_cases hkm : k < m
              · rw [if_pos hkm] at h1
                have HH1 := Lib.hid h1
                have m1 : (k : Int) < (m : Int) := by omega
                clear h1 HS
                go_wp2
                go_roundw
                case rel => exact ⟨k, _, cnt4, rfl, hrg4, hn4, HH1⟩
                case measure => rw [hrg4.left_eq, hl]; exact hlt4
              · rw [if_neg hkm] at h1
                have HH1 := Lib.hid h1
                have m1 : ¬ (k : Int) < (m : Int) := by omega
                clear h1 HS
                go_wp2
                go_roundw
                case rel => exact ⟨m, _, cnt4, rfl, hrg4, hn4, HH1⟩
                case measure => rw [hrg4.left_eq, hl]; exact hlt4
end Go.Proofs.YtpoelhnceebmkaaGreatDoor

namespace Go.Proofs.YtpoelhnceebmkaaGreatDoor
open Go Go.RowKit
set_option linter.unusedSimpArgs false
set_option linter.unusedVariables false

theorem chk_ok : ∀ (ps : List Pt) (i : Nat), 0 < i → chk i ps = 0 → ∀ p ∈ ps, 1 ≤ p.1 ∧ p.1 ≤ 99 ∧ p.2 ≠ [] ∧ allOk p.2 = true
  | [], _, _, _, p, hp => by cases hp
  | q :: r, i, hi, h, p, hp => by
    rw [chk] at h
    split at h
    · cases h
    · rename_i hb
      split at h
      · cases h
      · rename_i hne
        split at h
        · rename_i hok
          rcases List.mem_cons.1 hp with rfl | hp
          · have hb' : badH i p.1 = false := by simpa using hb
            rw [badH, if_neg (by omega)] at hb'
            simp only [Bool.or_eq_false_iff, decide_eq_false_iff_not] at hb'
            exact ⟨by omega, by omega, hne, hok⟩
          · exact chk_ok r (i + 1) (by omega) h p hp
        · cases h
theorem check_ok {ps : List Pt} (h : checkV ps = 0) : ∃ p0 r, ps = p0 :: r ∧ p0.1 = 0 ∧ p0.2 ≠ [] ∧ allOk p0.2 = true ∧ (∀ p ∈ r, 1 ≤ p.1 ∧ p.1 ≤ 99 ∧ p.2 ≠ [] ∧ allOk p.2 = true) ∧ total ps ≤ 256 := by
  cases ps with
  | nil => cases h
  | cons p0 r =>
    unfold checkV at h
    rw [if_neg (by simp)] at h
    split at h
    · cases h
    · rename_i ht
      rw [chk] at h
      split at h
      · cases h
      · rename_i hb
        split at h
        · cases h
        · rename_i hne
          split at h
          · rename_i hok
            have hb' : badH 0 p0.1 = false := by simpa using hb
            rw [badH, if_pos rfl] at hb'
            exact ⟨p0, r, rfl, by simpa using hb', hne, hok, chk_ok r 1 (by omega) h, by omega⟩
          · cases h

def matchT (ps : List Pt) (words : List ByteArray) (a : Int) : Option Nat := if checkV ps = 0 ∧ 0 ≤ a ∧ a < words.length then matchV ps words a.toNat else none
theorem matchT_no {ps : List Pt} {words : List ByteArray} {a : Int} (h : ¬ (checkV ps = 0 ∧ 0 ≤ a ∧ a < words.length)) : matchT ps words a = none := if_neg h

set_option maxRecDepth 100000 in
set_option maxHeartbeats 4000000 in
theorem matchT_any (v v' : Value) (nm : ByteArray) (ps : List Pt) (words : List ByteArray) (a : Int) (w : World) (h : TRd w v nm ps) (h' : WRd w v' words) (hs : SmT ps) (hm : words.length ≤ 100000) :
    Calls Tryz.prog 25 #[v, v', .int .i64 a] w fun e w' => e = .returned (.tuple #[.int .i64 ((matchT ps words a).getD 0 : Nat), .bool (matchT ps words a).isSome]) ∧ New w w' := by
  obtain ⟨nv, pv, rfl⟩ : ∃ x y, v = .agg #[x, y] := by obtain ⟨A, c, rfl, _⟩ := h; exact ⟨_, _, rfl⟩
  have hnS : New w (w.alloc (.cells #[nv, pv] 25)) := (New.refl w).alloc _
  have B0 := Blk.made w 25 #[nv, pv]
  have b1 := B0.cell' 0 _ rfl
  have b2 := B0.cell' 1 _ rfl
  have HC := Lib.hid (check_any _ nm ps _ (h.new hnS) hs)
  have HM : Hid (matchT ps words a = if checkV ps = 0 ∧ 0 ≤ a ∧ a < words.length then matchV ps words a.toNat else none) := Lib.hid rfl
  have HKO := Lib.hid (fun h => check_ok (ps := ps) h)
  generalize matchT ps words a = mv at *
  generalize checkV ps = ck at *
  by_cases hck : ck = 0
  · subst hck
    by_cases ha : 0 ≤ a
    · obtain ⟨i, rfl⟩ : ∃ i : Nat, a = (i : Int) := ⟨a.toNat, by omega⟩
      obtain ⟨A', c', rfl, hc1', hc2', hr'⟩ := h'
      have a1 : ¬ (i : Int) < 0 := by omega
      by_cases hi : i < words.length
      · have hmv : mv = matchV ps words i := by have := HM.out; rw [if_pos (by omega), Int.toNat_natCast] at this; exact this
        obtain ⟨p0, r, rfl, _, _, _, hh, _⟩ := HKO.out rfl
        have HV := Lib.hid hmv
        have a2 : ¬ (words.length : Int) ≤ (i : Int) := by omega
        have HX := Lib.hid (fun w h h2 => match_any (.agg #[nv, pv]) (.slice A' words.length c') nm p0 r words i w h h2 hs (fun p hp => ⟨by have := (hh p hp).1; omega, (hh p hp).2.1⟩) hm (by omega))
        have HW : Hid (WRd w (.slice A' words.length c') words) := Lib.hid ⟨A', c', rfl, hc1', hc2', hr'⟩
        have HT := Lib.hid h
        rw [← hmv] at HX
        clear hmv hh hr' h
        go_enter Tryz.func25, Tryz.ntmps25
        go_wp2_with (first
          | (go_at_call 55; refine (HX.out _ (HT.out.new (hnS.trans hn1)) (HW.out.new (hnS.trans hn1))).mono ?_; rintro e w2 ⟨rfl, hn2⟩)
          | (go_at_call 21; refine HC.out.mono ?_; rintro e w1 ⟨rfl, hn1⟩; have k1 := (B0.new hn1).cell' 0 _ rfl; have k2 := (B0.new hn1).cell' 1 _ rfl))
        exact bodyPost_ret (v := .tuple #[.int .i64 (mv.getD 0 : Nat), .bool mv.isSome]) (by simp [results, Tryz.results25, go_sem]) rfl ⟨rfl, (hnS.trans hn1).trans hn2⟩
      · have hmv : mv = none := by have := HM.out; rw [if_neg (by omega)] at this; exact this
        subst hmv
        have a2 : (words.length : Int) ≤ (i : Int) := by omega
        go_enter Tryz.func25, Tryz.ntmps25
        go_wp2_with (go_at_call 21; refine HC.out.mono ?_; rintro e w1 ⟨rfl, hn1⟩)
        exact bodyPost_ret (v := .tuple #[.int .i64 0, .bool false]) (by simp [results, Tryz.results25, go_sem]) rfl ⟨rfl, hnS.trans hn1⟩
    · have hmv : mv = none := by have := HM.out; rw [if_neg (by omega)] at this; exact this
      subst hmv
      have a1 : a < 0 := by omega
      go_enter Tryz.func25, Tryz.ntmps25
      go_wp2_with (go_at_call 21; refine HC.out.mono ?_; rintro e w1 ⟨rfl, hn1⟩)
      exact bodyPost_ret (v := .tuple #[.int .i64 0, .bool false]) (by simp [results, Tryz.results25, go_sem]) rfl ⟨rfl, hnS.trans hn1⟩
  · have hmv : mv = none := by have := HM.out; rw [if_neg (by omega)] at this; exact this
    subst hmv
    have c1 : (ck == 0) = false := beq_eq_false_iff_ne.2 hck
    go_enter Tryz.func25, Tryz.ntmps25
    go_wp2_with (go_at_call 21; refine HC.out.mono ?_; rintro e w1 ⟨rfl, hn1⟩)
    exact bodyPost_ret (v := .tuple #[.int .i64 0, .bool false]) (by simp [results, Tryz.results25, go_sem]) rfl ⟨rfl, hnS.trans hn1⟩
end Go.Proofs.YtpoelhnceebmkaaGreatDoor

namespace Go.Proofs.YtpoelhnceebmkaaGreatDoor
open Go Go.RowKit
set_option linter.unusedSimpArgs false
set_option linter.unusedVariables false

/-! ### lists of templates -/
abbrev Tm := ByteArray × List Pt
def TsRd (w : World) (A : Option Addr) (n : Nat) (l : List Tm) : Prop :=
  l.length = n ∧ (0 < n → ∃ b o, A = some ⟨b, o, none⟩ ∧ ∀ i (h : i < l.length), ∃ v, w.cell? ⟨b, o + i * 2, none⟩ = some (.string l[i].1) ∧ w.cell? ⟨b, o + i * 2 + 1, none⟩ = some v ∧ TRd w (.agg #[.string l[i].1, v]) l[i].1 l[i].2)
theorem TsRd.new {w w' : World} {A : Option Addr} {n : Nat} {l : List Tm} (h : TsRd w A n l) (hn : New w w') : TsRd w' A n l :=
  ⟨h.1, fun h0 => by
    obtain ⟨b, o, e, hc⟩ := h.2 h0
    refine ⟨b, o, e, fun i hi => ?_⟩
    obtain ⟨v, c1, c2, ht⟩ := hc i hi
    exact ⟨v, cell_new hn c1, cell_new hn c2, ht.new hn⟩⟩
theorem TsRd.at {w : World} {A : Option Addr} {n : Nat} {l : List Tm} (h : TsRd w A n l) {i : Nat} (hi : i < n) : ∃ b o v t, A = some ⟨b, o, none⟩ ∧ l[i]? = some t ∧ w.cell? ⟨b, o + i * 2, none⟩ = some (.string t.1) ∧ w.cell? ⟨b, o + i * 2 + 1, none⟩ = some v ∧ TRd w (.agg #[.string t.1, v]) t.1 t.2 := by
  obtain ⟨b, o, rfl, hc⟩ := h.2 (by omega)
  obtain ⟨v, c1, c2, ht⟩ := hc i (by rw [h.1]; exact hi)
  exact ⟨b, o, v, l[i]'(by rw [h.1]; exact hi), rfl, List.getElem?_eq_getElem _, c1, c2, ht⟩

/-! ### what Find finds -/
/-- The good ones from place i on. -/
def goodV : Nat → List Tm → List Nat
  | _, [] => []
  | i, t :: r => if checkV t.2 = 0 then i :: goodV (i + 1) r else goodV (i + 1) r
theorem goodV_at {l : List Tm} {i : Nat} {t : Tm} (h : l[i]? = some t) : goodV i (l.drop i) = if checkV t.2 = 0 then i :: goodV (i + 1) (l.drop (i + 1)) else goodV (i + 1) (l.drop (i + 1)) := by
  obtain ⟨hi, he⟩ := List.getElem?_eq_some_iff.1 h
  rw [List.drop_eq_getElem_cons hi, goodV, he]
theorem goodV_mem : ∀ (l : List Tm) (i : Nat), ∀ k ∈ goodV i l, i ≤ k ∧ ∃ t, l[k - i]? = some t ∧ checkV t.2 = 0
  | [], _, k, hk => by cases hk
  | t :: r, i, k, hk => by
    rw [goodV] at hk
    have go : k ∈ goodV (i + 1) r → i ≤ k ∧ ∃ t', (t :: r)[k - i]? = some t' ∧ checkV t'.2 = 0 := fun hk => by
      obtain ⟨h1, t', h2, h3⟩ := goodV_mem r (i + 1) k hk
      refine ⟨by omega, t', ?_, h3⟩
      rw [show k - i = (k - (i + 1)) + 1 by omega, List.getElem?_cons_succ]
      exact h2
    split at hk
    · rename_i hc
      rcases List.mem_cons.1 hk with rfl | hk
      · exact ⟨Nat.le_refl _, t, by simp, hc⟩
      · exact go hk
    · exact go hk
/-- A find: the template, from, to. -/
abbrev Fd := Nat × Nat × Nat
def betterV (l : List Tm) (words : List ByteArray) (a : Nat) (b : Fd) (k : Nat) : Fd :=
  match l[k]? with
  | none => b
  | some t => match matchV t.2 words a with
    | none => b
    | some e => if b.2.2 < e then (k, a, e) else b
def bestV (l : List Tm) (words : List ByteArray) (a : Nat) (good : List Nat) : Fd := good.foldl (betterV l words a) (0, 0, 0)
def findV (l : List Tm) (words : List ByteArray) (good : List Nat) : Nat → Nat → List Fd
  | 0, _ => []
  | f + 1, a => if a < words.length then
      if (bestV l words a good).2.2 = 0 then findV l words good f (a + 1) else bestV l words a good :: findV l words good f (bestV l words a good).2.2
    else []
def mCells : List Fd → List Value
  | [] => []
  | x :: r => .int .i64 x.1 :: .int .i64 x.2.1 :: .int .i64 x.2.2 :: mCells r
theorem mCells_app : ∀ (a b : List Fd), mCells (a ++ b) = mCells a ++ mCells b
  | [], _ => rfl
  | x :: a, b => by rw [List.cons_append, mCells, mCells_app a b]; rfl
theorem mCells_len : ∀ (a : List Fd), (mCells a).length = a.length * 3
  | [] => rfl
  | x :: a => by simp only [mCells, List.length_cons, mCells_len a]; omega

theorem stepE_from {ws words : List ByteArray} {h : Nat} {T : Nat → Bool} {m : Nat} (hT : ∀ j, T j = true → m ≤ j) {j : Nat} (hj : stepE ws words h T j = true) : m ≤ j := by
  simp only [stepE, Bool.and_eq_true, decide_eq_true_eq, List.any_eq_true] at hj
  obtain ⟨_, d, _, _, hd⟩ := hj
  have := hT _ hd; omega
theorem endsV_from (words : List ByteArray) (m : Nat) : ∀ (r : List Pt) (T : Nat → Bool), (∀ j, T j = true → m ≤ j) → ∀ j, endsV words r T j = true → m ≤ j
  | [], T, hT, j, hj => hT j hj
  | p :: r, T, hT, j, hj => endsV_from words m r _ (fun i hi => stepE_from hT hi) j hj
theorem endsV_to (words : List ByteArray) : ∀ (r : List Pt) (T : Nat → Bool), (∀ j, T j = true → j ≤ words.length) → ∀ j, endsV words r T j = true → j ≤ words.length
  | [], T, hT, j, hj => hT j hj
  | p :: r, T, hT, j, hj => endsV_to words r _ (fun i hi => stepE_le hi) j hj
theorem matchV_gt {ps : List Pt} {words : List ByteArray} {a e : Nat} (hc : checkV ps = 0) (h : matchV ps words a = some e) : a < e ∧ e ≤ words.length := by
  obtain ⟨p0, r, rfl, _, hne, _⟩ := check_ok hc
  unfold matchV at h
  simp only at h
  split at h
  · rename_i hs
    have hT := List.find?_some h
    have hl := List.length_pos_iff.2 hne
    have hle := standsV_le hs
    have h1 := endsV_from words (a + p0.2.length) r _ (fun j hj => by have : j = a + p0.2.length := by simpa using hj
                                                                      omega) e hT
    have h2 := endsV_to words r _ (fun j hj => by have : j = a + p0.2.length := by simpa using hj
                                                  omega) e hT
    omega
  · cases h
theorem foldl_best {l : List Tm} {words : List ByteArray} {a : Nat} : ∀ (good : List Nat) (b : Fd), (∀ k ∈ good, ∃ t, l[k]? = some t ∧ checkV t.2 = 0) → (b.2.2 = 0 ∨ (a < b.2.2 ∧ b.2.2 ≤ words.length)) →
    ((good.foldl (betterV l words a) b).2.2 = 0 ∨ (a < (good.foldl (betterV l words a) b).2.2 ∧ (good.foldl (betterV l words a) b).2.2 ≤ words.length))
  | [], b, _, hb => hb
  | k :: g, b, hg, hb => by
    refine foldl_best g _ (fun j hj => hg j (List.mem_cons_of_mem _ hj)) ?_
    obtain ⟨t, ht, hc⟩ := hg k (by simp)
    unfold betterV
    rw [ht]
    simp only
    split
    · exact hb
    · rename_i e he
      split
      · have := matchV_gt hc he
        exact Or.inr this
      · exact hb
theorem bestV_gt {l : List Tm} {words : List ByteArray} {a : Nat} {good : List Nat} (hg : ∀ k ∈ good, ∃ t, l[k]? = some t ∧ checkV t.2 = 0) (h : (bestV l words a good).2.2 ≠ 0) : a < (bestV l words a good).2.2 ∧ (bestV l words a good).2.2 ≤ words.length := by
  rcases foldl_best good (0, 0, 0) hg (Or.inl rfl) with h1 | h1
  · exact absurd h1 h
  · exact h1
theorem goodV_le : ∀ (l : List Tm) (i : Nat), (goodV i l).length ≤ l.length
  | [], _ => Nat.le_refl _
  | t :: r, i => by
    have := goodV_le r (i + 1)
    rw [goodV]
    split
    · simp; omega
    · simp; omega
end Go.Proofs.YtpoelhnceebmkaaGreatDoor

namespace Go.Proofs.YtpoelhnceebmkaaGreatDoor
open Go Go.RowKit
set_option linter.unusedSimpArgs false
set_option linter.unusedVariables false

theorem Tryz.info3' : (Tryz.prog.info? 3).map (fun i => (i.zero, i.size, i.bytes)) = some (some (.int .i64 0), 1, 8) := by kernel_rfl
theorem Tryz.info53 : (Tryz.prog.info? 53).map (fun i => (i.zero, i.size, i.bytes)) = some (some (.agg #[.int .i64 0, .int .i64 0, .int .i64 0]), 3, 24) := by kernel_rfl
def iCells (l : List Nat) : List Value := l.map fun k => .int .i64 (k : Nat)
theorem iCells_app (a b : List Nat) : iCells (a ++ b) = iCells a ++ iCells b := List.map_append

theorem better_none {l : List Tm} {words : List ByteArray} {a q : Nat} {b : Fd} {t : Tm} (h : l[q]? = some t) (hm : matchV t.2 words a = none) : betterV l words a b q = b := by simp [betterV, h, hm]
theorem better_some {l : List Tm} {words : List ByteArray} {a q e : Nat} {b : Fd} {t : Tm} (h : l[q]? = some t) (hm : matchV t.2 words a = some e) : betterV l words a b q = if b.2.2 < e then (q, a, e) else b := by simp [betterV, h, hm]
theorem own_down {w : World} {base base' size n : Nat} {e : TypeId} {v : Value} {xs : List Value} (h : w.ownsRow base e size v n xs) (hb : base' ≤ base) : w.ownsRow base' e size v n xs := by
  refine ⟨h.1, ?_⟩
  rcases h.2 with h0 | ⟨g, cap, cur, h1, h2, h3⟩
  · exact Or.inl h0
  · exact Or.inr ⟨g, cap, cur, h1, by omega, h3⟩
theorem TRd.form {w : World} {nm : ByteArray} {v : Value} {ps : List Pt} (h : TRd w (.agg #[.string nm, v]) nm ps) : ∃ A c, v = .slice A ps.length c := by
  obtain ⟨A, c, e, _⟩ := h
  refine ⟨A, c, ?_⟩
  injection e with e; injection e with e; simpa using e
set_option maxRecDepth 100000 in
set_option maxHeartbeats 4000000 in
theorem find_any (A : Option Addr) (c n : Nat) (l : List Tm) (v' : Value) (words : List ByteArray) (w : World) (h : TsRd w A n l) (h' : WRd w v' words) (hs : ∀ t ∈ l, SmT t.2) (hz : n ≤ 100000) (hm : words.length ≤ 100000) :
    Calls Tryz.prog 28 #[.slice A n c, v'] w fun e w' => ∃ v, e = .returned v ∧ w'.ownsRow w.heap.size 53 3 v (findV l words (goodV 0 l) words.length 0).length (mCells (findV l words (goodV 0 l) words.length 0)) ∧ New w w' := by
  obtain ⟨i0, hi, hz0, hz1, hz2⟩ := info_parts Tryz.info3'
  obtain ⟨j0, hj, hy0, hy1, hy2⟩ := info_parts Tryz.info53
  obtain ⟨A', c', rfl, hc1', hc2', hr'⟩ := h'
  have HW : Hid (WRd w (.slice A' words.length c') words) := Lib.hid ⟨A', c', rfl, hc1', hc2', hr'⟩
  have HL := Lib.hid h.1
  have HS := Lib.hid hs
  obtain ⟨M, hM⟩ : ∃ M, words.length = M := ⟨_, rfl⟩
  rw [hM] at hc1' hr' hm HW ⊢
  have HMl := Lib.hid hM
  have HGM := Lib.hid (goodV_mem l 0)
  have HGL : Hid ((goodV 0 l).length ≤ n) := Lib.hid (by have := goodV_le l 0; rw [h.1] at this; exact this)
  obtain ⟨G, hG⟩ : ∃ G, goodV 0 l = G := ⟨_, rfl⟩
  rw [hG] at HGM HGL ⊢
  have HG := Lib.hid hG
  obtain ⟨F, hF⟩ : ∃ F, findV l words G M 0 = F := ⟨_, rfl⟩
  rw [hF]
  have HF := Lib.hid hF
  clear hM hG hF hs hr'
  go_enter Tryz.func28, Tryz.ntmps28
  go_wp2
  go_loopw [5, 17] (fun v5 v17 wr => ∃ (i : Nat) (g : List Nat), v17 = .int .i64 i ∧ i ≤ n ∧ g.length ≤ i ∧ wr.ownsRow w.heap.size 3 1 v5 g.length (iCells g) ∧ New w wr ∧ Hid (g ++ goodV i (l.drop i) = G)) (fun _ v17 _ => n - (intOf v17).toNat)
  case atStart => exact ⟨0, [], rfl, by omega, by simp, World.ownsRow_nil _ _ _ _, New.refl _, Lib.hid (by rw [← HG.out]; rfl)⟩
  case round =>
    obtain ⟨i, g, rfl, hi2, hgl, own, hn, H⟩ := hrel
    by_cases hlt : i < n
    · obtain ⟨bk, o, vt, t, rfl, ht, d1, d2, htr⟩ := (h.new hn).at hlt
      obtain ⟨At, ct, rfl⟩ := TRd.form htr
      have hgo := goodV_at ht
      obtain ⟨nt, hnt⟩ : ∃ k, t.2.length = k := ⟨_, rfl⟩
      rw [hnt] at d2 htr
      have hsz := HS.out t (List.mem_of_getElem? ht)
      have HC := Lib.hid (fun w h => check_any (.agg #[.string t.1, .slice At nt ct]) t.1 t.2 w h hsz)
      have HT := Lib.hid htr
      obtain ⟨k9, hk9⟩ : ∃ k, checkV t.2 = k := ⟨_, rfl⟩
      rw [hk9] at hgo HC
      by_cases h0 : k9 = 0
      · subst h0
        rw [if_pos rfl] at hgo
        have HN : Hid ((g ++ [i]) ++ goodV (i + 1) (l.drop (i + 1)) = G) := Lib.hid (by rw [← H.out, hgo]; simp)
        clear hgo hk9 htr ht
        have BB := Blk.made wr 25 #[.string t.1, .slice At nt ct]
        go_wp2_with (first
          | (at_builtin; refine wpList_append_own _ rfl (.tmp 25) (.tmp 27) 85 rfl w.heap.size 3 i0 (.int .i64 0) 1 8 Tryz.underlying85 hi hz0 hz1 hz2 rfl (by decide) _ _ _ rfl ((own_new own ((New.refl wr).alloc _ |>.trans hn1)).alloc _) ⟨w1.heap.size, 0, none⟩ 1 1 [.int .i64 (i : Nat)] rfl rfl ?c1 ?c2 ?c3 ?c4 ?c5 ?_)
          | (go_at_call 21; refine (HC.out _ (HT.out.new ((New.refl wr).alloc _))).mono ?_; rintro e w1 ⟨rfl, hn1⟩))
        case c1 => exact cell_one_new w1 _ 3
        case c2 => simp [Value.oneCell']
        case c3 => simp [maxLen]; omega
        case c4 => omega
        case c5 => have := hn.size; have := hn1.size; simp at *; omega
        intro v' w2 hown hg _
        go_wp2
        go_roundw
        case rel => exact ⟨i + 1, g ++ [i], by go_num, by omega, by simp; omega, own_to hown (by simp) (by rw [iCells_app]; rfl), Below.grown (((hn.alloc _).trans hn1).alloc _) hg (by have := hn.size; have := hn1.size; simp at *; omega) (fun q hq => (own.lt q hq).1), HN⟩
        case measure => simp [intOf]; omega
      · rw [if_neg h0] at hgo
        have HN : Hid (g ++ goodV (i + 1) (l.drop (i + 1)) = G) := Lib.hid (by rw [← H.out, hgo])
        have k1 : (k9 == 0) = false := beq_eq_false_iff_ne.2 h0
        clear hgo hk9 htr ht h0
        have BB := Blk.made wr 25 #[.string t.1, .slice At nt ct]
        go_wp2_with (go_at_call 21; refine (HC.out _ (HT.out.new ((New.refl wr).alloc _))).mono ?_; rintro e w1 ⟨rfl, hn1⟩)
        go_roundw
        case rel => exact ⟨i + 1, g, by go_num, by omega, by omega, own_new own (((New.refl wr).alloc _).trans hn1), (hn.alloc _).trans hn1, HN⟩
        case measure => simp [intOf]; omega
    · obtain rfl : i = n := by omega
      have hgG : g = G := by have := H.out; rw [List.drop_of_length_le (by rw [HL.out]; exact Nat.le_refl _)] at this; simpa [goodV] using this
      subst hgG
      obtain ⟨ng, hng⟩ : ∃ k, g.length = k := ⟨_, rfl⟩
      rw [hng] at own hgl
      have HNG := Lib.hid hng
      obtain ⟨Ag, cg, rfl, _, _, hrg⟩ := own_form own
      obtain ⟨wo, rfl⟩ : ∃ x, x = wr := ⟨_, rfl⟩
      clear own hng H
      go_wp2
      go_loopw [8, 9] (fun v8 v9 wr => ∃ (f a : Nat) (acc : List Fd), v9 = .int .i64 a ∧ a ≤ M ∧ M - a ≤ f ∧ acc.length ≤ a ∧ wr.ownsRow wo.heap.size 53 3 v8 acc.length (mCells acc) ∧ New wo wr ∧ Hid (acc ++ findV l words g f a = F)) (fun _ v9 _ => M - (intOf v9).toNat)
      case atStart => exact ⟨M, 0, [], rfl, by omega, by omega, by simp, World.ownsRow_nil _ _ _ _, New.refl _, HF⟩
      case round =>
        obtain ⟨f, a, acc, rfl, ha, hf, hal, own, hn2, H2⟩ := hrel
        by_cases hlt : a < M
        · obtain ⟨f, rfl⟩ : ∃ f', f = f' + 1 := ⟨f - 1, by omega⟩
          obtain ⟨wi, rfl⟩ : ∃ x, x = wr := ⟨_, rfl⟩
          have B0 := Blk.made wi 53 #[.int .i64 0, .int .i64 0, .int .i64 0]
          have hnb : New w (wi.alloc (.cells #[.int .i64 0, .int .i64 0, .int .i64 0] 53)) := (hn.trans hn2).alloc _
          have hfn : Hid (findV l words g (f + 1) a = if (bestV l words a g).2.2 = 0 then findV l words g f (a + 1) else bestV l words a g :: findV l words g f (bestV l words a g).2.2) := Lib.hid (by rw [findV, if_pos (by rw [HMl.out]; exact hlt)])
          have hbg : Hid ((bestV l words a g).2.2 ≠ 0 → a < (bestV l words a g).2.2 ∧ (bestV l words a g).2.2 ≤ words.length) := Lib.hid (bestV_gt (fun k hk => by obtain ⟨_, t, h1, h2⟩ := HGM.out k hk; exact ⟨t, h1, h2⟩))
          have hfold : Hid ((g.drop 0).foldl (betterV l words a) (0, 0, 0) = bestV l words a g) := Lib.hid rfl
          generalize bestV l words a g = bb at *
          go_wp2
          go_loopw [37] (fun v37 wr => ∃ (k : Nat) (b : Fd), v37 = .int .i64 k ∧ k ≤ ng ∧ New wi wr ∧ Blk wr wi.heap.size 53 #[.int .i64 (b.1 : Nat), .int .i64 (b.2.1 : Nat), .int .i64 (b.2.2 : Nat)] ∧ Hid ((g.drop k).foldl (betterV l words a) b = bb)) (fun v37 _ => ng - (intOf v37).toNat)
          case atStart => exact ⟨0, (0, 0, 0), rfl, by omega, (New.refl wi).alloc _, B0, hfold⟩
          case round =>
            obtain ⟨k, b, rfl, hk, hn3, BB, H3⟩ := hrel
            have e0 := BB.cell' 0 _ rfl
            have e1 := BB.cell' 1 _ rfl
            have e2 := BB.cell' 2 _ rfl
            by_cases hkg : k < ng
            · have hkl : k < g.length := by rw [HNG.out]; exact hkg
              obtain ⟨bg, og, rfl, _, hcg⟩ := (hrg.below (hn2.trans hn3)).2 (by omega)
              have eg := hcg k (.int .i64 (g[k] : Nat)) (by rw [iCells, List.getElem?_map, List.getElem?_eq_getElem hkl]; rfl)
              obtain ⟨_, t, hlt2, hck⟩ := HGM.out g[k] (List.getElem_mem hkl)
              rw [Nat.sub_zero] at hlt2
              have hqn : g[k] < i := by have := (List.getElem?_eq_some_iff.1 hlt2).1; rw [HL.out] at this; exact this
              have hdr := List.drop_eq_getElem_cons hkl
              generalize g[k] = q at *
              obtain ⟨bk, o, vt, t', rfl, ht', d1, d2, htr⟩ := (h.new ((hn.trans hn2).trans hn3)).at hqn
              obtain rfl : t = t' := by rw [hlt2] at ht'; exact Option.some.inj ht'
              obtain ⟨At, ct, rfl⟩ := TRd.form htr
              have hsz := HS.out t (List.mem_of_getElem? hlt2)
              obtain ⟨p0, r, hps, _, _, _, hh, _⟩ := check_ok hck
              have hb0 := fun hm => better_none (b := b) (words := words) (a := a) hlt2 hm
              have hb1 := fun e hm => better_some (b := b) (words := words) (a := a) (e := e) hlt2 hm
              have H3' : Hid ((g.drop (k + 1)).foldl (betterV l words a) (betterV l words a b q) = bb) := Lib.hid (by have := H3.out; rw [hdr, List.foldl_cons] at this; exact this)
              have HX := Lib.hid (fun w h h2 => match_any (.agg #[.string t.1, .slice At t.2.length ct]) (.slice A' M c') t.1 p0 r words a w (by rw [← hps]; exact h) h2 (by rw [← hps]; exact hsz) (fun p hp => ⟨by have := (hh p hp).1; omega, (hh p hp).2.1⟩) (by rw [HMl.out]; exact hm) (by rw [HMl.out]; omega))
              rw [← hps] at HX
              have HT := Lib.hid htr
              obtain ⟨mv, hmv⟩ : ∃ m, matchV t.2 words a = m := ⟨_, rfl⟩
              rw [hmv] at HX hb0 hb1
              have HB0 := Lib.hid hb0
              have HB1 := Lib.hid hb1
              obtain ⟨nt, hnt⟩ : ∃ k, t.2.length = k := ⟨_, rfl⟩
              rw [hnt] at d2 HX HT
              clear hdr hps hh hsz ht' hmv htr hck hlt2 hcg H3 hb0 hb1
              have HWr := Lib.hid (HW.out.new ((hn.trans hn2).trans hn3))
              cases mv with
              | none =>
                rw [HB0.out rfl] at H3'
                go_wp2_with (go_at_call 55; refine (HX.out _ HT.out HWr.out).mono ?_; rintro e w9 ⟨rfl, hn9⟩)
                go_roundw
                case rel => exact ⟨k + 1, b, by go_num, by omega, hn3.trans hn9, BB.new hn9, H3'⟩
                case measure => simp [intOf]; omega
              | some e9 =>
                by_cases hbe : b.2.2 < e9
                · rw [show betterV l words a b q = (q, a, e9) from (HB1.out e9 rfl).trans (if_pos hbe)] at H3'
                  have t1 : (b.2.2 : Int) < (e9 : Int) := by omega
                  go_wp2_with (go_at_call 55; refine (HX.out _ HT.out HWr.out).mono ?_; rintro e w9 ⟨rfl, hn9⟩; have e29 := (BB.new hn9).cell' 2 _ rfl; have e19 := (BB.new hn9).cell' 1 _ rfl; have e09 := (BB.new hn9).cell' 0 _ rfl; have f29 := (BB.new hn9).free 2; have f19 := (BB.new hn9).free 1; have f09 := (BB.new hn9).free 0)
                  go_roundw
                  case rel =>
                    refine ⟨k + 1, (q, a, e9), by go_num, by omega, ((((hn3.trans hn9).setCell (Nat.le_refl _) _).setCell (Nat.le_refl _) _).setCell (Nat.le_refl _) _), ?_, H3'⟩
                    exact ((((BB.new hn9).put 0 _).put 1 _).put 2 _).same (by simp)
                  case measure => simp [intOf]; omega
                · rw [show betterV l words a b q = b from (HB1.out e9 rfl).trans (if_neg hbe)] at H3'
                  have t1 : ¬ (b.2.2 : Int) < (e9 : Int) := by omega
                  go_wp2_with (go_at_call 55; refine (HX.out _ HT.out HWr.out).mono ?_; rintro e w9 ⟨rfl, hn9⟩; have e29 := (BB.new hn9).cell' 2 _ rfl)
                  go_roundw
                  case rel => exact ⟨k + 1, b, by go_num, by omega, hn3.trans hn9, BB.new hn9, H3'⟩
                  case measure => simp [intOf]; omega
            · obtain rfl : k = ng := by omega
              have hb : b = bb := by have := H3.out; rw [List.drop_of_length_le (by rw [HNG.out]; exact Nat.le_refl _)] at this; exact this
              subst hb
              by_cases hb0 : b.2.2 = 0
              · have HN : Hid (acc ++ findV l words g f (a + 1) = F) := Lib.hid (by rw [← H2.out, hfn.out, if_pos hb0])
                have q1 : ((b.2.2 : Int) == 0) = true := by rw [hb0]; rfl
                rw [hb0] at e2
                clear hb0
                go_wp2
                go_roundw
                case rel => exact ⟨f, a + 1, acc, by go_num, by omega, by omega, by omega, own_new own hn3, hn2.trans hn3, HN⟩
                case measure => simp [intOf]; omega
              · obtain ⟨hb1, hb2⟩ := hbg.out hb0
                rw [HMl.out] at hb2
                have HN : Hid ((acc ++ [b]) ++ findV l words g f b.2.2 = F) := Lib.hid (by rw [← H2.out, hfn.out, if_neg hb0]; simp)
                have q1 : ((b.2.2 : Int) == 0) = false := beq_eq_false_iff_ne.2 (by omega)
                clear hb0
                go_wp2_with (at_builtin; refine wpList_append_own _ rfl (.tmp 68) (.tmp 70) 51 rfl wo.heap.size 53 j0 (.agg #[.int .i64 0, .int .i64 0, .int .i64 0]) 3 24 Tryz.underlying51 hj hy0 hy1 hy2 rfl (by decide) _ _ _ rfl ((own_new own hn3).alloc _) ⟨wr.heap.size, 0, none⟩ 1 1 [.int .i64 (b.1 : Nat), .int .i64 (b.2.1 : Nat), .int .i64 (b.2.2 : Nat)] rfl rfl ?c1 ?c2 ?c3 ?c4 ?c5 ?_)
                case c1 =>
                  intro j u hu
                  rw [add_none rfl, Nat.zero_add, (Blk.made wr 53 _).cell j]
                  simpa using hu
                case c2 => simp [Value.oneCell']
                case c3 => simp [maxLen]; omega
                case c4 => omega
                case c5 => have := hn2.size; have := hn3.size; simp; omega
                intro v' w2 hown hg _
                have g2 := ((BB.alloc (.cells #[.int .i64 (b.1 : Nat), .int .i64 (b.2.1 : Nat), .int .i64 (b.2.2 : Nat)] 53)).grown hg (fun e => by have := (own.lt _ e.symm).2; omega)).cell' 2 _ rfl
                go_wp2
                go_roundw
                case rel => exact ⟨f, b.2.2, acc ++ [b], rfl, by omega, by omega, by simp; omega, own_to hown (by simp) (by rw [mCells_app]; rfl), Below.grown ((hn2.trans hn3).alloc _) hg (by have := hn2.size; have := hn3.size; simp; omega) (fun q hq => (own.lt q hq).1), HN⟩
                case measure => simp [intOf]; omega
        · obtain rfl : a = M := by omega
          have hacc : acc = F := by
            have := H2.out
            cases f with
            | zero => simpa [findV] using this
            | succ f => rw [findV, if_neg (by rw [HMl.out]; omega)] at this; simpa using this
          subst hacc
          obtain ⟨A9, c9, rfl, _, _, _⟩ := own_form own
          go_wp2
          go_ret
          exact ⟨_, rfl, own_down own hn.size, hn.trans hn2⟩
end Go.Proofs.YtpoelhnceebmkaaGreatDoor

