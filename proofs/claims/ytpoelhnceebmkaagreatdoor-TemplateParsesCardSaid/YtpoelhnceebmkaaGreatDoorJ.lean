/- template.match: the walk. No conditions but the sizes' own. -/
import Derived.Test.YtpoelhnceebmkaaGreatDoorI
namespace Go.Proofs.YtpoelhnceebmkaaGreatDoor
open Go Go.RowKit
set_option linter.unusedSimpArgs false
set_option linter.unusedVariables false

theorem New.grownN {a w w' : World} (h : New a w) (hg : w.grownBy w' none) : New a w' := Below.grown h hg h.size (fun q hq => by cases hq)
theorem stepE_none (ws words : List ByteArray) (h : Nat) (T : Nat → Bool) : (stepE ws words h fun e => T e && !T e) = fun _ => false := by
  funext j
  unfold stepE
  have : ((List.range (h + 1)).any fun d => decide (d ≤ j - ws.length) && (T (j - ws.length - d) && !T (j - ws.length - d))) = false := by
    rw [List.any_eq_false]
    intro d _
    cases T (j - ws.length - d) <;> simp
  rw [this, Bool.and_false]
theorem lst_step {T L : Nat → Bool} {x : Int} {k : Nat} (hT : T k = true) (h : LstI T L x) : (x = -1 ∧ LstI T (fun j => L j && !decide (j = k)) (k : Int)) ∨ ∃ m : Nat, x = (m : Int) ∧ if k < m then LstI T (fun j => L j && !decide (j = k)) (k : Int) else LstI T (fun j => L j && !decide (j = k)) (m : Int) := by
  rcases h with ⟨rfl, h⟩ | ⟨m, rfl, h1, h2⟩
  · refine Or.inl ⟨rfl, Or.inr ⟨k, rfl, hT, fun j hj hl => ?_⟩⟩
    simp only [h j hj, Bool.true_and, Bool.not_eq_false', decide_eq_true_eq] at hl
    omega
  · refine Or.inr ⟨m, rfl, ?_⟩
    split
    · refine Or.inr ⟨k, rfl, hT, fun j hj hl => ?_⟩
      simp only [Bool.and_eq_false_iff, Bool.not_eq_false', decide_eq_true_eq] at hl
      rcases hl with hl | hl
      · have := h2 j hj hl; omega
      · omega
    · refine Or.inr ⟨m, rfl, h1, fun j hj hl => ?_⟩
      simp only [Bool.and_eq_false_iff, Bool.not_eq_false', decide_eq_true_eq] at hl
      rcases hl with hl | hl
      · exact h2 j hj hl
      · omega
theorem cell_new {w w' : World} {a : Addr} {v : Value} (hn : New w w') (h : w.cell? a = some v) : w'.cell? a = some v := (hn.cell (World.block_lt_of_cell? _ _ h)).trans h
set_option maxRecDepth 100000 in
set_option maxHeartbeats 4000000 in
theorem match_any (v v' : Value) (nm : ByteArray) (p0 : Pt) (r : List Pt) (words : List ByteArray) (i : Nat) (w : World) (h : TRd w v nm (p0 :: r)) (h' : WRd w v' words) (hs : SmT (p0 :: r))
    (hh : ∀ p ∈ r, 0 ≤ p.1 ∧ p.1 ≤ 99) (hm : words.length ≤ 100000) (hi : i ≤ words.length) :
    Calls Tryz.prog 55 #[v, v', .int .i64 i] w fun e w' => e = .returned (.tuple #[.int .i64 ((matchV (p0 :: r) words i).getD 0 : Nat), .bool (matchV (p0 :: r) words i).isSome]) ∧ New w w' := by
  obtain ⟨A, c, rfl, hc1, hc2, hr⟩ := h
  obtain ⟨hs1, hs2⟩ := hs
  have hnS : New w (w.alloc (.cells #[.string nm, .slice A (p0 :: r).length c] 25)) := (New.refl w).alloc _
  obtain ⟨b0, o0, v0, p0', rfl, hp0, c1, c2, hw0⟩ := (hr.new hnS).at (i := 0) (by simp)
  obtain rfl : p0 = p0' := by simpa using hp0
  obtain ⟨A0, k0, rfl, hk1, hk2, hr0⟩ := hw0
  simp only [Nat.zero_mul, Nat.add_zero] at c1 c2
  have hp0l := hs2 p0 (by simp)
  have htl := hr.tail (by simpa using hc1)
  have hst := fun w => slice_tail (some ⟨b0, o0, none⟩) (p0 :: r).length c (by simp) w
  have HS0 := Lib.hid (fun w h1 h2 => stands_any (.slice A0 p0.2.length k0) v' p0.2 words i w h1 h2 (by omega) (by omega) (by omega))
  have HW0 : Hid (WRd (w.alloc (.cells #[.string nm, .slice (some ⟨b0, o0, none⟩) (p0 :: r).length c] 25)) (.slice A0 p0.2.length k0) p0.2) := Lib.hid ⟨A0, k0, rfl, hk1, hk2, hr0⟩
  have HMV : Hid (matchV (p0 :: r) words i = if standsV p0.2 words i then leastV (endsV words r fun j => decide (j = i + p0.2.length)) words.length else none) := Lib.hid rfl
  generalize matchV (p0 :: r) words i = mv at *
  have hmm := @run_makeMap Tryz.prog
  have HH := Lib.hid hh
  have HS2 := Lib.hid hs2
  simp only [List.length_cons] at hs1 hc1 hst hnS HW0 c1 c2 ⊢
  clear hr
  obtain ⟨n, hn0⟩ : ∃ n, r.length = n := ⟨_, rfl⟩
  rw [hn0] at hc1 hs1 htl hnS hst HW0 c1 c2 ⊢
  have HN := Lib.hid hn0
  generalize (if c = 1 then (some (⟨b0, o0, none⟩ : Addr)) else (some (⟨b0, o0, none⟩ : Addr)).map (·.add (1 * 2))) = A1 at htl hst
  rw [Nat.add_sub_cancel] at hst
  clear hn0 hh hs2 hp0
  cases hsv : standsV p0.2 words i
  · rw [hsv] at HS0
    have hmv : mv = none := by have := HMV.out; rw [hsv] at this; exact this
    subst hmv
    clear hsv HMV
    go_enter Tryz.func55, Tryz.ntmps55
    go_wp2_with (go_at_call 76; refine (HS0.out _ HW0.out (h'.new hnS)).mono ?_; rintro e w1 ⟨rfl, hn1⟩)
    exact bodyPost_ret (v := .tuple #[.int .i64 0, .bool false]) (by simp [results, Tryz.results55, go_sem]) rfl ⟨rfl, hnS.trans hn1⟩
  · rw [hsv] at HS0
    have hle := standsV_le hsv
    have hmv : mv = leastV (endsV words r fun j => decide (j = i + p0.2.length)) words.length := by have := HMV.out; rw [hsv] at this; exact this
    have HV := Lib.hid hmv
    have u1 : IntKind.i64.wrap ((i : Int) + (p0.2.length : Int)) = ((i + p0.2.length : Nat) : Int) := by rw [IntWalk.i64_in _ (by omega)]; omega
    clear hsv HMV hmv
    have B0 := Blk.made w 25 #[.string nm, .slice (some ⟨b0, o0, none⟩) (n + 1) c]
    go_enter Tryz.func55, Tryz.ntmps55
    go_wp2_with (first
      | (refine wpList_iinsert _ rfl _ _ _ (Or.inl rfl) _ _ _ rfl (IMap.made _) (by decide) (i + p0.2.length) (by omega) rfl rfl ?_; intro w2 hmp2 hg2; have k3 := (((B0.new hn1).alloc (.map #[] 0)).grown hg2 (by have := (B0.new hn1).lt; simp; omega)).cell' 1 _ rfl)
      | (go_at_call 76; refine (HS0.out _ HW0.out (h'.new hnS)).mono ?_; rintro e w1 ⟨rfl, hn1⟩; have k1 := ((B0.new hn1).alloc (.map #[] 0)).cell' 1 _ rfl; have k2 := cell_new (hn1.alloc (.map #[] 0)) c2))
    have hN2 : New w w2 := Below.grown ((hnS.trans hn1).alloc _) hg2 ((hnS.trans hn1).alloc _).size (fun q hq => by cases hq; exact (hnS.trans hn1).size)
    have hT0 : (fun j => false || decide (j = i + p0.2.length)) = fun j => decide (j = i + p0.2.length) := by funext j; simp
    rw [hT0] at hmp2
    generalize w1.heap.size = b1 at hmp2 ⊢
    clear k1 k2 k3 c1 c2 hg2 hT0 HW0 hn1 hnS HS0
    go_loopw [8, 39] (fun v8 v39 wr => ∃ (j b nn : Nat) (T : Nat → Bool), v8 = .map (some b) ∧ v39 = .int .i64 j ∧ j ≤ n ∧ IMap wr b nn T ∧ nn ≤ cntS T words.length ∧ Hid (∀ k, T k = true → k ≤ words.length) ∧ New w2 wr ∧ Hid (mv = leastV (endsV words (r.drop j) T) words.length)) (fun _ v39 _ => n - (intOf v39).toNat)
    case atStart =>
      refine ⟨0, b1, 0 + 1, _, rfl, rfl, by omega, hmp2, ?_, Lib.hid (fun k hk => ?_), New.refl _, Lib.hid HV.out⟩
      · have h1 := cntS_put (fun _ => false) (k := i + p0.2.length) (M := words.length) rfl hle
        simp only [Bool.false_or] at h1
        omega
      · have : k = i + p0.2.length := by simpa using hk
        omega
    case round =>
      obtain ⟨j, b, nn, T, rfl, rfl, hj, hmp, hnn, HT, hnr, HE⟩ := hrel
      by_cases hlt : j < n
      · obtain ⟨bk, o, vp, p, rfl, hp, d1, d2, hw⟩ := ((htl.new hN2).new hnr).at hlt
        have HWp := Lib.hid hw
        obtain ⟨Aw, cw, rfl, hw1, hw2, hwr⟩ := hw
        have hpm := List.mem_of_getElem? hp
        have hpl := HS2.out p (List.mem_cons_of_mem _ hpm)
        obtain ⟨hh0, hh1⟩ := HH.out p hpm
        obtain ⟨h, hph⟩ : ∃ h : Nat, p.1 = (h : Int) := ⟨p.1.toNat, by omega⟩
        have hh2 : h ≤ 99 := by omega
        have HEn : Hid (endsV words (r.drop j) T = endsV words (r.drop (j + 1)) (stepE p.2 words h T)) := Lib.hid (by
          obtain ⟨hjr, he⟩ := List.getElem?_eq_some_iff.1 hp
          rw [List.drop_eq_getElem_cons hjr, he, endsV, hph, Int.toNat_natCast])
        rw [hph] at d1
        have HSp := Lib.hid (fun w q h1 h2 (hq : q ≤ 1000000) => stands_any (.slice Aw p.2.length cw) v' p.2 words q w h1 h2 (by omega) (by omega) hq)
        obtain ⟨ln, hln⟩ : ∃ ln, p.2.length = ln := ⟨_, rfl⟩
        rw [hln] at d2 hw1 hwr hpl HSp HWp
        have HLn := Lib.hid hln
        generalize p.2 = ws at *
        obtain ⟨wo, rfl⟩ : ∃ x, x = wr := ⟨_, rfl⟩
        have h'o : Hid (WRd wo v' words) := Lib.hid ((h'.new hN2).new hnr)
        have BP0 := (Blk.made wo 58 #[.int .i64 (h : Int), .slice Aw ln cw]).alloc (.map #[] 0)
        have MN0 := IMap.made (wo.alloc (.cells #[.int .i64 (h : Int), .slice Aw ln cw] 58))
        rw [World.size_alloc] at MN0
        have hbl := hmp.lt
        clear hln hp hpm hh0 hh1 hph hwr
        go_wp2_with (refine wpList_irange _ rfl _ rfl _ _ _ rfl ((hmp.alloc _).alloc _) ?_; intro w3 cnt3 hrg3 hg3 hs3)
        go_frame
        simp only [World.size_alloc] at hrg3 ⊢
        go_loopw [12] (fun _ wr => ∃ (L : Nat → Bool) (cnt n2 : Nat), IRng wr b (wo.heap.size + 1 + 1) nn T L cnt ∧ IMap wr (wo.heap.size + 1) n2 (stepE ws words h fun e => T e && !L e) ∧ n2 ≤ cntS (stepE ws words h fun e => T e && !L e) words.length ∧ New wo wr ∧ Blk wr wo.heap.size 58 #[.int .i64 (h : Int), .slice Aw ln cw]) (fun _ wr => wr.rangeLeft b (wo.heap.size + 1 + 1))
        case atStart =>
          have e0 : (stepE ws words h fun e => T e && !T e) = fun _ => false := stepE_none _ _ _ _
          refine ⟨T, cnt3, 0, hrg3, ?_, Nat.zero_le _, (((New.refl wo).alloc _).alloc _).grownN hg3, BP0.grown hg3 (by simp)⟩
          rw [e0]
          exact MN0.kept hg3 (by simp)
        case round =>
          obtain ⟨L, cnt, n2, hrg, hmn, hn2, hn9, BP⟩ := hrel
          go_wp2_with (refine wpList_inext _ rfl _ rfl _ _ _ _ _ _ rfl hrg ?_ ?_)
          · intro hL0
            have e0 : (stepE ws words h fun e => T e && !L e) = stepE ws words h T := stepE_congr (fun k => by rw [hL0]; simp)
            rw [e0] at hmn hn2
            have HEn2 : Hid (mv = leastV (endsV words (r.drop (j + 1)) (stepE ws words h T)) words.length) := Lib.hid (by rw [← HEn.out]; exact HE.out)
            clear e0 hrg
            go_wp2
            go_roundw
            case rel => exact ⟨j + 1, wo.heap.size + 1, n2, _, rfl, by go_num, by omega, hmn, hn2, Lib.hid (fun k hk => stepE_le hk), hnr.trans hn9, HEn2⟩
            case measure => simp [intOf]; omega
          · intro k w4 cnt4 hTk hLk hrg4 hlt4 hg4 hs4 hen
            have hleft := hrg.left_eq
            have hkM := HT.out k hTk
            have hn4 : New wo w4 := Below.grown hn9 hg4 hn9.size (fun q hq => by cases hq; omega)
            have hmn4 := hmn.kept hg4 (by simp)
            have BP4 := BP.grown hg4 (by simp; omega)
            obtain ⟨L', hL'⟩ : ∃ L', L' = fun j => L j && !decide (j = k) := ⟨_, rfl⟩
            rw [← hL'] at hrg4
            have HL' := Lib.hid hL'
            have hmnE : IMap w4 (wo.heap.size + 1) n2 (partE ws words h (fun e => T e && !L e) k k) := by rw [partE_start]; exact hmn4
            have hn2E : n2 ≤ cntS (partE ws words h (fun e => T e && !L e) k k) words.length := by rw [partE_start]; exact hn2
            clear hrg hmn hn2 BP hn9 hg4 hs4 hL' hmn4
            go_wp2
            obtain ⟨wi, rfl⟩ : ∃ x, x = wr := ⟨_, rfl⟩
            go_loopw [13] (fun v13 wr => ∃ (q n3 : Nat), v13 = .int .i64 q ∧ k ≤ q ∧ q ≤ k + h + 1 ∧ IRng wr b (wo.heap.size + 1 + 1) nn T L' cnt4 ∧ IMap wr (wo.heap.size + 1) n3 (partE ws words h (fun e => T e && !L e) k q) ∧ n3 ≤ cntS (partE ws words h (fun e => T e && !L e) k q) words.length ∧ New wo wr ∧ Blk wr wo.heap.size 58 #[.int .i64 (h : Int), .slice Aw ln cw]) (fun v13 _ => k + h + 1 - (intOf v13).toNat)
            case atStart => exact ⟨k, n2, rfl, Nat.le_refl _, by omega, hrg4, hmnE, hn2E, hn4, BP4⟩
            case round =>
              obtain ⟨q, n3, rfl, hq1, hq2, hrg5, hmn5, hn5, hnw5, BP5⟩ := hrel
              have c50 := BP5.cell' 0 _ rfl
              have c51 := BP5.cell' 1 _ rfl
              have u2 : IntKind.i64.wrap ((k : Int) + (h : Int)) = (k : Int) + (h : Int) := IntWalk.i64_in _ (by omega)
              have u3 : IntKind.i64.wrap ((q : Int) + (ln : Int)) = ((q + ln : Nat) : Int) := by rw [IntWalk.i64_in _ (by omega)]; omega
              have hmx : n3 < maxLen := by have := cntS_le (partE ws words h (fun e => T e && !L e) k q) words.length; unfold maxLen; omega
              by_cases hqk : q < k + h + 1
              · have t1 : (q : Int) ≤ (k : Int) + (h : Int) := by omega
                cases hlk : partE ws words h (fun e => T e && !L e) k q (q + ln)
                · have HS5 : Hid (∀ w, WRd w (.slice Aw ln cw) ws → WRd w v' words → Calls Tryz.prog 76 #[.slice Aw ln cw, v', .int .i64 q] w fun e w' => e = .returned (.bool (standsV ws words q)) ∧ New w w') := Lib.hid (fun w h1 h2 => HSp.out w q h1 h2 (by omega))
                  cases hsv : standsV ws words q
                  · rw [hsv] at HS5
                    have hnx := partE_skip ws words h (fun e => T e && !L e) k q hsv
                    clear hsv
                    go_wp2_with (first
                      | (refine wpList_ilook _ rfl _ _ rfl _ _ _ rfl hmn5 (q + ln) (by omega) false hlk rfl ?_)
                      | (go_at_call 76; refine (HS5.out _ (HWp.out.new hnw5) (h'o.out.new hnw5)).mono ?_; rintro e w6 ⟨rfl, hn6⟩))
                    go_roundw
                    case rel => exact ⟨q + 1, n3, by go_num, by omega, by omega, hrg5.new hn6, by rw [← hnx]; exact hmn5.new hn6, by rw [← hnx]; exact hn5, hnw5.trans hn6, BP5.new hn6⟩
                    case measure => simp [intOf]; omega
                  · rw [hsv] at HS5
                    have hle5 := standsV_le hsv
                    rw [HLn.out] at hle5
                    have hnx := partE_add ws words h (fun e => T e && !L e) k q hsv hq1
                    rw [HLn.out] at hnx
                    have hct := cntS_put (partE ws words h (fun e => T e && !L e) k q) (M := words.length) hlk hle5
                    rw [hnx] at hct
                    clear hsv
                    go_wp2_with (first
                      | (refine wpList_iinsert _ rfl _ _ _ (Or.inr rfl) _ _ _ rfl (hmn5.new hn6) hmx (q + ln) (by omega) rfl rfl ?_; intro w7 hmp7 hg7)
                      | (refine wpList_ilook _ rfl _ _ rfl _ _ _ rfl hmn5 (q + ln) (by omega) false hlk rfl ?_)
                      | (go_at_call 76; refine (HS5.out _ (HWp.out.new hnw5) (h'o.out.new hnw5)).mono ?_; rintro e w6 ⟨rfl, hn6⟩; have c61 := (BP5.new hn6).cell' 1 _ rfl))
                    rw [hnx] at hmp7
                    go_roundw
                    case rel => exact ⟨q + 1, n3 + 1, by go_num, by omega, by omega, (hrg5.new hn6).kept hg7 (by simp; omega) (by simp), hmp7, by omega, Below.grown (hnw5.trans hn6) hg7 (hnw5.trans hn6).size (fun q hq => by cases hq; omega), (BP5.new hn6).grown hg7 (by simp)⟩
                    case measure => simp [intOf]; omega
                · have hlk' := hlk
                  rw [← HLn.out] at hlk'
                  have hnx := partE_had ws words h (fun e => T e && !L e) k q hlk'
                  clear hlk'
                  go_wp2_with (refine wpList_ilook _ rfl _ _ rfl _ _ _ rfl hmn5 (q + ln) (by omega) true hlk rfl ?_)
                  go_roundw
                  case rel => exact ⟨q + 1, n3, by go_num, by omega, by omega, hrg5, by rw [← hnx]; exact hmn5, by rw [← hnx]; exact hn5, hnw5, BP5⟩
                  case measure => simp [intOf]; omega
              · obtain rfl : q = k + h + 1 := by omega
                have t1 : ¬ ((k + h + 1 : Nat) : Int) ≤ (k : Int) + (h : Int) := by omega
                have e9 : partE ws words h (fun e => T e && !L e) k (k + h + 1) = stepE ws words h fun j => T j && !L' j := by rw [partE_end ws words h T L k hTk hLk, HL'.out]
                rw [e9] at hmn5 hn5
                clear e9
                go_wp2
                go_roundw
                case rel => exact ⟨L', cnt4, n3, hrg5, hmn5, hn5, hnw5, BP5⟩
                case measure => rw [hrg5.left_eq, hleft]; exact hlt4
      · obtain rfl : j = n := by omega
        have hE := HE.out
        rw [List.drop_of_length_le (by rw [HN.out]; exact Nat.le_refl _)] at hE
        have HE2 : Hid (mv = leastV T words.length) := Lib.hid hE
        obtain ⟨wo, rfl⟩ : ∃ x, x = wr := ⟨_, rfl⟩
        clear hE HE
        go_wp2_with (refine wpList_irange _ rfl _ rfl _ _ _ rfl hmp ?_; intro w3 cnt3 hrg3 hg3 hs3)
        go_frame
        go_loopw [14] (fun v14 wr => ∃ (x : Int) (L : Nat → Bool) (cnt : Nat), v14 = .int .i64 x ∧ IRng wr b wo.heap.size nn T L cnt ∧ New wo wr ∧ Hid (LstI T L x)) (fun _ wr => wr.rangeLeft b wo.heap.size)
        case atStart => exact ⟨-1, T, cnt3, rfl, hrg3, (New.refl wo).grownN hg3, Lib.hid (Or.inl ⟨rfl, fun j h => h⟩)⟩
        case round =>
          obtain ⟨x, L, cnt, rfl, hrg, hn9, HL⟩ := hrel
          go_wp2_with (refine wpList_inext _ rfl _ rfl _ _ _ _ _ _ rfl hrg ?_ ?_)
          · intro hL0
            have HF : Hid ((x = -1 ∧ mv = none) ∨ ∃ m : Nat, x = (m : Int) ∧ mv = some m) := Lib.hid (by
              have := leastV_of (fun j => HT.out j) (by have := HL.out; rwa [show L = fun _ => false from funext hL0] at this)
              rw [← HE2.out] at this
              rcases this with h | ⟨m, h1, h2, _⟩
              · exact Or.inl h
              · exact Or.inr ⟨m, h1, h2⟩)
            have hfin : New w wr := (hN2.trans hnr).trans hn9
            clear hrg HL
            rcases HF.out with ⟨rfl, hmv⟩ | ⟨m, rfl, hmv⟩
            · go_wp2
              exact bodyPost_ret (v := .tuple #[.int .i64 0, .bool false]) (by simp [results, Tryz.results55, go_sem, show max (-1 : Int) 0 = 0 from rfl]) rfl ⟨rfl, hfin⟩
            · have m1 : (0 : Int) ≤ (m : Int) := by omega
              go_wp2
              exact bodyPost_ret (v := .tuple #[.int .i64 (m : Int), .bool true]) (by simp [results, Tryz.results55, go_sem]) rfl ⟨by rw [hmv]; rfl, hfin⟩
          · intro k w4 cnt4 hTk hLk hrg4 hlt4 hg4 hs4 hen
            have hl := hrg.left_eq
            have hn4 : New wo w4 := Below.grown hn9 hg4 hn9.size (fun q hq => by cases hq; exact Nat.le_refl _)
            have HS : Hid ((x = -1 ∧ LstI T (fun j => L j && !decide (j = k)) (k : Int)) ∨ ∃ m : Nat, x = (m : Int) ∧ if k < m then LstI T (fun j => L j && !decide (j = k)) (k : Int) else LstI T (fun j => L j && !decide (j = k)) (m : Int)) := Lib.hid (lst_step hTk HL.out)
            clear hrg HL
            rcases HS.out with ⟨rfl, h1⟩ | ⟨m, rfl, h1⟩
            · have HH1 := Lib.hid h1
              clear h1 HS
              go_wp2
              go_roundw
              case rel => exact ⟨k, _, cnt4, rfl, hrg4, hn4, HH1⟩
              case measure => rw [hrg4.left_eq, hl]; exact hlt4
            · have m0 : ¬ (m : Int) < 0 := by omega
              by_cases hkm : k < m
              · rw [if_pos hkm] at h1
                have HH1 := Lib.hid h1
                have m1 : (k : Int) < (m : Int) := by omega
                clear h1 HS
                go_wp2
                go_roundw
                case rel => exact ⟨k, _, cnt4, rfl, hrg4, hn4, HH1⟩
                case measure => rw [hrg4.left_eq, hl]; exact hlt4
              · rw [if_neg hkm] at h1
                have HH1 := Lib.hid h1
                have m1 : ¬ (k : Int) < (m : Int) := by omega
                clear h1 HS
                go_wp2
                go_roundw
                case rel => exact ⟨m, _, cnt4, rfl, hrg4, hn4, HH1⟩
                case measure => rw [hrg4.left_eq, hl]; exact hlt4
end Go.Proofs.YtpoelhnceebmkaaGreatDoor
