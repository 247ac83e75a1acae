/- The reference's Valid, Print and Cost. Conditions: sizes. (Printed by mk-n.py.) -/
import Derived.Test.YtfeknjpinboknaaGreatDoorGM

namespace Go.Proofs.YtfeknjpinboknaaGreatDoor
open Go Go.RowKit Go.Joins Go.Shelf
set_option linter.unusedSimpArgs false
set_option linter.unusedVariables false

theorem okGo_at {hs : List Hm} {k : Nat} {h : Hm} (hk : hs[k]? = some h) (p : Int) : okGo p ((hs.drop k).map Hm.d) = (okH h.d && !badAdj p h.kind && okGo h.kind ((hs.drop (k + 1)).map Hm.d)) := by
  rw [drop_at hk, List.map_cons, okGo]; rfl
theorem okGo_okA {hs : List Hm} {p : Int} (h : okGo p (hs.map Hm.d) = true) : OkA hs := fun x hx => okH_iff.1 (okGo_ok h x.d (List.mem_map_of_mem hx))
theorem joinE_lfN {ws : List ByteArray} (h : joinE ws = 0) : ws.any lfB = false := by
  unfold joinE at h
  split at h
  · cases h
  · rename_i hn
    cases hb : ws.any lfB
    · rfl
    · exact absurd (Or.inr hb) hn
theorem lfAny_lines {l : List Hk} (h : (linesL l).any lfB = false) : lfAny l = false := by
  rw [Bool.eq_false_iff] at h ⊢
  intro hc
  apply h
  rw [lfAny, List.any_eq_true] at hc
  obtain ⟨x, hx, hl⟩ := hc
  rw [List.any_eq_true] at hl ⊢
  obtain ⟨s, hs, hb⟩ := hl
  exact ⟨s, List.mem_flatMap.2 ⟨x, hx, List.mem_cons_of_mem _ hs⟩, hb⟩
theorem valid_eq (base : ByteArray) (l : List Hk) : validV base l = ((decide (base.size = 0) || decide (base.size = 32)) && okGo 0 l && sizesOK l && decide (joinE (textL base l) = 0)) := by
  by_cases hj : joinE (textL base l) = 0
  · have h := joinE_lfN hj
    rw [textL, List.any_append, Bool.or_eq_false_iff] at h
    rw [validV, goodGo_eq, lfAny_lines h.2]; simp
  · rw [validV, decide_eq_false hj]; simp
set_option maxRecDepth 100000 in
set_option maxHeartbeats 16000000 in
theorem rvalid_any (base : ByteArray) (A : Option Addr) (n c : Nat) (hs : List Hm) (w : World) (hr : PRd w A n hs) (hz : SzH hs) (hb : base.size ≤ 1000000) :
    Calls Tryz.prog 34 #[.agg #[.string base, .slice A n c]] w fun e w' => e = .returned (.bool (validV base (hs.map Hm.d))) ∧ New w w' := by
  have hnl : n ≤ 100000 := by have := hz.l; have := hr.len; omega
  have HR := Lib.hid hr
  have HZ := Lib.hid hz
  have HL := Lib.hid hr.len
  have hn0 := (New.refl w).alloc (.cells #[.string base, .slice A n c] 24)
  have B0 := Blk.made w 24 #[.string base, .slice A n c]
  have HV := Lib.hid (valid_eq base (hs.map Hm.d))
  have HLEN : Hid (1024 < n → validV base (hs.map Hm.d) = false) := Lib.hid (fun h => by
    cases hv : validV base (hs.map Hm.d)
    · rfl
    · have := valid_len hv
      rw [List.length_map, HL.out] at this; omega)
  obtain ⟨V, hV⟩ : ∃ V, validV base (hs.map Hm.d) = V := ⟨_, rfl⟩
  rw [hV] at HV HLEN ⊢
  clear hV hr hz
  by_cases hbz : base.size = 0 ∨ base.size = 32
  · have hfb : (base.toList = [] ∧ (base.toList == ([] : List UInt8)) = true) ∨ ((base.toList == ([] : List UInt8)) = false ∧ base.toList.isEmpty = false ∧ (base.size : Int) = 32) := by
      rcases hbz with h | h
      · have : base.toList = [] := by rw [toList_eq]; exact List.eq_nil_of_length_eq_zero (by rw [← size_eq]; exact h)
        exact Or.inl ⟨this, by rw [this]; rfl⟩
      · refine Or.inr ⟨?_, ?_, by omega⟩
        · rw [toList_eq, data_cons (by omega)]; rfl
        · rw [toList_eq, data_cons (by omega)]; rfl
    have HBZ := Lib.hid hbz
    have HV2 : Hid (V = (okGo 0 (hs.map Hm.d) && sizesOK (hs.map Hm.d) && decide (joinE (textL base (hs.map Hm.d)) = 0))) := Lib.hid (by
      rw [HV.out]
      have : (decide (base.size = 0) || decide (base.size = 32)) = true := by simpa using hbz
      rw [this, Bool.true_and])
    clear HV hbz
    go_enter Tryz.func34, Tryz.ntmps34
    go_upto_region 1 with (fail)
    go_cut [24] (fun v24 wc => v24 = .bool (decide ((1024 : Int) < (n : Int))) ∧ New w wc ∧ Blk wc w.heap.size 24 #[.string base, .slice A n c])
    case first =>
      rcases hfb with ⟨x1, x2⟩ | ⟨x1, x2, x3⟩
      · go_wp2
        go_meet
        case rel => exact ⟨rfl, hn0, B0⟩
      · go_wp2
        go_meet
        case rel => exact ⟨rfl, hn0, B0⟩
    case rest =>
      clear hn0 B0 hfb
      obtain ⟨rfl, hn0, B0⟩ := hcut
      by_cases hn3 : 1024 < n
      · have hv := HLEN.out hn3
        subst hv
        have t1 : decide ((1024 : Int) < (n : Int)) = true := by simp; omega
        rw [t1]
        clear HV2 HLEN
        go_wp2
        go_ret
        exact ⟨rfl, hn0⟩
      · have t1 : decide ((1024 : Int) < (n : Int)) = false := by simp; omega
        rw [t1]
        have b1 := B0.cell' 1 _ rfl
        go_wp2
        clear b1
        go_loopw [28] (fun v28 wr => ∃ k : Nat, v28 = .int .i64 k ∧ k ≤ n ∧ New w wr ∧ Blk wr w.heap.size 24 #[.string base, .slice A n c] ∧ Hid (okGo 0 (hs.map Hm.d) = okGo (prevK hs k) ((hs.drop k).map Hm.d))) (fun v28 _ => n - (intOf v28).toNat)
        case atStart => exact ⟨0, rfl, by omega, hn0, B0, Lib.hid rfl⟩
        case round =>
          obtain ⟨k, rfl, hk, hnr, BR, HG⟩ := hrel
          obtain ⟨wo, rfl⟩ : ∃ wo : World, wo = wr := ⟨_, rfl⟩
          by_cases hlt : k < n
          · obtain ⟨bk, o, rfl, hbk, p, hp, hcell⟩ := rd_row (f := hmC) (k := 3) (fun _ => rfl) HL.out (HR.out.new hnr).rd hlt
            have HST := Lib.hid (HG.out.trans (okGo_at hp _))
            have HPN := Lib.hid (prevK_next hp)
            obtain ⟨pk, pn, pl, pa, pc⟩ := p
            have q0 := hcell 0 (.int .i64 pk) (by omega) rfl
            have q1 := hcell 1 (.int .i64 pn) (by omega) rfl
            have q2 := hcell 2 (.slice pa pl.length pc) (by omega) rfl
            simp only [Nat.add_zero] at q0
            rw [← Nat.add_assoc] at q1 q2
            have i0 : (0 : Int) ≤ (k : Int) := by omega
            have i1 : (k : Int) < (n : Int) := by omega
            have HOK : Hid (okH (Hm.d ⟨pk, pn, pl, pa, pc⟩) = (decide (1 ≤ pk) && decide (pk ≤ 3) && decide (1 ≤ pn) && decide (pn ≤ 1024) && (if pk = 3 then decide ((pl.length : Int) = pn) else decide (pl.length = 0)))) := Lib.hid rfl
            simp only at HST HPN
            have HBAD : Hid (okH (Hm.d ⟨pk, pn, pl, pa, pc⟩) = false → V = false) := Lib.hid (fun h => by rw [HV2.out, HST.out, h]; simp)
            generalize okH (Hm.d ⟨pk, pn, pl, pa, pc⟩) = ok at *
            generalize pl.length = nl at *
            have hnr1 := hnr.alloc (.cells #[.int .i64 pk, .int .i64 pn, .slice pa nl pc] 55)
            have BH := Blk.made wo 55 #[.int .i64 pk, .int .i64 pn, .slice pa nl pc]
            have BB := BR.alloc (.cells #[.int .i64 pk, .int .i64 pn, .slice pa nl pc] 55)
            have d1 := BB.cell' 1 _ rfl
            clear hcell HG
            by_cases a1 : pk < 1
            · have hv := HBAD.out (by rw [HOK.out]; simp; omega)
              subst hv
              clear HST HPN HBAD HV2 HLEN HOK
              go_wp2
              go_ret
              exact ⟨rfl, hnr1⟩
            by_cases a2 : 3 < pk
            · have hv := HBAD.out (by rw [HOK.out]; simp; omega)
              subst hv
              clear HST HPN HBAD HV2 HLEN HOK
              go_wp2
              go_ret
              exact ⟨rfl, hnr1⟩
            by_cases a3 : pn < 1
            · have hv := HBAD.out (by rw [HOK.out]; simp; omega)
              subst hv
              clear HST HPN HBAD HV2 HLEN HOK
              go_wp2
              go_ret
              exact ⟨rfl, hnr1⟩
            by_cases a4 : 1024 < pn
            · have hv := HBAD.out (by rw [HOK.out]; simp; omega)
              subst hv
              clear HST HPN HBAD HV2 HLEN HOK
              go_wp2
              go_ret
              exact ⟨rfl, hnr1⟩
            have b1 : 1 ≤ pk := by omega
            have b2 : pk ≤ 3 := by omega
            have b3 : 1 ≤ pn := by omega
            have b4 : pn ≤ 1024 := by omega
            by_cases a5 : pk = 3
            · subst a5
              by_cases a6 : (nl : Int) = pn
              · subst a6
                have hok1 : ok = true := by rw [HOK.out]; simp; omega
                subst hok1
                clear HBAD HOK
                have f0 := BH.cell' 0 _ rfl
                by_cases hk0 : k = 0
                · subst hk0
                  simp only [Nat.zero_mul, Nat.add_zero, Nat.zero_add] at q0 q1 q2
                  have HST2 : Hid (okGo 0 (hs.map Hm.d) = okGo 3 ((hs.drop (0 + 1)).map Hm.d)) := Lib.hid (by
                    rw [HST.out]
                    have : badAdj (prevK hs 0) 3 = false := by simp [prevK, badAdj] <;> omega
                    rw [this]; simp)
                  clear HST
                  go_wp2_with (fail)
                  refine wp_region_held_drew (S := (New _)) (by kernel_rfl) ((New.refl _).drew) (fun hS => ?_)
                  refine tkT 0 (v := ?v1) hS (fun wq hSq => ?y1) ?_; (case y1 => clear hSq; go_simp; (try with_reducible rfl)); simp only [Act.put, gqD, gqE, gqF]
                  refine tkT 1 (v := ?v2) hS (fun wq hSq => ?y2) ?_; (case y2 => clear hSq; go_simp; (try with_reducible rfl)); simp only [Act.put, gqD, gqE, gqF]
                  refine tkT 2 (v := ?v3) hS (fun wq hSq => ?y3) ?_; (case y3 => clear hSq; go_simp; (try with_reducible rfl)); simp only [Act.put, gqD, gqE, gqF]
                  refine tkU 3 hS ?_; simp only [Act.put, gqD, gqE, gqF]
                  refine tkU 4 hS ?_; simp only [Act.put, gqD, gqE, gqF]
                  refine tkU 5 hS ?_; simp only [Act.put, gqD, gqE, gqF]
                  refine tkU 6 hS ?_; simp only [Act.put, gqD, gqE, gqF]
                  refine tkU 7 hS ?_; simp only [Act.put, gqD, gqE, gqF]
                  refine tkU 8 hS ?_; simp only [Act.put, gqD, gqE, gqF]
                  refine tkU 9 hS ?_; simp only [Act.put, gqD, gqE, gqF]
                  refine tkU 10 hS ?_; simp only [Act.put, gqD, gqE, gqF]
                  refine tkU 11 hS ?_; simp only [Act.put, gqD, gqE, gqF]
                  refine tkU 12 hS ?_; simp only [Act.put, gqD, gqE, gqF]
                  refine tkU 13 hS ?_; simp only [Act.put, gqD, gqE, gqF]
                  refine tkU 14 hS ?_; simp only [Act.put, gqD, gqE, gqF]
                  refine tkU 15 hS ?_; simp only [Act.put, gqD, gqE, gqF]
                  refine tkU 16 hS ?_; simp only [Act.put, gqD, gqE, gqF]
                  refine tkU 17 hS ?_; simp only [Act.put, gqD, gqE, gqF]
                  refine tkU 18 hS ?_; simp only [Act.put, gqD, gqE, gqF]
                  refine tkU 19 hS ?_; simp only [Act.put, gqD, gqE, gqF]
                  refine tkU 20 hS ?_; simp only [Act.put, gqD, gqE, gqF]
                  refine tkU 21 hS ?_; simp only [Act.put, gqD, gqE, gqF]
                  refine tkU 22 hS ?_; simp only [Act.put, gqD, gqE, gqF]
                  refine tkU 23 hS ?_; simp only [Act.put, gqD, gqE, gqF]
                  refine tkU 24 hS ?_; simp only [Act.put, gqD, gqE, gqF]
                  refine tkU 25 hS ?_; simp only [Act.put, gqD, gqE, gqF]
                  refine tkU 26 hS ?_; simp only [Act.put, gqD, gqE, gqF]
                  refine tkU 27 hS ?_; simp only [Act.put, gqD, gqE, gqF]
                  refine tkT 28 (v := ?v29) hS (fun wq hSq => ?y29) ?_; (case y29 => clear hSq; go_simp; (try with_reducible rfl)); simp only [Act.put, gqD, gqE, gqF]
                  refine wpAnyH_done (by kernel_rfl) ?_ _
                  go_wp2
                  go_roundw
                  case rel => exact ⟨0 + 1, by go_num, by omega, hnr1.trans (by assumption), BB.new (by assumption), Lib.hid (by rw [HST2.out, HPN.out])⟩
                  case measure => simp [intOf]; omega
                · obtain ⟨j, rfl⟩ : ∃ j, k = j + 1 := ⟨k - 1, by omega⟩
                  obtain ⟨bk', o', hA, _, y, hy, hcy⟩ := rd_row (f := hmC) (k := 3) (fun _ => rfl) HL.out (HR.out.new hnr).rd (show j < n by omega)
                  injection hA with hA
                  injection hA with hA1 hA2
                  subst hA1 hA2
                  have HPJ := Lib.hid (prevK_next hy)
                  obtain ⟨yk, yn, yl, ya, yc⟩ := y
                  have p0 := cell_new ((New.refl wo).alloc (.cells #[.int .i64 3, .int .i64 (nl : Int), .slice pa nl pc] 55)) (hcy 0 (.int .i64 yk) (by omega) rfl)
                  simp only [Nat.add_zero] at p0
                  simp only at HPJ
                  rw [HPJ.out] at HST
                  have k6 : IntKind.i64.wrap (((j + 1 : Nat) : Int) - 1) = (j : Int) := by rw [IntWalk.i64_in _ (by omega)]; omega
                  have k7 : IntKind.i64.wrap ((j : Int) + 1 - 1) = (j : Int) := by rw [IntWalk.i64_in _ (by omega)]; omega
                  have k10 : (0 : Int) < (j : Int) + 1 := by omega
                  have k11 : (0 : Int) ≤ (j : Int) := by omega
                  have k12 : (j : Int) < (n : Int) := by omega
                  have k13 : (j : Int).toNat = j := by omega
                  have k8 : IntKind.i64.wrap (j : Int) = (j : Int) := IntWalk.i64_in _ (by omega)
                  clear hcy hy
                  by_cases e1 : yk = 3
                  · subst e1
                    have hv : V = false := by
                      rw [HV2.out, HST.out]
                      have : badAdj 3 3 = true := by simp [badAdj]
                      rw [this]; simp
                    subst hv
                    clear HST HPN HPJ HV2 HLEN
                    go_wp2_with (fail)
                    refine wp_region_held_drew (S := (New _)) (by kernel_rfl) ((New.refl _).drew) (fun hS => ?_)
                    refine tkT 0 (v := ?v30) hS (fun wq hSq => ?y30) ?_; (case y30 => clear hSq; go_simp; (try with_reducible rfl)); simp only [Act.put, gqD, gqE, gqF]
                    refine tkT 1 (v := ?v31) hS (fun wq hSq => ?y31) ?_; (case y31 => clear hSq; go_simp; (try with_reducible rfl)); simp only [Act.put, gqD, gqE, gqF]
                    refine tkT 2 (v := ?v32) hS (fun wq hSq => ?y32) ?_; (case y32 => clear hSq; go_simp; (try with_reducible rfl)); simp only [Act.put, gqD, gqE, gqF]
                    refine tkT 3 (v := ?v33) hS (fun wq hSq => ?y33) ?_; (case y33 => clear hSq; go_simp; (try with_reducible rfl)); simp only [Act.put, gqD, gqE, gqF]
                    refine tkT 4 (v := ?v34) hS (fun wq hSq => ?y34) ?_; (case y34 => have hf0 := cell_new hSq f0; have hf1 := cell_new hSq d1; have hf2 := cell_new hSq p0; clear hSq; go_simp; (try with_reducible rfl)); simp only [Act.put, gqD, gqE, gqF]
                    refine tkT 5 (v := ?v35) hS (fun wq hSq => ?y35) ?_; (case y35 => clear hSq; go_simp; (try with_reducible rfl)); simp only [Act.put, gqD, gqE, gqF]
                    refine tkT 6 (v := ?v36) hS (fun wq hSq => ?y36) ?_; (case y36 => clear hSq; go_simp; (try with_reducible rfl)); simp only [Act.put, gqD, gqE, gqF]
                    refine tkT 7 (v := ?v37) hS (fun wq hSq => ?y37) ?_; (case y37 => clear hSq; go_simp; (try with_reducible rfl)); simp only [Act.put, gqD, gqE, gqF]
                    refine tkT 8 (v := ?v38) hS (fun wq hSq => ?y38) ?_; (case y38 => clear hSq; go_simp; (try with_reducible rfl)); simp only [Act.put, gqD, gqE, gqF]
                    refine tkT 9 (v := ?v39) hS (fun wq hSq => ?y39) ?_; (case y39 => have hf0 := cell_new hSq f0; have hf1 := cell_new hSq d1; have hf2 := cell_new hSq p0; clear hSq; go_simp; (try with_reducible rfl)); simp only [Act.put, gqD, gqE, gqF]
                    refine tkT 10 (v := ?v40) hS (fun wq hSq => ?y40) ?_; (case y40 => clear hSq; go_simp; (try with_reducible rfl)); simp only [Act.put, gqD, gqE, gqF]
                    refine tkT 11 (v := ?v41) hS (fun wq hSq => ?y41) ?_; (case y41 => have hf0 := cell_new hSq f0; have hf1 := cell_new hSq d1; have hf2 := cell_new hSq p0; clear hSq; go_simp; (try with_reducible rfl)); simp only [Act.put, gqD, gqE, gqF]
                    refine tkT 12 (v := ?v42) hS (fun wq hSq => ?y42) ?_; (case y42 => clear hSq; go_simp; (try with_reducible rfl)); simp only [Act.put, gqD, gqE, gqF]
                    refine tkT 13 (v := ?v43) hS (fun wq hSq => ?y43) ?_; (case y43 => clear hSq; go_simp; (try with_reducible rfl)); simp only [Act.put, gqD, gqE, gqF]
                    refine tkU 14 hS ?_; simp only [Act.put, gqD, gqE, gqF]
                    refine tkU 15 hS ?_; simp only [Act.put, gqD, gqE, gqF]
                    refine tkU 16 hS ?_; simp only [Act.put, gqD, gqE, gqF]
                    refine tkU 17 hS ?_; simp only [Act.put, gqD, gqE, gqF]
                    refine tkU 18 hS ?_; simp only [Act.put, gqD, gqE, gqF]
                    refine tkU 19 hS ?_; simp only [Act.put, gqD, gqE, gqF]
                    refine tkU 20 hS ?_; simp only [Act.put, gqD, gqE, gqF]
                    refine tkU 21 hS ?_; simp only [Act.put, gqD, gqE, gqF]
                    refine tkU 22 hS ?_; simp only [Act.put, gqD, gqE, gqF]
                    refine tkU 23 hS ?_; simp only [Act.put, gqD, gqE, gqF]
                    refine tkU 24 hS ?_; simp only [Act.put, gqD, gqE, gqF]
                    refine tkU 25 hS ?_; simp only [Act.put, gqD, gqE, gqF]
                    refine tkU 26 hS ?_; simp only [Act.put, gqD, gqE, gqF]
                    refine tkT 27 (v := ?v57) hS (fun wq hSq => ?y57) ?_; (case y57 => clear hSq; go_simp; (try with_reducible rfl)); simp only [Act.put, gqD, gqE, gqF]
                    refine tkT 28 (v := ?v58) hS (fun wq hSq => ?y58) ?_; (case y58 => clear hSq; go_simp; (try with_reducible rfl)); simp only [Act.put, gqD, gqE, gqF]
                    refine wpAnyH_done (by kernel_rfl) ?_ _
                    go_wp2
                    go_ret
                    exact ⟨rfl, hnr1.trans (by assumption)⟩
                  · have e1' : (yk == 3) = false := beq_eq_false_iff_ne.2 e1
                    by_cases e3 : yk = 3
                    · subst e3
                      exact absurd rfl e1
                    · have e3' : (yk == 3) = false := beq_eq_false_iff_ne.2 e3
                      have HST2 : Hid (okGo 0 (hs.map Hm.d) = okGo 3 ((hs.drop (j + 1 + 1)).map Hm.d)) := Lib.hid (by
                        rw [HST.out]
                        have : badAdj yk 3 = false := by simp [badAdj, e1, e3]
                        rw [this]; simp)
                      clear HST
                      go_wp2_with (fail)
                      refine wp_region_held_drew (S := (New _)) (by kernel_rfl) ((New.refl _).drew) (fun hS => ?_)
                      refine tkT 0 (v := ?v59) hS (fun wq hSq => ?y59) ?_; (case y59 => clear hSq; go_simp; (try with_reducible rfl)); simp only [Act.put, gqD, gqE, gqF]
                      refine tkT 1 (v := ?v60) hS (fun wq hSq => ?y60) ?_; (case y60 => clear hSq; go_simp; (try with_reducible rfl)); simp only [Act.put, gqD, gqE, gqF]
                      refine tkT 2 (v := ?v61) hS (fun wq hSq => ?y61) ?_; (case y61 => clear hSq; go_simp; (try with_reducible rfl)); simp only [Act.put, gqD, gqE, gqF]
                      refine tkT 3 (v := ?v62) hS (fun wq hSq => ?y62) ?_; (case y62 => clear hSq; go_simp; (try with_reducible rfl)); simp only [Act.put, gqD, gqE, gqF]
                      refine tkT 4 (v := ?v63) hS (fun wq hSq => ?y63) ?_; (case y63 => have hf0 := cell_new hSq f0; have hf1 := cell_new hSq d1; have hf2 := cell_new hSq p0; clear hSq; go_simp; (try with_reducible rfl)); simp only [Act.put, gqD, gqE, gqF]
                      refine tkT 5 (v := ?v64) hS (fun wq hSq => ?y64) ?_; (case y64 => clear hSq; go_simp; (try with_reducible rfl)); simp only [Act.put, gqD, gqE, gqF]
                      refine tkT 6 (v := ?v65) hS (fun wq hSq => ?y65) ?_; (case y65 => clear hSq; go_simp; (try with_reducible rfl)); simp only [Act.put, gqD, gqE, gqF]
                      refine tkT 7 (v := ?v66) hS (fun wq hSq => ?y66) ?_; (case y66 => clear hSq; go_simp; (try with_reducible rfl)); simp only [Act.put, gqD, gqE, gqF]
                      refine tkT 8 (v := ?v67) hS (fun wq hSq => ?y67) ?_; (case y67 => clear hSq; go_simp; (try with_reducible rfl)); simp only [Act.put, gqD, gqE, gqF]
                      refine tkT 9 (v := ?v68) hS (fun wq hSq => ?y68) ?_; (case y68 => have hf0 := cell_new hSq f0; have hf1 := cell_new hSq d1; have hf2 := cell_new hSq p0; clear hSq; go_simp; (try with_reducible rfl)); simp only [Act.put, gqD, gqE, gqF]
                      refine tkT 10 (v := ?v69) hS (fun wq hSq => ?y69) ?_; (case y69 => clear hSq; go_simp; (try with_reducible rfl)); simp only [Act.put, gqD, gqE, gqF]
                      refine tkT 11 (v := ?v70) hS (fun wq hSq => ?y70) ?_; (case y70 => have hf0 := cell_new hSq f0; have hf1 := cell_new hSq d1; have hf2 := cell_new hSq p0; clear hSq; go_simp; (try with_reducible rfl)); simp only [Act.put, gqD, gqE, gqF]
                      refine tkT 12 (v := ?v71) hS (fun wq hSq => ?y71) ?_; (case y71 => clear hSq; go_simp; (try with_reducible rfl)); simp only [Act.put, gqD, gqE, gqF]
                      refine tkT 13 (v := ?v72) hS (fun wq hSq => ?y72) ?_; (case y72 => clear hSq; go_simp; (try with_reducible rfl)); simp only [Act.put, gqD, gqE, gqF]
                      refine tkT 14 (v := ?v73) hS (fun wq hSq => ?y73) ?_; (case y73 => clear hSq; go_simp; (try with_reducible rfl)); simp only [Act.put, gqD, gqE, gqF]
                      refine tkT 15 (v := ?v74) hS (fun wq hSq => ?y74) ?_; (case y74 => have hf0 := cell_new hSq f0; have hf1 := cell_new hSq d1; have hf2 := cell_new hSq p0; clear hSq; go_simp; (try with_reducible rfl)); simp only [Act.put, gqD, gqE, gqF]
                      refine tkT 16 (v := ?v75) hS (fun wq hSq => ?y75) ?_; (case y75 => clear hSq; go_simp; (try with_reducible rfl)); simp only [Act.put, gqD, gqE, gqF]
                      refine tkT 17 (v := ?v76) hS (fun wq hSq => ?y76) ?_; (case y76 => clear hSq; go_simp; (try with_reducible rfl)); simp only [Act.put, gqD, gqE, gqF]
                      refine tkT 18 (v := ?v77) hS (fun wq hSq => ?y77) ?_; (case y77 => clear hSq; go_simp; (try with_reducible rfl)); simp only [Act.put, gqD, gqE, gqF]
                      refine tkT 19 (v := ?v78) hS (fun wq hSq => ?y78) ?_; (case y78 => clear hSq; go_simp; (try with_reducible rfl)); simp only [Act.put, gqD, gqE, gqF]
                      refine tkT 20 (v := ?v79) hS (fun wq hSq => ?y79) ?_; (case y79 => have hf0 := cell_new hSq f0; have hf1 := cell_new hSq d1; have hf2 := cell_new hSq p0; clear hSq; go_simp; (try with_reducible rfl)); simp only [Act.put, gqD, gqE, gqF]
                      refine tkT 21 (v := ?v80) hS (fun wq hSq => ?y80) ?_; (case y80 => clear hSq; go_simp; (try with_reducible rfl)); simp only [Act.put, gqD, gqE, gqF]
                      refine tkT 22 (v := ?v81) hS (fun wq hSq => ?y81) ?_; (case y81 => clear hSq; go_simp; (try with_reducible rfl)); simp only [Act.put, gqD, gqE, gqF]
                      refine tkU 23 hS ?_; simp only [Act.put, gqD, gqE, gqF]
                      refine tkU 24 hS ?_; simp only [Act.put, gqD, gqE, gqF]
                      refine tkU 25 hS ?_; simp only [Act.put, gqD, gqE, gqF]
                      refine tkT 26 (v := ?v85) hS (fun wq hSq => ?y85) ?_; (case y85 => clear hSq; go_simp; (try with_reducible rfl)); simp only [Act.put, gqD, gqE, gqF]
                      refine tkT 27 (v := ?v86) hS (fun wq hSq => ?y86) ?_; (case y86 => clear hSq; go_simp; (try with_reducible rfl)); simp only [Act.put, gqD, gqE, gqF]
                      refine tkT 28 (v := ?v87) hS (fun wq hSq => ?y87) ?_; (case y87 => clear hSq; go_simp; (try with_reducible rfl)); simp only [Act.put, gqD, gqE, gqF]
                      refine wpAnyH_done (by kernel_rfl) ?_ _
                      go_wp2
                      go_roundw
                      case rel => exact ⟨j + 1 + 1, by go_num, by omega, hnr1.trans (by assumption), BB.new (by assumption), Lib.hid (by rw [HST2.out, HPN.out])⟩
                      case measure => simp [intOf]; omega
              · have a7 : ((nl : Int) == pn) = false := by simpa using a6
                have a8 : ((nl : Int) != pn) = true := by simpa using a6
                have hv := HBAD.out (by rw [HOK.out]; simp [a6])
                subst hv
                clear HST HPN HBAD HV2 HLEN HOK
                go_wp2
                go_ret
                exact ⟨rfl, hnr1⟩
            · skip
              have a7 : (pk == 3) = false := by simpa using a5
              have a9 : (pk != 3) = true := by simpa using a5
              by_cases a6 : nl = 0
              · subst a6
                have hok1 : ok = true := by rw [HOK.out]; rw [if_neg a5]; simp; omega
                subst hok1
                clear HBAD HOK
                have f0 := BH.cell' 0 _ rfl
                by_cases hk0 : k = 0
                · subst hk0
                  simp only [Nat.zero_mul, Nat.add_zero, Nat.zero_add] at q0 q1 q2
                  have HST2 : Hid (okGo 0 (hs.map Hm.d) = okGo pk ((hs.drop (0 + 1)).map Hm.d)) := Lib.hid (by
                    rw [HST.out]
                    have : badAdj (prevK hs 0) pk = false := by simp [prevK, badAdj] <;> omega
                    rw [this]; simp)
                  clear HST
                  go_wp2_with (fail)
                  refine wp_region_held_drew (S := (New _)) (by kernel_rfl) ((New.refl _).drew) (fun hS => ?_)
                  refine tkT 0 (v := ?v233) hS (fun wq hSq => ?y233) ?_; (case y233 => clear hSq; go_simp; (try with_reducible rfl)); simp only [Act.put, gqD, gqE, gqF]
                  refine tkT 1 (v := ?v234) hS (fun wq hSq => ?y234) ?_; (case y234 => clear hSq; go_simp; (try with_reducible rfl)); simp only [Act.put, gqD, gqE, gqF]
                  refine tkT 2 (v := ?v235) hS (fun wq hSq => ?y235) ?_; (case y235 => clear hSq; go_simp; (try with_reducible rfl)); simp only [Act.put, gqD, gqE, gqF]
                  refine tkU 3 hS ?_; simp only [Act.put, gqD, gqE, gqF]
                  refine tkU 4 hS ?_; simp only [Act.put, gqD, gqE, gqF]
                  refine tkU 5 hS ?_; simp only [Act.put, gqD, gqE, gqF]
                  refine tkU 6 hS ?_; simp only [Act.put, gqD, gqE, gqF]
                  refine tkU 7 hS ?_; simp only [Act.put, gqD, gqE, gqF]
                  refine tkU 8 hS ?_; simp only [Act.put, gqD, gqE, gqF]
                  refine tkU 9 hS ?_; simp only [Act.put, gqD, gqE, gqF]
                  refine tkU 10 hS ?_; simp only [Act.put, gqD, gqE, gqF]
                  refine tkU 11 hS ?_; simp only [Act.put, gqD, gqE, gqF]
                  refine tkU 12 hS ?_; simp only [Act.put, gqD, gqE, gqF]
                  refine tkU 13 hS ?_; simp only [Act.put, gqD, gqE, gqF]
                  refine tkU 14 hS ?_; simp only [Act.put, gqD, gqE, gqF]
                  refine tkU 15 hS ?_; simp only [Act.put, gqD, gqE, gqF]
                  refine tkU 16 hS ?_; simp only [Act.put, gqD, gqE, gqF]
                  refine tkU 17 hS ?_; simp only [Act.put, gqD, gqE, gqF]
                  refine tkU 18 hS ?_; simp only [Act.put, gqD, gqE, gqF]
                  refine tkU 19 hS ?_; simp only [Act.put, gqD, gqE, gqF]
                  refine tkU 20 hS ?_; simp only [Act.put, gqD, gqE, gqF]
                  refine tkU 21 hS ?_; simp only [Act.put, gqD, gqE, gqF]
                  refine tkU 22 hS ?_; simp only [Act.put, gqD, gqE, gqF]
                  refine tkU 23 hS ?_; simp only [Act.put, gqD, gqE, gqF]
                  refine tkU 24 hS ?_; simp only [Act.put, gqD, gqE, gqF]
                  refine tkU 25 hS ?_; simp only [Act.put, gqD, gqE, gqF]
                  refine tkU 26 hS ?_; simp only [Act.put, gqD, gqE, gqF]
                  refine tkU 27 hS ?_; simp only [Act.put, gqD, gqE, gqF]
                  refine tkT 28 (v := ?v261) hS (fun wq hSq => ?y261) ?_; (case y261 => clear hSq; go_simp; (try with_reducible rfl)); simp only [Act.put, gqD, gqE, gqF]
                  refine wpAnyH_done (by kernel_rfl) ?_ _
                  go_wp2
                  go_roundw
                  case rel => exact ⟨0 + 1, by go_num, by omega, hnr1.trans (by assumption), BB.new (by assumption), Lib.hid (by rw [HST2.out, HPN.out])⟩
                  case measure => simp [intOf]; omega
                · obtain ⟨j, rfl⟩ : ∃ j, k = j + 1 := ⟨k - 1, by omega⟩
                  obtain ⟨bk', o', hA, _, y, hy, hcy⟩ := rd_row (f := hmC) (k := 3) (fun _ => rfl) HL.out (HR.out.new hnr).rd (show j < n by omega)
                  injection hA with hA
                  injection hA with hA1 hA2
                  subst hA1 hA2
                  have HPJ := Lib.hid (prevK_next hy)
                  obtain ⟨yk, yn, yl, ya, yc⟩ := y
                  have p0 := cell_new ((New.refl wo).alloc (.cells #[.int .i64 pk, .int .i64 pn, .slice pa 0 pc] 55)) (hcy 0 (.int .i64 yk) (by omega) rfl)
                  simp only [Nat.add_zero] at p0
                  simp only at HPJ
                  rw [HPJ.out] at HST
                  have k6 : IntKind.i64.wrap (((j + 1 : Nat) : Int) - 1) = (j : Int) := by rw [IntWalk.i64_in _ (by omega)]; omega
                  have k7 : IntKind.i64.wrap ((j : Int) + 1 - 1) = (j : Int) := by rw [IntWalk.i64_in _ (by omega)]; omega
                  have k10 : (0 : Int) < (j : Int) + 1 := by omega
                  have k11 : (0 : Int) ≤ (j : Int) := by omega
                  have k12 : (j : Int) < (n : Int) := by omega
                  have k13 : (j : Int).toNat = j := by omega
                  have k8 : IntKind.i64.wrap (j : Int) = (j : Int) := IntWalk.i64_in _ (by omega)
                  clear hcy hy
                  by_cases e1 : yk = pk
                  · subst e1
                    have hv : V = false := by
                      rw [HV2.out, HST.out]
                      have : badAdj yk yk = true := by simp [badAdj]
                      rw [this]; simp
                    subst hv
                    clear HST HPN HPJ HV2 HLEN
                    go_wp2_with (fail)
                    refine wp_region_held_drew (S := (New _)) (by kernel_rfl) ((New.refl _).drew) (fun hS => ?_)
                    refine tkT 0 (v := ?v262) hS (fun wq hSq => ?y262) ?_; (case y262 => clear hSq; go_simp; (try with_reducible rfl)); simp only [Act.put, gqD, gqE, gqF]
                    refine tkT 1 (v := ?v263) hS (fun wq hSq => ?y263) ?_; (case y263 => clear hSq; go_simp; (try with_reducible rfl)); simp only [Act.put, gqD, gqE, gqF]
                    refine tkT 2 (v := ?v264) hS (fun wq hSq => ?y264) ?_; (case y264 => clear hSq; go_simp; (try with_reducible rfl)); simp only [Act.put, gqD, gqE, gqF]
                    refine tkT 3 (v := ?v265) hS (fun wq hSq => ?y265) ?_; (case y265 => clear hSq; go_simp; (try with_reducible rfl)); simp only [Act.put, gqD, gqE, gqF]
                    refine tkT 4 (v := ?v266) hS (fun wq hSq => ?y266) ?_; (case y266 => have hf0 := cell_new hSq f0; have hf1 := cell_new hSq d1; have hf2 := cell_new hSq p0; clear hSq; go_simp; (try with_reducible rfl)); simp only [Act.put, gqD, gqE, gqF]
                    refine tkT 5 (v := ?v267) hS (fun wq hSq => ?y267) ?_; (case y267 => clear hSq; go_simp; (try with_reducible rfl)); simp only [Act.put, gqD, gqE, gqF]
                    refine tkT 6 (v := ?v268) hS (fun wq hSq => ?y268) ?_; (case y268 => clear hSq; go_simp; (try with_reducible rfl)); simp only [Act.put, gqD, gqE, gqF]
                    refine tkT 7 (v := ?v269) hS (fun wq hSq => ?y269) ?_; (case y269 => clear hSq; go_simp; (try with_reducible rfl)); simp only [Act.put, gqD, gqE, gqF]
                    refine tkT 8 (v := ?v270) hS (fun wq hSq => ?y270) ?_; (case y270 => clear hSq; go_simp; (try with_reducible rfl)); simp only [Act.put, gqD, gqE, gqF]
                    refine tkT 9 (v := ?v271) hS (fun wq hSq => ?y271) ?_; (case y271 => have hf0 := cell_new hSq f0; have hf1 := cell_new hSq d1; have hf2 := cell_new hSq p0; clear hSq; go_simp; (try with_reducible rfl)); simp only [Act.put, gqD, gqE, gqF]
                    refine tkT 10 (v := ?v272) hS (fun wq hSq => ?y272) ?_; (case y272 => clear hSq; go_simp; (try with_reducible rfl)); simp only [Act.put, gqD, gqE, gqF]
                    refine tkT 11 (v := ?v273) hS (fun wq hSq => ?y273) ?_; (case y273 => have hf0 := cell_new hSq f0; have hf1 := cell_new hSq d1; have hf2 := cell_new hSq p0; clear hSq; go_simp; (try with_reducible rfl)); simp only [Act.put, gqD, gqE, gqF]
                    refine tkT 12 (v := ?v274) hS (fun wq hSq => ?y274) ?_; (case y274 => clear hSq; go_simp; (try with_reducible rfl)); simp only [Act.put, gqD, gqE, gqF]
                    refine tkT 13 (v := ?v275) hS (fun wq hSq => ?y275) ?_; (case y275 => clear hSq; go_simp; (try with_reducible rfl)); simp only [Act.put, gqD, gqE, gqF]
                    refine tkU 14 hS ?_; simp only [Act.put, gqD, gqE, gqF]
                    refine tkU 15 hS ?_; simp only [Act.put, gqD, gqE, gqF]
                    refine tkU 16 hS ?_; simp only [Act.put, gqD, gqE, gqF]
                    refine tkU 17 hS ?_; simp only [Act.put, gqD, gqE, gqF]
                    refine tkU 18 hS ?_; simp only [Act.put, gqD, gqE, gqF]
                    refine tkU 19 hS ?_; simp only [Act.put, gqD, gqE, gqF]
                    refine tkU 20 hS ?_; simp only [Act.put, gqD, gqE, gqF]
                    refine tkU 21 hS ?_; simp only [Act.put, gqD, gqE, gqF]
                    refine tkU 22 hS ?_; simp only [Act.put, gqD, gqE, gqF]
                    refine tkU 23 hS ?_; simp only [Act.put, gqD, gqE, gqF]
                    refine tkU 24 hS ?_; simp only [Act.put, gqD, gqE, gqF]
                    refine tkU 25 hS ?_; simp only [Act.put, gqD, gqE, gqF]
                    refine tkU 26 hS ?_; simp only [Act.put, gqD, gqE, gqF]
                    refine tkT 27 (v := ?v289) hS (fun wq hSq => ?y289) ?_; (case y289 => clear hSq; go_simp; (try with_reducible rfl)); simp only [Act.put, gqD, gqE, gqF]
                    refine tkT 28 (v := ?v290) hS (fun wq hSq => ?y290) ?_; (case y290 => clear hSq; go_simp; (try with_reducible rfl)); simp only [Act.put, gqD, gqE, gqF]
                    refine wpAnyH_done (by kernel_rfl) ?_ _
                    go_wp2
                    go_ret
                    exact ⟨rfl, hnr1.trans (by assumption)⟩
                  · have e1' : (yk == pk) = false := beq_eq_false_iff_ne.2 e1
                    by_cases e3 : yk = 3
                    · subst e3
                      by_cases e2 : pk = 2
                      · subst e2
                        have hv : V = false := by
                          rw [HV2.out, HST.out]
                          have : badAdj 3 2 = true := by decide
                          rw [this]; simp
                        subst hv
                        clear HST HPN HPJ HV2 HLEN
                        go_wp2_with (fail)
                        refine wp_region_held_drew (S := (New _)) (by kernel_rfl) ((New.refl _).drew) (fun hS => ?_)
                        refine tkT 0 (v := ?v320) hS (fun wq hSq => ?y320) ?_; (case y320 => clear hSq; go_simp; (try with_reducible rfl)); simp only [Act.put, gqD, gqE, gqF]
                        refine tkT 1 (v := ?v321) hS (fun wq hSq => ?y321) ?_; (case y321 => clear hSq; go_simp; (try with_reducible rfl)); simp only [Act.put, gqD, gqE, gqF]
                        refine tkT 2 (v := ?v322) hS (fun wq hSq => ?y322) ?_; (case y322 => clear hSq; go_simp; (try with_reducible rfl)); simp only [Act.put, gqD, gqE, gqF]
                        refine tkT 3 (v := ?v323) hS (fun wq hSq => ?y323) ?_; (case y323 => clear hSq; go_simp; (try with_reducible rfl)); simp only [Act.put, gqD, gqE, gqF]
                        refine tkT 4 (v := ?v324) hS (fun wq hSq => ?y324) ?_; (case y324 => have hf0 := cell_new hSq f0; have hf1 := cell_new hSq d1; have hf2 := cell_new hSq p0; clear hSq; go_simp; (try with_reducible rfl)); simp only [Act.put, gqD, gqE, gqF]
                        refine tkT 5 (v := ?v325) hS (fun wq hSq => ?y325) ?_; (case y325 => clear hSq; go_simp; (try with_reducible rfl)); simp only [Act.put, gqD, gqE, gqF]
                        refine tkT 6 (v := ?v326) hS (fun wq hSq => ?y326) ?_; (case y326 => clear hSq; go_simp; (try with_reducible rfl)); simp only [Act.put, gqD, gqE, gqF]
                        refine tkT 7 (v := ?v327) hS (fun wq hSq => ?y327) ?_; (case y327 => clear hSq; go_simp; (try with_reducible rfl)); simp only [Act.put, gqD, gqE, gqF]
                        refine tkT 8 (v := ?v328) hS (fun wq hSq => ?y328) ?_; (case y328 => clear hSq; go_simp; (try with_reducible rfl)); simp only [Act.put, gqD, gqE, gqF]
                        refine tkT 9 (v := ?v329) hS (fun wq hSq => ?y329) ?_; (case y329 => have hf0 := cell_new hSq f0; have hf1 := cell_new hSq d1; have hf2 := cell_new hSq p0; clear hSq; go_simp; (try with_reducible rfl)); simp only [Act.put, gqD, gqE, gqF]
                        refine tkT 10 (v := ?v330) hS (fun wq hSq => ?y330) ?_; (case y330 => clear hSq; go_simp; (try with_reducible rfl)); simp only [Act.put, gqD, gqE, gqF]
                        refine tkT 11 (v := ?v331) hS (fun wq hSq => ?y331) ?_; (case y331 => have hf0 := cell_new hSq f0; have hf1 := cell_new hSq d1; have hf2 := cell_new hSq p0; clear hSq; go_simp; (try with_reducible rfl)); simp only [Act.put, gqD, gqE, gqF]
                        refine tkT 12 (v := ?v332) hS (fun wq hSq => ?y332) ?_; (case y332 => clear hSq; go_simp; (try with_reducible rfl)); simp only [Act.put, gqD, gqE, gqF]
                        refine tkT 13 (v := ?v333) hS (fun wq hSq => ?y333) ?_; (case y333 => clear hSq; go_simp; (try with_reducible rfl)); simp only [Act.put, gqD, gqE, gqF]
                        refine tkT 14 (v := ?v334) hS (fun wq hSq => ?y334) ?_; (case y334 => clear hSq; go_simp; (try with_reducible rfl)); simp only [Act.put, gqD, gqE, gqF]
                        refine tkT 15 (v := ?v335) hS (fun wq hSq => ?y335) ?_; (case y335 => have hf0 := cell_new hSq f0; have hf1 := cell_new hSq d1; have hf2 := cell_new hSq p0; clear hSq; go_simp; (try with_reducible rfl)); simp only [Act.put, gqD, gqE, gqF]
                        refine tkT 16 (v := ?v336) hS (fun wq hSq => ?y336) ?_; (case y336 => clear hSq; go_simp; (try with_reducible rfl)); simp only [Act.put, gqD, gqE, gqF]
                        refine tkT 17 (v := ?v337) hS (fun wq hSq => ?y337) ?_; (case y337 => clear hSq; go_simp; (try with_reducible rfl)); simp only [Act.put, gqD, gqE, gqF]
                        refine tkT 18 (v := ?v338) hS (fun wq hSq => ?y338) ?_; (case y338 => clear hSq; go_simp; (try with_reducible rfl)); simp only [Act.put, gqD, gqE, gqF]
                        refine tkT 19 (v := ?v339) hS (fun wq hSq => ?y339) ?_; (case y339 => clear hSq; go_simp; (try with_reducible rfl)); simp only [Act.put, gqD, gqE, gqF]
                        refine tkT 20 (v := ?v340) hS (fun wq hSq => ?y340) ?_; (case y340 => have hf0 := cell_new hSq f0; have hf1 := cell_new hSq d1; have hf2 := cell_new hSq p0; clear hSq; go_simp; (try with_reducible rfl)); simp only [Act.put, gqD, gqE, gqF]
                        refine tkT 21 (v := ?v341) hS (fun wq hSq => ?y341) ?_; (case y341 => clear hSq; go_simp; (try with_reducible rfl)); simp only [Act.put, gqD, gqE, gqF]
                        refine tkT 22 (v := ?v342) hS (fun wq hSq => ?y342) ?_; (case y342 => clear hSq; go_simp; (try with_reducible rfl)); simp only [Act.put, gqD, gqE, gqF]
                        refine tkT 23 (v := ?v343) hS (fun wq hSq => ?y343) ?_; (case y343 => clear hSq; go_simp; (try with_reducible rfl)); simp only [Act.put, gqD, gqE, gqF]
                        refine tkT 24 (v := ?v344) hS (fun wq hSq => ?y344) ?_; (case y344 => have hf0 := cell_new hSq f0; have hf1 := cell_new hSq d1; have hf2 := cell_new hSq p0; clear hSq; go_simp; (try with_reducible rfl)); simp only [Act.put, gqD, gqE, gqF]
                        refine tkT 25 (v := ?v345) hS (fun wq hSq => ?y345) ?_; (case y345 => clear hSq; go_simp; (try with_reducible rfl)); simp only [Act.put, gqD, gqE, gqF]
                        refine tkT 26 (v := ?v346) hS (fun wq hSq => ?y346) ?_; (case y346 => clear hSq; go_simp; (try with_reducible rfl)); simp only [Act.put, gqD, gqE, gqF]
                        refine tkT 27 (v := ?v347) hS (fun wq hSq => ?y347) ?_; (case y347 => clear hSq; go_simp; (try with_reducible rfl)); simp only [Act.put, gqD, gqE, gqF]
                        refine tkT 28 (v := ?v348) hS (fun wq hSq => ?y348) ?_; (case y348 => clear hSq; go_simp; (try with_reducible rfl)); simp only [Act.put, gqD, gqE, gqF]
                        refine wpAnyH_done (by kernel_rfl) ?_ _
                        go_wp2
                        go_ret
                        exact ⟨rfl, hnr1.trans (by assumption)⟩
                      · have e2' : (pk == 2) = false := beq_eq_false_iff_ne.2 e2
                        have HST2 : Hid (okGo 0 (hs.map Hm.d) = okGo pk ((hs.drop (j + 1 + 1)).map Hm.d)) := Lib.hid (by
                          rw [HST.out]
                          have : badAdj 3 pk = false := by simp [badAdj, e2]; omega
                          rw [this]; simp)
                        clear HST
                        go_wp2_with (fail)
                        refine wp_region_held_drew (S := (New _)) (by kernel_rfl) ((New.refl _).drew) (fun hS => ?_)
                        refine tkT 0 (v := ?v349) hS (fun wq hSq => ?y349) ?_; (case y349 => clear hSq; go_simp; (try with_reducible rfl)); simp only [Act.put, gqD, gqE, gqF]
                        refine tkT 1 (v := ?v350) hS (fun wq hSq => ?y350) ?_; (case y350 => clear hSq; go_simp; (try with_reducible rfl)); simp only [Act.put, gqD, gqE, gqF]
                        refine tkT 2 (v := ?v351) hS (fun wq hSq => ?y351) ?_; (case y351 => clear hSq; go_simp; (try with_reducible rfl)); simp only [Act.put, gqD, gqE, gqF]
                        refine tkT 3 (v := ?v352) hS (fun wq hSq => ?y352) ?_; (case y352 => clear hSq; go_simp; (try with_reducible rfl)); simp only [Act.put, gqD, gqE, gqF]
                        refine tkT 4 (v := ?v353) hS (fun wq hSq => ?y353) ?_; (case y353 => have hf0 := cell_new hSq f0; have hf1 := cell_new hSq d1; have hf2 := cell_new hSq p0; clear hSq; go_simp; (try with_reducible rfl)); simp only [Act.put, gqD, gqE, gqF]
                        refine tkT 5 (v := ?v354) hS (fun wq hSq => ?y354) ?_; (case y354 => clear hSq; go_simp; (try with_reducible rfl)); simp only [Act.put, gqD, gqE, gqF]
                        refine tkT 6 (v := ?v355) hS (fun wq hSq => ?y355) ?_; (case y355 => clear hSq; go_simp; (try with_reducible rfl)); simp only [Act.put, gqD, gqE, gqF]
                        refine tkT 7 (v := ?v356) hS (fun wq hSq => ?y356) ?_; (case y356 => clear hSq; go_simp; (try with_reducible rfl)); simp only [Act.put, gqD, gqE, gqF]
                        refine tkT 8 (v := ?v357) hS (fun wq hSq => ?y357) ?_; (case y357 => clear hSq; go_simp; (try with_reducible rfl)); simp only [Act.put, gqD, gqE, gqF]
                        refine tkT 9 (v := ?v358) hS (fun wq hSq => ?y358) ?_; (case y358 => have hf0 := cell_new hSq f0; have hf1 := cell_new hSq d1; have hf2 := cell_new hSq p0; clear hSq; go_simp; (try with_reducible rfl)); simp only [Act.put, gqD, gqE, gqF]
                        refine tkT 10 (v := ?v359) hS (fun wq hSq => ?y359) ?_; (case y359 => clear hSq; go_simp; (try with_reducible rfl)); simp only [Act.put, gqD, gqE, gqF]
                        refine tkT 11 (v := ?v360) hS (fun wq hSq => ?y360) ?_; (case y360 => have hf0 := cell_new hSq f0; have hf1 := cell_new hSq d1; have hf2 := cell_new hSq p0; clear hSq; go_simp; (try with_reducible rfl)); simp only [Act.put, gqD, gqE, gqF]
                        refine tkT 12 (v := ?v361) hS (fun wq hSq => ?y361) ?_; (case y361 => clear hSq; go_simp; (try with_reducible rfl)); simp only [Act.put, gqD, gqE, gqF]
                        refine tkT 13 (v := ?v362) hS (fun wq hSq => ?y362) ?_; (case y362 => clear hSq; go_simp; (try with_reducible rfl)); simp only [Act.put, gqD, gqE, gqF]
                        refine tkT 14 (v := ?v363) hS (fun wq hSq => ?y363) ?_; (case y363 => clear hSq; go_simp; (try with_reducible rfl)); simp only [Act.put, gqD, gqE, gqF]
                        refine tkT 15 (v := ?v364) hS (fun wq hSq => ?y364) ?_; (case y364 => have hf0 := cell_new hSq f0; have hf1 := cell_new hSq d1; have hf2 := cell_new hSq p0; clear hSq; go_simp; (try with_reducible rfl)); simp only [Act.put, gqD, gqE, gqF]
                        refine tkT 16 (v := ?v365) hS (fun wq hSq => ?y365) ?_; (case y365 => clear hSq; go_simp; (try with_reducible rfl)); simp only [Act.put, gqD, gqE, gqF]
                        refine tkT 17 (v := ?v366) hS (fun wq hSq => ?y366) ?_; (case y366 => clear hSq; go_simp; (try with_reducible rfl)); simp only [Act.put, gqD, gqE, gqF]
                        refine tkT 18 (v := ?v367) hS (fun wq hSq => ?y367) ?_; (case y367 => clear hSq; go_simp; (try with_reducible rfl)); simp only [Act.put, gqD, gqE, gqF]
                        refine tkT 19 (v := ?v368) hS (fun wq hSq => ?y368) ?_; (case y368 => clear hSq; go_simp; (try with_reducible rfl)); simp only [Act.put, gqD, gqE, gqF]
                        refine tkT 20 (v := ?v369) hS (fun wq hSq => ?y369) ?_; (case y369 => have hf0 := cell_new hSq f0; have hf1 := cell_new hSq d1; have hf2 := cell_new hSq p0; clear hSq; go_simp; (try with_reducible rfl)); simp only [Act.put, gqD, gqE, gqF]
                        refine tkT 21 (v := ?v370) hS (fun wq hSq => ?y370) ?_; (case y370 => clear hSq; go_simp; (try with_reducible rfl)); simp only [Act.put, gqD, gqE, gqF]
                        refine tkT 22 (v := ?v371) hS (fun wq hSq => ?y371) ?_; (case y371 => clear hSq; go_simp; (try with_reducible rfl)); simp only [Act.put, gqD, gqE, gqF]
                        refine tkT 23 (v := ?v372) hS (fun wq hSq => ?y372) ?_; (case y372 => clear hSq; go_simp; (try with_reducible rfl)); simp only [Act.put, gqD, gqE, gqF]
                        refine tkT 24 (v := ?v373) hS (fun wq hSq => ?y373) ?_; (case y373 => have hf0 := cell_new hSq f0; have hf1 := cell_new hSq d1; have hf2 := cell_new hSq p0; clear hSq; go_simp; (try with_reducible rfl)); simp only [Act.put, gqD, gqE, gqF]
                        refine tkT 25 (v := ?v374) hS (fun wq hSq => ?y374) ?_; (case y374 => clear hSq; go_simp; (try with_reducible rfl)); simp only [Act.put, gqD, gqE, gqF]
                        refine tkT 26 (v := ?v375) hS (fun wq hSq => ?y375) ?_; (case y375 => clear hSq; go_simp; (try with_reducible rfl)); simp only [Act.put, gqD, gqE, gqF]
                        refine tkT 27 (v := ?v376) hS (fun wq hSq => ?y376) ?_; (case y376 => clear hSq; go_simp; (try with_reducible rfl)); simp only [Act.put, gqD, gqE, gqF]
                        refine tkT 28 (v := ?v377) hS (fun wq hSq => ?y377) ?_; (case y377 => clear hSq; go_simp; (try with_reducible rfl)); simp only [Act.put, gqD, gqE, gqF]
                        refine wpAnyH_done (by kernel_rfl) ?_ _
                        go_wp2
                        go_roundw
                        case rel => exact ⟨j + 1 + 1, by go_num, by omega, hnr1.trans (by assumption), BB.new (by assumption), Lib.hid (by rw [HST2.out, HPN.out])⟩
                        case measure => simp [intOf]; omega
                    · have e3' : (yk == 3) = false := beq_eq_false_iff_ne.2 e3
                      have HST2 : Hid (okGo 0 (hs.map Hm.d) = okGo pk ((hs.drop (j + 1 + 1)).map Hm.d)) := Lib.hid (by
                        rw [HST.out]
                        have : badAdj yk pk = false := by simp [badAdj, e1, e3]
                        rw [this]; simp)
                      clear HST
                      go_wp2_with (fail)
                      refine wp_region_held_drew (S := (New _)) (by kernel_rfl) ((New.refl _).drew) (fun hS => ?_)
                      refine tkT 0 (v := ?v291) hS (fun wq hSq => ?y291) ?_; (case y291 => clear hSq; go_simp; (try with_reducible rfl)); simp only [Act.put, gqD, gqE, gqF]
                      refine tkT 1 (v := ?v292) hS (fun wq hSq => ?y292) ?_; (case y292 => clear hSq; go_simp; (try with_reducible rfl)); simp only [Act.put, gqD, gqE, gqF]
                      refine tkT 2 (v := ?v293) hS (fun wq hSq => ?y293) ?_; (case y293 => clear hSq; go_simp; (try with_reducible rfl)); simp only [Act.put, gqD, gqE, gqF]
                      refine tkT 3 (v := ?v294) hS (fun wq hSq => ?y294) ?_; (case y294 => clear hSq; go_simp; (try with_reducible rfl)); simp only [Act.put, gqD, gqE, gqF]
                      refine tkT 4 (v := ?v295) hS (fun wq hSq => ?y295) ?_; (case y295 => have hf0 := cell_new hSq f0; have hf1 := cell_new hSq d1; have hf2 := cell_new hSq p0; clear hSq; go_simp; (try with_reducible rfl)); simp only [Act.put, gqD, gqE, gqF]
                      refine tkT 5 (v := ?v296) hS (fun wq hSq => ?y296) ?_; (case y296 => clear hSq; go_simp; (try with_reducible rfl)); simp only [Act.put, gqD, gqE, gqF]
                      refine tkT 6 (v := ?v297) hS (fun wq hSq => ?y297) ?_; (case y297 => clear hSq; go_simp; (try with_reducible rfl)); simp only [Act.put, gqD, gqE, gqF]
                      refine tkT 7 (v := ?v298) hS (fun wq hSq => ?y298) ?_; (case y298 => clear hSq; go_simp; (try with_reducible rfl)); simp only [Act.put, gqD, gqE, gqF]
                      refine tkT 8 (v := ?v299) hS (fun wq hSq => ?y299) ?_; (case y299 => clear hSq; go_simp; (try with_reducible rfl)); simp only [Act.put, gqD, gqE, gqF]
                      refine tkT 9 (v := ?v300) hS (fun wq hSq => ?y300) ?_; (case y300 => have hf0 := cell_new hSq f0; have hf1 := cell_new hSq d1; have hf2 := cell_new hSq p0; clear hSq; go_simp; (try with_reducible rfl)); simp only [Act.put, gqD, gqE, gqF]
                      refine tkT 10 (v := ?v301) hS (fun wq hSq => ?y301) ?_; (case y301 => clear hSq; go_simp; (try with_reducible rfl)); simp only [Act.put, gqD, gqE, gqF]
                      refine tkT 11 (v := ?v302) hS (fun wq hSq => ?y302) ?_; (case y302 => have hf0 := cell_new hSq f0; have hf1 := cell_new hSq d1; have hf2 := cell_new hSq p0; clear hSq; go_simp; (try with_reducible rfl)); simp only [Act.put, gqD, gqE, gqF]
                      refine tkT 12 (v := ?v303) hS (fun wq hSq => ?y303) ?_; (case y303 => clear hSq; go_simp; (try with_reducible rfl)); simp only [Act.put, gqD, gqE, gqF]
                      refine tkT 13 (v := ?v304) hS (fun wq hSq => ?y304) ?_; (case y304 => clear hSq; go_simp; (try with_reducible rfl)); simp only [Act.put, gqD, gqE, gqF]
                      refine tkT 14 (v := ?v305) hS (fun wq hSq => ?y305) ?_; (case y305 => clear hSq; go_simp; (try with_reducible rfl)); simp only [Act.put, gqD, gqE, gqF]
                      refine tkT 15 (v := ?v306) hS (fun wq hSq => ?y306) ?_; (case y306 => have hf0 := cell_new hSq f0; have hf1 := cell_new hSq d1; have hf2 := cell_new hSq p0; clear hSq; go_simp; (try with_reducible rfl)); simp only [Act.put, gqD, gqE, gqF]
                      refine tkT 16 (v := ?v307) hS (fun wq hSq => ?y307) ?_; (case y307 => clear hSq; go_simp; (try with_reducible rfl)); simp only [Act.put, gqD, gqE, gqF]
                      refine tkT 17 (v := ?v308) hS (fun wq hSq => ?y308) ?_; (case y308 => clear hSq; go_simp; (try with_reducible rfl)); simp only [Act.put, gqD, gqE, gqF]
                      refine tkT 18 (v := ?v309) hS (fun wq hSq => ?y309) ?_; (case y309 => clear hSq; go_simp; (try with_reducible rfl)); simp only [Act.put, gqD, gqE, gqF]
                      refine tkT 19 (v := ?v310) hS (fun wq hSq => ?y310) ?_; (case y310 => clear hSq; go_simp; (try with_reducible rfl)); simp only [Act.put, gqD, gqE, gqF]
                      refine tkT 20 (v := ?v311) hS (fun wq hSq => ?y311) ?_; (case y311 => have hf0 := cell_new hSq f0; have hf1 := cell_new hSq d1; have hf2 := cell_new hSq p0; clear hSq; go_simp; (try with_reducible rfl)); simp only [Act.put, gqD, gqE, gqF]
                      refine tkT 21 (v := ?v312) hS (fun wq hSq => ?y312) ?_; (case y312 => clear hSq; go_simp; (try with_reducible rfl)); simp only [Act.put, gqD, gqE, gqF]
                      refine tkT 22 (v := ?v313) hS (fun wq hSq => ?y313) ?_; (case y313 => clear hSq; go_simp; (try with_reducible rfl)); simp only [Act.put, gqD, gqE, gqF]
                      refine tkU 23 hS ?_; simp only [Act.put, gqD, gqE, gqF]
                      refine tkU 24 hS ?_; simp only [Act.put, gqD, gqE, gqF]
                      refine tkU 25 hS ?_; simp only [Act.put, gqD, gqE, gqF]
                      refine tkT 26 (v := ?v317) hS (fun wq hSq => ?y317) ?_; (case y317 => clear hSq; go_simp; (try with_reducible rfl)); simp only [Act.put, gqD, gqE, gqF]
                      refine tkT 27 (v := ?v318) hS (fun wq hSq => ?y318) ?_; (case y318 => clear hSq; go_simp; (try with_reducible rfl)); simp only [Act.put, gqD, gqE, gqF]
                      refine tkT 28 (v := ?v319) hS (fun wq hSq => ?y319) ?_; (case y319 => clear hSq; go_simp; (try with_reducible rfl)); simp only [Act.put, gqD, gqE, gqF]
                      refine wpAnyH_done (by kernel_rfl) ?_ _
                      go_wp2
                      go_roundw
                      case rel => exact ⟨j + 1 + 1, by go_num, by omega, hnr1.trans (by assumption), BB.new (by assumption), Lib.hid (by rw [HST2.out, HPN.out])⟩
                      case measure => simp [intOf]; omega
              · have a8 : ((nl : Int) == 0) = false := by simp; omega
                have a10 : ((nl : Int) != 0) = true := by simp; omega
                have hv := HBAD.out (by rw [HOK.out]; rw [if_neg a5]; simp [a6])
                subst hv
                clear HST HPN HBAD HV2 HLEN HOK
                go_wp2
                go_ret
                exact ⟨rfl, hnr1⟩
          · skip
            obtain rfl : n = k := by omega
            have hgood : okGo 0 (hs.map Hm.d) = true := by
              rw [HG.out, List.drop_of_length_le (by rw [HL.out]; exact Nat.le_refl _)]; rfl
            have hoa := okGo_okA hgood
            have HSZ := Lib.hid (fun W (hN : New w W) => counts_any base A n c hs W (HR.out.new hN) hoa (by omega))
            have HLN := Lib.hid (fun W (hN : New w W) => rlines_any base A n c hs W (HR.out.new hN) hoa (by omega) HBZ.out)
            have c1 := cnt_bound 1 (l := hs.map Hm.d) (fun x hx => by obtain ⟨y, hy, rfl⟩ := List.mem_map.1 hx; exact hoa y hy)
            have c2 := cnt_bound 2 (l := hs.map Hm.d) (fun x hx => by obtain ⟨y, hy, rfl⟩ := List.mem_map.1 hx; exact hoa y hy)
            have c3 := cnt_bound 3 (l := hs.map Hm.d) (fun x hx => by obtain ⟨y, hy, rfl⟩ := List.mem_map.1 hx; exact hoa y hy)
            have hll := linesL_len (l := hs.map Hm.d) (fun x hx => by obtain ⟨y, hy, rfl⟩ := List.mem_map.1 hx; exact hoa y hy)
            rw [List.length_map, HL.out] at c1 c2 c3 hll
            have HTS := Lib.hid (textL_size hoa HZ.out HBZ.out)
            have HTL : Hid ((textL base (hs.map Hm.d)).length ≤ 1 + (linesL (hs.map Hm.d)).length) := Lib.hid (by
              rw [textL, List.length_append]; have := baseL_len base; omega)
            have HV3 : Hid (V = (sizesOK (hs.map Hm.d) && decide (joinE (textL base (hs.map Hm.d)) = 0))) := Lib.hid (by rw [HV2.out, hgood, Bool.true_and])
            have HSO : Hid (sizesOK (hs.map Hm.d) = (decide (1 ≤ cnt 1 (hs.map Hm.d) + cnt 2 (hs.map Hm.d)) && decide (cnt 1 (hs.map Hm.d) + cnt 2 (hs.map Hm.d) ≤ 1024) && decide (1 ≤ cnt 1 (hs.map Hm.d) + cnt 3 (hs.map Hm.d)) && decide (cnt 1 (hs.map Hm.d) + cnt 3 (hs.map Hm.d) ≤ 1024))) := Lib.hid rfl
            have d0 := BR.cell' 0 _ rfl
            have d1 := BR.cell' 1 _ rfl
            generalize cnt 1 (hs.map Hm.d) = s1 at *
            generalize cnt 2 (hs.map Hm.d) = s2 at *
            generalize cnt 3 (hs.map Hm.d) = s3 at *
            generalize textL base (hs.map Hm.d) = ws at *
            generalize (linesL (hs.map Hm.d)).length = ll at *
            have hll2 : ll ≤ 3072 + s3.toNat := by omega
            obtain ⟨c11, c12⟩ := c1
            obtain ⟨c21, c22⟩ := c2
            obtain ⟨c31, c32⟩ := c3
            have m1 : s1 ≤ 4000000 := by omega
            have m2 : s2 ≤ 4000000 := by omega
            have m3 : s3 ≤ 4000000 := by omega
            clear hgood hoa HV2 HG hll c12 c22 c32
            by_cases g1 : s1 + s2 < 1
            · have hv : V = false := by rw [HV3.out, HSO.out]; simp; omega
              subst hv
              clear HV3 HSO HLEN
              go_wp2_with (go_at_call 38; (with_reducible refine (HSZ.out _ hnr).mono ?_); rintro e w2 ⟨rfl, n2⟩)
              go_ret
              exact ⟨rfl, hnr.trans n2⟩
            by_cases g2 : 1024 < s1 + s2
            · have hv : V = false := by rw [HV3.out, HSO.out]; simp; omega
              subst hv
              clear HV3 HSO HLEN
              go_wp2_with (go_at_call 38; (with_reducible refine (HSZ.out _ hnr).mono ?_); rintro e w2 ⟨rfl, n2⟩)
              go_ret
              exact ⟨rfl, hnr.trans n2⟩
            by_cases g3 : s1 + s3 < 1
            · have hv : V = false := by rw [HV3.out, HSO.out]; simp; omega
              subst hv
              clear HV3 HSO HLEN
              go_wp2_with (go_at_call 38; (with_reducible refine (HSZ.out _ hnr).mono ?_); rintro e w2 ⟨rfl, n2⟩)
              go_ret
              exact ⟨rfl, hnr.trans n2⟩
            by_cases g4 : 1024 < s1 + s3
            · have hv : V = false := by rw [HV3.out, HSO.out]; simp; omega
              subst hv
              clear HV3 HSO HLEN
              go_wp2_with (go_at_call 38; (with_reducible refine (HSZ.out _ hnr).mono ?_); rintro e w2 ⟨rfl, n2⟩)
              go_ret
              exact ⟨rfl, hnr.trans n2⟩
            have HV4 : Hid (V = decide (joinE ws = 0)) := Lib.hid (by
              rw [HV3.out, HSO.out]
              have a1 : 1 ≤ s1 + s2 := by omega
              have a2 : s1 + s2 ≤ 1024 := by omega
              have a3 : 1 ≤ s1 + s3 := by omega
              have a4 : s1 + s3 ≤ 1024 := by omega
              simp [a1, a2, a3, a4])
            have hwl : ws.length ≤ 100000 := by have := HTL.out; omega
            clear HV3 HSO HLEN
            go_wp2_with (first | (go_at_call 36; (with_reducible refine (HLN.out _ (hnr.trans n2)).mono ?_)) | (go_at_call 38; (with_reducible refine (HSZ.out _ hnr).mono ?_); rintro e w2 ⟨rfl, n2⟩; have e0 := cell_new n2 d0; have e1 := cell_new n2 d1))
            rintro e w3 ⟨A3, c3, rfl, hr3, hc3, n3⟩
            have HJ := Lib.hid (rjoin_any A3 ws.length c3 ws w3 rfl hwl hc3 hr3 HTS.out)
            have hnn := (hnr.trans n2).trans n3
            generalize ws.length = wl at *
            go_wp2_with (go_at_call 35; (with_reducible refine HJ.out.mono ?_); rintro e w4 ⟨rfl, n4⟩)
            go_ret
            exact ⟨ret_b (by rw [HV4.out, Bool.eq_iff_iff]; simp), hnn.trans n4⟩
  · have hv : V = false := by
      rw [HV.out]
      have : (decide (base.size = 0) || decide (base.size = 32)) = false := by simpa using hbz
      rw [this]; simp
    subst hv
    have b1 : (base.toList == ([] : List UInt8)) = false := by rw [toList_eq, data_cons (by omega)]; rfl
    have b2 : base.toList.isEmpty = false := by rw [toList_eq, data_cons (by omega)]; rfl
    have b3 : ((base.size : Int) == 32) = false := by rw [beq_eq_false_iff_ne]; omega
    have b4 : ¬ (base.size : Int) = 32 := by omega
    clear HV HLEN hbz
    go_enter Tryz.func34, Tryz.ntmps34
    go_wp2
    go_ret
    exact ⟨rfl, hn0⟩
end Go.Proofs.YtfeknjpinboknaaGreatDoor

