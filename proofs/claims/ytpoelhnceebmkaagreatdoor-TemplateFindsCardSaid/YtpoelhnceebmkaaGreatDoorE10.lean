/- The law TemplateFinds, walked: true at every list of templates and words. No conditions but that the arguments read as data. -/
import Derived.Test.YtpoelhnceebmkaaGreatDoorE9
namespace Go.Proofs.YtpoelhnceebmkaaGreatDoor
open Go Go.RowKit Go.Shelf
set_option linter.unusedSimpArgs false
set_option linter.unusedVariables false

set_option maxRecDepth 100000 in
set_option maxHeartbeats 1000000 in
theorem notFew34 (v : Value) (nm : ByteArray) (ps : List Pt) (w : World) (h : TRd w v nm ps) :
    Calls Tryz.prog 34 #[v] w fun e w' => (∃ b, e = .returned (.bool (!b)) ∧ FewP nm ps b) ∧ New w w' := by
  obtain ⟨A, c, rfl, _⟩ := id h
  have HF := Lib.hid (fun w h => few_any (.agg #[.string nm, .slice A ps.length c]) nm ps w h)
  have hnS : New w (w.alloc (.cells #[.string nm, .slice A ps.length c] 25)) := (New.refl w).alloc _
  have HT2 := Lib.hid (h.new hnS)
  obtain ⟨n, hn⟩ : ∃ k, ps.length = k := ⟨_, rfl⟩
  rw [hn] at HF hnS HT2 ⊢
  clear h hn
  go_enter Tryz.func34, Tryz.ntmps34
  go_wp2_with (go_at_call 13; refine (HF.out _ HT2.out).mono ?_; rintro e w1 ⟨⟨b, rfl, hb⟩, hn1⟩; have HB := Lib.hid hb; clear hb)
  go_ret
  exact ⟨⟨b, rfl, HB.out⟩, hnS.trans hn1⟩

set_option maxRecDepth 100000 in
set_option maxHeartbeats 1000000 in
theorem indexT34 (A : Option Addr) (c n : Nat) (l : List Tm) (w : World) (hr : TsRd w A n l) (hz : n ≤ 4294967295) :
    Calls Tryz.prog 54 #[.slice A n c, .func (.func 34) #[] #[]] w fun e w' => (∃ i : Int, e = .returned (.int .i64 i) ∧ (i < 0 → ∀ t ∈ l, TOk t)) ∧ New w w' := by
  have HL := Lib.hid hr.1
  have HR := Lib.hid hr
  clear hr
  go_enter Tryz.func54, Tryz.ntmps54
  go_wp2
  go_loopw [8] (fun v wr => ∃ k : Nat, k ≤ n ∧ v = .int .i64 k ∧ New w wr ∧ Hid (∀ t ∈ l.take k, TOk t)) (fun v _ => n - (intOf v).toNat)
  case atStart => exact ⟨0, Nat.zero_le _, rfl, New.refl _, Lib.hid (by simp)⟩
  case round =>
    obtain ⟨k, hk, rfl, hn, H⟩ := hrel
    by_cases hlt : k < n
    · obtain ⟨bk, o, vt, t, rfl, ht, d1, d2, htr⟩ := (HR.out.new hn).at hlt
      obtain ⟨At, ct, rfl⟩ := TRd.form htr
      have HF := Lib.hid (fun w h => notFew34 (.agg #[.string t.1, .slice At t.2.length ct]) t.1 t.2 w h)
      have HT := Lib.hid htr
      have i0 : (0 : Int) ≤ (k : Int) := by omega
      have i1 : (k : Int) < (n : Int) := by omega
      have HTK : Hid (∀ q ∈ l.take (k + 1), q ∈ l.take k ∨ q = t) := Lib.hid (fun q hq => by
        obtain ⟨hi, he⟩ := List.getElem?_eq_some_iff.1 ht
        rw [List.take_succ_eq_append_getElem hi, List.mem_append, he] at hq
        simpa using hq)
      obtain ⟨nt, hnt⟩ : ∃ k, t.2.length = k := ⟨_, rfl⟩
      rw [hnt] at d2 HF HT
      clear htr ht
      go_wp2_with (go_at_call 34; refine (HF.out _ HT.out).mono ?_; rintro e w' ⟨⟨b, rfl, hb⟩, hn2⟩; have HB := Lib.hid hb; clear hb)
      · go_ret
        exact ⟨⟨k, rfl, fun h => by omega⟩, hn.trans hn2⟩
      · have hbt : b = true := by simpa using (by assumption : (!b) = false)
        subst hbt
        have HOK := Lib.hid (HB.out.1 rfl)
        go_roundw
        case rel => exact ⟨k + 1, by omega, by go_num, hn.trans hn2, Lib.hid (fun q hq => by
          rcases HTK.out q hq with h | rfl
          · exact H.out q h
          · exact HOK.out)⟩
        case measure => simp [intOf]; omega
    · obtain rfl : k = n := by omega
      go_wp2
      go_ret
      exact ⟨⟨-1, rfl, fun _ t ht => H.out t (by rw [List.take_of_length_le (by rw [HL.out]; exact Nat.le_refl _)]; exact ht)⟩, hn⟩
set_option maxRecDepth 100000 in
theorem containsT34 (A : Option Addr) (c n : Nat) (l : List Tm) (w : World) (hr : TsRd w A n l) (hz : n ≤ 4294967295) :
    Calls Tryz.prog 23 #[.slice A n c, .func (.func 34) #[] #[]] w fun e w' => (∃ b, e = .returned (.bool b) ∧ (b = false → ∀ t ∈ l, TOk t)) ∧ New w w' := by
  have HC := Lib.hid (indexT34 A c n l w hr hz)
  go_enter Tryz.func23, Tryz.ntmps23
  go_wp2_with (go_at_call 54; refine HC.out.mono ?_; rintro e w' ⟨⟨i, rfl, hi⟩, hn⟩; have HI := Lib.hid hi; clear hi)
  go_ret
  exact ⟨⟨_, rfl, fun h => HI.out (by have := of_decide_eq_false h; omega)⟩, hn⟩

def fCells (l : List Fi) : List Value := l.flatMap fun m => [.int .i64 m.1, .int .i64 (m.2.1 : Nat), .int .i64 (m.2.2 : Nat)]
theorem fCells_at : ∀ (l : List Fi) (k : Nat) (m : Fi) (h : l[k]? = some m), (fCells l)[k * 3]? = some (.int .i64 m.1) ∧ (fCells l)[k * 3 + 1]? = some (.int .i64 (m.2.1 : Nat)) ∧ (fCells l)[k * 3 + 2]? = some (.int .i64 (m.2.2 : Nat))
  | [], _, _, h => by simp at h
  | x :: l, 0, m, h => by
    have : x = m := by simpa using h
    subst this
    exact ⟨rfl, rfl, rfl⟩
  | x :: l, k + 1, m, h => by
    have ih := fCells_at l k m (by simpa using h)
    have e1 : (k + 1) * 3 = k * 3 + 3 := by omega
    have e2 : fCells (x :: l) = .int .i64 x.1 :: .int .i64 (x.2.1 : Nat) :: .int .i64 (x.2.2 : Nat) :: fCells l := rfl
    rw [e1, e2]
    simpa using ih
theorem fCells_find : ∀ (F : List Fd) (M : Nat), mCells F ++ [.int .i64 (-1), .int .i64 (M : Nat), .int .i64 (M : Nat)] = fCells (F.map toI ++ [((-1 : Int), M, M)])
  | [], M => rfl
  | x :: F, M => by
    have ih := fCells_find F M
    have e : fCells ((x :: F).map toI ++ [((-1 : Int), M, M)]) = .int .i64 (x.1 : Nat) :: .int .i64 (x.2.1 : Nat) :: .int .i64 (x.2.2 : Nat) :: fCells (F.map toI ++ [((-1 : Int), M, M)]) := rfl
    rw [e, ← ih]; rfl

set_option maxRecDepth 100000 in
set_option maxHeartbeats 16000000 in
theorem law_finds (A : Option Addr) (c n : Nat) (l : List Tm) (v' : Value) (words : List ByteArray) (w : World) (h : TsRd w A n l) (h' : WRd w v' words) :
    Calls Tryz.prog 8 #[.slice A n c, v'] w fun e w' => e = .returned (.bool true) ∧ New w w' := by
  obtain ⟨j0, hj, hy0, hy1, hy2⟩ := info_parts Tryz.info53
  have HA := Lib.hid awake_any
  obtain ⟨A', c', rfl, hc1', hc2', hr'⟩ := h'
  have HW : Hid (WRd w (.slice A' words.length c') words) := Lib.hid ⟨A', c', rfl, hc1', hc2', hr'⟩
  have HTS := Lib.hid h
  have HL := Lib.hid h.1
  have HSH := Lib.hid (fun w h => short_any (.slice A' words.length c') words 150 w h (by omega))
  have HFI := Lib.hid (fine_find l words words.length 0 (by omega) (by omega))
  obtain ⟨M, hM⟩ : ∃ k, words.length = k := ⟨_, rfl⟩
  rw [hM] at HW hc1' HSH HFI ⊢
  have HM := Lib.hid hM
  clear hM h hr'
  by_cases g1 : n ≤ 6
  · have t1 : decide ((6 : Int) < (n : Int)) = false := decide_eq_false (by omega)
    have HCT := Lib.hid (fun w h => containsT34 A c n l w h (by omega))
    go_enter Tryz.func8, Tryz.ntmps8
    go_wp2_with (first
      | (go_at_call 16; refine (HSH.out _ (HW.out.new (h0.trans h1))).mono ?_; rintro e w2 ⟨⟨b2, rfl, hb2, hb3⟩, rfl⟩)
      | (go_at_call 23; refine (HCT.out _ (HTS.out.new h0)).mono ?_; rintro e w1 ⟨⟨b1, rfl, hb1⟩, h1⟩; have HB1 := Lib.hid hb1; clear hb1)
      | (go_at_call 9; refine (HA.out _).mono ?_; rintro e w0 ⟨rfl, h0⟩)
      | fail)
    · exact bodyPost_ret (v := .bool true) (by simp [results, Tryz.results8, go_sem]) rfl ⟨rfl, h0.trans h1⟩
    · exact bodyPost_ret (v := .bool true) (by simp [results, Tryz.results8, go_sem]) rfl ⟨rfl, h0.trans h1⟩
    · have hb1f : b1 = false := by simpa using (by assumption : ¬ b1 = true)
      have hb2t : b2 = true := by simpa using (by assumption : (!b2) = false)
      have HOK := Lib.hid (HB1.out hb1f)
      have hM150 := hb2 hb2t
      subst hb1f hb2t
      have hSM := Lib.hid (fun t ht => (HOK.out t ht).sm)
      have HFN := Lib.hid (fun w h h2 => find_any A c n l (.slice A' M c') words w h h2 (fun t ht => hSM.out t ht) (by omega) (by rw [HM.out]; omega))
      have hfl := findV_len l words (goodV 0 l) words.length 0
      have hw2 : New w w2 := h0.trans h1
      rw [HM.out] at hfl HFN
      generalize findV l words (goodV 0 l) M 0 = F at *
      obtain ⟨nf, hnf⟩ : ∃ k, F.length = k := ⟨_, rfl⟩
      rw [hnf] at HFN hfl
      have HNF := Lib.hid hnf
      clear hb2 hb3 HSH HCT hnf
      go_wp2_with (first
        | (at_builtin; refine wpList_append_own _ rfl (.tmp 30) (.tmp 36) 51 rfl w2.heap.size 53 j0 (.agg #[.int .i64 0, .int .i64 0, .int .i64 0]) 3 24 Tryz.underlying51 hj hy0 hy1 hy2 rfl (by decide) _ _ _ rfl (o3.alloc _) ⟨w3.heap.size, 0, none⟩ 1 1 [.int .i64 (-1), .int .i64 (M : Nat), .int .i64 (M : Nat)] rfl rfl ?c1 ?c2 ?c3 ?c4 ?c5 ?_)
        | (go_at_call 28; refine (HFN.out _ (HTS.out.new hw2) (HW.out.new hw2)).mono ?_; rintro e w3 ⟨v3, rfl, o3, h3⟩))
      case c1 =>
        intro j u hu
        rw [add_none rfl, Nat.zero_add, (Blk.made w3 53 _).cell j]
        simpa using hu
      case c2 => simp [Value.oneCell']
      case c3 => simp [maxLen]; omega
      case c4 => omega
      case c5 => have := h3.size; simp; omega
      intro v6 w5 o5 hg5 _
      have h35 : New w2 w5 := Below.grown (h3.alloc _) hg5 (by have := h3.size; simp; omega) (fun g hg => (o3.lt g hg).1)
      obtain ⟨A6, c6, rfl, _, _, r6⟩ := own_form o5
      rw [fCells_find] at r6
      have hgl : (F.map toI ++ [((-1 : Int), M, M)]).length = nf + 1 := by simp [HNF.out]
      generalize F.map toI ++ [((-1 : Int), M, M)] = G at *
      have HR6 := Lib.hid r6
      have HGL := Lib.hid hgl
      clear r6 hgl o5 o3 hg5
      go_wp2
      go_loopw [5, 40] (fun v5 v40 wr => ∃ (j at_ : Nat), v40 = .int .i64 j ∧ v5 = .int .i64 at_ ∧ j ≤ nf + 1 ∧ at_ ≤ M ∧ New w5 wr ∧ Hid (Fine l words at_ (G.drop j))) (fun _ v40 _ => nf + 1 - (intOf v40).toNat)
      case atStart => exact ⟨0, 0, rfl, rfl, by omega, by omega, New.refl _, HFI⟩
      case round =>
        obtain ⟨j, at_, rfl, rfl, hjn, hat, hnr, HG⟩ := hrel
        by_cases hlt : j < nf + 1
        · obtain ⟨bG, oG, rfl, _, hcG⟩ := (HR6.out.below hnr).2 (by omega)
          have hlt2 : j < G.length := by rw [HGL.out]; exact hlt
          have hgj : G[j]? = some G[j] := List.getElem?_eq_getElem hlt2
          obtain ⟨q1, q2, q3⟩ := fCells_at G j _ hgj
          have d1 := hcG _ _ q1
          have d2 := hcG _ _ q2
          have d3 := hcG _ _ q3
          have hdr := HG.out
          rw [List.drop_eq_getElem_cons hlt2] at hdr
          clear q1 q2 q3 hcG hgj
          generalize G[j] = mm at *
          obtain ⟨tp, fr, to⟩ := mm
          obtain ⟨s1, s2, s3, s4, s5, s6, s7, s8⟩ := hdr
          simp only at d1 d2 d3 s1 s2 s3 s4 s5 s6 s7 s8
          rw [HM.out] at s3 s7
          rw [HL.out] at s4
          have d2' : wr.cell? ⟨bG, oG + j * 3 + 1, none⟩ = some (.int .i64 (fr : Nat)) := d2
          have d3' : wr.cell? ⟨bG, oG + j * 3 + 2, none⟩ = some (.int .i64 (to : Nat)) := d3
          have b1 : decide ((fr : Int) < (at_ : Int)) = false := decide_eq_false (by omega)
          have b2 : decide ((to : Int) < (fr : Int)) = false := decide_eq_false (by omega)
          have b3 : decide ((M : Int) < (to : Int)) = false := decide_eq_false (by omega)
          have b4 : decide ((n : Int) ≤ tp) = false := decide_eq_false (by omega)
          have b1n : decide (fr < at_) = false := decide_eq_false (by omega)
          have b2n : decide (to < fr) = false := decide_eq_false (by omega)
          have b3n : decide (M < to) = false := decide_eq_false (by omega)
          have i0 : (0 : Int) ≤ (j : Int) := by omega
          have i1 : (j : Int) < (nf : Int) + 1 := by omega
          have H6 := Lib.hid s6
          have H7 := Lib.hid s7
          have H8 := Lib.hid s8
          obtain ⟨wo, rfl⟩ : ∃ x, x = wr := ⟨_, rfl⟩
          have B53 := Blk.made wo 53 #[.int .i64 tp, .int .i64 (fr : Nat), .int .i64 (to : Nat)]
          clear s6 s7 s8 d2 d3 hlt2 HG
          go_wp2
          obtain ⟨wb, hwb⟩ : ∃ x, x = wo.alloc (.cells #[.int .i64 tp, .int .i64 (fr : Nat), .int .i64 (to : Nat)] 53) := ⟨_, rfl⟩
          rw [← hwb] at B53 ⊢
          have hob : New wo wb := by rw [hwb]; exact (New.refl _).alloc _
          have hwwb : New w wb := ((hw2.trans h35).trans hnr).trans hob
          clear hwb d1 d2' d3'
          go_loopw [9] (fun v9 wr => ∃ i : Nat, v9 = .int .i64 i ∧ at_ ≤ i ∧ i ≤ fr + 1 ∧ New wb wr) (fun v9 _ => fr + 1 - (intOf v9).toNat)
          case atStart => exact ⟨at_, rfl, by omega, by omega, New.refl _⟩
          case round =>
            obtain ⟨i, rfl, hi1, hi2, hn4⟩ := hrel
            have g0 := (B53.new hn4).cell' 0 _ rfl
            have g1' := (B53.new hn4).cell' 1 _ rfl
            have g2 := (B53.new hn4).cell' 2 _ rfl
            by_cases hif : i ≤ fr
            · have z1 : decide ((i : Int) ≤ (fr : Int)) = true := decide_eq_true (by omega)
              have z1n : decide (i ≤ fr) = true := decide_eq_true (by omega)
              by_cases hiM : i < M
              · have z2 : decide ((i : Int) < (M : Int)) = true := decide_eq_true (by omega)
                have z2n : decide (i < M) = true := decide_eq_true (by omega)
                obtain ⟨wi, rfl⟩ : ∃ x, x = wr := ⟨_, rfl⟩
                go_wp2
                go_loopw [84] (fun v84 wr => ∃ k : Nat, v84 = .int .i64 k ∧ k ≤ n ∧ New wi wr) (fun v84 _ => n - (intOf v84).toNat)
                case atStart => exact ⟨0, rfl, by omega, New.refl _⟩
                case round =>
                  obtain ⟨k, rfl, hk, hn5⟩ := hrel
                  have hwn : New w wr := (hwwb.trans hn4).trans hn5
                  by_cases hkn : k < n
                  · obtain ⟨bk, o, vt, t, eqA, ht, d1, d2, htr⟩ := (HTS.out.new hwn).at hkn
                    subst eqA
                    obtain ⟨At, ct, rfl⟩ := TRd.form htr
                    have htm := List.mem_of_getElem? ht
                    have HMT := Lib.hid (fun w h h2 => matchT_any (.agg #[.string t.1, .slice At t.2.length ct]) (.slice A' M c') t.1 t.2 words (i : Nat) w h h2 (hSM.out t htm) (by rw [HM.out]; omega))
                    have hcase : (matchT t.2 words (i : Nat) = none ∧ (i < fr ∨ (fr ≤ i ∧ (k : Int) ≠ tp))) ∨ (∃ e : Nat, matchT t.2 words (i : Nat) = some e ∧ fr ≤ i ∧ e ≤ to ∧ (e = to → tp ≤ (k : Int)) ∧ ((k : Int) = tp → e = to)) := by
                      by_cases hfi : i < fr
                      · exact Or.inl ⟨H6.out i hi1 hfi k t ht, Or.inl hfi⟩
                      · obtain rfl : i = fr := by omega
                        obtain ⟨w1', w2'⟩ := H7.out hiM k t ht
                        cases hmt : matchT t.2 words (i : Nat) with
                        | none => exact Or.inl ⟨rfl, Or.inr ⟨Nat.le_refl _, fun q => by rw [w2' q] at hmt; cases hmt⟩⟩
                        | some e => exact Or.inr ⟨e, rfl, Nat.le_refl _, (w1' e hmt).1, (w1' e hmt).2, fun q => by rw [w2' q] at hmt; exact (Option.some.inj hmt).symm⟩
                    have HT := Lib.hid htr
                    have HWr := Lib.hid (HW.out.new hwn)
                    have x0 : (0 : Int) ≤ (k : Int) := by omega
                    have x1 : (k : Int) < (n : Int) := by omega
                    generalize matchT t.2 words (i : Nat) = mt at *
                    obtain ⟨nt, hnt⟩ : ∃ k, t.2.length = k := ⟨_, rfl⟩
                    rw [hnt] at d2 HMT HT
                    have hnb : New wr (wr.alloc (.cells #[.string t.1, .slice At nt ct] 25)) := (New.refl wr).alloc _
                    clear htr ht htm hnt
                    rcases hcase with ⟨rfl, hc⟩ | ⟨e, rfl, hfi, he1, he2, he3⟩
                    · rcases hc with hc | ⟨hc, hc2⟩
                      · have a5 : ((i : Int) == (fr : Int)) = false := beq_eq_false_iff_ne.2 (by omega)
                        go_wp2_with (go_at_call 25; refine (HMT.out _ (HT.out.new hnb) (HWr.out.new hnb)).mono ?_; rintro e w9 ⟨rfl, h9⟩; have y0 := (((B53.new hn4).new hn5).new (hnb.trans h9)).cell' 0 _ rfl; have y1 := (((B53.new hn4).new hn5).new (hnb.trans h9)).cell' 1 _ rfl; have y2 := (((B53.new hn4).new hn5).new (hnb.trans h9)).cell' 2 _ rfl)
                        go_roundw
                        case rel =>
                          first
                            | exact ⟨k + 1, by go_num, by omega, (hn5.trans hnb).trans h9⟩
                            | ((repeat apply Exists.intro); refine ⟨⟨k + 1, ?_, by omega, (hn5.trans hnb).trans h9⟩, rfl⟩; go_num)
                        case measure => simp [intOf]; omega
                      · have a5 : ((i : Int) == (fr : Int)) = true := beq_iff_eq.2 (by omega)
                        have a6 : ((k : Int) == tp) = false := beq_eq_false_iff_ne.2 hc2
                        go_wp2_with (go_at_call 25; refine (HMT.out _ (HT.out.new hnb) (HWr.out.new hnb)).mono ?_; rintro e w9 ⟨rfl, h9⟩; have y0 := (((B53.new hn4).new hn5).new (hnb.trans h9)).cell' 0 _ rfl; have y1 := (((B53.new hn4).new hn5).new (hnb.trans h9)).cell' 1 _ rfl; have y2 := (((B53.new hn4).new hn5).new (hnb.trans h9)).cell' 2 _ rfl)
                        go_roundw
                        case rel =>
                          first
                            | exact ⟨k + 1, by go_num, by omega, (hn5.trans hnb).trans h9⟩
                            | ((repeat apply Exists.intro); refine ⟨⟨k + 1, ?_, by omega, (hn5.trans hnb).trans h9⟩, rfl⟩; go_num)
                        case measure => simp [intOf]; omega
                    · have a1 : decide ((i : Int) < (fr : Int)) = false := decide_eq_false (by omega)
                      have a2 : decide ((to : Int) < (e : Int)) = false := decide_eq_false (by omega)
                      have a5 : ((i : Int) == (fr : Int)) = true := beq_iff_eq.2 (by omega)
                      by_cases hk2 : (k : Int) = tp
                      · have h3' := he3 hk2
                        have a3 : ((e : Int) == (to : Int)) = true := beq_iff_eq.2 (by omega)
                        have a4 : decide ((k : Int) < tp) = false := decide_eq_false (by omega)
                        have a6 : ((k : Int) == tp) = true := beq_iff_eq.2 hk2
                        have a7 : ((e : Int) != (to : Int)) = false := by rw [h3']; simp
                        clear he2 he3 hk2 h3'
                        go_wp2_with (go_at_call 25; refine (HMT.out _ (HT.out.new hnb) (HWr.out.new hnb)).mono ?_; rintro e w9 ⟨rfl, h9⟩; have y0 := (((B53.new hn4).new hn5).new (hnb.trans h9)).cell' 0 _ rfl; have y1 := (((B53.new hn4).new hn5).new (hnb.trans h9)).cell' 1 _ rfl; have y2 := (((B53.new hn4).new hn5).new (hnb.trans h9)).cell' 2 _ rfl)
                        go_roundw
                        case rel =>
                          first
                            | exact ⟨k + 1, by go_num, by omega, (hn5.trans hnb).trans h9⟩
                            | ((repeat apply Exists.intro); refine ⟨⟨k + 1, ?_, by omega, (hn5.trans hnb).trans h9⟩, rfl⟩; go_num)
                        case measure => simp [intOf]; omega
                      · have a6 : ((k : Int) == tp) = false := beq_eq_false_iff_ne.2 hk2
                        by_cases hk3 : e = to
                        · have a3 : ((e : Int) == (to : Int)) = true := beq_iff_eq.2 (by omega)
                          have h4' := he2 hk3
                          have a4 : decide ((k : Int) < tp) = false := decide_eq_false (by omega)
                          clear he2 he3 hk2 hk3
                          go_wp2_with (go_at_call 25; refine (HMT.out _ (HT.out.new hnb) (HWr.out.new hnb)).mono ?_; rintro e w9 ⟨rfl, h9⟩; have y0 := (((B53.new hn4).new hn5).new (hnb.trans h9)).cell' 0 _ rfl; have y1 := (((B53.new hn4).new hn5).new (hnb.trans h9)).cell' 1 _ rfl; have y2 := (((B53.new hn4).new hn5).new (hnb.trans h9)).cell' 2 _ rfl)
                          go_roundw
                          case rel =>
                            first
                              | exact ⟨k + 1, by go_num, by omega, (hn5.trans hnb).trans h9⟩
                              | ((repeat apply Exists.intro); refine ⟨⟨k + 1, ?_, by omega, (hn5.trans hnb).trans h9⟩, rfl⟩; go_num)
                          case measure => simp [intOf]; omega
                        · have a3 : ((e : Int) == (to : Int)) = false := beq_eq_false_iff_ne.2 (by omega)
                          clear he2 he3 hk2 hk3
                          go_wp2_with (go_at_call 25; refine (HMT.out _ (HT.out.new hnb) (HWr.out.new hnb)).mono ?_; rintro e w9 ⟨rfl, h9⟩; have y0 := (((B53.new hn4).new hn5).new (hnb.trans h9)).cell' 0 _ rfl; have y1 := (((B53.new hn4).new hn5).new (hnb.trans h9)).cell' 1 _ rfl; have y2 := (((B53.new hn4).new hn5).new (hnb.trans h9)).cell' 2 _ rfl)
                          go_roundw
                          case rel =>
                            first
                              | exact ⟨k + 1, by go_num, by omega, (hn5.trans hnb).trans h9⟩
                              | ((repeat apply Exists.intro); refine ⟨⟨k + 1, ?_, by omega, (hn5.trans hnb).trans h9⟩, rfl⟩; go_num)
                          case measure => simp [intOf]; omega
                  · obtain rfl : k = n := by omega
                    go_wp2
                    go_roundw
                    case rel =>
                      first
                        | exact ⟨i + 1, by go_num, by omega, by omega, hn4.trans hn5⟩
                        | ((repeat apply Exists.intro); refine ⟨⟨i + 1, ?_, by omega, by omega, hn4.trans hn5⟩, rfl⟩; go_num)
                    case measure => simp [intOf]; omega
              · have z2 : decide ((i : Int) < (M : Int)) = false := decide_eq_false (by omega)
                go_wp2
                go_roundw
                case rel =>
                  first
                    | exact ⟨j + 1, to, by go_num, rfl, by omega, s3, ((hnr.trans hob).trans hn4), Lib.hid H8.out⟩
                    | ((repeat apply Exists.intro); refine ⟨⟨j + 1, to, ?_, rfl, by omega, s3, ((hnr.trans hob).trans hn4), Lib.hid H8.out⟩, rfl⟩; go_num)
                case measure => simp [intOf]; omega
            · have z1 : decide ((i : Int) ≤ (fr : Int)) = false := decide_eq_false (by omega)
              go_wp2
              go_roundw
              case rel =>
                first
                  | exact ⟨j + 1, to, by go_num, rfl, by omega, s3, ((hnr.trans hob).trans hn4), Lib.hid H8.out⟩
                  | ((repeat apply Exists.intro); refine ⟨⟨j + 1, to, ?_, rfl, by omega, s3, ((hnr.trans hob).trans hn4), Lib.hid H8.out⟩, rfl⟩; go_num)
              case measure => simp [intOf]; omega
        · obtain rfl : j = nf + 1 := by omega
          go_wp2
          exact bodyPost_ret (v := .bool true) (by simp [results, Tryz.results8, go_sem]) rfl ⟨rfl, (hw2.trans h35).trans hnr⟩
  · have t1 : decide ((6 : Int) < (n : Int)) = true := decide_eq_true (by omega)
    go_enter Tryz.func8, Tryz.ntmps8
    go_wp2_with (go_at_call 9; refine (HA.out _).mono ?_; rintro e w0 ⟨rfl, h0⟩)
    go_ret
    exact ⟨rfl, h0⟩
end Go.Proofs.YtpoelhnceebmkaaGreatDoor
