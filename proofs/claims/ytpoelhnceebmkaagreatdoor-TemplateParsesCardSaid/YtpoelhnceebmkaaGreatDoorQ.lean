/- template.Format: the walk. No conditions but the sizes' own. -/
import Derived.Test.YtpoelhnceebmkaaGreatDoorP
namespace Go.Proofs.YtpoelhnceebmkaaGreatDoor
open Go Go.RowKit
set_option linter.unusedSimpArgs false
set_option linter.unusedVariables false

theorem fmtL_at {out : List ByteArray} {r : List Pt} {i : Nat} {p : Pt} (hp : r[i]? = some p) : fmtL out (r.drop i) = fmtL (out ++ [holeS p.1] ++ p.2) (r.drop (i + 1)) := by
  obtain ⟨h2, e2⟩ := List.getElem?_eq_some_iff.1 hp
  rw [List.drop_eq_getElem_cons h2, fmtL, e2]
theorem dec_len {h : Nat} (hh : h < 100) : (Lib.decDigits h).length ≤ 2 := by
  have : ∀ k : Fin 100, (Lib.decDigits k.1).length ≤ 2 := by
    intro k
    by_cases h1 : k.1 < 10
    · rw [Lib.decDigits]; simp [h1]
    · rw [Lib.decDigits, Lib.decDigits]; have := k.2; simp [h1, show k.1 / 10 < 10 by omega]
  exact this ⟨h, hh⟩

set_option maxRecDepth 100000 in
set_option maxHeartbeats 4000000 in
theorem format_any (v : Value) (nm : ByteArray) (ps : List Pt) (w : World) (h : TRd w v nm ps) (hs : SmT ps) (hzp : ∀ p ∈ ps, SzW p.2) :
    Calls Tryz.prog 17 #[v] w fun e w' => e = .returned (.tuple #[.string (formatV ps).1, .int .i64 (formatV ps).2]) ∧ New w w' := by
  obtain ⟨j0, hi0, hz0, hz1, hz2⟩ := info_parts Tryz.info9'
  obtain ⟨Ap, cp, rfl, hcp1, hcp2, hp⟩ := h
  obtain ⟨np, hnp⟩ : ∃ k, ps.length = k := ⟨_, rfl⟩
  have HT : Hid (TRd w (.agg #[.string nm, .slice Ap np cp]) nm ps) := Lib.hid ⟨Ap, cp, by rw [hnp], hcp1, hcp2, hp⟩
  rw [hnp] at hp hcp1 ⊢
  have hnS : New w (w.alloc (.cells #[.string nm, .slice Ap np cp] 25)) := (New.refl w).alloc _
  have B0 := Blk.made w 25 #[.string nm, .slice Ap np cp]
  have b1 := B0.cell' 0 _ rfl
  have b2 := B0.cell' 1 _ rfl
  have HC := Lib.hid (check_any _ nm ps _ (HT.out.new hnS) hs)
  have HKO := Lib.hid (fun h => check_ok (ps := ps) h)
  have hsl : np ≤ 1000 := by rw [← hnp]; exact hs.1
  have HM : Hid (formatV ps = if checkV ps ≠ 0 then (⟨#[]⟩, checkV ps) else fmtB ps) := Lib.hid rfl
  generalize formatV ps = R at *
  obtain ⟨R1, R2⟩ := R
  generalize checkV ps = ck at *
  by_cases hck : ck = 0
  · subst hck
    obtain ⟨p0, r, rfl, -, hne0, -, hh, htot⟩ := HKO.out rfl
    have hrl : r.length + 1 = np := by simpa using hnp
    have hR : (R1, R2) = (joinV (fmtL p0.2 r), 0) := by have := HM.out; rw [if_neg (by simp)] at this; exact this
    injection hR with hR1 hR2
    subst hR2
    have HR := Lib.hid hR1
    have HZ := Lib.hid hzp
    have HH := Lib.hid hh
    have HP := Lib.hid hp
    have HS2 := Lib.hid (fun p hp => hs.2 p hp)
    clear hnp hR1 hzp hh hp hs b1 b2 HKO HM
    go_enter Tryz.func17, Tryz.ntmps17
    go_wp2_with (go_at_call 21; refine HC.out.mono ?_; rintro e w1 ⟨rfl, hn1⟩; have k1 := (B0.new hn1).cell' 1 _ rfl)
    have B1 := B0.new hn1
    clear k1
    go_loopw [5, 16] (fun v5 v16 wr => ∃ (i : Nat) (out : List ByteArray), v16 = .int .i64 i ∧ i ≤ np ∧ wr.ownsRow w1.heap.size 9 1 v5 out.length (sCells out) ∧ out.length ≤ i * 2000 ∧ Hid (SzW out) ∧ New w1 wr ∧ Hid ((i = 0 → out = []) ∧ (0 < i → fmtL out (r.drop (i - 1)) = fmtL p0.2 r))) (fun _ v16 _ => np - (intOf v16).toNat)
    case atStart => exact ⟨0, [], rfl, by omega, World.ownsRow_nil _ _ _ _, by simp, Lib.hid (fun x hx => by cases hx), New.refl _, Lib.hid ⟨fun _ => rfl, fun h => by omega⟩⟩
    case round =>
      obtain ⟨v5, hv5⟩ : ∃ x, x = u5 := ⟨_, rfl⟩
      subst hv5
      obtain ⟨i, out, rfl, hi, own, hol, HZo, hnr, HGo⟩ := hrel
      by_cases hlt : i < np
      · obtain ⟨bq, oq, vq, p', eq, hp', d1, d2, hwp⟩ := (HP.out.new (hnS.trans hn1)).at hlt
        subst eq
        have hpm := List.mem_of_getElem? hp'
        have hpl := HS2.out p' hpm
        have hzp1 := HZ.out p' hpm
        obtain ⟨Aq, cq, rfl, hq1, hq2, hqr⟩ := hwp
        have d1r := cell_new hnr d1
        have d2r := cell_new hnr d2
        have hwr := hnr.size
        have BP := Blk.made wr 58 #[.int .i64 p'.1, .slice Aq p'.2.length cq]
        by_cases hi9 : i = 0
        · subst hi9
          obtain rfl : p0 = p' := by simpa using hp'
          have hq0 := List.length_pos_iff.2 hne0
          obtain ⟨bq2, oq2, rfl, hbq2, hcq2⟩ := hqr.2 (by omega)
          obtain rfl : out = [] := HGo.out.1 rfl
          have hnewq : ∀ j u, (sCells p0.2)[j]? = some u → (wr.alloc (.cells #[.int .i64 p0.1, .slice (some ⟨bq2, oq2, none⟩) p0.2.length cq] 58)).cell? ((⟨bq2, oq2, none⟩ : Addr).add j) = some u := fun j u hu => by
            rw [add_none rfl]; exact cell_new (hnr.alloc _) (hcq2 j u hu)
          simp only [Nat.zero_mul, Nat.add_zero] at d1r d2r
          clear d1 d2 hqr hcq2
          go_wp2_with (at_builtin; refine wpList_append_own _ rfl (.tmp 31) (.tmp 33) 37 rfl w1.heap.size 9 j0 (.string ⟨#[]⟩) 1 16 Tryz.underlying37 hi0 hz0 hz1 hz2 rfl (by decide) _ _ _ rfl (own.alloc _) ⟨bq2, oq2, none⟩ p0.2.length cq (sCells p0.2) rfl (by simp [sCells]) hnewq ?c2 ?c3 ?c4 ?c5 ?_)
          case c2 => simp [sCells, Value.oneCell']
          case c3 => simp [maxLen]; omega
          case c4 => first | omega | (simp; omega)
          case c5 => first | omega | (simp; omega)
          intro v' w2 hown hg _
          go_wp2
          go_roundw
          case rel => exact ⟨0 + 1, p0.2, by go_num, by omega, own_to hown (by simp) (by simp [sCells]), by omega, Lib.hid hzp1, Below.grown (hnr.alloc _) hg (by simp; omega) (fun q hq => (own.lt q hq).1), Lib.hid ⟨fun h => by omega, fun _ => rfl⟩⟩
          case measure => simp [intOf]; omega
        · have hpr : r[i - 1]? = some p' := by
            obtain ⟨k, rfl⟩ : ∃ k, i = k + 1 := ⟨i - 1, by omega⟩
            simpa using hp'
          obtain ⟨hp1, hp2, hpne, _⟩ := HH.out p' (List.mem_of_getElem? hpr)
          have hgo := fmtL_at (out := out) hpr
          rw [HGo.out.2 (by omega), show i - 1 + 1 = i by omega] at hgo
          obtain ⟨hz, hzi⟩ : ∃ h : Nat, p'.1 = (h : Int) := ⟨p'.1.toNat, by omega⟩
          have hq0 := List.length_pos_iff.2 hpne
          rw [hzi] at d1 d1r hp1 hp2 hgo BP
          have HI := Lib.hid (fun w => Tryz.strconv_Itoa_small hz (by omega) w)
          have hdl := dec_len (h := hz) (by omega)
          have hhs : holeS (hz : Int) = ⟨#[123]⟩ ++ (⟨(Lib.decDigits hz).toArray⟩ : ByteArray) ++ (⟨#[125]⟩ : ByteArray) := rfl
          have hds : (⟨(Lib.decDigits hz).toArray⟩ : ByteArray).size ≤ 2 := by simpa [ByteArray.size] using hdl
          obtain ⟨hd, hhd⟩ : ∃ x, (⟨(Lib.decDigits hz).toArray⟩ : ByteArray) = x := ⟨_, rfl⟩
          rw [hhd] at HI hhs hds
          have hsz : (holeS (hz : Int)).size ≤ 4 := by rw [hhs, ByteArray.size_append, ByteArray.size_append]; show 1 + _ + 1 ≤ 4; omega
          have x0 : ¬ (9223372036854775807 < 1 + hd.size) := by omega
          have x1 : ¬ (9223372036854775807 < 1 + hd.size + 1) := by omega
          obtain ⟨hs9, hhs9⟩ : ∃ x, holeS (hz : Int) = x := ⟨_, rfl⟩
          rw [hhs9] at hhs hsz hgo
          subst hhs
          have HGo2 := Lib.hid hgo
          have HDS := Lib.hid hsz
          obtain ⟨bq2, oq2, rfl, hbq2, hcq2⟩ := hqr.2 (by omega)
          have hlt0 : (0 : Int) < (i : Int) := by omega
          have hneA : v5.ownBlock ≠ some wr.heap.size := fun e => by have := (own.lt _ e).2; omega
          have hneQ : some bq2 ≠ v5.ownBlock := fun e => by have := (own.lt _ e.symm).1; omega
          generalize p'.2 = ws at *
          clear d1 d2 hqr hhd hdl hgo hi9 hsz hpr hp' hpm hzi
          obtain ⟨hfull, hfe⟩ : ∃ x : ByteArray, x = (⟨#[123]⟩ : ByteArray) ++ hd ++ (⟨#[125]⟩ : ByteArray) := ⟨_, rfl⟩
          go_wp2_with (first
            | (at_builtin; refine wpList_append_own _ rfl (.tmp 23) (.tmp 29) 37 rfl w1.heap.size 9 j0 (.string ⟨#[]⟩) 1 16 Tryz.underlying37 hi0 hz0 hz1 hz2 rfl (by decide) _ _ _ rfl ((own.alloc _).alloc _) ⟨wr.heap.size + 1, 0, none⟩ 1 1 [.string hfull] rfl rfl ?c1 ?c2 ?c3 ?c4 ?c5 ?_)
            | (go_at_call 44; refine (HI.out _).mono ?_; rintro e w9 ⟨rfl, rfl⟩))
          all_goals subst hfe
          case c1 => simpa only [World.size_alloc] using cell_one_new (wr.alloc (.cells #[.int .i64 (hz : Int), .slice (some ⟨bq2, oq2, none⟩) ws.length cq] 58)) (.string _) 9
          case c2 => simp [Value.oneCell']
          case c3 => simp [maxLen]; omega
          case c4 => omega
          case c5 => simp; omega
          intro v2 w2 hown2 hg2 _
          have k9 := hg2.cell ((BP.alloc (.cells #[.string ((⟨#[123]⟩ : ByteArray) ++ hd ++ (⟨#[125]⟩ : ByteArray))] 9)).cell' 1 _ rfl) (Ne.symm hneA)
          have hnewq : ∀ j u, (sCells ws)[j]? = some u → w2.cell? ((⟨bq2, oq2, none⟩ : Addr).add j) = some u := fun j u hu => hg2.cell (cell_new ((hnr.alloc _).alloc _) (by rw [add_none rfl]; exact hcq2 j u hu)) (by rw [add_none rfl]; exact hneQ)
          have hsz2 := hg2.size
          simp only [World.size_alloc] at hsz2
          have hnw2 : New w1 w2 := Below.grown ((hnr.alloc _).alloc _) hg2 (by simp; omega) (fun q hq => (own.lt q hq).1)
          clear hcq2 hg2
          go_wp2_with (at_builtin; refine wpList_append_own _ rfl (.tmp 31) (.tmp 33) 37 rfl w1.heap.size 9 j0 (.string ⟨#[]⟩) 1 16 Tryz.underlying37 hi0 hz0 hz1 hz2 rfl (by decide) _ _ _ rfl hown2 ⟨bq2, oq2, none⟩ ws.length cq (sCells ws) rfl (by simp [sCells]) hnewq ?c2 ?c3 ?c4 ?c5 ?_)
          case c2 => simp [sCells, Value.oneCell']
          case c3 => simp [maxLen]; omega
          case c4 => omega
          case c5 => omega
          intro v3 w3 hown3 hg3 _
          go_wp2
          go_roundw
          case rel => exact ⟨i + 1, out ++ [(⟨#[123]⟩ : ByteArray) ++ hd ++ (⟨#[125]⟩ : ByteArray)] ++ ws, by go_num, by omega, own_to hown3 (by simp; omega) (by simp [sCells]), by simp; omega, Lib.hid (SzW.app (SzW.app HZo.out (fun x hx => by rw [List.mem_singleton.1 hx]; have := HDS.out; omega)) hzp1), Below.grown hnw2 hg3 hnw2.size (fun q hq => (hown2.lt q hq).1), Lib.hid ⟨fun h => by omega, fun _ => HGo2.out.symm⟩⟩
          case measure => simp [intOf]; omega
      · obtain rfl : i = np := by omega
        have hF : R1 = joinV out := by
          rw [HR.out]
          have := HGo.out.2 (by omega)
          rw [List.drop_of_length_le (by omega), fmtL] at this
          rw [← this]
        obtain ⟨m, hm⟩ : ∃ k, out.length = k := ⟨_, rfl⟩
        rw [hm] at own hol
        obtain ⟨A9, c9, rfl, q1, q2, q3⟩ := own_form own
        have HJ := Lib.hid (joinL_any A9 m c9 out hm wr q3 q1 (by omega) HZo.out)
        rw [← hF] at HJ
        clear hm q3 hF
        go_wp2_with (go_at_call 45; refine HJ.out.mono ?_; rintro e w3 ⟨rfl, hn3⟩)
        exact bodyPost_ret (v := .tuple #[.string R1, .int .i64 0]) (by simp [results, Tryz.results17, go_sem]) rfl ⟨rfl, ((hnS.trans hn1).trans hnr).trans hn3⟩
  · have hR := HM.out
    rw [if_pos hck] at hR
    injection hR with hR1 hR2
    subst hR1 hR2
    have c1 : (R2 == 0) = false := beq_eq_false_iff_ne.2 hck
    go_enter Tryz.func17, Tryz.ntmps17
    go_wp2_with (go_at_call 21; refine HC.out.mono ?_; rintro e w1 ⟨rfl, hn1⟩)
    exact bodyPost_ret (v := .tuple #[.string ⟨#[]⟩, .int .i64 R2]) (by simp [results, Tryz.results17, go_sem]) rfl ⟨rfl, hnS.trans hn1⟩
end Go.Proofs.YtpoelhnceebmkaaGreatDoor
