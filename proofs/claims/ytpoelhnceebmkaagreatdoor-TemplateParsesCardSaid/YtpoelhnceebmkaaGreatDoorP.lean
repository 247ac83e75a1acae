/- template.Fill: the walk. No conditions but the sizes' own. -/
import Derived.Test.YtpoelhnceebmkaaGreatDoorO
import Derived.Deep.RegionHeld3
import Derived.Deep.AppendLies
namespace Go.Proofs.YtpoelhnceebmkaaGreatDoor
open Go Go.RowKit
set_option linter.unusedSimpArgs false
set_option linter.unusedVariables false

theorem retT {a b : Value} (h : a = b) : Ending.returned a = .returned b := by rw [h]
/-- Fill's two first words are of a size that does not matter. -/
def SzW (ws : List ByteArray) : Prop := ∀ x ∈ ws, x.size ≤ 1000000

theorem SzW.app {a b : List ByteArray} (h : SzW a) (k : SzW b) : SzW (a ++ b) := fun x hx => (List.mem_append.1 hx).elim (h x) (k x)
theorem cloneW (A : Option Addr) (c : Nat) (ws : List ByteArray) (h0 : ws ≠ []) (w : World) (hr : Rd w 1 A ws.length (sCells ws)) (hn : ws.length ≤ 1000000) :
    Calls Tryz.prog 48 #[.slice A ws.length c] w fun e w' => ∃ v, e = .returned v ∧ w'.ownsRow w.heap.size 9 1 v ws.length (sCells ws) ∧ New w w' := by
  have hl := List.length_pos_iff.2 h0
  obtain ⟨b, o, rfl, hb, hc⟩ := hr.2 hl
  refine (Tryz.slices_Clone_string b o ws.length c ws w (Nat.le_refl _) (by omega) (fun j hj => hc j _ (by simp [sCells, List.getD, hj]))).mono ?_
  rintro e w' ⟨v, rfl, h1, _, h2⟩
  exact ⟨v, rfl, own_to h1 rfl (by rw [List.take_of_length_le (Nat.le_refl _)]; rfl), h2⟩

set_option maxRecDepth 100000 in
set_option maxHeartbeats 4000000 in
theorem fill_any (v : Value) (nm : ByteArray) (ps : List Pt) (A : Option Addr) (c n : Nat) (ls : List (List ByteArray)) (w : World) (h : TRd w v nm ps) (hs : SmT ps) (hL : LsRd w A n ls) (hn : n ≤ 1000) (hzp : ∀ p ∈ ps, SzW p.2) (hzl : ∀ l ∈ ls, SzW l ∧ l.length ≤ 1000) :
    Calls Tryz.prog 19 #[v, .slice A n c] w fun e w' => e = .returned (.tuple #[.string (fillV ps ls).1, .int .i64 (fillV ps ls).2]) ∧ New w w' := by
  obtain ⟨i0, hi0, hz0, hz1, hz2⟩ := info_parts Tryz.info9'
  obtain ⟨Ap, cp, rfl, hcp1, hcp2, hp⟩ := h
  obtain ⟨np, hnp⟩ : ∃ k, ps.length = k := ⟨_, rfl⟩
  have HT : Hid (TRd w (.agg #[.string nm, .slice Ap np cp]) nm ps) := Lib.hid ⟨Ap, cp, by rw [hnp], hcp1, hcp2, hp⟩
  rw [hnp] at hp hcp1 ⊢
  have hnS : New w (w.alloc (.cells #[.string nm, .slice Ap np cp] 25)) := (New.refl w).alloc _
  have B0 := Blk.made w 25 #[.string nm, .slice Ap np cp]
  have b1 := B0.cell' 0 _ rfl
  have b2 := B0.cell' 1 _ rfl
  have HC := Lib.hid (check_any _ nm ps _ (HT.out.new hnS) hs)
  have HKO := Lib.hid (fun h => check_ok (ps := ps) h)
  have hnl := hL.1
  have hsl : np ≤ 1000 := by rw [← hnp]; exact hs.1
  have HM : Hid (fillV ps ls = if checkV ps ≠ 0 then (⟨#[]⟩, checkV ps) else if n + 1 ≠ np then (⟨#[]⟩, 9) else fillB ps ls) := Lib.hid (by rw [fillV, hnl, hnp])
  generalize fillV ps ls = R at *
  obtain ⟨R1, R2⟩ := R
  generalize checkV ps = ck at *
  by_cases hck : ck = 0
  · subst hck
    obtain ⟨p0, r, rfl, _, hne0, _, hh, htot⟩ := HKO.out rfl
    have hrl : r.length + 1 = np := by simpa using hnp
    by_cases hnn : n + 1 = np
    · have hR : (R1, R2) = fillGo p0.2 ls r := by have := HM.out; rw [if_neg (by simp), if_neg (by omega)] at this; exact this
      have HR := Lib.hid hR
      have u1 : IntKind.i64.wrap ((np : Int) - 1) = (n : Int) := by rw [IntWalk.i64_in _ (by omega)]; omega
      have hs1 := hs.2 p0 (by simp)
      have HZ := Lib.hid hzp
      have HZL := Lib.hid hzl
      have HH := Lib.hid hh
      have HP := Lib.hid hp
      have HLs := Lib.hid hL
      have HS2 := Lib.hid (fun p hp => hs.2 p (List.mem_cons_of_mem _ hp))
      -- what the first part is, in the world at the clone
      have HC0 : Hid (∀ W, New w W → ∃ b o A0 k0, Ap = some ⟨b, o, none⟩ ∧ W.cell? ⟨b, o + 1, none⟩ = some (.slice A0 p0.2.length k0) ∧ Rd W 1 A0 p0.2.length (sCells p0.2)) := Lib.hid (fun W hW => by
        obtain ⟨b, o, v0, p', e, hp', c1, c2, hw⟩ := (hp.new hW).at (i := 0) (by omega)
        obtain rfl : p0 = p' := by simpa using hp'
        obtain ⟨A0, k0, rfl, r1, r2, r3⟩ := hw
        simp only [Nat.zero_mul, Nat.add_zero] at c2
        exact ⟨b, o, A0, k0, e, c2, r3⟩)
      obtain ⟨bp, op, A00, k00, rfl, _⟩ := HC0.out w (New.refl w)
      have iz : (0 : Int) < (np : Int) := by omega
      clear hnp hR hzp hzl hh hp hL hs b1 b2 HKO HM
      go_enter Tryz.func19, Tryz.ntmps19
      go_wp2_with (first
        | (go_at_call 48; refine hcl.out.mono ?_; rintro e w2 ⟨v2, rfl, hown2, hn2⟩)
        | (go_at_call 21; refine HC.out.mono ?_; rintro e w1 ⟨rfl, hn1⟩; have k1 := (B0.new hn1).cell' 1 _ rfl; obtain ⟨bx, ox, A0, k0, eA, hc0, hw3⟩ := HC0.out w1 (hnS.trans hn1); cases eA; have hcl := Lib.hid (cloneW A0 k0 p0.2 hne0 w1 hw3 (by omega))))
      have B1 := B0.new hn1
      clear k1 hc0 hcl hw3
      go_loopw [7, 31] (fun v7 v31 wr => ∃ (i : Nat) (out : List ByteArray), v31 = .int .i64 i ∧ i ≤ n ∧ wr.ownsRow w1.heap.size 9 1 v7 out.length (sCells out) ∧ out.length ≤ 1000 + i * 2000 ∧ Hid (SzW out) ∧ New w1 wr ∧ Hid (fillGo out (ls.drop i) (r.drop i) = (R1, R2))) (fun _ v31 _ => n - (intOf v31).toNat)
      case atStart => exact ⟨0, p0.2, rfl, by omega, hown2, by omega, Lib.hid (HZ.out p0 (by simp)), hn2, Lib.hid HR.out.symm⟩
      case round =>
        obtain ⟨v7, hv7⟩ : ∃ x, x = u7 := ⟨_, rfl⟩
        subst hv7
        obtain ⟨i, out, rfl, hi, own, hol, HZo, hnr, HGo⟩ := hrel
        by_cases hlt : i < n
        · obtain ⟨bl, ol, vl, l, rfl, hll, c1, hwl⟩ := (HLs.out.new (hnS.trans hn1)).at hlt
          obtain ⟨bq, oq, vq, p', eq, hp', d1, d2, hwp⟩ := (HP.out.new (hnS.trans hn1)).at (i := i + 1) (by omega)
          cases eq
          have hpr : r[i]? = some p' := by simpa using hp'
          have hpm := List.mem_of_getElem? hpr
          obtain ⟨hp1, hp2, hpne, _⟩ := HH.out p' hpm
          have hpl := HS2.out p' hpm
          obtain ⟨hzl1, hzl2⟩ := HZL.out l (List.mem_of_getElem? hll)
          have hzp1 := HZ.out p' (List.mem_cons_of_mem _ hpm)
          have hgo := fillGo_at (out := out) hll hpr
          have HGo2 := HGo.out
          rw [hgo] at HGo2
          obtain ⟨Al, cl, rfl, hl1, hl2, hlr⟩ := hwl
          obtain ⟨Aq, cq, rfl, hq1, hq2, hqr⟩ := hwp
          obtain ⟨hz, hzi⟩ : ∃ h : Nat, p'.1 = (h : Int) := ⟨p'.1.toNat, by omega⟩
          rw [hzi] at d1 hp1 hp2 HGo2
          generalize p'.2 = ws at *
          have HF := Lib.hid (fun w hr => containsFn31 Al cl l.length l rfl w (by omega) hr)
          obtain ⟨nl, hnl⟩ : ∃ k, l.length = k := ⟨_, rfl⟩
          obtain ⟨nw, hnw⟩ : ∃ k, ws.length = k := ⟨_, rfl⟩
          have hnw0 : 0 < nw := by rw [← hnw]; exact List.length_pos_iff.2 hpne
          rw [hnl] at c1 hl1 hlr HF hzl2 HGo2
          rw [hnw] at d2 hq1 hqr hpl
          have c1r := cell_new hnr c1
          have d1r := cell_new hnr d1
          have d2r := cell_new hnr d2
          have HNl := Lib.hid hnl
          have HNw := Lib.hid hnw
          have u3 : IntKind.i64.wrap ((i : Int) + 1) = (i : Int) + 1 := IntWalk.i64_in _ (by omega)
          have u4 : ((i : Int) + 1).toNat = i + 1 := by omega
          have u5 : (0 : Int) ≤ (i : Int) + 1 := by omega
          have u6 : (i : Int) + 1 < (np : Int) := by omega
          have e2 := (B1.new hnr).cell' 1 _ rfl
          clear hnl hnw hpne hp' hpr hpm hgo hll c1 d1 d2
          by_cases hbig : (hz : Int) < (nl : Int)
          · rw [if_pos hbig] at HGo2
            injection HGo2 with hR1 hR2
            subst hR1 hR2
            clear hlr hqr
            go_wp2
            exact bodyPost_ret (v := .tuple #[.string ⟨#[]⟩, .int .i64 10]) (by simp [results, Tryz.results19, go_sem]) rfl ⟨rfl, ((hnS.trans hn1).trans hnr).alloc _⟩
          · rw [if_neg hbig] at HGo2
            cases hok : allOk l
            · rw [hok] at HGo2 HF
              rw [if_neg (by decide)] at HGo2
              injection HGo2 with hR1 hR2
              subst hR1 hR2
              clear hok
              go_wp2_with (go_at_call 49; refine (HF.out _ (hlr.below (hnr.alloc _))).mono ?_; rintro e w9 ⟨rfl, hn9⟩)
              exact bodyPost_ret (v := .tuple #[.string ⟨#[]⟩, .int .i64 2]) (by simp [results, Tryz.results19, go_sem]) rfl ⟨rfl, (((hnS.trans hn1).trans hnr).alloc _).trans hn9⟩
            · rw [hok] at HGo2 HF
              rw [if_pos rfl] at HGo2
              have HG3 := Lib.hid HGo2
              have BP := Blk.made wr 58 #[.int .i64 (hz : Int), .slice Aq nw cq]
              clear hok HGo2
              go_wp2_with (go_at_call 49; refine (HF.out _ (hlr.below (hnr.alloc _))).mono ?_; rintro e w9 ⟨rfl, hn9⟩)
              have own9 := own_new own ((New.refl wr).alloc (.cells #[.int .i64 (hz : Int), .slice Aq nw cq] 58) |>.trans hn9)
              have BP9 := (BP.new hn9).cell' 1 _ rfl
              have hw9 := hn9.size
              rw [World.size_alloc] at hw9
              have hwr := hnr.size
              have hneA : v7.ownBlock ≠ some wr.heap.size := fun e => by have := (own.lt _ e).2; omega
              have hnw9 : New w1 w9 := (hnr.alloc _).trans hn9
              obtain ⟨bq2, oq2, rfl, hbq2, hcq2⟩ := hqr.2 (by omega)
              have hnewq : ∀ j u, (sCells ws)[j]? = some u → w9.cell? ((⟨bq2, oq2, none⟩ : Addr).add j) = some u := fun j u hu => by
                rw [add_none rfl]; exact cell_new hnw9 (hcq2 j u hu)
              have hoq : (sCells ws).length = nw * 1 := by rw [sCells, List.length_map, HNw.out, Nat.mul_one]
              have hol2 : (sCells l).length = nl * 1 := by rw [sCells, List.length_map, HNl.out, Nat.mul_one]
              clear hqr hcq2
              by_cases hl0 : 0 < nl
              · obtain ⟨bl2, ol2, rfl, hbl2, hcl2⟩ := hlr.2 (by omega)
                have hnewl : ∀ j u, (sCells l)[j]? = some u → w9.cell? ((⟨bl2, ol2, none⟩ : Addr).add j) = some u := fun j u hu => by
                  rw [add_none rfl]; exact cell_new hnw9 (hcl2 j u hu)
                clear hlr hcl2
                go_region_held3 (fun W => W.cell? ⟨wr.heap.size, 1, none⟩ = some (.slice (some ⟨bq2, oq2, none⟩) nw cq)) (first | go_keep | exact hgrowB.cell (by assumption) (fun e => hneB (Option.some.inj e).symm) | exact hgrowA.cell (by assumption) (Ne.symm hneA)) (first | (refine step_append_lies _ (by rfl) _ _ _ (by rfl) w1.heap.size 9 i0 (.string ⟨#[]⟩) 1 16 Tryz.underlying37 hi0 hz0 hz1 hz2 rfl (by omega) _ _ _ (by rfl) hownA ⟨bq2, oq2, none⟩ nw cq (sCells ws) (by rfl) hoq (fun j u hu => hgrowA.cell (hnewq j u hu) (by rw [add_none rfl]; exact hneQ)) (by simp [sCells, Value.oneCell']) (by omega) (by simp [maxLen]; omega) (by omega) (by omega) w10.heap.size rfl ?_; intro gg2 cap2 w11 hownB hgrowB hatB hltB) | (refine step_append_lies _ (by rfl) _ _ _ (by rfl) w1.heap.size 9 i0 (.string ⟨#[]⟩) 1 16 Tryz.underlying37 hi0 hz0 hz1 hz2 rfl (by omega) _ _ _ (by rfl) own9.drew ⟨bl2, ol2, none⟩ nl cl (sCells l) (by rfl) hol2 hnewl (by simp [sCells, Value.oneCell']) (by omega) (by simp [maxLen]; omega) (by omega) (by simp; omega) w9.heap.size (by simp) ?_; intro gg cap w10 hownA hgrowA hatA hltA; have hneB : gg ≠ wr.heap.size := (by rcases hatA with e | e; exact fun e' => hneA (by rw [e, e']); omega); have hneQ : some bq2 ≠ v7.ownBlock := (fun e => by have := (own.lt _ e.symm).1; omega); have hsA : w9.heap.size ≤ w10.heap.size := hgrowA.size))
                go_wp2
                go_roundw
                case rel => exact ⟨i + 1, out ++ l ++ ws, by go_num, by omega, own_to hownB (by rw [List.length_append, List.length_append, HNl.out, HNw.out]) (by rw [sCells_app, sCells_app]), by rw [List.length_append, List.length_append, HNl.out, HNw.out]; omega, Lib.hid (SzW.app (SzW.app HZo.out hzl1) hzp1), Below.grown (Below.grown hnw9.drew hgrowA hnw9.drew.size (fun q hq => (own.lt q hq).1)) hgrowB (by omega) (fun q hq => (hownA.lt q hq).1), HG3⟩
                case measure => simp [intOf]; omega
              · obtain rfl : nl = 0 := by omega
                obtain rfl : l = [] := List.eq_nil_of_length_eq_zero HNl.out
                rw [List.append_nil] at HG3
                clear hlr
                go_region_held3 (fun W => W.cell? ⟨wr.heap.size, 1, none⟩ = some (.slice (some ⟨bq2, oq2, none⟩) nw cq)) (first | go_keep | exact hgrowB.cell (by assumption) (Ne.symm hneA)) (first | (refine step_append_lies _ (by rfl) _ _ _ (by rfl) w1.heap.size 9 i0 (.string ⟨#[]⟩) 1 16 Tryz.underlying37 hi0 hz0 hz1 hz2 rfl (by omega) _ _ _ (by rfl) own9.drew ⟨bq2, oq2, none⟩ nw cq (sCells ws) (by rfl) hoq hnewq (by simp [sCells, Value.oneCell']) (by omega) (by simp [maxLen]; omega) (by omega) (by simp; omega) w9.heap.size (by simp) ?_; intro gg2 cap2 w11 hownB hgrowB hatB hltB) | (refine step_app_nothing (by rfl) _ _ (by rfl) own9.drew Al cl (by rfl) (by rfl) ?_) | fail)
                go_wp2
                go_roundw
                case rel => exact ⟨i + 1, out ++ ws, by go_num, by omega, own_to hownB (by rw [List.length_append, HNw.out]) (by rw [sCells_app]), by rw [List.length_append, HNw.out]; omega, Lib.hid (SzW.app HZo.out hzp1), Below.grown hnw9.drew hgrowB hnw9.drew.size (fun q hq => (own.lt q hq).1), HG3⟩
                case measure => simp [intOf]; omega
        · obtain rfl : i = n := by omega
          have hF : (R1, R2) = (joinV out, 0) := by
            have := HGo.out
            rw [List.drop_of_length_le (show ls.length ≤ i by rw [HLs.out.1]; exact Nat.le_refl _), fillGo] at this
            · exact this.symm
            · intro _ _ _ _ h; cases h
          injection hF with hF1 hF2
          obtain ⟨m, hm⟩ : ∃ k, out.length = k := ⟨_, rfl⟩
          rw [hm] at own hol
          obtain ⟨A9, c9, rfl, q1, q2, q3⟩ := own_form own
          have HJ := Lib.hid (joinL_any A9 m c9 out hm wr q3 q1 (by omega) HZo.out)
          rw [← hF1] at HJ
          subst hF2
          clear hm q3 hF1
          go_wp2_with (go_at_call 45; refine HJ.out.mono ?_; rintro e w3 ⟨rfl, hn3⟩)
          exact bodyPost_ret (v := .tuple #[.string R1, .int .i64 0]) (by simp [results, Tryz.results19, go_sem]) rfl ⟨rfl, ((hnS.trans hn1).trans hnr).trans hn3⟩
    · have hR := HM.out
      rw [if_neg (by simp), if_pos hnn] at hR
      injection hR with hR1 hR2
      subst hR1 hR2
      have u1 : IntKind.i64.wrap ((np : Int) - 1) = (np : Int) - 1 := IntWalk.i64_in _ (by omega)
      have t1 : ((n : Int) == (np : Int) - 1) = false := beq_eq_false_iff_ne.2 (by omega)
      clear hnp hnl
      go_enter Tryz.func19, Tryz.ntmps19
      go_wp2_with (go_at_call 21; refine HC.out.mono ?_; rintro e w1 ⟨rfl, hn1⟩; have k1 := (B0.new hn1).cell' 1 _ rfl)
      exact bodyPost_ret (v := .tuple #[.string ⟨#[]⟩, .int .i64 9]) (by simp [results, Tryz.results19, go_sem]) rfl ⟨rfl, hnS.trans hn1⟩
  · have hR := HM.out
    rw [if_pos hck] at hR
    injection hR with hR1 hR2
    subst hR1 hR2
    have c1 : (R2 == 0) = false := beq_eq_false_iff_ne.2 hck
    go_enter Tryz.func19, Tryz.ntmps19
    go_wp2_with (go_at_call 21; refine HC.out.mono ?_; rintro e w1 ⟨rfl, hn1⟩)
    exact bodyPost_ret (v := .tuple #[.string ⟨#[]⟩, .int .i64 R2]) (by simp [results, Tryz.results19, go_sem]) rfl ⟨rfl, hnS.trans hn1⟩
end Go.Proofs.YtpoelhnceebmkaaGreatDoor
