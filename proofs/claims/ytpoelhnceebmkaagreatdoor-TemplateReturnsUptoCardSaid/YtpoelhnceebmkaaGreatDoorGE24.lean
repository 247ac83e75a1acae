/- The reference's Fill answers as the program's: fillV. No conditions but the sizes' own. Lists of fillers that are short; templates and fillers that Few and Short let by. No conditions but the sizes' own. The law TemplateChecks, walked: true at every template and fillers whose strings are no longer than 2000000 bytes. -/
import Derived.Test.YtpoelhnceebmkaaGreatDoorGE21
import Derived.Deep.RegionHeld3

namespace Go.Proofs.YtpoelhnceebmkaaGreatDoor
open Go Go.RowKit Go.Shelf
set_option linter.unusedSimpArgs false
set_option linter.unusedVariables false

/-- Appending a list of strings that is read as data, an empty one too. -/
theorem wpList_append_rd {w : World} {ops : Array Oper} {rest : List Oper} {o : Oper} {a : Act} {Q : Exit → Act → World → Prop} (hgd : o.guard = none) (s x : Operand)
    (ho : o.op = .call { callee := .builtin .append, args := #[s, x], argTypes := #[37, 37] })
    (base : Nat) (v : Value) (n : Nat) (xs : List Value) (hs : a.eval s = v) (hown : w.ownsRow base 9 1 v n xs)
    (A : Option Addr) (m c : Nat) (ws : List ByteArray) (hx : a.eval x = .slice A m c) (hr : Rd w 1 A m (sCells ws))
    (h63 : n + m ≤ 1000000000) (hbase : base ≤ w.heap.size)
    (h : ∀ v' w', w'.ownsRow base 9 1 v' (n + m) (xs ++ sCells ws) → w.grownBy w' v.ownBlock → wpList Tryz.prog ops Q rest (a.put o.dst v') w') : wpList Tryz.prog ops Q (o :: rest) a w := by
  obtain ⟨j0, hi0, hz0, hz1, hz2⟩ := info_parts Tryz.info9'
  by_cases hm : 0 < m
  · obtain ⟨b, q, rfl, hb, hc⟩ := hr.2 hm
    exact wpList_append_own _ hgd s x 37 ho base 9 j0 (.string ⟨#[]⟩) 1 16 Tryz.underlying37 hi0 hz0 hz1 hz2 rfl (by decide) v n xs hs hown ⟨b, q, none⟩ m c (sCells ws) hx hr.1 (fun j u hu => by rw [add_none rfl]; exact hc j u hu) (by simp [sCells, Value.oneCell'])
      (by simp only [maxLen]; omega) (by omega) hbase (fun v' w' h1 h2 _ => h v' w' h1 h2)
  · obtain rfl : m = 0 := by omega
    have hw : ws = [] := by have := hr.1; rw [sCells, List.length_map] at this; exact List.eq_nil_of_length_eq_zero (by omega)
    subst hw
    have hrun := app_nothing hown A c o.type
    refine wpList_plain hgd fun K hK => ?_
    unfold Oper.wp
    simp [execOp, ho, resolve, invoke, builtin, hs, hx, hrun, Result.andThen]
    exact hK _ _ (h v w (by simpa [sCells] using hown) ⟨rfl, rfl, rfl, Nat.le_refl _, fun _ _ _ => rfl⟩)

theorem allOk_take {l : List ByteArray} {k : Nat} {x : ByteArray} (h : l[k]? = some x) (h1 : allOk (l.take k) = true) (h2 : okW x = true) : allOk (l.take (k + 1)) = true := by
  obtain ⟨hk, rfl⟩ := List.getElem?_eq_some_iff.1 h
  rw [List.take_succ_eq_append_getElem hk]
  unfold allOk at h1 ⊢
  simp only [List.all_append, List.all_cons, List.all_nil, h2, Bool.and_true]
  exact h1
set_option maxRecDepth 100000 in
set_option maxHeartbeats 8000000 in
theorem rfill_any (v : Value) (nm : ByteArray) (ps : List Pt) (A : Option Addr) (c n : Nat) (ls : List (List ByteArray)) (w : World) (h : TRd w v nm ps) (hs : SmT ps) (hL : LsRd w A n ls) (hn : n ≤ 1000) (hzp : ∀ p ∈ ps, SzW p.2) (hzl : ∀ l ∈ ls, SzW l ∧ l.length ≤ 1000) :
    Calls Tryz.prog 20 #[v, .slice A n c] w fun e w' => e = .returned (.tuple #[.string (fillV ps ls).1, .int .i64 (fillV ps ls).2]) ∧ New w w' := by
  obtain ⟨Ap, cp, rfl, hcp1, hcp2, hp⟩ := h
  obtain ⟨np, hnp⟩ : ∃ k, ps.length = k := ⟨_, rfl⟩
  have HT : Hid (TRd w (.agg #[.string nm, .slice Ap np cp]) nm ps) := Lib.hid ⟨Ap, cp, by rw [hnp], hcp1, hcp2, hp⟩
  rw [hnp] at hp hcp1 ⊢
  have hnS : New w (w.alloc (.cells #[.string nm, .slice Ap np cp] 25)) := (New.refl w).alloc _
  have B0 := Blk.made w 25 #[.string nm, .slice Ap np cp]
  have b1 := B0.cell' 0 _ rfl
  have b2 := B0.cell' 1 _ rfl
  have HC := Lib.hid (rcheck_any _ nm ps _ (HT.out.new hnS) hs (fun p hp x hx => Nat.le_trans (hzp p hp x hx) (by omega)))
  have HKO := Lib.hid (fun h => check_ok (ps := ps) h)
  have hnl := hL.1
  have hsl : np ≤ 1000 := by rw [← hnp]; exact hs.1
  have HM : Hid (fillV ps ls = if checkV ps ≠ 0 then (⟨#[]⟩, checkV ps) else if n + 1 ≠ np then (⟨#[]⟩, 9) else fillB ps ls) := Lib.hid (by rw [fillV, hnl, hnp])
  generalize fillV ps ls = R at *
  obtain ⟨R1, R2⟩ := R
  generalize checkV ps = ck at *
  by_cases hck : ck = 0
  · subst hck
    obtain ⟨p0, r, rfl, _, hne0, _, hh, htot⟩ := HKO.out rfl
    have hrl : r.length + 1 = np := by simpa using hnp
    by_cases hnn : n + 1 = np
    · have hR : (R1, R2) = fillGo p0.2 ls r := by have := HM.out; rw [if_neg (by simp), if_neg (by omega)] at this; exact this
      have HR := Lib.hid hR
      have u1 : IntKind.i64.wrap ((np : Int) - 1) = (n : Int) := by rw [IntWalk.i64_in _ (by omega)]; omega
      have hs1 := hs.2 p0 (by simp)
      have HZ := Lib.hid hzp
      have HZL := Lib.hid hzl
      have HH := Lib.hid hh
      have HP := Lib.hid hp
      have HLs := Lib.hid hL
      have HS2 := Lib.hid (fun p hp => hs.2 p (List.mem_cons_of_mem _ hp))
      -- what the first part is, in the world at the append
      have HC0 : Hid (∀ W, New w W → ∃ b o A0 k0, Ap = some ⟨b, o, none⟩ ∧ W.cell? ⟨b, o + 1, none⟩ = some (.slice A0 p0.2.length k0) ∧ Rd W 1 A0 p0.2.length (sCells p0.2)) := Lib.hid (fun W hW => by
        obtain ⟨b, o, v0, p', e, hp', c1, c2, hw⟩ := (hp.new hW).at (i := 0) (by omega)
        obtain rfl : p0 = p' := by simpa using hp'
        obtain ⟨A0, k0, rfl, r1, r2, r3⟩ := hw
        simp only [Nat.zero_mul, Nat.add_zero] at c2
        exact ⟨b, o, A0, k0, e, c2, r3⟩)
      obtain ⟨bp, op, A00, k00, rfl, _⟩ := HC0.out w (New.refl w)
      have iz : (0 : Int) < (np : Int) := by omega
      clear hnp hR hzp hzl hh hp hL hs b1 b2 HKO HM
      go_enter Tryz.func20, Tryz.ntmps20
      go_wp2_with (first
        | (at_builtin; refine wpList_append_rd rfl (.tmp 22) (.tmp 27) rfl w1.heap.size (.slice (some ⟨w1.heap.size, 0, none⟩) 0 0) 0 [] rfl ho1 A0 p0.2.length k0 p0.2 rfl hw4 (by omega) (by simp) ?_; intro v2 w2 hown2 hg2)
        | (go_at_call 22; refine HC.out.mono ?_; rintro e w1 ⟨rfl, hn1⟩; have k1 := (B0.new hn1).cell' 1 _ rfl; obtain ⟨bx, ox, A0, k0, eA, hc0, hw3⟩ := HC0.out w1 (hnS.trans hn1); cases eA; have ho1 : (w1.alloc (.cells #[] 9)).ownsRow w1.heap.size 9 1 (.slice (some ⟨w1.heap.size, 0, none⟩) 0 0) 0 [] := ⟨rfl, .inr ⟨w1.heap.size, 0, #[], rfl, Nat.le_refl _, (Blk.made w1 9 #[]), Nat.le_refl _, by simp [maxLen], rfl, rfl⟩⟩; have hnA := (New.refl w1).alloc (.cells #[] 9); have hw4 := hw3.below hnA; have hc1 := cell_new hnA hc0; have k2 := cell_new hnA k1))
      have B1 := B0.new hn1
      have hB1 : w.heap.size < w1.heap.size := B1.lt
      have hn2 : New w1 w2 := Below.grown hnA hg2 (by simp) (fun q hq => (ho1.lt q hq).1)
      clear k1 hc0 hw3 hc1 k2 hw4 hg2
      go_loopw [7, 8] (fun v7 v8 wr => ∃ (i : Nat) (out : List ByteArray), v8 = .int .i64 i ∧ i ≤ n ∧ wr.ownsRow w1.heap.size 9 1 v7 out.length (sCells out) ∧ out.length ≤ 1000 + i * 2000 ∧ Hid (SzW out) ∧ New w1 wr ∧ Hid (fillGo out (ls.drop i) (r.drop i) = (R1, R2))) (fun _ v8 _ => n - (intOf v8).toNat)
      case atStart => exact ⟨0, p0.2, rfl, by omega, own_to hown2 (by simp) (by simp), by omega, Lib.hid (HZ.out p0 (by simp)), hn2, Lib.hid HR.out.symm⟩
      case round =>
        clear hown2 hn2 ho1
        obtain ⟨v7, hv7⟩ : ∃ x, x = u7 := ⟨_, rfl⟩
        subst hv7
        obtain ⟨i, out, rfl, hi, own, hol, HZo, hnr, HGo⟩ := hrel
        have e2 := (B1.new hnr).cell' 1 _ rfl
        by_cases hlt : i < n
        · obtain ⟨bl, ol, vl, l, rfl, hll, c1, hwl⟩ := (HLs.out.new (hnS.trans hn1)).at hlt
          obtain ⟨bq, oq, vq, p', eq, hp', d1, d2, hwp⟩ := (HP.out.new (hnS.trans hn1)).at (i := i + 1) (by omega)
          cases eq
          have hbq : bp < w1.heap.size := World.block_lt_of_cell? w1 ⟨bp, op + (i + 1) * 2, none⟩ d1
          have hbl : bl < w1.heap.size := World.block_lt_of_cell? w1 ⟨bl, ol + i, none⟩ c1
          have hpr : r[i]? = some p' := by simpa using hp'
          have hpm := List.mem_of_getElem? hpr
          obtain ⟨hp1, hp2, hpne, _⟩ := HH.out p' hpm
          have hpl := HS2.out p' hpm
          obtain ⟨hzl1, hzl2⟩ := HZL.out l (List.mem_of_getElem? hll)
          have hzp1 := HZ.out p' (List.mem_cons_of_mem _ hpm)
          have hgo := fillGo_at (out := out) hll hpr
          have HGo2 := HGo.out
          rw [hgo] at HGo2
          obtain ⟨Al, cl, rfl, hl1, hl2, hlr⟩ := hwl
          obtain ⟨Aq, cq, rfl, hq1, hq2, hqr⟩ := hwp
          obtain ⟨hz, hzi⟩ : ∃ h : Nat, p'.1 = (h : Int) := ⟨p'.1.toNat, by omega⟩
          rw [hzi] at d1 hp1 hp2 HGo2
          generalize p'.2 = ws at *
          obtain ⟨nl, hnl⟩ : ∃ k, l.length = k := ⟨_, rfl⟩
          obtain ⟨nw, hnw⟩ : ∃ k, ws.length = k := ⟨_, rfl⟩
          have hnw0 : 0 < nw := by rw [← hnw]; exact List.length_pos_iff.2 hpne
          rw [hnl] at c1 hl1 hlr hzl2 HGo2
          rw [hnw] at d2 hq1 hqr hpl
          have c1r := cell_new hnr c1
          have d1r := cell_new hnr d1
          have d2r := cell_new hnr d2
          have HNl := Lib.hid hnl
          have HNw := Lib.hid hnw
          have HLR := Lib.hid hlr
          have HQR := Lib.hid hqr
          have HZL1 := Lib.hid hzl1
          have u3 : IntKind.i64.wrap ((i : Int) + 1) = (i : Int) + 1 := IntWalk.i64_in _ (by omega)
          have u4 : ((i : Int) + 1).toNat = i + 1 := by omega
          have u5 : (0 : Int) ≤ (i : Int) + 1 := by omega
          have u6 : (i : Int) + 1 < (np : Int) := by omega
          have i0 : (0 : Int) ≤ (i : Int) := by omega
          have i1 : (i : Int) < (n : Int) := by omega
          clear hnl hnw hpne hp' hpr hpm hgo hll c1 d1 d2 hlr hqr hzl1
          by_cases hbig : (hz : Int) < (nl : Int)
          · rw [if_pos hbig] at HGo2
            injection HGo2 with hR1 hR2
            subst hR1 hR2
            go_wp2
            go_quiet (fail)
            go_wp2
            exact bodyPost_ret (v := .tuple #[.string ⟨#[]⟩, .int .i64 10]) (by simp [results, Tryz.results20, go_sem]) rfl ⟨rfl, ((hnS.trans hn1).trans hnr).drewN _⟩
          · rw [if_neg hbig] at HGo2
            have HG2 := Lib.hid HGo2
            have t9 : decide (hz < nl) = false := decide_eq_false (by omega)
            clear HGo2
            go_wp2
            go_quiet (fail)
            obtain ⟨wq, hwq⟩ : ∃ x, x = wr.drewN nq := ⟨_, rfl⟩
            rw [← hwq]
            have hnq : New wr wq := by rw [hwq]; exact (New.refl wr).drewN nq
            clear hwq
            go_wp2
            have own1 := own_new own hnq
            have c1q := cell_new hnq c1r
            have d2q := cell_new hnq d2r
            have e2q := cell_new hnq e2
            have hnrq : New w1 wq := hnr.trans hnq
            clear c1r d1r d2r e2 own
            go_loopw [9] (fun v9 wx => ∃ k : Nat, v9 = .int .i64 k ∧ k ≤ nl ∧ New wq wx ∧ Hid (allOk (l.take k) = true)) (fun v9 _ => nl - (intOf v9).toNat)
            case atStart => exact ⟨0, rfl, by omega, New.refl _, Lib.hid rfl⟩
            case round =>
              obtain ⟨k, rfl, hk, hkn, HK⟩ := hrel
              have c1x := cell_new hkn c1q
              by_cases hkl : k < nl
              · obtain ⟨bl2, ol2, rfl, _, hcl2⟩ := HLR.out.2 (by omega)
                have hkl2 : k < l.length := by rw [HNl.out]; exact hkl
                have hlk : l[k]? = some l[k] := List.getElem?_eq_getElem hkl2
                have hck := hcl2 k (.string l[k]) (by simp [sCells, hlk])
                have hcx := cell_new ((hnr.trans hnq).trans hkn) hck
                have hxz := HZL1.out l[k] (List.getElem_mem _)
                have HTK := Lib.hid (fun h => allOk_take hlk HK.out h)
                have HNO := Lib.hid (fun h => allOk_no (List.getElem_mem hkl2) h)
                generalize l[k] = x at *
                have HW := Lib.hid (fun w => word_any x w (by omega))
                have k0 : (0 : Int) ≤ (k : Int) := by omega
                have k1 : (k : Int) < (nl : Int) := by omega
                clear hlk hck hcl2
                cases hok : okW x
                · rw [hok] at HW
                  have hR := HG2.out
                  rw [HNO.out hok, if_neg (by decide)] at hR
                  injection hR with hR1 hR2
                  subst hR1 hR2
                  clear hok
                  go_wp2_with (go_at_call 52; refine (HW.out _).mono ?_; rintro e w9 ⟨rfl, hn9⟩)
                  exact bodyPost_ret (v := .tuple #[.string ⟨#[]⟩, .int .i64 2]) (by simp [results, Tryz.results20, go_sem]) rfl ⟨rfl, (((hnS.trans hn1).trans hnrq).trans hkn).trans hn9⟩
                · rw [hok] at HW
                  have HT2 := Lib.hid (HTK.out hok)
                  clear hok
                  go_wp2_with (go_at_call 52; refine (HW.out _).mono ?_; rintro e w9 ⟨rfl, hn9⟩)
                  go_roundw
                  case rel => first | exact ⟨k + 1, by go_num, by omega, hkn.trans hn9, HT2⟩ | ((repeat apply Exists.intro); exact ⟨⟨k + 1, by go_num, by omega, hkn.trans hn9, HT2⟩, rfl⟩)
                  case measure => simp [intOf]; omega
              · obtain rfl : k = nl := by omega
                have hall := HK.out
                rw [List.take_of_length_le (by rw [HNl.out]; exact Nat.le_refl _)] at hall
                have hR := HG2.out
                rw [hall, if_pos rfl] at hR
                have HG3 := Lib.hid hR
                have own2 := own_new own1 hkn
                have hlr2 := HLR.out.below ((hnr.trans hnq).trans hkn)
                have d2x := cell_new hkn d2q
                have e2x := cell_new hkn e2q
                have hnx : New w1 wr := hnrq.trans hkn
                have hwx := hnx.size
                have hne1 : v7.ownBlock ≠ some w.heap.size := fun e => by have := (own2.lt _ e).1; omega
                have hne2 : v7.ownBlock ≠ some bp := fun e => by have := (own2.lt _ e).1; omega
                clear hall hR
                go_wp2_with (first
                  | (at_builtin; refine wpList_append_rd rfl (.tmp 72) (.tmp 79) rfl w1.heap.size v3 (out.length + k) (sCells out ++ sCells l) rfl hown3 Aq nw cq ws rfl (HQR.out.below hnw3) (by omega) (by have := hg3.size; omega) ?_; intro v4 w4 hown4 hg4)
                  | (at_builtin; refine wpList_append_rd rfl (.tmp 66) (.tmp 70) rfl w1.heap.size v7 out.length (sCells out) rfl own2 Al k cl l rfl hlr2 (by omega) (by omega) ?_; intro v3 w3 hown3 hg3; have k3 := hg3.cell e2x (Ne.symm hne1); have k4 := hg3.cell d2x (Ne.symm hne2); have hnw3 : New w1 w3 := Below.grown hnx hg3 hwx (fun q hq => (own2.lt q hq).1)))
                go_roundw
                case rel =>
                  have hrel2 : (i + 1 : Nat) ≤ n ∧ w4.ownsRow w1.heap.size 9 1 v4 (out ++ l ++ ws).length (sCells (out ++ l ++ ws)) ∧ (out ++ l ++ ws).length ≤ 1000 + (i + 1) * 2000 ∧ Hid (SzW (out ++ l ++ ws)) ∧ New w1 w4 ∧ Hid (fillGo (out ++ l ++ ws) (ls.drop (i + 1)) (r.drop (i + 1)) = (R1, R2)) :=
                    ⟨by omega, own_to hown4 (by rw [List.length_append, List.length_append, HNl.out, HNw.out]) (by rw [sCells_app, sCells_app]), by rw [List.length_append, List.length_append, HNl.out, HNw.out]; omega, Lib.hid (SzW.app (SzW.app HZo.out HZL1.out) hzp1), Below.grown hnw3 hg4 hnw3.size (fun q hq => (hown3.lt q hq).1), HG3⟩
                  first | exact ⟨i + 1, out ++ l ++ ws, by go_num, hrel2⟩ | ((repeat apply Exists.intro); exact ⟨⟨i + 1, out ++ l ++ ws, by go_num, hrel2⟩, rfl⟩)
                case measure => simp [intOf]; omega
        · obtain rfl : i = n := by omega
          have hF : (R1, R2) = (joinV out, 0) := by
            have := HGo.out
            rw [List.drop_of_length_le (show ls.length ≤ i by rw [HLs.out.1]; exact Nat.le_refl _), fillGo] at this
            · exact this.symm
            · intro _ _ _ _ h; cases h
          injection hF with hF1 hF2
          obtain ⟨m, hm⟩ : ∃ k, out.length = k := ⟨_, rfl⟩
          rw [hm] at own hol
          obtain ⟨A9, c9, rfl, q1, q2, q3⟩ := own_form own
          have HJ := Lib.hid (joined_any A9 m c9 out hm wr q3 (by omega) HZo.out)
          rw [← hF1] at HJ
          subst hF2
          clear hm q3 hF1
          go_wp2_with (go_at_call 47; refine HJ.out.mono ?_; rintro e w3 ⟨rfl, hn3⟩)
          exact bodyPost_ret (v := .tuple #[.string R1, .int .i64 0]) (by simp [results, Tryz.results20, go_sem]) rfl ⟨rfl, ((hnS.trans hn1).trans hnr).trans hn3⟩
    · have hR := HM.out
      rw [if_neg (by simp), if_pos hnn] at hR
      injection hR with hR1 hR2
      subst hR1 hR2
      have u1 : IntKind.i64.wrap ((np : Int) - 1) = (np : Int) - 1 := IntWalk.i64_in _ (by omega)
      have t1 : ((n : Int) == (np : Int) - 1) = false := beq_eq_false_iff_ne.2 (by omega)
      clear hnp hnl
      go_enter Tryz.func20, Tryz.ntmps20
      go_wp2_with (go_at_call 22; refine HC.out.mono ?_; rintro e w1 ⟨rfl, hn1⟩; have k1 := (B0.new hn1).cell' 1 _ rfl)
      exact bodyPost_ret (v := .tuple #[.string ⟨#[]⟩, .int .i64 9]) (by simp [results, Tryz.results20, go_sem]) rfl ⟨rfl, hnS.trans hn1⟩
  · have hR := HM.out
    rw [if_pos hck] at hR
    injection hR with hR1 hR2
    subst hR1 hR2
    have c1 : (R2 == 0) = false := beq_eq_false_iff_ne.2 hck
    go_enter Tryz.func20, Tryz.ntmps20
    go_wp2_with (go_at_call 22; refine HC.out.mono ?_; rintro e w1 ⟨rfl, hn1⟩)
    exact bodyPost_ret (v := .tuple #[.string ⟨#[]⟩, .int .i64 R2]) (by simp [results, Tryz.results20, go_sem]) rfl ⟨rfl, hnS.trans hn1⟩
end Go.Proofs.YtpoelhnceebmkaaGreatDoor

namespace Go.Proofs.YtpoelhnceebmkaaGreatDoor
open Go Go.RowKit Go.Shelf
set_option linter.unusedSimpArgs false
set_option linter.unusedVariables false

theorem shortV_sm {ws : List ByteArray} {m : Nat} (h : shortV ws m = true) : ws.length ≤ m ∧ SzW ws := by
  unfold shortV at h
  rw [Bool.and_eq_true, decide_eq_true_eq, decide_eq_true_eq] at h
  exact ⟨h.1, fun x hx => by have := sumS_mem hx; omega⟩
theorem few_sm {nm : ByteArray} {ps : List Pt} (h : fewV nm ps = true) : SmT ps ∧ (∀ p ∈ ps, SzW p.2) ∧ ps.length ≤ 10 := by
  unfold fewV at h
  rw [Bool.and_eq_true, Bool.and_eq_true, decide_eq_true_eq, decide_eq_true_eq, List.all_eq_true] at h
  obtain ⟨⟨h1, h2⟩, h3⟩ := h
  have h4 : ∀ p ∈ ps, p.2.length ≤ 257 ∧ SzW p.2 := fun p hp => by
    have := h3 p hp
    unfold okP at this
    split at this
    · have h5 := shortV_sm this; exact ⟨h5.1, h5.2⟩
    · have h5 := shortV_sm this; exact ⟨by omega, h5.2⟩
  exact ⟨⟨by omega, fun p hp => by have := h4 p hp; omega⟩, fun p hp => (h4 p hp).2, h1⟩

set_option maxRecDepth 100000 in
set_option maxHeartbeats 1000000 in
theorem notShort15 (v : Value) (ws : List ByteArray) (w : World) (h : WRd w v ws) (hz : SzM ws) :
    Calls Tryz.prog 15 #[v] w fun e w' => e = .returned (.bool (!shortV ws 120)) ∧ w' = w := by
  obtain ⟨A, c, rfl, _⟩ := id h
  have HF := Lib.hid (short_any (.slice A ws.length c) ws 120 w h (by omega))
  have HZ := Lib.hid hz
  obtain ⟨n, hn⟩ : ∃ k, ws.length = k := ⟨_, rfl⟩
  rw [hn] at HF ⊢
  obtain ⟨B, hB⟩ : ∃ B, shortV ws 120 = B := ⟨_, rfl⟩
  rw [hB] at HF ⊢
  clear h hn hz hB
  go_enter Tryz.func15, Tryz.ntmps15
  go_wp2_with (go_at_call 16; refine HF.out.mono ?_; rintro e w1 ⟨⟨b, rfl, _, hb⟩, rfl⟩; have hb2 := hb HZ.out; subst hb2; clear hb)
  go_ret
  exact ⟨rfl, rfl⟩
set_option maxRecDepth 100000 in
set_option maxHeartbeats 1000000 in
theorem indexL15 (A : Option Addr) (c n : Nat) (l : List (List ByteArray)) (w : World) (hr : LsRd w A n l) (hz : n ≤ 4294967295) (hx : ∀ t ∈ l, SzM t) :
    Calls Tryz.prog 43 #[.slice A n c, .func (.func 15) #[] #[]] w fun e w' => (∃ i : Int, e = .returned (.int .i64 i) ∧ (i < 0 → ∀ t ∈ l, shortV t 120 = true)) ∧ w' = w := by
  have HL := Lib.hid hr.1
  have HR := Lib.hid hr
  have HX := Lib.hid hx
  clear hr hx
  go_enter Tryz.func43, Tryz.ntmps43
  go_wp2
  go_loopw [8] (fun v wr => ∃ k : Nat, k ≤ n ∧ v = .int .i64 k ∧ wr = w ∧ Hid (∀ t ∈ l.take k, shortV t 120 = true)) (fun v _ => n - (intOf v).toNat)
  case atStart => exact ⟨0, Nat.zero_le _, rfl, rfl, Lib.hid (by simp)⟩
  case round =>
    obtain ⟨k, hk, rfl, rfl, H⟩ := hrel
    by_cases hlt : k < n
    · obtain ⟨bk, o, vt, t, rfl, ht, d1, htr⟩ := HR.out.at hlt
      obtain ⟨At, ct, rfl, _⟩ := id htr
      have HF := Lib.hid (notShort15 (.slice At t.length ct) t wr htr (HX.out t (List.mem_of_getElem? ht)))
      have i0 : (0 : Int) ≤ (k : Int) := by omega
      have i1 : (k : Int) < (n : Int) := by omega
      have HTK : Hid (∀ q ∈ l.take (k + 1), q ∈ l.take k ∨ q = t) := Lib.hid (fun q hq => by
        obtain ⟨hi, he⟩ := List.getElem?_eq_some_iff.1 ht
        rw [List.take_succ_eq_append_getElem hi, List.mem_append, he] at hq
        simpa using hq)
      obtain ⟨nt, hnt⟩ : ∃ k, t.length = k := ⟨_, rfl⟩
      rw [hnt] at d1 HF
      clear htr ht
      cases hb : shortV t 120
      · rw [hb] at HF
        clear hb
        go_wp2_with (go_at_call 15; refine HF.out.mono ?_; rintro e w' ⟨rfl, hw⟩; rw [hw])
        go_ret
        exact ⟨⟨k, rfl, fun h => by omega⟩, rfl⟩
      · have HB := Lib.hid hb
        rw [hb] at HF
        clear hb
        go_wp2_with (go_at_call 15; refine HF.out.mono ?_; rintro e w' ⟨rfl, hw⟩; rw [hw])
        go_roundw
        case rel => exact ⟨k + 1, by omega, by go_num, by trivial, Lib.hid (fun q hq => by
          rcases HTK.out q hq with h | rfl
          · exact H.out q h
          · exact HB.out)⟩
        case measure => simp [intOf]; omega
    · obtain rfl : k = n := by omega
      go_wp2
      go_ret
      exact ⟨⟨-1, rfl, fun _ t ht => H.out t (by rw [List.take_of_length_le (by rw [HL.out]; exact Nat.le_refl _)]; exact ht)⟩, rfl⟩
set_option maxRecDepth 100000 in
theorem containsL15 (A : Option Addr) (c n : Nat) (l : List (List ByteArray)) (w : World) (hr : LsRd w A n l) (hz : n ≤ 4294967295) (hx : ∀ t ∈ l, SzM t) :
    Calls Tryz.prog 14 #[.slice A n c, .func (.func 15) #[] #[]] w fun e w' => (∃ b, e = .returned (.bool b) ∧ (b = false → ∀ t ∈ l, shortV t 120 = true)) ∧ w' = w := by
  have HC := Lib.hid (indexL15 A c n l w hr hz hx)
  go_enter Tryz.func14, Tryz.ntmps14
  go_wp2_with (go_at_call 43; refine HC.out.mono ?_; rintro e w' ⟨⟨i, rfl, hi⟩, rfl⟩; have HI := Lib.hid hi; clear hi)
  go_ret
  exact ⟨⟨_, rfl, fun h => HI.out (by have := of_decide_eq_false h; omega)⟩, rfl⟩

set_option maxRecDepth 100000 in
set_option maxHeartbeats 1000000 in
theorem notShort30 (v : Value) (ws : List ByteArray) (w : World) (h : WRd w v ws) (hz : SzM ws) :
    Calls Tryz.prog 30 #[v] w fun e w' => e = .returned (.bool (!shortV ws 120)) ∧ w' = w := by
  obtain ⟨A, c, rfl, _⟩ := id h
  have HF := Lib.hid (short_any (.slice A ws.length c) ws 120 w h (by omega))
  have HZ := Lib.hid hz
  obtain ⟨n, hn⟩ : ∃ k, ws.length = k := ⟨_, rfl⟩
  rw [hn] at HF ⊢
  obtain ⟨B, hB⟩ : ∃ B, shortV ws 120 = B := ⟨_, rfl⟩
  rw [hB] at HF ⊢
  clear h hn hz hB
  go_enter Tryz.func30, Tryz.ntmps30
  go_wp2_with (go_at_call 16; refine HF.out.mono ?_; rintro e w1 ⟨⟨b, rfl, _, hb⟩, rfl⟩; have hb2 := hb HZ.out; subst hb2; clear hb)
  go_ret
  exact ⟨rfl, rfl⟩
set_option maxRecDepth 100000 in
set_option maxHeartbeats 1000000 in
theorem indexL30 (A : Option Addr) (c n : Nat) (l : List (List ByteArray)) (w : World) (hr : LsRd w A n l) (hz : n ≤ 4294967295) (hx : ∀ t ∈ l, SzM t) :
    Calls Tryz.prog 43 #[.slice A n c, .func (.func 30) #[] #[]] w fun e w' => (∃ i : Int, e = .returned (.int .i64 i) ∧ (i < 0 → ∀ t ∈ l, shortV t 120 = true)) ∧ w' = w := by
  have HL := Lib.hid hr.1
  have HR := Lib.hid hr
  have HX := Lib.hid hx
  clear hr hx
  go_enter Tryz.func43, Tryz.ntmps43
  go_wp2
  go_loopw [8] (fun v wr => ∃ k : Nat, k ≤ n ∧ v = .int .i64 k ∧ wr = w ∧ Hid (∀ t ∈ l.take k, shortV t 120 = true)) (fun v _ => n - (intOf v).toNat)
  case atStart => exact ⟨0, Nat.zero_le _, rfl, rfl, Lib.hid (by simp)⟩
  case round =>
    obtain ⟨k, hk, rfl, rfl, H⟩ := hrel
    by_cases hlt : k < n
    · obtain ⟨bk, o, vt, t, rfl, ht, d1, htr⟩ := HR.out.at hlt
      obtain ⟨At, ct, rfl, _⟩ := id htr
      have HF := Lib.hid (notShort30 (.slice At t.length ct) t wr htr (HX.out t (List.mem_of_getElem? ht)))
      have i0 : (0 : Int) ≤ (k : Int) := by omega
      have i1 : (k : Int) < (n : Int) := by omega
      have HTK : Hid (∀ q ∈ l.take (k + 1), q ∈ l.take k ∨ q = t) := Lib.hid (fun q hq => by
        obtain ⟨hi, he⟩ := List.getElem?_eq_some_iff.1 ht
        rw [List.take_succ_eq_append_getElem hi, List.mem_append, he] at hq
        simpa using hq)
      obtain ⟨nt, hnt⟩ : ∃ k, t.length = k := ⟨_, rfl⟩
      rw [hnt] at d1 HF
      clear htr ht
      cases hb : shortV t 120
      · rw [hb] at HF
        clear hb
        go_wp2_with (go_at_call 30; refine HF.out.mono ?_; rintro e w' ⟨rfl, hw⟩; rw [hw])
        go_ret
        exact ⟨⟨k, rfl, fun h => by omega⟩, rfl⟩
      · have HB := Lib.hid hb
        rw [hb] at HF
        clear hb
        go_wp2_with (go_at_call 30; refine HF.out.mono ?_; rintro e w' ⟨rfl, hw⟩; rw [hw])
        go_roundw
        case rel => exact ⟨k + 1, by omega, by go_num, by trivial, Lib.hid (fun q hq => by
          rcases HTK.out q hq with h | rfl
          · exact H.out q h
          · exact HB.out)⟩
        case measure => simp [intOf]; omega
    · obtain rfl : k = n := by omega
      go_wp2
      go_ret
      exact ⟨⟨-1, rfl, fun _ t ht => H.out t (by rw [List.take_of_length_le (by rw [HL.out]; exact Nat.le_refl _)]; exact ht)⟩, rfl⟩
set_option maxRecDepth 100000 in
theorem containsL30 (A : Option Addr) (c n : Nat) (l : List (List ByteArray)) (w : World) (hr : LsRd w A n l) (hz : n ≤ 4294967295) (hx : ∀ t ∈ l, SzM t) :
    Calls Tryz.prog 14 #[.slice A n c, .func (.func 30) #[] #[]] w fun e w' => (∃ b, e = .returned (.bool b) ∧ (b = false → ∀ t ∈ l, shortV t 120 = true)) ∧ w' = w := by
  have HC := Lib.hid (indexL30 A c n l w hr hz hx)
  go_enter Tryz.func14, Tryz.ntmps14
  go_wp2_with (go_at_call 43; refine HC.out.mono ?_; rintro e w' ⟨⟨i, rfl, hi⟩, rfl⟩; have HI := Lib.hid hi; clear hi)
  go_ret
  exact ⟨⟨_, rfl, fun h => HI.out (by have := of_decide_eq_false h; omega)⟩, rfl⟩
end Go.Proofs.YtpoelhnceebmkaaGreatDoor

namespace Go.Proofs.YtpoelhnceebmkaaGreatDoor
open Go Go.RowKit Go.Shelf
set_option linter.unusedSimpArgs false
set_option linter.unusedVariables false

/-- A block of a template's cells stays where only new memory is made. -/
abbrev TwoC (wB : World) (g : Nat) (a b : Value) (W : World) : Prop := W.cell? ⟨g, 0, none⟩ = some a ∧ W.cell? ⟨g, 1, none⟩ = some b ∧ New wB W
theorem TwoC.new {wB W W' : World} {g : Nat} {a b : Value} (h : TwoC wB g a b W) (hn : New W W') : TwoC wB g a b W' := ⟨cell_new hn h.1, cell_new hn h.2.1, h.2.2.trans hn⟩
theorem TwoC.drew {wB W : World} {g : Nat} {a b : Value} (h : TwoC wB g a b W) : TwoC wB g a b W.drew := ⟨h.1, h.2.1, h.2.2.drew⟩
set_option maxRecDepth 100000 in
set_option maxHeartbeats 8000000 in
theorem law_checks (v : Value) (nm : ByteArray) (ps : List Pt) (A : Option Addr) (c n : Nat) (ls : List (List ByteArray)) (w : World) (h : TRd w v nm ps) (hL : LsRd w A n ls) (hz : ∀ p ∈ ps, SzM p.2) (hzl : ∀ l ∈ ls, SzM l) :
    Calls Tryz.prog 4 #[v, .slice A n c] w fun e w' => e = .returned (.bool true) ∧ New w w' := by
  have HA := Lib.hid awake_any
  obtain ⟨Ap, cp, rfl, hcp1, hcp2, hp⟩ := h
  obtain ⟨np, hnp⟩ : ∃ k, ps.length = k := ⟨_, rfl⟩
  have HT : Hid (TRd w (.agg #[.string nm, .slice Ap np cp]) nm ps) := Lib.hid ⟨Ap, cp, by rw [hnp], hcp1, hcp2, hp⟩
  rw [hnp] at hp hcp1 ⊢
  have hnS : New w (w.alloc (.cells #[.string nm, .slice Ap np cp] 25)) := (New.refl w).alloc _
  have B0 := Blk.made w 25 #[.string nm, .slice Ap np cp]
  have HFW := Lib.hid (fun w h => few_any (.agg #[.string nm, .slice Ap np cp]) nm ps w h)
  have HLs := Lib.hid hL
  have HZ := Lib.hid hz
  have HZL := Lib.hid hzl
  clear hp hnp hL hz hzl hcp1 hcp2
  cases hb : fewV nm ps
  · have HB := Lib.hid hb
    clear hb
    go_enter Tryz.func4, Tryz.ntmps4
    go_wp2_with (first
      | (go_at_call 13; refine (HFW.out _ ((HT.out.new hnS).new h0)).mono ?_; rintro e w1 ⟨⟨b, rfl, hb1⟩, hn1⟩; have hb2 := (hb1.2 HZ.out).trans HB.out; subst hb2; clear hb1)
      | (go_at_call 9; refine (HA.out _).mono ?_; rintro e w0 ⟨rfl, h0⟩; have k0 := (B0.new h0).cell' 0 _ rfl; have k1 := (B0.new h0).cell' 1 _ rfl))
    go_ret
    exact ⟨rfl, (hnS.trans h0).trans hn1⟩
  · have HB := Lib.hid hb
    obtain ⟨hsm, hzw, hp10⟩ := few_sm hb
    clear hb
    by_cases hn12 : n ≤ 12
    · have t1 : decide ((12 : Int) < (n : Int)) = false := decide_eq_false (by omega)
      have HCT := Lib.hid (fun w h => containsL15 A c n ls w h (by omega) HZL.out)
      have HSM := Lib.hid hsm
      have HZW := Lib.hid hzw
      clear hsm hzw
      go_enter Tryz.func4, Tryz.ntmps4
      go_wp2_with (first
        | (go_at_call 14; refine (HCT.out _ (HLs.out.new ((hnS.trans h0).trans hn1))).mono ?_; rintro e w2 ⟨⟨b2, rfl, hb2⟩, rfl⟩; have HB2 := Lib.hid hb2; clear hb2)
        | (go_at_call 13; refine (HFW.out _ ((HT.out.new hnS).new h0)).mono ?_; rintro e w1 ⟨⟨b, rfl, hb1⟩, hn1⟩; have hb3 := (hb1.2 HZ.out).trans HB.out; subst hb3; clear hb1; have j0 := ((B0.new h0).new hn1).cell' 0 _ rfl; have j1 := ((B0.new h0).new hn1).cell' 1 _ rfl)
        | (go_at_call 9; refine (HA.out _).mono ?_; rintro e w0 ⟨rfl, h0⟩; have k0 := (B0.new h0).cell' 0 _ rfl; have k1 := (B0.new h0).cell' 1 _ rfl))
      · exact bodyPost_ret (v := .bool true) (by simp [results, Tryz.results4, go_sem]) rfl ⟨rfl, (hnS.trans h0).trans hn1⟩
      · have hb2f : b2 = false := by assumption
        have HOK := Lib.hid (HB2.out hb2f)
        subst hb2f
        have hZL : ∀ l ∈ ls, SzW l ∧ l.length ≤ 1000 := fun l hl => by
          have := shortV_sm (HOK.out l hl)
          exact ⟨this.2, Nat.le_trans this.1 (by omega)⟩
        have HT1 := Lib.hid (((HT.out.new hnS).new h0).new hn1)
        have HL1 := Lib.hid (HLs.out.new ((hnS.trans h0).trans hn1))
        have B1 := (B0.new h0).new hn1
        have k0 := B1.cell' 0 _ rfl
        have k1 := B1.cell' 1 _ rfl
        have C1 := Lib.hid (fun w h => format_any (.agg #[.string nm, .slice Ap np cp]) nm ps w h HSM.out HZW.out)
        have C2 := Lib.hid (fun w h => rformat_any (.agg #[.string nm, .slice Ap np cp]) nm ps w h HSM.out HZW.out)
        have C3 := Lib.hid (fun w h h2 => fill_any (.agg #[.string nm, .slice Ap np cp]) nm ps A c n ls w h HSM.out h2 (by omega) HZW.out hZL)
        have C4 := Lib.hid (fun w h h2 => rfill_any (.agg #[.string nm, .slice Ap np cp]) nm ps A c n ls w h HSM.out h2 (by omega) HZW.out hZL)
        have C5 := Lib.hid (fun w h => check_any (.agg #[.string nm, .slice Ap np cp]) nm ps w h HSM.out)
        have C6 := Lib.hid (fun w h => rcheck_any (.agg #[.string nm, .slice Ap np cp]) nm ps w h HSM.out (fun p hp x hx => Nat.le_trans (HZW.out p hp x hx) (by omega)))
        have HBase := Lib.hid ((hnS.trans h0).trans hn1)
        clear hZL HCT HFW HB2 HOK
        generalize formatV ps = F at *
        generalize fillV ps ls = G at *
        generalize checkV ps = ck at *
        obtain ⟨F1, F2⟩ := F
        obtain ⟨G1, G2⟩ := G
        have c1 : (F1.toList == F1.toList) = true := beq_self_eq_true _
        have c2 : (F2 == F2) = true := beq_self_eq_true _
        have c3 : (G1.toList == G1.toList) = true := beq_self_eq_true _
        have c4 : (G2 == G2) = true := beq_self_eq_true _
        have c5 : (ck == ck) = true := beq_self_eq_true _
        refine (C1.out _ HT1.out).mono ?_
        rintro e w3 ⟨rfl, n3⟩
        have k2 := (B1.new n3).cell' 0 _ rfl
        have k3 := (B1.new n3).cell' 1 _ rfl
        go_wp2_with (first
          | (go_at_call 20; refine (C4.out _ (((HT1.out.new n3).new n4).new n5) (((HL1.out.new n3).new n4).new n5)).mono ?_; rintro e w6 ⟨rfl, n6⟩)
          | (go_at_call 19; refine (C3.out _ ((HT1.out.new n3).new n4) ((HL1.out.new n3).new n4)).mono ?_; rintro e w5 ⟨rfl, n5⟩; have k6 := (((B1.new n3).new n4).new n5).cell' 0 _ rfl; have k7 := (((B1.new n3).new n4).new n5).cell' 1 _ rfl)
          | (go_at_call 18; refine (C2.out _ (HT1.out.new n3)).mono ?_; rintro e w4 ⟨rfl, n4⟩; have k4 := ((B1.new n3).new n4).cell' 0 _ rfl; have k5 := ((B1.new n3).new n4).cell' 1 _ rfl))
        have B6 := (((B1.new n3).new n4).new n5).new n6
        have T6 := Lib.hid ((((HT1.out.new n3).new n4).new n5).new n6)
        have hS : TwoC w6 w.heap.size (.string nm) (.slice Ap np cp) w6 := ⟨B6.cell' 0 _ rfl, B6.cell' 1 _ rfl, New.refl _⟩
        have HW := Lib.hid ((((HBase.out.trans n3).trans n4).trans n5).trans n6)
        clear HBase n3 n4 n5 n6 k0 k1 k2 k3 k4 k5 k6 k7
        go_region_held3 (fun W => TwoC w6 w.heap.size (.string nm) (.slice Ap np cp) W) (first | exact hS | exact TwoC.new ‹_› ‹_› | exact TwoC.drew ‹_›) (first | (go_at_call 22; refine (C6.out _ (T6.out.new (by first | exact (New.refl _).drew | exact (New.refl _).drew.trans hn7))).mono ?_; rintro e8 w8 ⟨rfl, hn8⟩) | (go_at_call 21; refine (C5.out _ (T6.out.new (by first | exact (New.refl _).drew | exact (New.refl _).drew.trans hn8))).mono ?_; rintro e7 w7 ⟨rfl, hn7⟩))
        go_wp2
        go_ret
        exact ⟨rfl, HW.out.trans (((New.refl _).drew.trans hn7).trans hn8)⟩
    · have t1 : decide ((12 : Int) < (n : Int)) = true := decide_eq_true (by omega)
      go_enter Tryz.func4, Tryz.ntmps4
      go_wp2_with (first
        | (go_at_call 13; refine (HFW.out _ ((HT.out.new hnS).new h0)).mono ?_; rintro e w1 ⟨⟨b, rfl, hb1⟩, hn1⟩; have hb3 := (hb1.2 HZ.out).trans HB.out; subst hb3; clear hb1)
        | (go_at_call 9; refine (HA.out _).mono ?_; rintro e w0 ⟨rfl, h0⟩; have k0 := (B0.new h0).cell' 0 _ rfl; have k1 := (B0.new h0).cell' 1 _ rfl))
      go_ret
      exact ⟨rfl, (hnS.trans h0).trans hn1⟩
end Go.Proofs.YtpoelhnceebmkaaGreatDoor

