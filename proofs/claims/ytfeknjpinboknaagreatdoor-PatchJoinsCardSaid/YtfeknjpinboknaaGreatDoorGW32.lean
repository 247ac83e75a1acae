/- The reference's Invert. The digest's contract is a hypothesis where the base is not empty. Conditions: sizes. -/
import Derived.Test.YtfeknjpinboknaaGreatDoorGW22
import Derived.Test.YtfeknjpinboknaaGreatDoorGW29
import Derived.Test.YtfeknjpinboknaaGreatDoorGW6
import Derived.Test.YtfeknjpinboknaaGreatDoorGX4

namespace Go.Proofs.YtfeknjpinboknaaGreatDoor
open Go Go.RowKit Go.Joins Go.Shelf
set_option linter.unusedSimpArgs false
set_option linter.unusedVariables false

set_option maxRecDepth 100000 in
set_option maxHeartbeats 32000000 in
theorem rinvert_any (sum : ByteArray → ByteArray) (base : ByteArray) (A : Option Addr) (n c : Nat) (hs : List Hm) (data : ByteArray) (w : World) (hr : PRd w A n hs) (hz : SzH hs) (hb : base.size ≤ 1000000) (hd : data.size ≤ 1000000) (hS : base.size = 0 ∨ (SumR sum ∧ ∀ d, (sum d).size ≤ 1000000)) :
    Calls Tryz.prog 26 #[.agg #[.string base, .slice A n c], .string data] w (InvP sum base (hs.map Hm.d) data w) := by
  obtain ⟨j0, hinf, hz0, hz1, hz2⟩ := info_parts Tryz.info81'
  have B0 := (Blk.made w 24 #[.string base, .slice A n c]).alloc (.cells #[.string ⟨#[]⟩, .slice none 0 0] 24)
  have R0 := Blk.made (w.alloc (.cells #[.string base, .slice A n c] 24)) 24 #[.string ⟨#[]⟩, .slice none 0 0]
  have n0 := ((New.refl w).alloc (.cells #[.string base, .slice A n c] 24)).alloc (.cells #[.string ⟨#[]⟩, .slice none 0 0] 24)
  have HA := Lib.hid (rapply_any sum base A n c hs data _ (hr.new n0) hz hb hd (hS.imp id And.left))
  have HZ := Lib.hid hz
  have HR := Lib.hid hr
  have HIP : Hid (∀ e w', InvP sum base (hs.map Hm.d) data w e w' = if appE sum base (hs.map Hm.d) data = 0 then PatP w (newB sum base (appOut data (hs.map Hm.d))) (invL data (hs.map Hm.d)) e w' else New w w' ∧ e = .returned (.tuple #[.agg #[.string ⟨#[]⟩, .slice none 0 0], .int .i64 (appE sum base (hs.map Hm.d) data)])) := Lib.hid (fun _ _ => rfl)
  have p0 := B0.cell' 0 _ rfl
  have p1 := B0.cell' 1 _ rfl
  generalize InvP sum base (hs.map Hm.d) data w = IP at *
  obtain ⟨g0, hg0⟩ : ∃ g0, w.heap.size = g0 := ⟨_, rfl⟩
  rw [World.size_alloc] at R0
  rw [hg0] at B0 R0 p0 p1
  have HG0 := Lib.hid hg0
  by_cases h0 : appE sum base (hs.map Hm.d) data = 0
  · obtain ⟨hv, hlin, hcc, hbs, hje⟩ := app_zero h0
    obtain ⟨ho, hln, hbz, s1, s2, s3, s4⟩ := valid_ok hv
    have hok' : ∀ x ∈ hs.map Hm.d, OkH x := fun x hx => by obtain ⟨y, hy, rfl⟩ := List.mem_map.1 hx; exact ho y hy
    obtain ⟨hri, hrl⟩ := tr_rise base hok' hcc
    have hinv := inv_V base (parts 10 data) (hs.map Hm.d) hok' hcc
    have hri : Rise (appOut data (hs.map Hm.d)).length (parts 10 data).length 0 0 (pairsFrom 0 (trO base (hs.map Hm.d)).1) := hri
    have hrl : (trO base (hs.map Hm.d)).1.length = (appOut data (hs.map Hm.d)).length := hrl
    have hol1 := join_len hje
    have hpl1 := lines_len hlin
    have HTR := Lib.hid (fun W (h : New w W) => (rtrace_any base A n c hs (parts 10 data).length W (hr.new h) hz hb).mono fun e w' h => (And.intro h.1 (by have := h.2; rw [if_pos ⟨hv, hcc⟩] at this; exact this)))
    have HA2 := Lib.hid (HA.out.mono fun e w' h => (And.intro h.1 (by have := h.2; rw [if_pos h0] at this; exact this)))
    have HI2 : Hid (∀ e w', PatP w (newB sum base (appOut data (hs.map Hm.d))) (invL data (hs.map Hm.d)) e w' → IP e w') := Lib.hid (fun e w' h => by rw [HIP.out, if_pos h0]; exact h)
    have HSB : Hid (∀ s ∈ parts 10 data, s.size ≤ 1000000) := Lib.hid (fun s h => by have := parts_size h; omega)
    have HOS := Lib.hid (out_sz hz hd)
    have HJE := Lib.hid hje
    have hIL : invL data (hs.map Hm.d) = ofV (parts 10 data) (trO base (hs.map Hm.d)).1.length (pairsFrom 0 (trO base (hs.map Hm.d)).1) := hinv
    generalize invL data (hs.map Hm.d) = IL at *
    generalize (trO base (hs.map Hm.d)).1 = TP at *
    have HRI := Lib.hid hri
    have HIL := Lib.hid hIL
    obtain ⟨nb, hnb⟩ : ∃ nb, newB sum base (appOut data (hs.map Hm.d)) = nb := ⟨_, rfl⟩
    have HNB := Lib.hid hnb
    have hnbs : nb.size ≤ 1000000 := by
      rw [← hnb, newB]
      split
      · decide
      · rename_i hq
        rcases hS with q | q
        · exact absurd q hq
        · exact q.2 _
    rw [hnb] at HI2
    have HNS := Lib.hid hnbs
    obtain ⟨os, hos⟩ : ∃ os, appOut data (hs.map Hm.d) = os := ⟨_, rfl⟩
    obtain ⟨ls, hls⟩ : ∃ ls, parts 10 data = ls := ⟨_, rfl⟩
    rw [hos] at HA2 HNB HOS HJE HRI hol1 hrl
    rw [hls] at HA2 HTR HSB HRI HIL hpl1
    obtain ⟨ol, hol⟩ : ∃ ol, os.length = ol := ⟨_, rfl⟩
    obtain ⟨ll, hll⟩ : ∃ ll, ls.length = ll := ⟨_, rfl⟩
    obtain ⟨tl, htl⟩ : ∃ tl, TP.length = tl := ⟨_, rfl⟩
    rw [htl] at HTR HIL hrl
    rw [hol] at HA2 HRI hol1 hrl
    rw [hll] at HA2 HTR HRI hpl1
    have HOL := Lib.hid hol
    have HLL := Lib.hid hll
    have HTL := Lib.hid htl
    subst hrl
    clear hr hz h0 HA HIP hlin hcc hje hv ho hbs s1 s2 s3 s4 hg0 hok' hri hinv hIL hnb hnbs hos hls hol hll htl
    go_enter Tryz.func26, Tryz.ntmps26
    go_wp2_with (fail)
    rw [HG0.out]
    generalize ((w.alloc (.cells #[.string base, .slice A n c] 24)).alloc (.cells #[.string ⟨#[]⟩, .slice none 0 0] 24)) = wA at *
    with_reducible refine HA2.out.mono ?_
    rintro e w1 ⟨n1, A1, c1, A2, c2, rfl, l1, l2⟩
    have B1 := B0.new n1
    have R1 := R0.new n1
    have nw1 := n0.trans n1
    have L1 := Lib.hid l1
    have L2 := Lib.hid l2
    clear p0 p1 n1 n0 B0 R0 HA2 l1 l2
    have p0 := B1.cell' 0 _ rfl
    have p1 := B1.cell' 1 _ rfl
    have HT2 := Lib.hid (HTR.out w1 nw1)
    clear HTR
    go_wp2_with (fail)
    with_reducible refine HT2.out.mono ?_
    rintro e w2 ⟨n2, AP, cP, rfl, rdP, hcP⟩
    have HB2 := Lib.hid (B1.new n2)
    have HR2 := Lib.hid (R1.new n2)
    have HN2 := Lib.hid (nw1.trans n2)
    have HL1 := Lib.hid (L1.out.new n2)
    have HL2 := Lib.hid (L2.out.new n2)
    have HRP := Lib.hid rdP
    obtain ⟨gP, hgP⟩ : ∃ gP, w2.heap.size = gP := ⟨_, rfl⟩
    have HGP := Lib.hid hgP
    have OW0 : Hid (w2.ownsRow gP 81 2 (.slice none 0 0) 0 []) := Lib.hid (World.ownsRow_nil _ _ _ _)
    clear p0 p1 n2 nw1 B1 R1 L1 L2 HT2 rdP hgP
    go_wp2
    go_loopw [11, 38] (fun v11 v38 wr => ∃ (k : Nat) (V : Value), V = v11 ∧ v38 = .int .i64 (k : Int) ∧ k ≤ tl ∧ New w2 wr ∧ wr.ownsRow gP 81 2 V (pairsFrom 0 (TP.take k)).length ((pairsFrom 0 (TP.take k)).flatMap prC)) (fun _ v38 _ => tl - (intOf v38).toNat)
    case atStart => exact ⟨0, _, rfl, rfl, Nat.zero_le _, New.refl _, OW0.out⟩
    case round =>
      obtain ⟨k, V, rfl, rfl, hk, hn, hown⟩ := hrel
      have HOW := Lib.hid hown
      have HN := Lib.hid hn
      have hgs : gP ≤ wr.heap.size := by have := hn.size; rw [HGP.out] at this; exact this
      by_cases hlt : k < tl
      · obtain ⟨bk, o, rfl, hbk, p, hp, hcell⟩ := rd_row (f := plC) (k := 2) (fun _ => rfl) HTL.out (HRP.out.below hn) hlt
        obtain ⟨pa, pb⟩ := p
        have q0 := hcell 0 (.int .i64 pa) (by omega) rfl
        have q1 := hcell 1 (.int .i64 pb) (by omega) rfl
        simp only [Nat.add_zero] at q0
        rw [← Nat.add_assoc] at q1
        have i0' : (0 : Int) ≤ (k : Int) := by omega
        have i1' : (k : Int) < (tl : Int) := by omega
        have BX := Blk.made wr 44 #[.int .i64 pa, .int .i64 pb]
        have y0 := BX.cell' 0 _ rfl
        have y1 := BX.cell' 1 _ rfl
        have HPT := Lib.hid (pairs_take hp)
        have hdl := pairs_len (TP.take k) 0
        rw [List.length_take, HTL.out] at hdl
        clear hcell hp hown hn
        by_cases hpa : 0 ≤ pa
        · have HPT2 := HPT.out
          rw [if_pos hpa] at HPT2
          obtain ⟨a, rfl⟩ : ∃ a : Nat, pa = (a : Int) := ⟨pa.toNat, by omega⟩
          simp only [Int.toNat_natCast] at HPT2
          have HPT3 := Lib.hid HPT2
          have t1 : decide ((0 : Int) ≤ (a : Int)) = true := decide_eq_true hpa
          generalize pairsFrom 0 (TP.take k) = done at *
          clear HPT HPT2
          go_upto_if 45 with (fail)
          have HOW3 := Lib.hid (HOW.out.alloc (.cells #[.int .i64 (a : Int), .int .i64 pb] 44))
          have HN3 := Lib.hid (HN.out.alloc (.cells #[.int .i64 (a : Int), .int .i64 pb] 44))
          have hgs3 : gP ≤ (wr.alloc (.cells #[.int .i64 (a : Int), .int .i64 pb] 44)).heap.size := by rw [World.size_alloc]; omega
          have hgl3 : wr.heap.size < (wr.alloc (.cells #[.int .i64 (a : Int), .int .i64 pb] 44)).heap.size := by rw [World.size_alloc]; omega
          generalize wr.alloc (.cells #[.int .i64 (a : Int), .int .i64 pb] 44) = w7 at *
          generalize wr.heap.size = gx at *
          clear q0 q1
          go_wp2_with (at_builtin; refine wpList_append_own_at _ rfl _ _ 80 rfl gP 81 j0 (.agg #[.int .i64 0, .int .i64 0]) 2 16 Tryz.underlying80' hinf hz0 hz1 hz2 rfl (by decide) _ (done.length) _ rfl (HOW3.out.alloc _) ⟨w7.heap.size, 0, none⟩ 1 1 [.int .i64 (k : Int), .int .i64 (a : Int)] rfl rfl ?c1 ?c2 ?c3 ?c4 ?c5 ?_)
          case c1 => exact World.news_of_block (cs := #[.int .i64 (k : Int), .int .i64 (a : Int)]) (t := 81) (fr := (0, 0)) (heap_alloc_new _ _)
          case c2 => simp [Value.oneCell']
          case c3 => unfold maxLen; omega
          case c4 => omega
          case c5 => simp; omega
          intro v5 w8 hown5 hg5 _ h5
          have HNW := Lib.hid (Below.grown (HN3.out.alloc (.cells #[.int .i64 (k : Int), .int .i64 (a : Int)] 81)) hg5 (by rw [World.size_alloc, HGP.out]; omega) (fun q e => by rw [HGP.out]; exact (HOW3.out.lt q e).1))
          have HOW5 := Lib.hid (own_len hown5 (n' := (done ++ [(k, a)]).length) (xs' := (done ++ [(k, a)]).flatMap prC) (by simp) (by simp [prC]))
          clear hown5 hg5 h5
          go_wp2
          go_roundw
          case rel => exact ⟨k + 1, _, rfl, by go_num, by omega, HNW.out, by rw [HPT3.out]; exact HOW5.out⟩
          case measure => (simp [intOf]; try omega)
        · have HPT2 := HPT.out
          rw [if_neg hpa, List.append_nil] at HPT2
          have HPT3 := Lib.hid HPT2
          have t1 : decide ((0 : Int) ≤ pa) = false := decide_eq_false hpa
          clear HPT HPT2
          go_wp2
          go_roundw
          case rel => exact ⟨k + 1, _, rfl, by go_num, by omega, HN.out.alloc _, by rw [HPT3.out]; exact HOW.out.alloc _⟩
          case measure => (simp [intOf]; try omega)
      · obtain rfl : k = tl := by omega
        have hown2 := HOW.out
        rw [List.take_of_length_le (by rw [HTL.out]; exact Nat.le_refl _)] at hown2
        have HOW2 := Lib.hid hown2
        have f0 := (HB2.out.new hn).cell' 0 _ rfl
        obtain ⟨w5, rfl⟩ : ∃ w5 : World, w5 = wr := ⟨_, rfl⟩
        obtain ⟨A9, c9, rfl, hc9, _, _⟩ := own_form HOW.out
        clear hown hown2 hn HOW
        have HOW3 := HOW2.out
        have e9 : (pairsFrom 0 (TP.take k)).length = (pairsFrom 0 TP).length := by rw [List.take_of_length_le (by rw [HTL.out]; exact Nat.le_refl _)]
        rw [e9] at HOW3 ⊢
        have HOW4 := Lib.hid HOW3
        clear HOW3 HOW2 e9 hc9
        go_upto_if 56 with (fail)
        go_cut [14] (fun v14 wc => v14 = .string nb ∧ New w5 wc)
        case first =>
          rcases base_or base with ⟨x1, rfl, x2, x3, x4⟩ | ⟨x1, x2, x3⟩
          · obtain rfl : nb = ⟨#[]⟩ := by rw [← HNB.out]; rfl
            have y2 : (!(⟨#[]⟩ : ByteArray).toList.isEmpty) = false := by rw [x3]; rfl
            rw [y2]
            go_wp2
            go_meet
            case rel => exact ⟨rfl, New.refl _⟩
          · have hS2 : SumR sum := by
              rcases hS with q | q
              · exact absurd q x1
              · exact q.1
            obtain rfl : sum (joinV os) = nb := by rw [← HNB.out, newB, if_neg x1]
            have HJ := Lib.hid (rjoin_any A2 k c2 os w5 HOL.out (by omega) (by have := (ln_rd (HL2.out.new HN.out)).2; rw [HOL.out] at this; exact this) (by have := (ln_rd (HL2.out.new HN.out)).1; rw [HOL.out] at this; exact this) HOS.out)
            rw [joinT, if_pos HJE.out, HJE.out] at HJ
            have HSU := Lib.hid (fun W => hS2 (joinV os) W (by have := joinV_le HJE.out; omega))
            generalize joinV os = jv at *
            generalize sum jv = sv at *
            have y2 : (!base.toList.isEmpty) = true := by rw [x3]; rfl
            rw [y2]
            go_wp2_with (fail)
            with_reducible refine HJ.out.mono ?_
            rintro e w6 ⟨rfl, n6⟩
            go_wp2_with (go_at_call 55; (with_reducible refine (HSU.out _).mono ?_); rintro e w7 ⟨rfl, n7⟩)
            go_meet
            case rel => exact ⟨rfl, n6.trans n7⟩
        case rest =>
          obtain ⟨rfl, nc⟩ := hcut
          obtain ⟨AP2, cP2, hf2, _, _, hrd⟩ := own_form (own_new HOW4.out nc)
          obtain ⟨rfl, rfl⟩ : A9 = AP2 ∧ c9 = cP2 := by injection hf2 with q1 q2 q3; exact ⟨q1, q3⟩
          have hpl2 := rise_len HRI.out
          have hb2 : ∀ p ∈ pairsFrom 0 TP, p.1 ≤ 1024 ∧ p.2 < ll := fun p hp => by
            have := rise_mem HRI.out p hp
            exact ⟨by omega, this.2⟩
          have HOF := Lib.hid (of_any nb k A9 A1 (pairsFrom 0 TP).length c9 ll c1 (pairsFrom 0 TP) ls wc hrd rfl ((HL1.out.new HN.out).new nc) HLL.out (by omega) (by omega) (by omega) hb2 HSB.out)
          have HZB := Lib.hid (ofL_bound HSB.out (by rw [HLL.out]; exact hpl1) (pairsFrom 0 TP) (fun p hp => by rw [HLL.out]; exact hb2 p hp) (by omega)).2.1
          rw [← HIL.out] at HOF
          have HZV : Hid (SzK IL) := Lib.hid (by
            rw [HIL.out, ofV, emit]
            exact (HZB.out.app (SzK.dropH _)).app (SzK.addH (by simp only [List.length_take, List.length_drop]; rw [HLL.out]; omega) (fun s h => HSB.out s (List.mem_of_mem_drop (List.mem_of_mem_take h)))))
          have HNW := Lib.hid ((HN2.out.trans HN.out).trans nc)
          have HRR := Lib.hid ((HR2.out.new HN.out).new nc)
          have HPX := Lib.hid (fun (W : World) (h : New wc W) => HNW.out.trans h)
          have HRX := Lib.hid (fun (W : World) (h : New wc W) => HRR.out.new h)
          clear f0 hrd hf2 hpl2 hb2 nc HZB HOW4
          generalize (pairsFrom 0 TP).length = pl at *
          go_wp2_with (fail)
          with_reducible refine HOF.out.mono ?_
          rintro e w6 ⟨VH, b1, hs6, rfl, hBP, hm, hl⟩
          obtain ⟨AV, cV, rfl⟩ := own_cap hBP.own
          obtain ⟨AV', cV', hq, hcV, hpr⟩ := own_prd hBP.own hBP.ln
          obtain ⟨rfl, rfl⟩ : AV = AV' ∧ cV = cV' := by injection hq with q1 q2 q3; exact ⟨q1, q3⟩
          have HSZ := Lib.hid (SzK.szh (hs := hs6) (by rw [hm]; exact HZV.out) (by omega))
          have nb6 := (New.refl w6).alloc (.cells #[.string nb, .slice AV hs6.length cV] 24)
          have BX := Blk.made w6 24 #[.string nb, .slice AV hs6.length cV]
          have HPB := Lib.hid (hBP.new nb6)
          have HVA := Lib.hid (rvalid_any nb AV hs6.length cV hs6 _ (hpr.new nb6) HSZ.out HNS.out)
          rw [hm] at HVA
          have HBX := Lib.hid BX
          have HHM := Lib.hid hm
          have hgw : w6.heap.size < (w6.alloc (.cells #[.string nb, .slice AV hs6.length cV] 24)).heap.size := by rw [World.size_alloc]; omega
          clear hBP hq hpr nb6 BX hm hgw
          go_wp2_with (fail)
          with_reducible refine HVA.out.mono ?_
          rintro e w8 ⟨rfl, n8⟩
          have PB := HPB.out.new n8
          have RB := HRX.out _ PB.nw
          have BX := HBX.out.new n8
          have x0 := BX.cell' 0 _ rfl
          have x1 := BX.cell' 1 _ rfl
          have t0 := RB.cell' 0 _ rfl
          have t1 := RB.cell' 1 _ rfl
          have s0 := RB.free 0
          have s1' := RB.free 1
          have hg01 : w.heap.size ≤ g0 + 1 := by rw [HG0.out]; omega
          by_cases hv : validV nb IL = true
          · obtain ⟨nn, pp, ll2, hc⟩ := PB.ret HNW.out RB hg01
            have HF : Hid (PatP w nb IL (.returned (.tuple #[.agg #[.string nb, .slice AV hs6.length cV], .int .i64 0])) ((w8.setCell ⟨g0 + 1, 0, none⟩ (.string nb)).setCell ⟨g0 + 1, 1, none⟩ (.slice AV hs6.length cV))) := Lib.hid ⟨nn, by rw [if_pos hv]; exact ⟨AV, cV, hs6, rfl, pp, ll2, hc, HHM.out⟩⟩
            have BE := put2 RB (.string nb) (.slice AV hs6.length cV)
            have e0 := BE.cell' 0 _ rfl
            have e1 := BE.cell' 1 _ rfl
            clear nn pp ll2 hc PB BX n8
            rw [hv]
            go_wp2
            exact bodyPost_ret (v := .tuple #[.agg #[.string nb, .slice AV hs6.length cV], .int .i64 0]) (by simp [results, Tryz.results26, go_sem, e0, e1]) rfl (HI2.out _ _ HF.out)
          · have hvf : validV nb IL = false := (by simpa using hv)
            have nn := ((HPX.out _ PB.nw).setCell (p := ⟨g0 + 1, 0, none⟩) hg01 (.string ⟨#[]⟩)).setCell (p := ⟨g0 + 1, 1, none⟩) hg01 (.slice none 0 0)
            have HF : Hid (PatP w nb IL (.returned (.tuple #[.agg #[.string ⟨#[]⟩, .slice none 0 0], .int .i64 10])) ((w8.setCell ⟨g0 + 1, 0, none⟩ (.string ⟨#[]⟩)).setCell ⟨g0 + 1, 1, none⟩ (.slice none 0 0))) := Lib.hid ⟨nn, by rw [if_neg hv]⟩
            have BE := put2 RB (.string ⟨#[]⟩) (.slice none 0 0)
            have e0 := BE.cell' 0 _ rfl
            have e1 := BE.cell' 1 _ rfl
            clear nn PB BX n8
            rw [hvf]
            go_wp2
            exact bodyPost_ret (v := .tuple #[.agg #[.string ⟨#[]⟩, .slice none 0 0], .int .i64 10]) (by simp [results, Tryz.results26, go_sem, e0, e1]) rfl (HI2.out _ _ HF.out)
  · have HA2 := Lib.hid (HA.out.mono fun e w' h => (And.intro h.1 (by have := h.2; rw [if_neg h0] at this; exact this)))
    obtain ⟨x, hx⟩ : ∃ x, appE sum base (hs.map Hm.d) data = x := ⟨_, rfl⟩
    rw [hx] at HA2 HIP h0
    have hx1 : (x == 0) = false := by simpa using h0
    have hx2 : (x != 0) = true := by simpa using h0
    have HI2 : Hid (∀ e w', New w w' → e = .returned (.tuple #[.agg #[.string ⟨#[]⟩, .slice none 0 0], .int .i64 x]) → IP e w') := Lib.hid (fun e w' hn he => by rw [HIP.out, if_neg h0]; exact ⟨hn, he⟩)
    clear hr hz HA HIP hg0 hx
    go_enter Tryz.func26, Tryz.ntmps26
    go_wp2_with (fail)
    rw [HG0.out]
    generalize ((w.alloc (.cells #[.string base, .slice A n c] 24)).alloc (.cells #[.string ⟨#[]⟩, .slice none 0 0] 24)) = wA at *
    with_reducible refine HA2.out.mono ?_
    rintro e w1 ⟨n1, rfl⟩
    have RB := R0.new n1
    have t0 := RB.cell' 0 _ rfl
    have t1 := RB.cell' 1 _ rfl
    have s0 := RB.free 0
    have s1 := RB.free 1
    have BE := put2 RB (.string ⟨#[]⟩) (.slice none 0 0)
    have e0 := BE.cell' 0 _ rfl
    have e1 := BE.cell' 1 _ rfl
    have nn := ((n0.trans n1).setCell (p := ⟨g0 + 1, 0, none⟩) (by rw [HG0.out]; simp) (.string ⟨#[]⟩)).setCell (p := ⟨g0 + 1, 1, none⟩) (by rw [HG0.out]; simp) (.slice none 0 0)
    go_wp2
    exact bodyPost_ret (v := .tuple #[.agg #[.string ⟨#[]⟩, .slice none 0 0], .int .i64 x]) (by simp [results, Tryz.results26, go_sem, e0, e1]) rfl (HI2.out _ _ nn rfl)
end Go.Proofs.YtfeknjpinboknaaGreatDoor

