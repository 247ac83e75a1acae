/- The reference's Then. The digest's contract is a hypothesis. Conditions: sizes. -/
import Derived.Test.YtfeknjpinboknaaGreatDoorGW32
import Derived.Test.YtfeknjpinboknaaGreatDoorGX7

namespace Go.Proofs.YtfeknjpinboknaaGreatDoor
open Go Go.RowKit Go.Joins Go.Shelf
set_option linter.unusedSimpArgs false
set_option linter.unusedVariables false

theorem fpairs_take {FS : List (Option Nat)} {k : Nat} {f : Option Nat} (h : FS[k]? = some f) : fpairs 0 (FS.take (k + 1)) = fpairs 0 (FS.take k) ++ fpairs k [f] := by
  obtain ⟨hi, rfl⟩ := List.getElem?_eq_some_iff.1 h
  rw [List.take_succ_eq_append_getElem hi, fpairs_app, List.length_take, Nat.zero_add, Nat.min_eq_left (by omega)]
set_option maxRecDepth 100000 in
set_option maxHeartbeats 32000000 in
theorem rthen_any (sum : ByteArray → ByteArray) (b1 : ByteArray) (A1 : Option Addr) (n1 c1 : Nat) (hs1 : List Hm) (b2 : ByteArray) (A2 : Option Addr) (n2 c2 : Nat) (hs2 : List Hm) (data : ByteArray) (w : World) (hr1 : PRd w A1 n1 hs1) (hz1 : SzH hs1) (hb1 : b1.size ≤ 1000000) (hr2 : PRd w A2 n2 hs2) (hz2 : SzH hs2) (hb2 : b2.size ≤ 1000000) (hd : data.size ≤ 900000) (hS : SumR sum) :
    Calls Tryz.prog 32 #[.agg #[.string b1, .slice A1 n1 c1], .agg #[.string b2, .slice A2 n2 c2], .string data] w (ThnP sum b1 (hs1.map Hm.d) b2 (hs2.map Hm.d) data w) := by
  obtain ⟨j0, hinf, iz0, iz1, iz2⟩ := info_parts Tryz.info81'
  have nA := (((New.refl w).alloc (.cells #[.string b1, .slice A1 n1 c1] 24)).alloc (.cells #[.string b2, .slice A2 n2 c2] 24)).alloc (.cells #[.string ⟨#[]⟩, .slice none 0 0] 24)
  have BP0 := ((Blk.made w 24 #[.string b1, .slice A1 n1 c1]).alloc (.cells #[.string b2, .slice A2 n2 c2] 24)).alloc (.cells #[.string ⟨#[]⟩, .slice none 0 0] 24)
  have BQ0 := (Blk.made (w.alloc (.cells #[.string b1, .slice A1 n1 c1] 24)) 24 #[.string b2, .slice A2 n2 c2]).alloc (.cells #[.string ⟨#[]⟩, .slice none 0 0] 24)
  have BR0 := Blk.made ((w.alloc (.cells #[.string b1, .slice A1 n1 c1] 24)).alloc (.cells #[.string b2, .slice A2 n2 c2] 24)) 24 #[.string ⟨#[]⟩, .slice none 0 0]
  rw [World.size_alloc] at BQ0
  rw [World.size_alloc, World.size_alloc] at BR0
  obtain ⟨g0, hg0⟩ : ∃ g0, w.heap.size = g0 := ⟨_, rfl⟩
  have HG0 := Lib.hid hg0
  rw [hg0] at BP0 BQ0 BR0
  clear hg0
  have HR1 := Lib.hid hr1
  have HR2 := Lib.hid hr2
  have HZ1 := Lib.hid hz1
  have HZ2 := Lib.hid hz2
  have C1 := Lib.hid (rapplyT_any sum b1 A1 n1 c1 hs1 data _ (hr1.new nA) hz1 hb1 (by omega) (Or.inr hS))
  have HSU := Lib.hid hS
  have HTP : Hid (∀ e w', ThnP sum b1 (hs1.map Hm.d) b2 (hs2.map Hm.d) data w e w' = if thnE sum b1 (hs1.map Hm.d) b2 (hs2.map Hm.d) data = 0 then PatP w b1 (thnL data (hs1.map Hm.d) (hs2.map Hm.d)) e w' else New w w' ∧ e = .returned (.tuple #[.agg #[.string ⟨#[]⟩, .slice none 0 0], .int .i64 (thnE sum b1 (hs1.map Hm.d) b2 (hs2.map Hm.d) data)])) := Lib.hid (fun _ _ => rfl)
  generalize ThnP sum b1 (hs1.map Hm.d) b2 (hs2.map Hm.d) data w = TP at *
  have p0 := BP0.cell' 0 _ rfl
  have p1 := BP0.cell' 1 _ rfl
  by_cases h0 : appE sum b1 (hs1.map Hm.d) data = 0
  · have HC1 := Lib.hid C1.out
    rw [appT, if_pos h0, h0] at HC1
    obtain ⟨hv1, hlin1, hcc1, hbs1, hje1⟩ := app_zero h0
    have hTE : thnE sum b1 (hs1.map Hm.d) b2 (hs2.map Hm.d) data = appE sum b2 (hs2.map Hm.d) (joinV (appOut data (hs1.map Hm.d))) := by rw [thnE, if_pos h0]
    have hos1 := out_sz hz1 (show data.size ≤ 1000000 by omega)
    have hjl := joinV_le hje1
    have HLN := Lib.hid (fun W => rlns_ok data W (by omega) hlin1)
    have C2 := Lib.hid (fun W (h : New w W) => rapply_any sum b2 A2 n2 c2 hs2 (joinV (appOut data (hs1.map Hm.d))) W (hr2.new h) hz2 hb2 (by omega) (Or.inr hS))
    have ho1 := ok_of hv1
    have HTR1 := Lib.hid (fun W (h : New w W) => (rtrace_any b1 A1 n1 c1 hs1 (parts 10 data).length W (hr1.new h) hz1 hb1).mono fun e w' h => (And.intro h.1 (by have := h.2; rw [if_pos ⟨hv1, hcc1⟩] at this; exact this)))
    rw [hTE] at HTP
    by_cases h2 : appE sum b2 (hs2.map Hm.d) (joinV (appOut data (hs1.map Hm.d))) = 0
    · have HC2 := Lib.hid (fun W (h : New w W) => (C2.out W h).mono fun e w' h => (And.intro h.1 (by have := h.2; rw [if_pos h2] at this; exact this)))
      obtain ⟨hv2, hlin2, hcc2, hbs2, hje2⟩ := app_zero h2
      have ho2 := ok_of hv2
      have hmp : parts 10 (joinV (appOut data (hs1.map Hm.d))) = appOut data (hs1.map Hm.d) := by
        have hx := hje1
        unfold joinE at hx
        split at hx
        · cases hx
        · rename_i hq
          exact parts_join (fun q => hq (Or.inl q)) (by cases hb : (appOut data (hs1.map Hm.d)).any lfB with | false => rfl | true => exact absurd (Or.inr hb) hq)
      rw [hmp] at hcc2
      obtain ⟨hu, hxl, _, hol1⟩ := thn_ok ho1 hcc1 (mid := appOut data (hs1.map Hm.d)) rfl ho2 hcc2
      have HTR2 := Lib.hid (fun W (h : New w W) => (rtrace_any b2 A2 n2 c2 hs2 (appOut data (hs1.map Hm.d)).length W (hr2.new h) hz2 hb2).mono fun e w' h => (And.intro h.1 (by have := h.2; rw [if_pos ⟨hv2, hcc2⟩] at this; exact this)))
      have HI2 : Hid (∀ e w', PatP w b1 (thnL data (hs1.map Hm.d) (hs2.map Hm.d)) e w' → TP e w') := Lib.hid (fun e w' h => by rw [HTP.out, if_pos h2]; exact h)
      have hxl2 : (thnX (hs1.map Hm.d) (hs2.map Hm.d)).length = (thnO data (hs1.map Hm.d) (hs2.map Hm.d)).length := by
        rw [hxl]
        show _ = (appO (parts 10 (joinV (appOut data (hs1.map Hm.d)))) (hs2.map Hm.d)).1.length
        rw [hmp]
      have HOS2 := Lib.hid (show ∀ s ∈ thnO data (hs1.map Hm.d) (hs2.map Hm.d), s.size ≤ 1000000 from out_sz hz2 (by omega))
      have hon := join_len hje2
      have HOT : Hid (appOut (joinV (appOut data (hs1.map Hm.d))) (hs2.map Hm.d) = thnO data (hs1.map Hm.d) (hs2.map Hm.d)) := Lib.hid rfl
      rw [HOT.out] at HC2 hon
      rw [hmp] at HC2
      have HTL : Hid (thnL data (hs1.map Hm.d) (hs2.map Hm.d) = ofV (thnO data (hs1.map Hm.d) (hs2.map Hm.d)) (parts 10 data).length (fpairs 0 (thnX (hs1.map Hm.d) (hs2.map Hm.d)))) := Lib.hid rfl
      have HAT := Lib.hid (fun (k : Nat) (p : Int × Int) (hp : (trO b2 (hs2.map Hm.d)).1[k]? = some p) => thn_at (b1 := b1) (l1 := hs1.map Hm.d) hp)
      have htl2 := (tr_rise b2 ho2 hcc2).2
      have htl1 : (trO b1 (hs1.map Hm.d)).1.length = (appOut data (hs1.map Hm.d)).length := (tr_rise b1 ho1 hcc1).2
      have hpr2 := pairs_ok ho2 hcc2
      have HPL2 : Hid (∀ (k : Nat) (p : Int × Int), (trO b2 (hs2.map Hm.d)).1[k]? = some p → 0 ≤ p.1 → p.1.toNat < (appOut data (hs1.map Hm.d)).length) := Lib.hid (fun k p hp h => by
        have e := olds_tr b2 (hs2.map Hm.d)
        have e1 : (oldO (hs2.map Hm.d)).1 = olds (trO b2 (hs2.map Hm.d)).1 := by rw [e]
        have key : ∀ (xs : List (Option Nat)) (m i k a : Nat), UpF m i xs → xs[k]? = some (some a) → a < m := by
          intro xs
          induction xs with
          | nil => intro m i k a _ h; simp at h
          | cons x r ih =>
            intro m i k a hu h
            cases k with
            | zero =>
              have : x = some a := by simpa using h
              subst this
              exact hu.2.1
            | succ k =>
              have h' : r[k]? = some (some a) := by simpa using h
              cases x with
              | none => exact ih m i k a hu h'
              | some b => exact ih m _ k a hu.2.2 h'
        refine key _ _ _ k _ hpr2.2.2 ?_
        rw [e1, olds, List.getElem?_map, hp, Option.map_some, if_pos h])
      have hpl := lines_len hlin1
      have hml := join_len hje1
      have htl3 : (trO b2 (hs2.map Hm.d)).1.length = (thnX (hs1.map Hm.d) (hs2.map Hm.d)).length := by rw [hxl, ← htl2]
      have HFB : Hid (∀ p ∈ fpairs 0 (thnX (hs1.map Hm.d) (hs2.map Hm.d)), p.1 ≤ 1024 ∧ p.2 < (thnO data (hs1.map Hm.d) (hs2.map Hm.d)).length) := Lib.hid (fun p hp => by
        have h1 := fpairs_fst hu p hp
        have h2 := fpairs_mem hp
        have h3 := (List.getElem?_eq_some_iff.1 h2.2).1
        rw [← hxl2]
        exact ⟨by omega, by omega⟩)
      have HTL2 := HTL
      generalize thnL data (hs1.map Hm.d) (hs2.map Hm.d) = TL at *
      generalize thnX (hs1.map Hm.d) (hs2.map Hm.d) = FS at *
      generalize thnO data (hs1.map Hm.d) (hs2.map Hm.d) = OT at *
      generalize appOut data (hs1.map Hm.d) = MD at *
      generalize (trO b1 (hs1.map Hm.d)).1 = T1 at *
      generalize (trO b2 (hs2.map Hm.d)).1 = T2 at *
      generalize parts 10 data = LS at *
      obtain ⟨ol, hol⟩ : ∃ ol, OT.length = ol := ⟨_, rfl⟩
      obtain ⟨ml, hml1⟩ : ∃ ml, MD.length = ml := ⟨_, rfl⟩
      obtain ⟨ll, hll⟩ : ∃ ll, LS.length = ll := ⟨_, rfl⟩
      rw [htl3, hxl2, hol] at HTR2
      rw [htl1, hll, hml1] at HTR1
      rw [hml1] at HTR2 HC2 HPL2 hml htl1
      rw [hol] at HC2 hon hxl2
      rw [hll] at HLN HTL2 hpl
      rw [hol] at HFB
      have HOL := Lib.hid hol
      have HML := Lib.hid hml1
      have HT1L : Hid (T1.length = ml) := Lib.hid htl1
      have HT2L : Hid (T2.length = ol) := Lib.hid (htl3.trans hxl2)
      have HFL : Hid (FS.length = ol) := Lib.hid hxl2
      have hbl1 : b1.size ≤ 1000000 := hb1
      clear hr1 hz1 hb1 hr2 hz2 hb2 hS h0 h2 C1 C2 HTP hv1 hlin1 hcc1 hbs1 hje1 hTE hos1 hjl ho1 hv2 hlin2 hcc2 hbs2 hje2 ho2 hmp hu hxl hol1 htl2 hpr2 htl1 htl3 hxl2 hol hml1 hll HTL HOT
      go_enter Tryz.func32, Tryz.ntmps32
      go_wp2_with (fail)
      (try simp only [World.size_alloc])
      rw [HG0.out]
      generalize (((w.alloc (.cells #[.string b1, .slice A1 n1 c1] 24)).alloc (.cells #[.string b2, .slice A2 n2 c2] 24)).alloc (.cells #[.string ⟨#[]⟩, .slice none 0 0] 24)) = wA at *
      with_reducible refine HC1.out.mono ?_
      rintro e w1 ⟨rfl, m1⟩
      have BP1 := BP0.new m1
      have BQ1 := BQ0.new m1
      have BR1 := BR0.new m1
      have N1 := nA.trans m1
      have q0 := BQ1.cell' 0 _ rfl
      have q1 := BQ1.cell' 1 _ rfl
      have C3 := Lib.hid (HC2.out _ N1)
      clear p0 p1 BP0 BQ0 BR0 m1 nA HC1 HC2
      go_wp2_with (fail)
      with_reducible refine C3.out.mono ?_
      rintro e w2 ⟨m2, AL2, cl2, AO2, co2, rfl, L2, LO2⟩
      have BP2 := BP1.new m2
      have BQ2 := BQ1.new m2
      have BR2 := BR1.new m2
      have N2 := N1.trans m2
      have HLO := Lib.hid LO2
      clear q0 q1 BP1 BQ1 BR1 N1 m2 C3 L2 LO2
      go_wp2_with (fail)
      with_reducible refine (HLN.out _).mono ?_
      rintro e w3 ⟨AL3, cl3, rfl, L3, m3⟩
      have BP3 := BP2.new m3
      have BQ3 := BQ2.new m3
      have BR3 := BR2.new m3
      have N3 := N2.trans m3
      have HLO3 := Lib.hid (HLO.out.new m3)
      have p0 := BP3.cell' 0 _ rfl
      have p1 := BP3.cell' 1 _ rfl
      have C3 := Lib.hid (HTR1.out _ N3)
      clear HTR1 BP2 BQ2 BR2 N2 m3 L3 HLO
      go_wp2_with (fail)
      with_reducible refine C3.out.mono ?_
      rintro e w4 ⟨m4, AT1, ct1, rfl, rT1, hct1⟩
      have BP4 := BP3.new m4
      have BQ4 := BQ3.new m4
      have BR4 := BR3.new m4
      have N4 := N3.trans m4
      have HLO4 := Lib.hid (HLO3.out.new m4)
      have q0 := BQ4.cell' 0 _ rfl
      have q1 := BQ4.cell' 1 _ rfl
      have HRT1 := Lib.hid rT1
      have C4 := Lib.hid (HTR2.out _ N4)
      clear p0 p1 BP3 BQ3 BR3 N3 m4 rT1 HTR2 C3 HLO3
      go_wp2_with (fail)
      with_reducible refine C4.out.mono ?_
      rintro e w5 ⟨m5, AT2, ct2, rfl, rT2, hct2⟩
      have HBP := Lib.hid (BP4.new m5)
      have HBR := Lib.hid (BR4.new m5)
      have HN5 := Lib.hid (N4.trans m5)
      have HLO5 := Lib.hid (HLO4.out.new m5)
      have HRT1' := Lib.hid (HRT1.out.below m5)
      have HRT2 := Lib.hid rT2
      obtain ⟨gP, hgP⟩ : ∃ gP, w5.heap.size = gP := ⟨_, rfl⟩
      have HGP := Lib.hid hgP
      have OW0 : Hid (w5.ownsRow gP 81 2 (.slice none 0 0) 0 []) := Lib.hid (World.ownsRow_nil _ _ _ _)
      clear q0 q1 BP4 BQ4 BR4 N4 m5 rT2 C4 hgP HRT1 HLO4
      go_wp2
      go_loopw [18, 64] (fun v18 v64 wr => ∃ (k : Nat) (V : Value), V = v18 ∧ v64 = .int .i64 (k : Int) ∧ k ≤ ol ∧ New w5 wr ∧ wr.ownsRow gP 81 2 V (fpairs 0 (FS.take k)).length ((fpairs 0 (FS.take k)).flatMap prC)) (fun _ v64 _ => ol - (intOf v64).toNat)
      case atStart => exact ⟨0, _, rfl, rfl, Nat.zero_le _, New.refl _, OW0.out⟩
      case round =>
        obtain ⟨k, V, rfl, rfl, hk, hn, hown⟩ := hrel
        have HOW := Lib.hid hown
        have HN := Lib.hid hn
        have hgs : gP ≤ wr.heap.size := by have := hn.size; rw [HGP.out] at this; exact this
        by_cases hlt : k < ol
        · obtain ⟨bk, o, rfl, hbk, p, hp, hcell⟩ := rd_row (f := plC) (k := 2) (fun _ => rfl) HT2L.out (HRT2.out.below hn) hlt
          obtain ⟨pa, pb⟩ := p
          have q0 := hcell 0 (.int .i64 pa) (by omega) rfl
          have q1 := hcell 1 (.int .i64 pb) (by omega) rfl
          simp only [Nat.add_zero] at q0
          rw [← Nat.add_assoc] at q1
          have i0' : (0 : Int) ≤ (k : Int) := by omega
          have i1' : (k : Int) < (ol : Int) := by omega
          have BX := Blk.made wr 44 #[.int .i64 pa, .int .i64 pb]
          have y0 := BX.cell' 0 _ rfl
          have y1 := BX.cell' 1 _ rfl
          have hat := HAT.out k _ hp
          have hpl2 := HPL2.out k _ hp
          simp only at hat hpl2
          have hdl := fpairs_le (FS.take k) 0
          rw [List.length_take, HFL.out] at hdl
          clear hcell hp hown
          by_cases hpa : 0 ≤ pa
          · have hlt2 := hpl2 hpa
            obtain ⟨u, rfl⟩ : ∃ u : Nat, pa = (u : Int) := ⟨pa.toNat, by omega⟩
            rw [Int.toNat_natCast] at hlt2
            obtain ⟨bt, ot, rfl, hbt, q, hq, hcell⟩ := rd_row (f := plC) (k := 2) (fun _ => rfl) HT1L.out (HRT1'.out.below (HN.out.alloc (.cells #[.int .i64 (u : Int), .int .i64 pb] 44))) hlt2
            have z0 := hcell 0 (.int .i64 q.1) (by omega) rfl
            simp only [Nat.add_zero] at z0
            rw [if_pos hpa, Int.toNat_natCast, hq] at hat
            simp only at hat
            have t1 : decide ((0 : Int) ≤ (u : Int)) = true := decide_eq_true hpa
            have u0 : (0 : Int) ≤ (u : Int) := by omega
            have u1 : (u : Int) < (ml : Int) := by omega
            obtain ⟨qa, qb⟩ := q
            simp only at z0 hat
            clear hcell hq
            by_cases hqa : 0 ≤ qa
            · rw [if_pos hqa] at hat
              obtain ⟨a, rfl⟩ : ∃ a : Nat, qa = (a : Int) := ⟨qa.toNat, by omega⟩
              rw [Int.toNat_natCast] at hat
              have HPT3 : Hid (fpairs 0 (FS.take (k + 1)) = fpairs 0 (FS.take k) ++ [(a, k)]) := Lib.hid (fpairs_take hat)
              have t2 : decide ((0 : Int) ≤ (a : Int)) = true := decide_eq_true hqa
              generalize fpairs 0 (FS.take k) = done at *
              clear hat hpl2
              go_upto_if 80 with (fail)
              have HOW3 := Lib.hid (HOW.out.alloc (.cells #[.int .i64 (u : Int), .int .i64 pb] 44))
              have HN3 := Lib.hid (HN.out.alloc (.cells #[.int .i64 (u : Int), .int .i64 pb] 44))
              have hgs3 : gP ≤ (wr.alloc (.cells #[.int .i64 (u : Int), .int .i64 pb] 44)).heap.size := by rw [World.size_alloc]; omega
              have hgl3 : wr.heap.size < (wr.alloc (.cells #[.int .i64 (u : Int), .int .i64 pb] 44)).heap.size := by rw [World.size_alloc]; omega
              generalize wr.alloc (.cells #[.int .i64 (u : Int), .int .i64 pb] 44) = w7 at *
              generalize wr.heap.size = gx at *
              clear q0 q1
              go_wp2_with (at_builtin; refine wpList_append_own_at _ rfl _ _ 80 rfl gP 81 j0 (.agg #[.int .i64 0, .int .i64 0]) 2 16 Tryz.underlying80' hinf iz0 iz1 iz2 rfl (by decide) _ (done.length) _ rfl (HOW3.out.alloc _) ⟨w7.heap.size, 0, none⟩ 1 1 [.int .i64 (a : Int), .int .i64 (k : Int)] rfl rfl ?c1 ?c2 ?c3 ?c4 ?c5 ?_)
              case c1 => exact World.news_of_block (cs := #[.int .i64 (a : Int), .int .i64 (k : Int)]) (t := 81) (fr := (0, 0)) (heap_alloc_new _ _)
              case c2 => simp [Value.oneCell']
              case c3 => unfold maxLen; omega
              case c4 => omega
              case c5 => simp; omega
              intro v5 w8 hown5 hg5 _ h5
              have HNW := Lib.hid (Below.grown (HN3.out.alloc (.cells #[.int .i64 (a : Int), .int .i64 (k : Int)] 81)) hg5 (by rw [World.size_alloc, HGP.out]; omega) (fun q e => by rw [HGP.out]; exact (HOW3.out.lt q e).1))
              have HOW5 := Lib.hid (own_len hown5 (n' := (done ++ [(a, k)]).length) (xs' := (done ++ [(a, k)]).flatMap prC) (by simp) (by simp [prC]))
              clear hown5 hg5 h5
              go_wp2
              go_roundw
              case rel => exact ⟨k + 1, _, rfl, by go_num, by omega, HNW.out, by rw [HPT3.out]; exact HOW5.out⟩
              case measure => (simp [intOf]; try omega)
            · rw [if_neg hqa] at hat
              have HPT3 : Hid (fpairs 0 (FS.take (k + 1)) = fpairs 0 (FS.take k)) := Lib.hid (by rw [fpairs_take hat]; exact List.append_nil _)
              have t2 : decide ((0 : Int) ≤ qa) = false := decide_eq_false hqa
              clear hat hpl2
              go_wp2
              go_roundw
              case rel => exact ⟨k + 1, _, rfl, by go_num, by omega, HN.out.alloc _, by rw [HPT3.out]; exact HOW.out.alloc _⟩
              case measure => (simp [intOf]; try omega)
          · rw [if_neg hpa] at hat
            have HPT3 : Hid (fpairs 0 (FS.take (k + 1)) = fpairs 0 (FS.take k)) := Lib.hid (by rw [fpairs_take hat]; exact List.append_nil _)
            have t1 : decide ((0 : Int) ≤ pa) = false := decide_eq_false hpa
            clear hat hpl2
            go_wp2
            go_roundw
            case rel => exact ⟨k + 1, _, rfl, by go_num, by omega, HN.out.alloc _, by rw [HPT3.out]; exact HOW.out.alloc _⟩
            case measure => (simp [intOf]; try omega)
        · obtain rfl : k = ol := by omega
          have hown2 := HOW.out
          have e9 : FS.take k = FS := List.take_of_length_le (by rw [HFL.out]; exact Nat.le_refl _)
          rw [e9] at hown2
          have hpl9 := fpairs_le FS 0
          rw [HFL.out] at hpl9
          obtain ⟨A9, c9, rfl, hc9, _, hrd⟩ := own_form hown2

          have f0 := (HBP.out.new hn).cell' 0 _ rfl
          have HOF := Lib.hid (of_any b1 ll A9 AO2 (fpairs 0 FS).length c9 k co2 (fpairs 0 FS) OT wr hrd rfl (HLO5.out.new hn) HOL.out (by omega) (by omega) (by omega) HFB.out HOS2.out)
          have HZB := Lib.hid (ofL_bound HOS2.out (by rw [HOL.out]; omega) (fpairs 0 FS) (fun p hp => by rw [HOL.out]; exact HFB.out p hp) (by omega)).2.1
          rw [← HTL2.out] at HOF
          have HZV : Hid (SzK TL) := Lib.hid (by
            rw [HTL2.out, ofV, emit]
            exact (HZB.out.app (SzK.dropH _)).app (SzK.addH (by simp only [List.length_take, List.length_drop]; rw [HOL.out]; omega) (fun s h => HOS2.out s (List.mem_of_mem_drop (List.mem_of_mem_take h)))))
          have HNW := Lib.hid (HN5.out.trans hn)
          have HRR := Lib.hid (HBR.out.new hn)
          have HPX := Lib.hid (fun (W : World) (h : New wr W) => HNW.out.trans h)
          have HRX := Lib.hid (fun (W : World) (h : New wr W) => HRR.out.new h)
          clear hrd hown hown2 HOW e9 hc9 HZB HN
          generalize (fpairs 0 FS).length = pl at *
          go_wp2_with (fail)
          with_reducible refine HOF.out.mono ?_
          rintro e w6 ⟨VH, b9, hs6, rfl, hBP, hm, hl⟩
          obtain ⟨AV, cV, rfl⟩ := own_cap hBP.own
          obtain ⟨AV', cV', hq, hcV, hpr⟩ := own_prd hBP.own hBP.ln
          obtain ⟨rfl, rfl⟩ : AV = AV' ∧ cV = cV' := by injection hq with q1 q2 q3; exact ⟨q1, q3⟩
          have HSZ := Lib.hid (SzK.szh (hs := hs6) (by rw [hm]; exact HZV.out) (by omega))
          have nb6 := (New.refl w6).alloc (.cells #[.string b1, .slice AV hs6.length cV] 24)
          have BX := Blk.made w6 24 #[.string b1, .slice AV hs6.length cV]
          have HPB := Lib.hid (hBP.new nb6)
          have HVA := Lib.hid (rvalid_any b1 AV hs6.length cV hs6 _ (hpr.new nb6) HSZ.out hbl1)
          rw [hm] at HVA
          have HBX := Lib.hid BX
          have HHM := Lib.hid hm
          have hgw : w6.heap.size < (w6.alloc (.cells #[.string b1, .slice AV hs6.length cV] 24)).heap.size := by rw [World.size_alloc]; omega
          clear hBP hq hpr nb6 BX hm hgw f0
          go_wp2_with (fail)
          with_reducible refine HVA.out.mono ?_
          rintro e w8 ⟨rfl, n8⟩
          have PB := HPB.out.new n8
          have RB := HRX.out _ PB.nw
          have BX := HBX.out.new n8
          have x0 := BX.cell' 0 _ rfl
          have x1 := BX.cell' 1 _ rfl
          have t0 := RB.cell' 0 _ rfl
          have t1 := RB.cell' 1 _ rfl
          have s0 := RB.free 0
          have s1' := RB.free 1
          have hg01 : w.heap.size ≤ g0 + 1 + 1 := by rw [HG0.out]; omega
          by_cases hv : validV b1 TL = true
          · obtain ⟨nn, pp, ll2, hc⟩ := PB.ret HNW.out RB hg01
            have HF : Hid (PatP w b1 TL (.returned (.tuple #[.agg #[.string b1, .slice AV hs6.length cV], .int .i64 0])) ((w8.setCell ⟨g0 + 1 + 1, 0, none⟩ (.string b1)).setCell ⟨g0 + 1 + 1, 1, none⟩ (.slice AV hs6.length cV))) := Lib.hid ⟨nn, by rw [if_pos hv]; exact ⟨AV, cV, hs6, rfl, pp, ll2, hc, HHM.out⟩⟩
            have BE := put2 RB (.string b1) (.slice AV hs6.length cV)
            have e0 := BE.cell' 0 _ rfl
            have e1 := BE.cell' 1 _ rfl
            clear nn pp ll2 hc PB BX n8
            rw [hv]
            go_wp2
            exact bodyPost_ret (v := .tuple #[.agg #[.string b1, .slice AV hs6.length cV], .int .i64 0]) (by simp [results, Tryz.results32, go_sem, e0, e1]) rfl (HI2.out _ _ HF.out)
          · have hvf : validV b1 TL = false := (by simpa using hv)
            have nn := ((HPX.out _ PB.nw).setCell (p := ⟨g0 + 1 + 1, 0, none⟩) hg01 (.string ⟨#[]⟩)).setCell (p := ⟨g0 + 1 + 1, 1, none⟩) hg01 (.slice none 0 0)
            have HF : Hid (PatP w b1 TL (.returned (.tuple #[.agg #[.string ⟨#[]⟩, .slice none 0 0], .int .i64 10])) ((w8.setCell ⟨g0 + 1 + 1, 0, none⟩ (.string ⟨#[]⟩)).setCell ⟨g0 + 1 + 1, 1, none⟩ (.slice none 0 0))) := Lib.hid ⟨nn, by rw [if_neg hv]⟩
            have BE := put2 RB (.string ⟨#[]⟩) (.slice none 0 0)
            have e0 := BE.cell' 0 _ rfl
            have e1 := BE.cell' 1 _ rfl
            clear nn PB BX n8
            rw [hvf]
            go_wp2
            exact bodyPost_ret (v := .tuple #[.agg #[.string ⟨#[]⟩, .slice none 0 0], .int .i64 10]) (by simp [results, Tryz.results32, go_sem, e0, e1]) rfl (HI2.out _ _ HF.out)
    · have HC2 := Lib.hid (fun W (h : New w W) => (C2.out W h).mono fun e w' h => (And.intro h.1 (by have := h.2; rw [if_neg h2] at this; exact this)))
      obtain ⟨x, hx⟩ : ∃ x, appE sum b2 (hs2.map Hm.d) (joinV (appOut data (hs1.map Hm.d))) = x := ⟨_, rfl⟩
      rw [hx] at HC2 HTP h2
      have hx1 : (x == 0) = false := by simpa using h2
      have hx2 : (x != 0) = true := by simpa using h2
      have HI2 : Hid (∀ e w', New w w' → e = .returned (.tuple #[.agg #[.string ⟨#[]⟩, .slice none 0 0], .int .i64 x]) → TP e w') := Lib.hid (fun e w' hn he => by rw [HTP.out, if_neg h2]; exact ⟨hn, he⟩)
      obtain ⟨jv, hjv⟩ : ∃ jv, joinV (appOut data (hs1.map Hm.d)) = jv := ⟨_, rfl⟩
      rw [hjv] at HC2 HC1
      clear hr1 hz1 hb1 hr2 hz2 hb2 hS h0 C1 C2 HTP hv1 hlin1 hcc1 hbs1 hje1 hTE hos1 hjl ho1 hx hjv HTR1 HSU HLN
      go_enter Tryz.func32, Tryz.ntmps32
      go_wp2_with (fail)
      (try simp only [World.size_alloc])
      rw [HG0.out]
      generalize (((w.alloc (.cells #[.string b1, .slice A1 n1 c1] 24)).alloc (.cells #[.string b2, .slice A2 n2 c2] 24)).alloc (.cells #[.string ⟨#[]⟩, .slice none 0 0] 24)) = wA at *
      with_reducible refine HC1.out.mono ?_
      rintro e w1 ⟨rfl, m1⟩
      have BQ1 := BQ0.new m1
      have BR1 := BR0.new m1
      have N1 := nA.trans m1
      have q0 := BQ1.cell' 0 _ rfl
      have q1 := BQ1.cell' 1 _ rfl
      have C3 := Lib.hid (HC2.out _ N1)
      clear p0 p1 BP0 BQ0 BR0 m1 nA HC1 HC2
      go_wp2_with (fail)
      with_reducible refine C3.out.mono ?_
      rintro e w3 ⟨hS, rfl⟩
      have RB := BR1.new hS
      have t0 := RB.cell' 0 _ rfl
      have t1 := RB.cell' 1 _ rfl
      have s0 := RB.free 0
      have s1 := RB.free 1
      have BE := put2 RB (.string ⟨#[]⟩) (.slice none 0 0)
      have e0 := BE.cell' 0 _ rfl
      have e1 := BE.cell' 1 _ rfl
      have nn := ((N1.trans hS).setCell (p := ⟨g0 + 1 + 1, 0, none⟩) (by rw [HG0.out]; simp; omega) (.string ⟨#[]⟩)).setCell (p := ⟨g0 + 1 + 1, 1, none⟩) (by rw [HG0.out]; simp; omega) (.slice none 0 0)
      clear q0 q1 BQ1 BR1 N1 hS
      go_wp2
      exact bodyPost_ret (v := .tuple #[.agg #[.string ⟨#[]⟩, .slice none 0 0], .int .i64 x]) (by simp [results, Tryz.results32, go_sem, e0, e1]) rfl (HI2.out _ _ nn rfl)
  · have HC1 := Lib.hid C1.out
    have hTE : thnE sum b1 (hs1.map Hm.d) b2 (hs2.map Hm.d) data = appE sum b1 (hs1.map Hm.d) data := by rw [thnE, if_neg h0]
    rw [hTE] at HTP
    rw [appT, if_neg h0] at HC1
    obtain ⟨x, hx⟩ : ∃ x, appE sum b1 (hs1.map Hm.d) data = x := ⟨_, rfl⟩
    rw [hx] at HC1 HTP h0
    have hx1 : (x == 0) = false := by simpa using h0
    have hx2 : (x != 0) = true := by simpa using h0
    have HI2 : Hid (∀ e w', New w w' → e = .returned (.tuple #[.agg #[.string ⟨#[]⟩, .slice none 0 0], .int .i64 x]) → TP e w') := Lib.hid (fun e w' hn he => by rw [HTP.out, if_neg h0]; exact ⟨hn, he⟩)
    clear hr1 hz1 hb1 hr2 hz2 hb2 hS C1 HTP hTE hx HSU
    go_enter Tryz.func32, Tryz.ntmps32
    go_wp2_with (fail)
    (try simp only [World.size_alloc])
    rw [HG0.out]
    generalize (((w.alloc (.cells #[.string b1, .slice A1 n1 c1] 24)).alloc (.cells #[.string b2, .slice A2 n2 c2] 24)).alloc (.cells #[.string ⟨#[]⟩, .slice none 0 0] 24)) = wA at *
    with_reducible refine HC1.out.mono ?_
    rintro e w1 ⟨rfl, m1⟩
    have RB := BR0.new m1
    have t0 := RB.cell' 0 _ rfl
    have t1 := RB.cell' 1 _ rfl
    have s0 := RB.free 0
    have s1 := RB.free 1
    have BE := put2 RB (.string ⟨#[]⟩) (.slice none 0 0)
    have e0 := BE.cell' 0 _ rfl
    have e1 := BE.cell' 1 _ rfl
    have nn := ((nA.trans m1).setCell (p := ⟨g0 + 1 + 1, 0, none⟩) (by rw [HG0.out]; simp; omega) (.string ⟨#[]⟩)).setCell (p := ⟨g0 + 1 + 1, 1, none⟩) (by rw [HG0.out]; simp; omega) (.slice none 0 0)
    clear p0 p1 BP0 BQ0 BR0 m1 nA HC1
    go_wp2
    exact bodyPost_ret (v := .tuple #[.agg #[.string ⟨#[]⟩, .slice none 0 0], .int .i64 x]) (by simp [results, Tryz.results32, go_sem, e0, e1]) rfl (HI2.out _ _ nn rfl)
end Go.Proofs.YtfeknjpinboknaaGreatDoor

