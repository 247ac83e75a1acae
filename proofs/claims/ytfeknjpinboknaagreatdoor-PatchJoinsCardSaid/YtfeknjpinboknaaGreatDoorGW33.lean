/- The program's Then. The digest's contract is a hypothesis. Conditions: sizes. -/
import Derived.Test.YtfeknjpinboknaaGreatDoorGBase
import Derived.Test.YtfeknjpinboknaaGreatDoorGW22
import Derived.Test.YtfeknjpinboknaaGreatDoorGW8
import Derived.Test.YtfeknjpinboknaaGreatDoorGX7

namespace Go.Proofs.YtfeknjpinboknaaGreatDoor
open Go Go.RowKit Go.Joins Go.Shelf
set_option linter.unusedSimpArgs false
set_option linter.unusedVariables false

theorem lines_len9 {s : ByteArray} (h : linesE s = 0) : (parts 10 s).length ≤ 1024 := by unfold linesE at h; split at h <;> omega
set_option maxRecDepth 100000 in
set_option maxHeartbeats 32000000 in
theorem then_yes (sum : ByteArray → ByteArray) (b1 : ByteArray) (A1 : Option Addr) (n1 c1 : Nat) (hs1 : List Hm) (b2 : ByteArray) (A2 : Option Addr) (n2 c2 : Nat) (hs2 : List Hm) (data : ByteArray) (w : World) (hr1 : PRd w A1 n1 hs1) (hz1 : SzH hs1) (hb1 : b1.size ≤ 1000000) (hr2 : PRd w A2 n2 hs2) (hz2 : SzH hs2) (hb2 : b2.size ≤ 1000000) (hd : data.size ≤ 900000) (hE : Env w) (hS : SumC sum) (hh0 : appE sum b1 (hs1.map Hm.d) data = 0) (hh2 : appE sum b2 (hs2.map Hm.d) (joinV (appOut data (hs1.map Hm.d))) = 0) :
    Calls Tryz.prog 31 #[.agg #[.string b1, .slice A1 n1 c1], .agg #[.string b2, .slice A2 n2 c2], .string data] w (ThnP sum b1 (hs1.map Hm.d) b2 (hs2.map Hm.d) data w) := by
  have nA := (((New.refl w).alloc (.cells #[.string b1, .slice A1 n1 c1] 24)).alloc (.cells #[.string b2, .slice A2 n2 c2] 24)).alloc (.cells #[.string ⟨#[]⟩, .slice none 0 0] 24)
  have BP0 := ((Blk.made w 24 #[.string b1, .slice A1 n1 c1]).alloc (.cells #[.string b2, .slice A2 n2 c2] 24)).alloc (.cells #[.string ⟨#[]⟩, .slice none 0 0] 24)
  have BQ0 := (Blk.made (w.alloc (.cells #[.string b1, .slice A1 n1 c1] 24)) 24 #[.string b2, .slice A2 n2 c2]).alloc (.cells #[.string ⟨#[]⟩, .slice none 0 0] 24)
  have BR0 := Blk.made ((w.alloc (.cells #[.string b1, .slice A1 n1 c1] 24)).alloc (.cells #[.string b2, .slice A2 n2 c2] 24)) 24 #[.string ⟨#[]⟩, .slice none 0 0]
  rw [World.size_alloc] at BQ0
  rw [World.size_alloc, World.size_alloc] at BR0
  obtain ⟨g0, hg0⟩ : ∃ g0, w.heap.size = g0 := ⟨_, rfl⟩
  have HG0 := Lib.hid hg0
  rw [hg0] at BP0 BQ0 BR0
  clear hg0
  have HE := Lib.hid hE
  have HR1 := Lib.hid hr1
  have HR2 := Lib.hid hr2
  have HZ1 := Lib.hid hz1
  have HZ2 := Lib.hid hz2
  have C1 := Lib.hid (apply_any sum b1 A1 n1 c1 hs1 data _ (hr1.new nA) hz1 hb1 (by omega) (hE.new nA) (Or.inr hS))
  have HSU := Lib.hid hS
  have HTP : Hid (∀ e w', ThnP sum b1 (hs1.map Hm.d) b2 (hs2.map Hm.d) data w e w' = if thnE sum b1 (hs1.map Hm.d) b2 (hs2.map Hm.d) data = 0 then PatP w b1 (thnL data (hs1.map Hm.d) (hs2.map Hm.d)) e w' else New w w' ∧ e = .returned (.tuple #[.agg #[.string ⟨#[]⟩, .slice none 0 0], .int .i64 (thnE sum b1 (hs1.map Hm.d) b2 (hs2.map Hm.d) data)])) := Lib.hid (fun _ _ => rfl)
  generalize ThnP sum b1 (hs1.map Hm.d) b2 (hs2.map Hm.d) data w = TP at *
  have p0 := BP0.cell' 0 _ rfl
  have p1 := BP0.cell' 1 _ rfl
  rcases (show (appE sum b1 (hs1.map Hm.d) data = 0) ∨ False from Or.inl hh0) with h0 | h0
  · have HC1 := Lib.hid (C1.out.mono fun e w' h => (And.intro h.1 (by have := h.2; rw [if_pos h0] at this; exact this)))
    obtain ⟨hv1, hlin1, hcc1, hbs1, hje1⟩ := app_zero h0
    have hTE : thnE sum b1 (hs1.map Hm.d) b2 (hs2.map Hm.d) data = appE sum b2 (hs2.map Hm.d) (joinV (appOut data (hs1.map Hm.d))) := by rw [thnE, if_pos h0]
    have hos1 := out_sz hz1 (show data.size ≤ 1000000 by omega)
    have hjl := joinV_le hje1
    have HJ := Lib.hid (fun A c W (hr : LnOK W [rowH (appOut data (hs1.map Hm.d)) A c]) => join_strings A (appOut data (hs1.map Hm.d)).length c (appOut data (hs1.map Hm.d)) rfl W (ln_rd hr).1 (ln_rd hr).2 (by have := join_len hje1; omega) hos1)
    have C2 := Lib.hid (fun W (h : New w W) => apply_any sum b2 A2 n2 c2 hs2 (joinV (appOut data (hs1.map Hm.d))) W (hr2.new h) hz2 hb2 (by omega) (hE.new h) (Or.inr hS))
    have ho1 := ok_of hv1
    have HTR1 := Lib.hid (fun W (h : New w W) => (ptrace_any b1 A1 n1 c1 hs1 (parts 10 data).length W (hr1.new h) hz1 hb1 (hE.new h)).mono fun e w' h => (And.intro h.1 (by have := h.2; rw [if_pos ⟨hv1, hcc1⟩] at this; exact this)))
    rw [hTE] at HTP
    rcases (show (appE sum b2 (hs2.map Hm.d) (joinV (appOut data (hs1.map Hm.d))) = 0) ∨ False from Or.inl hh2) with h2 | h2
    · have HC2 := Lib.hid (fun W (h : New w W) => (C2.out W h).mono fun e w' h => (And.intro h.1 (by have := h.2; rw [if_pos h2] at this; exact this)))
      obtain ⟨hv2, hlin2, hcc2, hbs2, hje2⟩ := app_zero h2
      have ho2 := ok_of hv2
      have hmp : parts 10 (joinV (appOut data (hs1.map Hm.d))) = appOut data (hs1.map Hm.d) := by
        have hx := hje1
        unfold joinE at hx
        split at hx
        · cases hx
        · rename_i hq
          exact parts_join (fun q => hq (Or.inl q)) (by cases hb : (appOut data (hs1.map Hm.d)).any lfB with | false => rfl | true => exact absurd (Or.inr hb) hq)
      rw [hmp] at hcc2
      obtain ⟨hu, hxl, _, hol1⟩ := thn_ok ho1 hcc1 (mid := appOut data (hs1.map Hm.d)) rfl ho2 hcc2
      have HTR2 := Lib.hid (fun W (h : New w W) => (ptrace_any b2 A2 n2 c2 hs2 (appOut data (hs1.map Hm.d)).length W (hr2.new h) hz2 hb2 (hE.new h)).mono fun e w' h => (And.intro h.1 (by have := h.2; rw [if_pos ⟨hv2, hcc2⟩] at this; exact this)))
      have HI2 : Hid (∀ e w', PatP w b1 (thnL data (hs1.map Hm.d) (hs2.map Hm.d)) e w' → TP e w') := Lib.hid (fun e w' h => by rw [HTP.out, if_pos h2]; exact h)
      have hxl2 : (thnX (hs1.map Hm.d) (hs2.map Hm.d)).length = (thnO data (hs1.map Hm.d) (hs2.map Hm.d)).length := by
        rw [hxl]
        show _ = (appO (parts 10 (joinV (appOut data (hs1.map Hm.d)))) (hs2.map Hm.d)).1.length
        rw [hmp]
      have HOS2 := Lib.hid (show ∀ s ∈ thnO data (hs1.map Hm.d) (hs2.map Hm.d), s.size ≤ 1000000 from out_sz hz2 (by omega))
      have hon := join_len hje2
      have HOT : Hid (appOut (joinV (appOut data (hs1.map Hm.d))) (hs2.map Hm.d) = thnO data (hs1.map Hm.d) (hs2.map Hm.d)) := Lib.hid rfl
      rw [HOT.out] at HC2 hon
      rw [hmp] at HC2
      have HTL : Hid (thnL data (hs1.map Hm.d) (hs2.map Hm.d) = ofV (thnO data (hs1.map Hm.d) (hs2.map Hm.d)) (parts 10 data).length (fpairs 0 (thnX (hs1.map Hm.d) (hs2.map Hm.d)))) := Lib.hid rfl
      have HAT := Lib.hid (fun (k : Nat) (p : Int × Int) (hp : (trO b2 (hs2.map Hm.d)).1[k]? = some p) => thn_at (b1 := b1) (l1 := hs1.map Hm.d) hp)
      have htl2 := (tr_rise b2 ho2 hcc2).2
      have htl1 : (trO b1 (hs1.map Hm.d)).1.length = (appOut data (hs1.map Hm.d)).length := (tr_rise b1 ho1 hcc1).2
      have hpr2 := pairs_ok ho2 hcc2
      have HPL2 : Hid (∀ (k : Nat) (p : Int × Int), (trO b2 (hs2.map Hm.d)).1[k]? = some p → 0 ≤ p.1 → p.1.toNat < (appOut data (hs1.map Hm.d)).length) := Lib.hid (fun k p hp h => by
        have e := olds_tr b2 (hs2.map Hm.d)
        have e1 : (oldO (hs2.map Hm.d)).1 = olds (trO b2 (hs2.map Hm.d)).1 := by rw [e]
        have key : ∀ (xs : List (Option Nat)) (m i k a : Nat), UpF m i xs → xs[k]? = some (some a) → a < m := by
          intro xs
          induction xs with
          | nil => intro m i k a _ h; simp at h
          | cons x r ih =>
            intro m i k a hu h
            cases k with
            | zero =>
              have : x = some a := by simpa using h
              subst this
              exact hu.2.1
            | succ k =>
              have h' : r[k]? = some (some a) := by simpa using h
              cases x with
              | none => exact ih m i k a hu h'
              | some b => exact ih m _ k a hu.2.2 h'
        refine key _ _ _ k _ hpr2.2.2 ?_
        rw [e1, olds, List.getElem?_map, hp, Option.map_some, if_pos h])
      have HU := Lib.hid hu
      have HBN := Lib.hid (fun (k : Nat) => then_bound HOS2.out hon (m := (parts 10 data).length) (lines_len9 hlin1) (fs := (thnX (hs1.map Hm.d) (hs2.map Hm.d)).take k) (by rw [List.length_take]; omega) (up_take k hu))
      have hpl := lines_len9 hlin1
      have hml := join_len hje1
      have htl3 : (trO b2 (hs2.map Hm.d)).1.length = (thnX (hs1.map Hm.d) (hs2.map Hm.d)).length := by rw [hxl, ← htl2]
      have HTV := Lib.hid (then_V (thnO data (hs1.map Hm.d) (hs2.map Hm.d)) (thnX (hs1.map Hm.d) (hs2.map Hm.d)) (parts 10 data).length hxl2)
      rw [← HTL.out] at HTV
      generalize thnL data (hs1.map Hm.d) (hs2.map Hm.d) = TL at *
      generalize thnX (hs1.map Hm.d) (hs2.map Hm.d) = FS at *
      generalize thnO data (hs1.map Hm.d) (hs2.map Hm.d) = OT at *
      generalize appOut data (hs1.map Hm.d) = MD at *
      generalize (trO b1 (hs1.map Hm.d)).1 = T1 at *
      generalize (trO b2 (hs2.map Hm.d)).1 = T2 at *
      generalize parts 10 data = LS at *
      obtain ⟨ol, hol⟩ : ∃ ol, OT.length = ol := ⟨_, rfl⟩
      obtain ⟨ml, hml1⟩ : ∃ ml, MD.length = ml := ⟨_, rfl⟩
      obtain ⟨ll, hll⟩ : ∃ ll, LS.length = ll := ⟨_, rfl⟩
      rw [htl3, hxl2, hol] at HTR2
      rw [htl1, hll, hml1] at HTR1
      rw [hml1] at HTR2 HC2 HPL2 hml htl1
      rw [hol] at HC2 hon hxl2
      rw [hll] at HBN HTV hpl HU
      rw [hll, hml1] at HC1
      have HOL := Lib.hid hol
      have HML := Lib.hid hml1
      have HT1L : Hid (T1.length = ml) := Lib.hid htl1
      have HT2L : Hid (T2.length = ol) := Lib.hid (htl3.trans hxl2)
      have HFL : Hid (FS.length = ol) := Lib.hid hxl2
      have hbl1 : b1.size ≤ 1000000 := hb1
      clear hr1 hz1 hb1 hr2 hz2 hb2 hE hS h0 h2 C1 C2 HTP hv1 hlin1 hcc1 hbs1 hje1 hTE hos1 hjl ho1 hv2 hlin2 hcc2 hbs2 hje2 ho2 hmp hu hxl hol1 htl2 hpr2 htl1 htl3 hxl2 hol hml1 hll HTL HOT
      go_enter Tryz.func31, Tryz.ntmps31
      go_wp2_with (fail)
      (try simp only [World.size_alloc])
      rw [HG0.out]
      generalize (((w.alloc (.cells #[.string b1, .slice A1 n1 c1] 24)).alloc (.cells #[.string b2, .slice A2 n2 c2] 24)).alloc (.cells #[.string ⟨#[]⟩, .slice none 0 0] 24)) = wA at *
      with_reducible refine HC1.out.mono ?_
      rintro e w1 ⟨m1, AL1, cl1, AM1, cm1, rfl, L1, LM1⟩
      have BP1 := BP0.new m1
      have BQ1 := BQ0.new m1
      have BR1 := BR0.new m1
      have N1 := nA.trans m1
      have HJX := Lib.hid (fun W (h : New w1 W) => HJ.out AM1 cm1 W (LM1.new h))
      have HL1 := Lib.hid L1
      have HLM1 := Lib.hid LM1
      have q0 := BQ1.cell' 0 _ rfl
      have q1 := BQ1.cell' 1 _ rfl
      clear p0 p1 BP0 BQ0 BR0 m1 nA HC1 L1 LM1
      rw [HML.out] at HJX
      go_upto_region 4 with (fail)
      refine wp_region_held_drew (S := (New _)) (by kernel_rfl) ((New.refl _).drew) (fun hS => ?_)
      refine tkT 0 (v := ?v1) hS (fun wq hSq => ?y1) ?_; (case y1 => have hf0 := (BQ1.new hSq).cell' 0 _ rfl; have hf1 := (BQ1.new hSq).cell' 1 _ rfl; clear hSq; go_simp; (try with_reducible rfl)); simp only [Act.put, gqD, gqE, gqF]
      refine tkT 1 (v := ?v2) hS (fun wq hSq => ?y2) ?_; (case y2 => clear hSq; go_simp; (try with_reducible rfl)); simp only [Act.put, gqD, gqE, gqF]
      refine wpAnyH_ready (rs := [2]) (by kernel_rfl) (by simp) ?_
      refine AllReadyH.cons (o := ?oi3) ?hi3 (fun K hK => ?_) AllReadyH.nil
      case hi3 => (simp only [gqA, gqB, gqC]; rfl)
      go_simp
      go_at_call 50
      with_reducible refine (HJX.out _ hS).mono ?_
      rintro e w2 ⟨rfl, m2⟩
      refine hK.out _ _ (hS.trans m2) (fun hS => ?_)
      clear hK K
      refine wpAnyH_ready (rs := [3]) (by kernel_rfl) (by simp) ?_
      refine AllReadyH.cons (o := ?oi4) ?hi4 (fun K hK => ?_) AllReadyH.nil
      case hi4 => (simp only [gqA, gqB, gqC]; rfl)
      go_simp
      go_at_call 49
      with_reducible refine (HC2.out _ (N1.trans hS)).mono ?_
      rintro e w3 ⟨m3, AL3, cl3, AO3, co3, rfl, L3, LO3⟩
      refine hK.out _ _ (hS.trans m3) (fun hS => ?_)
      clear hK K
      refine tkT 4 (v := ?v5) hS (fun wq hSq => ?y5) ?_; (case y5 => clear hSq; go_simp; (try with_reducible rfl)); simp only [Act.put, gqD, gqE, gqF]
      refine tkT 5 (v := ?v6) hS (fun wq hSq => ?y6) ?_; (case y6 => clear hSq; go_simp; (try with_reducible rfl)); simp only [Act.put, gqD, gqE, gqF]
      refine tkT 6 (v := ?v7) hS (fun wq hSq => ?y7) ?_; (case y7 => clear hSq; go_simp; (try with_reducible rfl)); simp only [Act.put, gqD, gqE, gqF]
      refine tkT 7 (v := ?v8) hS (fun wq hSq => ?y8) ?_; (case y8 => clear hSq; go_simp; (try with_reducible rfl)); simp only [Act.put, gqD, gqE, gqF]
      refine tkT 8 (v := ?v9) hS (fun wq hSq => ?y9) ?_; (case y9 => clear hSq; go_simp; (try with_reducible rfl)); simp only [Act.put, gqD, gqE, gqF]
      refine tkT 9 (v := ?v10) hS (fun wq hSq => ?y10) ?_; (case y10 => clear hSq; go_simp; (try with_reducible rfl)); simp only [Act.put, gqD, gqE, gqF]
      refine tkT 10 (v := ?v11) hS (fun wq hSq => ?y11) ?_; (case y11 => clear hSq; go_simp; (try with_reducible rfl)); simp only [Act.put, gqD, gqE, gqF]
      refine wpAnyH_done (by kernel_rfl) ?_ _
      have BP3 := BP1.new hS
      have BQ3 := BQ1.new hS
      have BR3 := BR1.new hS
      have N3 := N1.trans hS
      have HLO := Lib.hid LO3
      clear q0 q1 BP1 BQ1 BR1 N1 hS HL1 HLM1 L3 LO3
      have p0 := BP3.cell' 0 _ rfl
      have p1 := BP3.cell' 1 _ rfl
      have C3 := Lib.hid (HTR1.out _ N3)
      clear HTR1
      go_wp2_with (fail)
      with_reducible refine C3.out.mono ?_
      rintro e w4 ⟨m4, AT1, ct1, rfl, rT1, hct1⟩
      have BP4 := BP3.new m4
      have BQ4 := BQ3.new m4
      have BR4 := BR3.new m4
      have N4 := N3.trans m4
      have HLO4 := Lib.hid (HLO.out.new m4)
      have q0 := BQ4.cell' 0 _ rfl
      have q1 := BQ4.cell' 1 _ rfl
      have HRT1 := Lib.hid rT1
      have C4 := Lib.hid (HTR2.out _ N4)
      clear p0 p1 BP3 BQ3 BR3 N3 m4 rT1 HTR2 C3 HLO
      go_wp2_with (fail)
      with_reducible refine C4.out.mono ?_
      rintro e w5 ⟨m5, AT2, ct2, rfl, rT2, hct2⟩
      have HBP := Lib.hid (BP4.new m5)
      have HBR := Lib.hid (BR4.new m5)
      have HN5 := Lib.hid (N4.trans m5)
      have HLO5 := Lib.hid (HLO4.out.new m5)
      have HRT1' := Lib.hid (HRT1.out.below m5)
      have HRT2 := Lib.hid rT2
      have S5 := Lib.hid (BM.start w5)
      obtain ⟨g, hg⟩ : ∃ g, w5.heap.size = g := ⟨_, rfl⟩
      have HG := Lib.hid hg
      rw [hg] at S5
      clear q0 q1 BP4 BQ4 BR4 N4 m5 rT2 C4 hg HRT1 HLO4
      go_wp2
      rw [HG.out]
      generalize w5.alloc (.cells #[.slice none 0 0, .int .i64 0, .slice none 0 0] 77) = wS at *
      go_loopw [18, 61] (fun v18 v61 wr => ∃ (k at0 d b9 : Nat) (a : List ByteArray) (hs : List Hm) (V VA : Value), v18 = .int .i64 (at0 : Int) ∧ v61 = .int .i64 (k : Int) ∧ k ≤ ol ∧ BM w5 wr g g b9 hs d a V VA ∧ Hid (thenO OT (FS.take k) = (⟨hs.map Hm.d, d, a⟩, at0, k))) (fun _ v61 _ => ol - (intOf v61).toNat)
      case atStart => exact ⟨0, 0, 0, g, [], [], _, _, rfl, rfl, Nat.zero_le _, S5.out, Lib.hid rfl⟩
      case round =>
        obtain ⟨k, at0, d, b9, a, hs, V, VA, rfl, rfl, hk, hBM, HST⟩ := hrel
        obtain ⟨bn1, bn2, bn3, bn4, bn5, bn6, bn7, bn8⟩ := HBN.out k
        rw [HST.out] at bn1 bn2 bn3 bn4 bn5 bn6 bn7
        simp only at bn1 bn2 bn3 bn4 bn5 bn6 bn7
        subst bn2
        have hnr := hBM.nw
        have HNB := Lib.hid bn1
        have HSZ := Lib.hid bn4
        have HSA := Lib.hid bn5
        simp only [List.length_map] at bn6
        clear bn1 bn4 bn5 bn8
        by_cases hlt : k < ol
        · obtain ⟨bk, o, rfl, hbk, p, hp, hcell⟩ := rd_row (f := plC) (k := 2) (fun _ => rfl) HT2L.out (HRT2.out.below hnr) hlt
          obtain ⟨pa, pb⟩ := p
          have q0 := hcell 0 (.int .i64 pa) (by omega) rfl
          have q1 := hcell 1 (.int .i64 pb) (by omega) rfl
          simp only [Nat.add_zero] at q0
          rw [← Nat.add_assoc] at q1
          have i0' : (0 : Int) ≤ (k : Int) := by omega
          have i1' : (k : Int) < (ol : Int) := by omega
          have BX := Blk.made wr 44 #[.int .i64 pa, .int .i64 pb]
          have y0 := BX.cell' 0 _ rfl
          have y1 := BX.cell' 1 _ rfl
          have hat := HAT.out k _ hp
          have hpl2 := HPL2.out k _ hp
          simp only at hat hpl2
          have HB7 := Lib.hid (hBM.new ((New.refl wr).alloc (.cells #[.int .i64 pa, .int .i64 pb] 44)))
          have hgl7 : wr.heap.size < (wr.alloc (.cells #[.int .i64 pa, .int .i64 pb] 44)).heap.size := by rw [World.size_alloc]; omega
          obtain ⟨f, hf⟩ : ∃ f : Int, (if 0 ≤ pa then (match T1[pa.toNat]? with | some q => q.1 | none => -1) else -1) = f := ⟨_, rfl⟩
          have hfs : FS[k]? = some (if 0 ≤ f then some f.toNat else none) := by
            rw [hat, ← hf]
            by_cases h : 0 ≤ pa
            · rw [if_pos h, if_pos h]
              cases T1[pa.toNat]? with
              | none => rfl
              | some q => rfl
            · rw [if_neg h, if_neg h]; rfl
          have HFS := Lib.hid hfs
          have HF := Lib.hid hf
          have HPL := Lib.hid hpl2
          clear hcell hp hat hfs hf hpl2 hBM
          go_upto_if 68 with (fail)
          generalize wr.alloc (.cells #[.int .i64 pa, .int .i64 pb] 44) = w7 at *
          generalize wr.heap.size = gx at *
          clear q0 q1
          go_cut [21] (fun v21 wc => v21 = .int .i64 f ∧ wc = w7)
          case first =>
            by_cases hpa : 0 ≤ pa
            · have t1 : decide ((0 : Int) ≤ pa) = true := decide_eq_true hpa
              have hlt2 := HPL.out hpa
              obtain ⟨u, rfl⟩ : ∃ u : Nat, pa = (u : Int) := ⟨pa.toNat, by omega⟩
              rw [Int.toNat_natCast] at hlt2
              obtain ⟨bt, ot, rfl, hbt, q, hq, hcell⟩ := rd_row (f := plC) (k := 2) (fun _ => rfl) HT1L.out (HRT1'.out.below HB7.out.nw) hlt2
              have z0 := hcell 0 (.int .i64 q.1) (by omega) rfl
              simp only [Nat.add_zero] at z0
              have hf2 : q.1 = f := by have := HF.out; rw [if_pos hpa, Int.toNat_natCast, hq] at this; exact this
              rw [hf2] at z0
              have u0 : (0 : Int) ≤ (u : Int) := by omega
              have u1 : (u : Int) < (ml : Int) := by omega
              clear hcell hq hf2
              go_wp2
              go_meet
              case rel => exact ⟨rfl, rfl⟩
            · have t1 : decide ((0 : Int) ≤ pa) = false := decide_eq_false hpa
              obtain rfl : f = -1 := by have := HF.out; rw [if_neg hpa] at this; exact this.symm
              go_wp2
              go_meet
              case rel => exact ⟨rfl, rfl⟩
          case rest =>
            obtain ⟨h21, hwc⟩ := hcut
            subst h21
            obtain rfl := hwc.symm
            have HMO := Lib.hid (then_more (out := OT) HFS.out)
            by_cases hf0 : 0 ≤ f
            · obtain ⟨o9, rfl⟩ : ∃ o9 : Nat, f = (o9 : Int) := ⟨f.toNat, by omega⟩
              have hfs2 := HFS.out
              rw [if_pos hf0, Int.toNat_natCast] at hfs2
              have hle := then_le (out := OT) HU.out hfs2
              rw [HST.out] at hle
              simp only at hle
              have hmo := HMO.out
              rw [if_pos hf0, Int.toNat_natCast, HST.out, thenS] at hmo
              simp only [Nat.zero_add] at hmo
              have HM2 := Lib.hid hmo
              have t1 : decide ((o9 : Int) < 0) = false := decide_eq_false (by omega)
              have f1 := HB7.out.blk.cell' 1 _ rfl
              have z1 := HB7.out.blk.free 1
              have v0 : IntKind.i64.wrap ((o9 : Int) - (at0 : Int)) = ((o9 - at0 : Nat) : Int) := by rw [IntWalk.i64_in _ (by omega)]; omega
              have v1 : IntKind.i64.wrap ((0 : Int) + ((o9 - at0 : Nat) : Int)) = ((o9 - at0 : Nat) : Int) := by rw [IntWalk.i64_in _ (by omega)]; omega
              have v2 : IntKind.i64.wrap (((0 : Nat) : Int) + ((o9 - at0 : Nat) : Int)) = ((o9 - at0 : Nat) : Int) := by rw [IntWalk.i64_in _ (by omega)]; omega
              clear hmo hfs2 HFS HMO HF HPL
              go_upto_region 20 with (fail)
              have HBD := Lib.hid (HB7.out.setDrop (o9 - at0))
              have hsw : (w7.setCell ⟨g, 1, none⟩ (.int .i64 ((o9 - at0 : Nat) : Int))).heap.size = w7.heap.size := World.size_setCell _ _ _
              generalize w7.setCell ⟨g, 1, none⟩ (.int .i64 ((o9 - at0 : Nat) : Int)) = W1 at *
              have HKP := Lib.hid (show Calls Tryz.prog 52 #[.pointer (some ⟨g, 0, none⟩), .int .i64 1] _ _ from keep_any (n := 1) 5000 HBD.out (by omega) (by omega) (by omega) HNB.out (by omega) (Nat.le_refl 1) (by decide))
              clear f1 z1
              go_wp2_with (go_at_call 52; (with_reducible refine HKP.out.mono ?_); rintro e w6 ⟨rfl, V6, hs6, b6, h6, fr6, hm6, hl6⟩)
              have HR6 : Hid (thenO OT (FS.take (k + 1)) = (⟨hs6.map Hm.d, 0, []⟩, o9 + 1, k + 1)) := Lib.hid (by
                rw [HM2.out, hm6, Bs.keep, if_neg (by decide)])
              go_roundw
              case rel => exact ⟨k + 1, o9 + 1, 0, b6, [], hs6, _, _, by go_num, by go_num, by omega, h6, HR6⟩
              case measure => (simp [intOf]; try omega)
            · have hmo := HMO.out
              rw [if_neg hf0, HST.out, thenS] at hmo
              simp only at hmo
              have t1 : decide (f < 0) = true := decide_eq_true (by omega)
              have r1 := (ln_rd HLO5.out).1
              rw [HOL.out] at r1
              obtain ⟨bx, ox, s, hbx, hbx5, hsx, cx5⟩ := sRd_at r1 (show k < ol by omega)
              have cx : w7.cell? ⟨bx, ox + k, none⟩ = some (.string s) := (HB7.out.nw.cell (p := ⟨bx, ox + k, none⟩) hbx5).trans cx5
              have hbxl : bx < w7.heap.size := Nat.lt_of_lt_of_le hbx5 HB7.out.nw.size
              have hbg : bx < g := by rw [← HG.out]; exact hbx5
              have hmo2 : thenO OT (FS.take (k + 1)) = (⟨hs.map Hm.d, 0, a ++ [s]⟩, at0, k + 1) := by
                rw [hmo]
                obtain ⟨hi, he⟩ := List.getElem?_eq_some_iff.1 hsx
                rw [List.drop_eq_getElem_cons hi, he]; rfl
              have HM2 := Lib.hid hmo2
              have hVA : VA.ownBlock ≠ some g := ne_kind (cs := []) HB7.out.add HB7.out.blk (by decide)
              have f2 := HB7.out.blk.cell' 2 _ rfl
              subst hbx
              have ca : (w7.drew.alloc (.cells #[.string s] 9)).cell? ⟨bx, ox + k, none⟩ = some (.string s) := by rw [World.cell?_alloc_lt _ _ _ (by simpa using hbxl)]; exact cx
              have f2a := (HB7.out.blk.alloc (.cells #[.string s] 9)).cell' 2 _ rfl
              have hk2 := HB7.out.k2
              have hns : some bx ≠ VA.ownBlock := fun e => by have h1 := (HB7.out.add.lt _ e.symm).1; have h2 := HB7.out.h2; omega
              clear hmo hmo2 HFS HMO HF HPL r1 hsx cx5
              go_upto_region 18 with (fail)
              refine wp_region_held_drew (S := (fun Y : World => Y.cell? ⟨bx, ox + k, none⟩ = some (.string s))) (by kernel_rfl) (cx) (fun hS => ?_)
              refine tkT 0 (v := ?v23) hS (fun wq hSq => ?y23) ?_; (case y23 => clear hSq; go_simp; (try with_reducible rfl)); simp only [Act.put, gqD, gqE, gqF]
              refine tkT 2 (v := ?v24) hS (fun wq hSq => ?y24) ?_; (case y24 => clear hSq; go_simp; (try with_reducible rfl)); simp only [Act.put, gqD, gqE, gqF]
              refine tkT 3 (v := ?v25) hS (fun wq hSq => ?y25) ?_; (case y25 => clear hSq; go_simp; (try with_reducible rfl)); simp only [Act.put, gqD, gqE, gqF]
              refine tkT 4 (v := ?v26) hS (fun wq hSq => ?y26) ?_; (case y26 => clear hSq; go_simp; (try with_reducible rfl)); simp only [Act.put, gqD, gqE, gqF]
              refine tkT 5 (v := ?v27) hS (fun wq hSq => ?y27) ?_; (case y27 => have hf0 := hSq; clear hSq; go_simp; (try with_reducible rfl)); simp only [Act.put, gqD, gqE, gqF]
              refine wpAnyH_ready (rs := [1, 6]) (by kernel_rfl) (by simp) ?_
              apply cut1
              case h =>
                intro key
                refine AllReadyH.cons (o := ?oi28) ?hi28 (fun K hK => ?_) (AllReadyH.cons (o := ?oi29) ?hi29 (fun K hK => ?_) AllReadyH.nil)
                case hi28 => (simp only [gqA, gqB, gqC]; rfl)
                case hi29 => (simp only [gqA, gqB, gqC]; rfl)
                · go_simp
                  refine hK.out _ _ (cx) (fun hS => ?_)
                  clear hK K
                  refine wpAnyH_ready (rs := [6]) (by kernel_rfl) (by simp) ?_
                  refine AllReadyH.cons (o := ?oi30) ?hi30 (fun K hK => ?_) AllReadyH.nil
                  case hi30 => (simp only [gqA, gqB, gqC]; rfl)
                  go_simp
                  refine hK.out _ _ (ca) (fun hS => ?_)
                  clear hK K
                  (try simp only [Act.put, gqD, gqE, gqF])
                  exact key
                · go_simp
                  refine hK.out _ _ (ca) (fun hS => ?_)
                  clear hK K
                  refine wpAnyH_ready (rs := [1]) (by kernel_rfl) (by simp) ?_
                  refine AllReadyH.cons (o := ?oi31) ?hi31 (fun K hK => ?_) AllReadyH.nil
                  case hi31 => (simp only [gqA, gqB, gqC]; rfl)
                  go_simp
                  refine hK.out _ _ (ca) (fun hS => ?_)
                  clear hK K
                  (try simp only [Act.put, gqD, gqE, gqF])
                  exact key
              have hS : (fun Y : World => Y.cell? ⟨bx, ox + k, none⟩ = some (.string s)) (w7.drew.alloc (.cells #[.string s] 9)) := ca
              refine wpAnyH_ready (rs := [7]) (by kernel_rfl) (by simp) ?_
              refine AllReadyH.cons (o := ?oi32) ?hi32 (fun K hK => ?_) AllReadyH.nil
              case hi32 => (simp only [gqA, gqB, gqC]; rfl)
              refine step_append_rd (by rfl) _ _ (by rfl) b9 VA a.length (sCells a) (by rfl) (HB7.out.add.drew.alloc _) (some ⟨w7.heap.size, 0, none⟩) 1 1 [s] (by rfl) (rd_new w7.drew (sCells [s]) 9 _ (by simp [sCells])) (by omega) (by show b9 ≤ (w7.alloc (.cells #[.string s] 9)).heap.size; rw [World.size_alloc]; omega) ?_
              intro v5 w8 hown5 hg5 h5
              have BG := (HB7.out.blk.drew.alloc (.cells #[.string s] 9)).grown hg5 (Ne.symm hVA)
              have p0 := BG.cell' 2 _ rfl
              have p1 := BG.free 2
              have cg := hg5.cell ca hns
              have HBA := (HB7.out.drew.new ((New.refl w7.drew).alloc (.cells #[.string s] 9))).addMore hg5 (a' := a ++ [s]) (by rw [sCells_app]; exact hown5)
              have HR9 := Lib.hid HBA
              clear HBA
              obtain ⟨gv, cv, rfl, _, _⟩ := hown5.form (by omega)
              simp only [Act.put, gqD, gqE, gqF]
              refine hK.out _ _ (cg) (fun hS => ?_)
              clear hK K
              refine tkT 8 (v := ?v33) hS (fun wq hSq => ?y33) ?_; (case y33 => clear hSq; go_simp; (try with_reducible rfl)); simp only [Act.put, gqD, gqE, gqF]
              refine wpAnyH_ready (rs := [9]) (by kernel_rfl) (by simp) ?_
              refine AllReadyH.cons (o := ?oi34) ?hi34 (fun K hK => ?_) AllReadyH.nil
              case hi34 => (simp only [gqA, gqB, gqC]; rfl)
              go_simp
              have cs := (World.cell?_setCell_far w8 ⟨g, 2, none⟩ ⟨bx, ox + k, none⟩ (.slice (some ⟨gv, 0, none⟩) (a.length + 1) cv) (show g ≠ bx by omega)).trans cg
              refine hK.out _ _ (cs) (fun hS => ?_)
              clear hK K
              refine wpAnyH_done (by kernel_rfl) ?_ _
              clear hS
              go_wp2
              go_roundw
              case rel => exact ⟨k + 1, at0, 0, b9, a ++ [s], hs, _, _, by go_num, by go_num, by omega, HR9.out, HM2⟩
              case measure => (simp [intOf]; try omega)
        · obtain rfl : k = ol := by omega
          have hst := HST.out
          rw [List.take_of_length_le (by rw [HFL.out]; exact Nat.le_refl _)] at hst
          have htv := HTV.out
          rw [hst] at htv
          simp only [Nat.zero_add] at htv
          have f1 := hBM.blk.cell' 1 _ rfl
          have z1 := hBM.blk.free 1
          have v0 : IntKind.i64.wrap ((ll : Int) - (at0 : Int)) = ((ll - at0 : Nat) : Int) := by rw [IntWalk.i64_in _ (by omega)]; omega
          have v1 : IntKind.i64.wrap ((0 : Int) + ((ll - at0 : Nat) : Int)) = ((ll - at0 : Nat) : Int) := by rw [IntWalk.i64_in _ (by omega)]; omega
          have v2 : IntKind.i64.wrap (((0 : Nat) : Int) + ((ll - at0 : Nat) : Int)) = ((ll - at0 : Nat) : Int) := by rw [IntWalk.i64_in _ (by omega)]; omega
          have HTV2 := Lib.hid htv
          have HB8 := Lib.hid hBM
          have hgb : g ≠ g0 := fun e => by have := HBP.out.lt; rw [HG.out] at this; omega
          have f0 := (HBP.out.new hnr).cell' 0 _ rfl
          have f3 := (Blk.far (p := ⟨g, 1, none⟩) (HBP.out.new hnr) (Ne.symm hgb) (.int .i64 ((ll - at0 : Nat) : Int))).cell' 0 _ rfl
          clear hst htv hBM
          go_upto_region 24 with (fail)
          have HBD := Lib.hid (HB8.out.setDrop (ll - at0))
          generalize wr.setCell ⟨g, 1, none⟩ (.int .i64 ((ll - at0 : Nat) : Int)) = W1 at *
          have HSK := SzK.flush (b := ⟨hs.map Hm.d, ll - at0, a⟩) HSZ.out (by simp only; omega) HSA.out
          have HPA := Lib.hid (patch_any b1 HBD.out (by omega) (by omega) (by omega) HSK hbl1 (HE.out.new HN5.out))
          rw [HTV2.out] at HPA
          clear f0 f1 z1 HSK
          go_wp2_with (fail)
          with_reducible refine HPA.out.mono ?_
          rintro e w9 hpb
          have RB := HBR.out.new hpb.1
          rcases hpb.out HN5.out RB (by rw [HG0.out]; omega) with ⟨AF, nF, cF, hF, hnF, rfl, hk2⟩ | ⟨rfl, hk2⟩
          · have HK := Lib.hid hk2
            have t0 := RB.cell' 0 _ rfl
            have t1 := RB.cell' 1 _ rfl
            have s0 := RB.free 0
            have s1 := RB.free 1
            have BE := put2 RB (.string b1) (.slice AF nF cF)
            have e0 := BE.cell' 0 _ rfl
            have e1 := BE.cell' 1 _ rfl
            clear hk2 hpb hnF
            rename_i K1 hK1
            show K1 _ w9
            (repeat go_step)
            exact bodyPost_ret (v := .tuple #[.agg #[.string b1, .slice AF nF cF], .int .i64 0]) (by simp [results, Tryz.results31, go_sem, e0, e1]) rfl (HI2.out _ _ (HK.out _ rfl))
          · have HK := Lib.hid hk2
            have t0 := RB.cell' 0 _ rfl
            have t1 := RB.cell' 1 _ rfl
            have s0 := RB.free 0
            have s1 := RB.free 1
            have BE := put2 RB (.string ⟨#[]⟩) (.slice none 0 0)
            have e0 := BE.cell' 0 _ rfl
            have e1 := BE.cell' 1 _ rfl
            clear hk2 hpb
            rename_i K1 hK1
            show K1 _ w9
            (repeat go_step)
            exact bodyPost_ret (v := .tuple #[.agg #[.string ⟨#[]⟩, .slice none 0 0], .int .i64 10]) (by simp [results, Tryz.results31, go_sem, e0, e1]) rfl (HI2.out _ _ (HK.out _ rfl))
    · exact h2.elim
  · exact h0.elim
set_option maxRecDepth 100000 in
set_option maxHeartbeats 32000000 in
theorem then_no2 (sum : ByteArray → ByteArray) (b1 : ByteArray) (A1 : Option Addr) (n1 c1 : Nat) (hs1 : List Hm) (b2 : ByteArray) (A2 : Option Addr) (n2 c2 : Nat) (hs2 : List Hm) (data : ByteArray) (w : World) (hr1 : PRd w A1 n1 hs1) (hz1 : SzH hs1) (hb1 : b1.size ≤ 1000000) (hr2 : PRd w A2 n2 hs2) (hz2 : SzH hs2) (hb2 : b2.size ≤ 1000000) (hd : data.size ≤ 900000) (hE : Env w) (hS : SumC sum) (hh0 : appE sum b1 (hs1.map Hm.d) data = 0) (hh2 : ¬ appE sum b2 (hs2.map Hm.d) (joinV (appOut data (hs1.map Hm.d))) = 0) :
    Calls Tryz.prog 31 #[.agg #[.string b1, .slice A1 n1 c1], .agg #[.string b2, .slice A2 n2 c2], .string data] w (ThnP sum b1 (hs1.map Hm.d) b2 (hs2.map Hm.d) data w) := by
  have nA := (((New.refl w).alloc (.cells #[.string b1, .slice A1 n1 c1] 24)).alloc (.cells #[.string b2, .slice A2 n2 c2] 24)).alloc (.cells #[.string ⟨#[]⟩, .slice none 0 0] 24)
  have BP0 := ((Blk.made w 24 #[.string b1, .slice A1 n1 c1]).alloc (.cells #[.string b2, .slice A2 n2 c2] 24)).alloc (.cells #[.string ⟨#[]⟩, .slice none 0 0] 24)
  have BQ0 := (Blk.made (w.alloc (.cells #[.string b1, .slice A1 n1 c1] 24)) 24 #[.string b2, .slice A2 n2 c2]).alloc (.cells #[.string ⟨#[]⟩, .slice none 0 0] 24)
  have BR0 := Blk.made ((w.alloc (.cells #[.string b1, .slice A1 n1 c1] 24)).alloc (.cells #[.string b2, .slice A2 n2 c2] 24)) 24 #[.string ⟨#[]⟩, .slice none 0 0]
  rw [World.size_alloc] at BQ0
  rw [World.size_alloc, World.size_alloc] at BR0
  obtain ⟨g0, hg0⟩ : ∃ g0, w.heap.size = g0 := ⟨_, rfl⟩
  have HG0 := Lib.hid hg0
  rw [hg0] at BP0 BQ0 BR0
  clear hg0
  have HE := Lib.hid hE
  have HR1 := Lib.hid hr1
  have HR2 := Lib.hid hr2
  have HZ1 := Lib.hid hz1
  have HZ2 := Lib.hid hz2
  have C1 := Lib.hid (apply_any sum b1 A1 n1 c1 hs1 data _ (hr1.new nA) hz1 hb1 (by omega) (hE.new nA) (Or.inr hS))
  have HSU := Lib.hid hS
  have HTP : Hid (∀ e w', ThnP sum b1 (hs1.map Hm.d) b2 (hs2.map Hm.d) data w e w' = if thnE sum b1 (hs1.map Hm.d) b2 (hs2.map Hm.d) data = 0 then PatP w b1 (thnL data (hs1.map Hm.d) (hs2.map Hm.d)) e w' else New w w' ∧ e = .returned (.tuple #[.agg #[.string ⟨#[]⟩, .slice none 0 0], .int .i64 (thnE sum b1 (hs1.map Hm.d) b2 (hs2.map Hm.d) data)])) := Lib.hid (fun _ _ => rfl)
  generalize ThnP sum b1 (hs1.map Hm.d) b2 (hs2.map Hm.d) data w = TP at *
  have p0 := BP0.cell' 0 _ rfl
  have p1 := BP0.cell' 1 _ rfl
  rcases (show (appE sum b1 (hs1.map Hm.d) data = 0) ∨ False from Or.inl hh0) with h0 | h0
  · have HC1 := Lib.hid (C1.out.mono fun e w' h => (And.intro h.1 (by have := h.2; rw [if_pos h0] at this; exact this)))
    obtain ⟨hv1, hlin1, hcc1, hbs1, hje1⟩ := app_zero h0
    have hTE : thnE sum b1 (hs1.map Hm.d) b2 (hs2.map Hm.d) data = appE sum b2 (hs2.map Hm.d) (joinV (appOut data (hs1.map Hm.d))) := by rw [thnE, if_pos h0]
    have hos1 := out_sz hz1 (show data.size ≤ 1000000 by omega)
    have hjl := joinV_le hje1
    have HJ := Lib.hid (fun A c W (hr : LnOK W [rowH (appOut data (hs1.map Hm.d)) A c]) => join_strings A (appOut data (hs1.map Hm.d)).length c (appOut data (hs1.map Hm.d)) rfl W (ln_rd hr).1 (ln_rd hr).2 (by have := join_len hje1; omega) hos1)
    have C2 := Lib.hid (fun W (h : New w W) => apply_any sum b2 A2 n2 c2 hs2 (joinV (appOut data (hs1.map Hm.d))) W (hr2.new h) hz2 hb2 (by omega) (hE.new h) (Or.inr hS))
    have ho1 := ok_of hv1
    have HTR1 := Lib.hid (fun W (h : New w W) => (ptrace_any b1 A1 n1 c1 hs1 (parts 10 data).length W (hr1.new h) hz1 hb1 (hE.new h)).mono fun e w' h => (And.intro h.1 (by have := h.2; rw [if_pos ⟨hv1, hcc1⟩] at this; exact this)))
    rw [hTE] at HTP
    rcases (show False ∨ ¬ (appE sum b2 (hs2.map Hm.d) (joinV (appOut data (hs1.map Hm.d))) = 0) from Or.inr hh2) with h2 | h2
    · exact h2.elim
    · have HC2 := Lib.hid (fun W (h : New w W) => (C2.out W h).mono fun e w' h => (And.intro h.1 (by have := h.2; rw [if_neg h2] at this; exact this)))
      obtain ⟨x, hx⟩ : ∃ x, appE sum b2 (hs2.map Hm.d) (joinV (appOut data (hs1.map Hm.d))) = x := ⟨_, rfl⟩
      rw [hx] at HC2 HTP h2
      have hx1 : (x == 0) = false := by simpa using h2
      have hx2 : (x != 0) = true := by simpa using h2
      have HI2 : Hid (∀ e w', New w w' → e = .returned (.tuple #[.agg #[.string ⟨#[]⟩, .slice none 0 0], .int .i64 x]) → TP e w') := Lib.hid (fun e w' hn he => by rw [HTP.out, if_neg h2]; exact ⟨hn, he⟩)
      generalize appOut data (hs1.map Hm.d) = MD at *
      generalize parts 10 data = LS at *
      obtain ⟨ml, hml1⟩ : ∃ ml, MD.length = ml := ⟨_, rfl⟩
      have HML := Lib.hid hml1
      obtain ⟨jv, hjv⟩ : ∃ jv, joinV MD = jv := ⟨_, rfl⟩
      rw [hjv] at HC2 HJ
      rw [hml1] at HC1
      clear hr1 hz1 hb1 hr2 hz2 hb2 hE hS h0 C1 C2 HTP hv1 hlin1 hcc1 hbs1 hje1 hTE hos1 hjl ho1 hml1 hx hjv HTR1 HSU
      go_enter Tryz.func31, Tryz.ntmps31
      go_wp2_with (fail)
      (try simp only [World.size_alloc])
      rw [HG0.out]
      generalize (((w.alloc (.cells #[.string b1, .slice A1 n1 c1] 24)).alloc (.cells #[.string b2, .slice A2 n2 c2] 24)).alloc (.cells #[.string ⟨#[]⟩, .slice none 0 0] 24)) = wA at *
      with_reducible refine HC1.out.mono ?_
      rintro e w1 ⟨m1, AL1, cl1, AM1, cm1, rfl, L1, LM1⟩
      have BQ1 := BQ0.new m1
      have BR1 := BR0.new m1
      have N1 := nA.trans m1
      have HJX := Lib.hid (fun W (h : New w1 W) => HJ.out AM1 cm1 W (LM1.new h))
      have q0 := BQ1.cell' 0 _ rfl
      have q1 := BQ1.cell' 1 _ rfl
      clear p0 p1 BP0 BQ0 BR0 m1 nA HC1 L1 LM1 HJ
      rw [HML.out] at HJX
      go_upto_region 4 with (fail)
      refine wp_region_held_drew (S := (New _)) (by kernel_rfl) ((New.refl _).drew) (fun hS => ?_)
      refine tkT 0 (v := ?v12) hS (fun wq hSq => ?y12) ?_; (case y12 => have hf0 := (BQ1.new hSq).cell' 0 _ rfl; have hf1 := (BQ1.new hSq).cell' 1 _ rfl; clear hSq; go_simp; (try with_reducible rfl)); simp only [Act.put, gqD, gqE, gqF]
      refine tkT 1 (v := ?v13) hS (fun wq hSq => ?y13) ?_; (case y13 => clear hSq; go_simp; (try with_reducible rfl)); simp only [Act.put, gqD, gqE, gqF]
      refine wpAnyH_ready (rs := [2]) (by kernel_rfl) (by simp) ?_
      refine AllReadyH.cons (o := ?oi14) ?hi14 (fun K hK => ?_) AllReadyH.nil
      case hi14 => (simp only [gqA, gqB, gqC]; rfl)
      go_simp
      go_at_call 50
      with_reducible refine (HJX.out _ hS).mono ?_
      rintro e w2 ⟨rfl, m2⟩
      refine hK.out _ _ (hS.trans m2) (fun hS => ?_)
      clear hK K
      refine wpAnyH_ready (rs := [3]) (by kernel_rfl) (by simp) ?_
      refine AllReadyH.cons (o := ?oi15) ?hi15 (fun K hK => ?_) AllReadyH.nil
      case hi15 => (simp only [gqA, gqB, gqC]; rfl)
      go_simp
      go_at_call 49
      with_reducible refine (HC2.out _ (N1.trans hS)).mono ?_
      rintro e w3 ⟨m3, rfl⟩
      refine hK.out _ _ (hS.trans m3) (fun hS => ?_)
      clear hK K
      refine tkT 4 (v := ?v16) hS (fun wq hSq => ?y16) ?_; (case y16 => clear hSq; go_simp; (try with_reducible rfl)); simp only [Act.put, gqD, gqE, gqF]
      refine tkT 5 (v := ?v17) hS (fun wq hSq => ?y17) ?_; (case y17 => clear hSq; go_simp; (try with_reducible rfl)); simp only [Act.put, gqD, gqE, gqF]
      refine tkT 6 (v := ?v18) hS (fun wq hSq => ?y18) ?_; (case y18 => clear hSq; go_simp; (try with_reducible rfl)); simp only [Act.put, gqD, gqE, gqF]
      refine tkT 7 (v := ?v19) hS (fun wq hSq => ?y19) ?_; (case y19 => clear hSq; go_simp; (try with_reducible rfl)); simp only [Act.put, gqD, gqE, gqF]
      refine tkT 8 (v := ?v20) hS (fun wq hSq => ?y20) ?_; (case y20 => clear hSq; go_simp; (try with_reducible rfl)); simp only [Act.put, gqD, gqE, gqF]
      refine tkT 9 (v := ?v21) hS (fun wq hSq => ?y21) ?_; (case y21 => clear hSq; go_simp; (try with_reducible rfl)); simp only [Act.put, gqD, gqE, gqF]
      refine tkT 10 (v := ?v22) hS (fun wq hSq => ?y22) ?_; (case y22 => clear hSq; go_simp; (try with_reducible rfl)); simp only [Act.put, gqD, gqE, gqF]
      refine wpAnyH_done (by kernel_rfl) ?_ _
      have RB := BR1.new hS
      have t0 := RB.cell' 0 _ rfl
      have t1 := RB.cell' 1 _ rfl
      have s0 := RB.free 0
      have s1 := RB.free 1
      have BE := put2 RB (.string ⟨#[]⟩) (.slice none 0 0)
      have e0 := BE.cell' 0 _ rfl
      have e1 := BE.cell' 1 _ rfl
      have nn := ((N1.trans hS).setCell (p := ⟨g0 + 1 + 1, 0, none⟩) (by rw [HG0.out]; simp; omega) (.string ⟨#[]⟩)).setCell (p := ⟨g0 + 1 + 1, 1, none⟩) (by rw [HG0.out]; simp; omega) (.slice none 0 0)
      clear q0 q1 BQ1 BR1 N1 hS
      go_upto_if 42 with (fail)
      iterate 18 go_step
      apply wp_ret
      (try simp only [Exit.inBlock, Exit.then])
      exact bodyPost_ret (v := .tuple #[.agg #[.string ⟨#[]⟩, .slice none 0 0], .int .i64 x]) (by simp [results, Tryz.results31, go_sem, e0, e1]) rfl (HI2.out _ _ nn rfl)
  · exact h0.elim
set_option maxRecDepth 100000 in
set_option maxHeartbeats 32000000 in
theorem then_no1 (sum : ByteArray → ByteArray) (b1 : ByteArray) (A1 : Option Addr) (n1 c1 : Nat) (hs1 : List Hm) (b2 : ByteArray) (A2 : Option Addr) (n2 c2 : Nat) (hs2 : List Hm) (data : ByteArray) (w : World) (hr1 : PRd w A1 n1 hs1) (hz1 : SzH hs1) (hb1 : b1.size ≤ 1000000) (hr2 : PRd w A2 n2 hs2) (hz2 : SzH hs2) (hb2 : b2.size ≤ 1000000) (hd : data.size ≤ 900000) (hE : Env w) (hS : SumC sum) (hh0 : ¬ appE sum b1 (hs1.map Hm.d) data = 0) :
    Calls Tryz.prog 31 #[.agg #[.string b1, .slice A1 n1 c1], .agg #[.string b2, .slice A2 n2 c2], .string data] w (ThnP sum b1 (hs1.map Hm.d) b2 (hs2.map Hm.d) data w) := by
  have nA := (((New.refl w).alloc (.cells #[.string b1, .slice A1 n1 c1] 24)).alloc (.cells #[.string b2, .slice A2 n2 c2] 24)).alloc (.cells #[.string ⟨#[]⟩, .slice none 0 0] 24)
  have BP0 := ((Blk.made w 24 #[.string b1, .slice A1 n1 c1]).alloc (.cells #[.string b2, .slice A2 n2 c2] 24)).alloc (.cells #[.string ⟨#[]⟩, .slice none 0 0] 24)
  have BQ0 := (Blk.made (w.alloc (.cells #[.string b1, .slice A1 n1 c1] 24)) 24 #[.string b2, .slice A2 n2 c2]).alloc (.cells #[.string ⟨#[]⟩, .slice none 0 0] 24)
  have BR0 := Blk.made ((w.alloc (.cells #[.string b1, .slice A1 n1 c1] 24)).alloc (.cells #[.string b2, .slice A2 n2 c2] 24)) 24 #[.string ⟨#[]⟩, .slice none 0 0]
  rw [World.size_alloc] at BQ0
  rw [World.size_alloc, World.size_alloc] at BR0
  obtain ⟨g0, hg0⟩ : ∃ g0, w.heap.size = g0 := ⟨_, rfl⟩
  have HG0 := Lib.hid hg0
  rw [hg0] at BP0 BQ0 BR0
  clear hg0
  have HE := Lib.hid hE
  have HR1 := Lib.hid hr1
  have HR2 := Lib.hid hr2
  have HZ1 := Lib.hid hz1
  have HZ2 := Lib.hid hz2
  have C1 := Lib.hid (apply_any sum b1 A1 n1 c1 hs1 data _ (hr1.new nA) hz1 hb1 (by omega) (hE.new nA) (Or.inr hS))
  have HSU := Lib.hid hS
  have HTP : Hid (∀ e w', ThnP sum b1 (hs1.map Hm.d) b2 (hs2.map Hm.d) data w e w' = if thnE sum b1 (hs1.map Hm.d) b2 (hs2.map Hm.d) data = 0 then PatP w b1 (thnL data (hs1.map Hm.d) (hs2.map Hm.d)) e w' else New w w' ∧ e = .returned (.tuple #[.agg #[.string ⟨#[]⟩, .slice none 0 0], .int .i64 (thnE sum b1 (hs1.map Hm.d) b2 (hs2.map Hm.d) data)])) := Lib.hid (fun _ _ => rfl)
  generalize ThnP sum b1 (hs1.map Hm.d) b2 (hs2.map Hm.d) data w = TP at *
  have p0 := BP0.cell' 0 _ rfl
  have p1 := BP0.cell' 1 _ rfl
  rcases (show False ∨ ¬ (appE sum b1 (hs1.map Hm.d) data = 0) from Or.inr hh0) with h0 | h0
  · exact h0.elim
  · have HC1 := Lib.hid (C1.out.mono fun e w' h => (And.intro h.1 (by have := h.2; rw [if_neg h0] at this; exact this)))
    have hTE : thnE sum b1 (hs1.map Hm.d) b2 (hs2.map Hm.d) data = appE sum b1 (hs1.map Hm.d) data := by rw [thnE, if_neg h0]
    rw [hTE] at HTP
    obtain ⟨x, hx⟩ : ∃ x, appE sum b1 (hs1.map Hm.d) data = x := ⟨_, rfl⟩
    rw [hx] at HC1 HTP h0
    have hx1 : (x == 0) = false := by simpa using h0
    have hx2 : (x != 0) = true := by simpa using h0
    have HI2 : Hid (∀ e w', New w w' → e = .returned (.tuple #[.agg #[.string ⟨#[]⟩, .slice none 0 0], .int .i64 x]) → TP e w') := Lib.hid (fun e w' hn he => by rw [HTP.out, if_neg h0]; exact ⟨hn, he⟩)
    clear hr1 hz1 hb1 hr2 hz2 hb2 hE hS C1 HTP hTE hx HSU
    go_enter Tryz.func31, Tryz.ntmps31
    go_wp2_with (fail)
    (try simp only [World.size_alloc])
    rw [HG0.out]
    generalize (((w.alloc (.cells #[.string b1, .slice A1 n1 c1] 24)).alloc (.cells #[.string b2, .slice A2 n2 c2] 24)).alloc (.cells #[.string ⟨#[]⟩, .slice none 0 0] 24)) = wA at *
    with_reducible refine HC1.out.mono ?_
    rintro e w1 ⟨m1, rfl⟩
    have RB := BR0.new m1
    have t0 := RB.cell' 0 _ rfl
    have t1 := RB.cell' 1 _ rfl
    have s0 := RB.free 0
    have s1 := RB.free 1
    have BE := put2 RB (.string ⟨#[]⟩) (.slice none 0 0)
    have e0 := BE.cell' 0 _ rfl
    have e1 := BE.cell' 1 _ rfl
    have nn := ((nA.trans m1).setCell (p := ⟨g0 + 1 + 1, 0, none⟩) (by rw [HG0.out]; simp; omega) (.string ⟨#[]⟩)).setCell (p := ⟨g0 + 1 + 1, 1, none⟩) (by rw [HG0.out]; simp; omega) (.slice none 0 0)
    clear p0 p1 BP0 BQ0 BR0 m1 nA HC1
    go_upto_if 30 with (fail)
    iterate 18 go_step
    apply wp_ret
    (try simp only [Exit.inBlock, Exit.then])
    exact bodyPost_ret (v := .tuple #[.agg #[.string ⟨#[]⟩, .slice none 0 0], .int .i64 x]) (by simp [results, Tryz.results31, go_sem, e0, e1]) rfl (HI2.out _ _ nn rfl)
theorem then_any (sum : ByteArray → ByteArray) (b1 : ByteArray) (A1 : Option Addr) (n1 c1 : Nat) (hs1 : List Hm) (b2 : ByteArray) (A2 : Option Addr) (n2 c2 : Nat) (hs2 : List Hm) (data : ByteArray) (w : World) (hr1 : PRd w A1 n1 hs1) (hz1 : SzH hs1) (hb1 : b1.size ≤ 1000000) (hr2 : PRd w A2 n2 hs2) (hz2 : SzH hs2) (hb2 : b2.size ≤ 1000000) (hd : data.size ≤ 900000) (hE : Env w) (hS : SumC sum) :
    Calls Tryz.prog 31 #[.agg #[.string b1, .slice A1 n1 c1], .agg #[.string b2, .slice A2 n2 c2], .string data] w (ThnP sum b1 (hs1.map Hm.d) b2 (hs2.map Hm.d) data w) := by
  by_cases h0 : appE sum b1 (hs1.map Hm.d) data = 0
  · by_cases h2 : appE sum b2 (hs2.map Hm.d) (joinV (appOut data (hs1.map Hm.d))) = 0
    · exact then_yes sum b1 A1 n1 c1 hs1 b2 A2 n2 c2 hs2 data w hr1 hz1 hb1 hr2 hz2 hb2 hd hE hS h0 h2
    · exact then_no2 sum b1 A1 n1 c1 hs1 b2 A2 n2 c2 hs2 data w hr1 hz1 hb1 hr2 hz2 hb2 hd hE hS h0 h2
  · exact then_no1 sum b1 A1 n1 c1 hs1 b2 A2 n2 c2 hs2 data w hr1 hz1 hb1 hr2 hz2 hb2 hd hE hS h0
end Go.Proofs.YtfeknjpinboknaaGreatDoor

