/- The program's Invert. The digest's contract is a hypothesis where the base is not empty. Conditions: sizes. (Printed by mk-w22.py.) -/
import Derived.Test.YtfeknjpinboknaaGreatDoorGBase
import Derived.Test.YtfeknjpinboknaaGreatDoorGW20
import Derived.Test.YtfeknjpinboknaaGreatDoorGW3

namespace Go.Proofs.YtfeknjpinboknaaGreatDoor
open Go Go.RowKit Go.Joins Go.Shelf
set_option linter.unusedSimpArgs false
set_option linter.unusedVariables false

def newB (sum : ByteArray → ByteArray) (base : ByteArray) (out : List ByteArray) : ByteArray := if base.size = 0 then ⟨#[]⟩ else sum (joinV out)
def invL (data : ByteArray) (l : List Hk) : List Hk := (invO (parts 10 data) l).1.flush.l
def InvP (sum : ByteArray → ByteArray) (base : ByteArray) (l : List Hk) (data : ByteArray) (w : World) (e : Ending) (w' : World) : Prop :=
  if appE sum base l data = 0 then PatP w (newB sum base (appOut data l)) (invL data l) e w' else New w w' ∧ e = .returned (.tuple #[.agg #[.string ⟨#[]⟩, .slice none 0 0], .int .i64 (appE sum base l data)])
theorem base_or (base : ByteArray) : (base.size = 0 ∧ base = ⟨#[]⟩ ∧ (base.toList == ([] : List UInt8)) = true ∧ base.toList.isEmpty = true ∧ base.toList = []) ∨ (¬ base.size = 0 ∧ (base.toList == ([] : List UInt8)) = false ∧ base.toList.isEmpty = false) := by
  by_cases h : base.size = 0
  · have x1 : base.toList = [] := by rw [toList_eq]; exact List.eq_nil_of_length_eq_zero (by rw [← size_eq]; exact h)
    refine Or.inl ⟨h, ?_, by rw [x1]; rfl, by rw [x1]; rfl, x1⟩
    apply bytes_ext
    rw [← toList_eq, x1]
  · refine Or.inr ⟨h, ?_, ?_⟩
    · rw [toList_eq, data_cons (by omega)]; rfl
    · rw [toList_eq, data_cons (by omega)]; rfl
theorem PatB.out {w1 w' w : World} {base : ByteArray} {l : List Hk} {e : Ending} {r : Nat} (h : PatB w1 base l e w') (hw : New w w1) (B : Blk w' r 24 #[.string ⟨#[]⟩, .slice none 0 0]) (hr : w.heap.size ≤ r) :
    (∃ A n c, ∃ hs' : List Hm, n = hs'.length ∧ e = .returned (.tuple #[.agg #[.string base, .slice A n c], .int .i64 0]) ∧ ∀ e', e' = .returned (.tuple #[.agg #[.string base, .slice A n c], .int .i64 0]) → PatP w base l e' ((w'.setCell ⟨r, 0, none⟩ (.string base)).setCell ⟨r, 1, none⟩ (.slice A n c))) ∨
    (e = .returned (.tuple #[.agg #[.string ⟨#[]⟩, .slice none 0 0], .int .i64 10]) ∧ ∀ e', e' = .returned (.tuple #[.agg #[.string ⟨#[]⟩, .slice none 0 0], .int .i64 10]) → PatP w base l e' ((w'.setCell ⟨r, 0, none⟩ (.string ⟨#[]⟩)).setCell ⟨r, 1, none⟩ (.slice none 0 0))) := by
  obtain ⟨hn, h⟩ := h
  by_cases hv : validV base l = true
  · rw [if_pos hv] at h
    obtain ⟨g, b1, A, c, hs', he, hp, hc, hm⟩ := h
    refine Or.inl ⟨A, hs'.length, c, hs', rfl, he, fun e' he' => ?_⟩
    have nn := ((hw.trans hn).setCell (p := ⟨r, 0, none⟩) hr (.string base)).setCell (p := ⟨r, 1, none⟩) hr (.slice A hs'.length c)
    have o1 := hp.own.kept (grown_set w' r 0 (.string base)) (Or.inr (ne_kind (cs := []) hp.own B (by decide)))
    have l1 := hp.ln.keep (grown_set w' r 0 (.string base)) (fun q e => by injection e with e; subst e; exact ⟨_, 24, _, B, by decide⟩)
    have B1 := B.put 0 (.string base)
    have o2 := o1.kept (grown_set (w'.setCell ⟨r, 0, none⟩ (.string base)) r 1 (.slice A hs'.length c)) (Or.inr (ne_kind (cs := []) o1 B1 (by decide)))
    have l2 := l1.keep (grown_set (w'.setCell ⟨r, 0, none⟩ (.string base)) r 1 (.slice A hs'.length c)) (fun q e => by injection e with e; subst e; exact ⟨_, 24, _, B1, by decide⟩)
    obtain ⟨A', c', hq, _, hp'⟩ := own_prd o2 l2
    obtain ⟨rfl, rfl⟩ : A = A' ∧ c = c' := by injection hq with q1 q2 q3; exact ⟨q1, q3⟩
    refine ⟨nn, ?_⟩
    rw [if_pos hv]
    exact ⟨A, c, hs', he', hp', l2, hc, hm⟩
  · rw [if_neg hv] at h
    refine Or.inr ⟨h, fun e' he' => ⟨((hw.trans hn).setCell (p := ⟨r, 0, none⟩) hr _).setCell (p := ⟨r, 1, none⟩) hr _, ?_⟩⟩
    rw [if_neg hv]; exact he'
theorem joinV_le {ws : List ByteArray} (h : joinE ws = 0) : (joinV ws).size ≤ 65536 := by
  unfold joinE at h
  split at h
  · cases h
  · rename_i h1
    split at h
    · cases h
    · rename_i h2
      rw [joinV_sz (fun q => h1 (Or.inl q))]; omega
theorem tot_le {base : ByteArray} {hs : List Hm} (hv : validV base (hs.map Hm.d) = true) (k : Nat) : tot ((hs.take k).map Hm.d) ≤ 2048 := by
  have h1 := sizes_of hv
  obtain ⟨ho, _⟩ := valid_ok hv
  have m1 := cnt_mono ho 1 k
  have m2 := cnt_mono ho 2 k
  have m3 := cnt_mono ho 3 k
  have hok : ∀ x ∈ hs.map Hm.d, OkH x := fun x hx => by obtain ⟨y, hy, rfl⟩ := List.mem_map.1 hx; exact ho y hy
  have b1 := (cnt_bound 1 hok).1
  have b2 := (cnt_bound 2 hok).1
  rw [tot]; omega
set_option maxRecDepth 100000 in
set_option maxHeartbeats 32000000 in
theorem invert_any (sum : ByteArray → ByteArray) (base : ByteArray) (A : Option Addr) (n c : Nat) (hs : List Hm) (data : ByteArray) (w : World) (hr : PRd w A n hs) (hz : SzH hs) (hb : base.size ≤ 1000000) (hd : data.size ≤ 1000000) (hE : Env w) (hS : base.size = 0 ∨ (SumC sum ∧ ∀ d, (sum d).size ≤ 1000000)) :
    Calls Tryz.prog 25 #[.agg #[.string base, .slice A n c], .string data] w (InvP sum base (hs.map Hm.d) data w) := by
  have B0 := (Blk.made w 24 #[.string base, .slice A n c]).alloc (.cells #[.string ⟨#[]⟩, .slice none 0 0] 24)
  have R0 := Blk.made (w.alloc (.cells #[.string base, .slice A n c] 24)) 24 #[.string ⟨#[]⟩, .slice none 0 0]
  have n0 := ((New.refl w).alloc (.cells #[.string base, .slice A n c] 24)).alloc (.cells #[.string ⟨#[]⟩, .slice none 0 0] 24)
  have HA := Lib.hid (apply_any sum base A n c hs data _ (hr.new n0) hz hb hd (hE.new n0) (hS.imp id And.left))
  have HZ := Lib.hid hz
  have HR := Lib.hid hr
  have HE := Lib.hid hE
  have HIP : Hid (∀ e w', InvP sum base (hs.map Hm.d) data w e w' = if appE sum base (hs.map Hm.d) data = 0 then PatP w (newB sum base (appOut data (hs.map Hm.d))) (invL data (hs.map Hm.d)) e w' else New w w' ∧ e = .returned (.tuple #[.agg #[.string ⟨#[]⟩, .slice none 0 0], .int .i64 (appE sum base (hs.map Hm.d) data)])) := Lib.hid (fun _ _ => rfl)
  have p0 := B0.cell' 0 _ rfl
  have p1 := B0.cell' 1 _ rfl
  generalize InvP sum base (hs.map Hm.d) data w = IP at *
  obtain ⟨g0, hg0⟩ : ∃ g0, w.heap.size = g0 := ⟨_, rfl⟩
  rw [World.size_alloc] at R0
  rw [hg0] at B0 R0 p0 p1
  have HG0 := Lib.hid hg0
  by_cases h0 : appE sum base (hs.map Hm.d) data = 0
  · obtain ⟨hv, hlin, hcc, hbs, hje⟩ := app_zero h0
    obtain ⟨ho, hln, hbz, s1, s2, s3, s4⟩ := valid_ok hv
    have hn1024 : n ≤ 1024 := by rw [← hr.len]; exact hln
    have HV := Lib.hid hv
    have HO := Lib.hid ho
    have HC := Lib.hid hcc
    have HJE := Lib.hid hje
    have HL := Lib.hid hr.len
    have HA2 := Lib.hid (HA.out.mono fun e w' h => (And.intro h.1 (by have := h.2; rw [if_pos h0] at this; exact this)))
    have HI2 : Hid (∀ e w', PatP w (newB sum base (appOut data (hs.map Hm.d))) (invL data (hs.map Hm.d)) e w' → IP e w') := Lib.hid (fun e w' h => by rw [HIP.out, if_pos h0]; exact h)
    have HT := Lib.hid (tot_le hv)
    have HIB := Lib.hid (fun k => inv_bound (old := parts 10 data) (fun s h => by have := parts_size h; omega) ((hs.take k).map Hm.d) (ok_take ho k) (by have := HT.out k; omega))
    have hpl : (parts 10 data).length ≤ 1024 := by unfold linesE at hlin; split at hlin <;> omega
    have HLS : Hid (linesE data = 0) := Lib.hid hlin
    clear hr hz hE h0 HA HIP hlin hcc hje hv ho hbs s1 s2 s3 s4 hg0
    go_enter Tryz.func25, Tryz.ntmps25
    go_wp2_with (fail)
    rw [HG0.out]
    generalize ((w.alloc (.cells #[.string base, .slice A n c] 24)).alloc (.cells #[.string ⟨#[]⟩, .slice none 0 0] 24)) = wA at *
    with_reducible refine HA2.out.mono ?_
    rintro e w1 ⟨n1, A1, c1, A2, c2, rfl, l1, l2⟩
    have B1 := B0.new n1
    have R1 := R0.new n1
    have nw1 := n0.trans n1
    have L1 := Lib.hid l1
    have L2 := Lib.hid l2
    have S1 := Lib.hid (BM.start w1)
    have B2 := B1.alloc (.cells #[.slice none 0 0, .int .i64 0, .slice none 0 0] 77)
    have p1' := B2.cell' 1 _ rfl
    obtain ⟨g, hg⟩ : ∃ g, w1.heap.size = g := ⟨_, rfl⟩
    have HG := Lib.hid hg
    obtain ⟨ol, hol⟩ : ∃ ol, (parts 10 data).length = ol := ⟨_, rfl⟩
    have HOL := Lib.hid hol
    rw [hg] at S1
    rw [hol] at hpl
    rw [hol]
    obtain ⟨ml, hml⟩ : ∃ ml, (appOut data (hs.map Hm.d)).length = ml := ⟨_, rfl⟩
    have HML := Lib.hid hml
    rw [hml]
    have HRP := Lib.hid (HR.out.new nw1)
    have HB1 := Lib.hid B1
    have HR1 := Lib.hid R1
    have HNW := Lib.hid nw1
    clear hg hol hml l1 l2 p0 p1 n1 n0 B0 R0 HA2 B1 B2
    go_wp2
    rw [HG.out]
    generalize w1.alloc (.cells #[.slice none 0 0, .int .i64 0, .slice none 0 0] 77) = wS at *
    clear p1'
    go_loopw [10, 28] (fun v10 v28 wr => ∃ (k at0 d b2 : Nat) (a : List ByteArray) (hs1 : List Hm) (V VA : Value), v10 = .int .i64 (at0 : Int) ∧ v28 = .int .i64 (k : Int) ∧ k ≤ n ∧ BM w1 wr g g b2 hs1 d a V VA ∧ Hid (invO (parts 10 data) ((hs.take k).map Hm.d) = (⟨hs1.map Hm.d, d, a⟩, at0))) (fun _ v28 _ => n - (intOf v28).toNat)
    case atStart => exact ⟨0, 0, 0, g, [], [], _, _, rfl, rfl, by omega, S1.out, Lib.hid rfl⟩
    case round =>
      obtain ⟨k, at0, d, b2, a, hs1, V, VA, rfl, rfl, hk, hBM, HST⟩ := hrel
      have hnr := hBM.nw
      have hib := HIB.out k
      rw [HST.out] at hib
      simp only [List.length_map, List.length_take, HL.out] at hib
      have htk := HT.out k
      have HBB := Lib.hid hib
      have HBT := Lib.hid hBM
      by_cases hlt : k < n
      · obtain ⟨bk, o, rfl, hbk, p, hp, hcell⟩ := rd_row (f := hmC) (k := 3) (fun _ => rfl) HL.out (HRP.out.new hnr).rd hlt
        have hok := HO.out p (List.mem_of_getElem? hp)
        have hst : invO (parts 10 data) ((hs.take (k + 1)).map Hm.d) = invS (parts 10 data) (⟨hs1.map Hm.d, d, a⟩, at0) p.d := by rw [map_take hp, invO_snoc, HST.out]
        obtain ⟨os', hap⟩ : ∃ os', appO (parts 10 data) ((hs.take k).map Hm.d) = (os', at0) := by
          have := (inv_of base (parts 10 data) ((hs.take k).map Hm.d) (ok_take HO.out k)).2.2.2.2
          rw [HST.out] at this
          exact ⟨_, Prod.ext rfl this.symm⟩
        have has := app_step HO.out HC.out hp hap
        have htn := HT.out (k + 1)
        rw [map_take hp, tot_snoc _ hok] at htn
        obtain ⟨pk, pn, pl, pa, pc⟩ := p
        have q0 := hcell 0 (.int .i64 pk) (by omega) rfl
        have q1 := hcell 1 (.int .i64 pn) (by omega) rfl
        have q2 := hcell 2 (.slice pa pl.length pc) (by omega) rfl
        simp only [Nat.add_zero] at q0
        rw [← Nat.add_assoc] at q1 q2
        have i0' : (0 : Int) ≤ (k : Int) := by omega
        have i1' : (k : Int) < (n : Int) := by omega
        have k1 : 1 ≤ pk := hok.k1
        have k3 : pk ≤ 3 := hok.k3
        have n1 : 1 ≤ pn := hok.n1
        have n2 : pn ≤ 1024 := hok.n2
        obtain ⟨nl, hnl⟩ : ∃ nl, pl.length = nl := ⟨_, rfl⟩
        rw [hnl] at q2
        obtain ⟨pm, rfl⟩ : ∃ pm : Nat, pn = (pm : Int) := ⟨pn.toNat, by omega⟩
        have BH := Blk.made wr 55 #[.int .i64 pk, .int .i64 pm, .slice pa nl pc]
        have HBA := Lib.hid (HBT.out.new ((New.refl wr).alloc (.cells #[.int .i64 pk, .int .i64 pm, .slice pa nl pc] 55)))
        have hgl := hBM.blk.lt
        have hVl : V.ownBlock ≠ some wr.heap.size := fun e => by have := (HBT.out.own.lt _ e).2; omega
        have hVA : VA.ownBlock ≠ some wr.heap.size := fun e => by have := (HBT.out.add.lt _ e).2; omega
        have hne : wr.heap.size ≠ g := by omega
        have y0 := BH.cell' 0 _ rfl
        have y1 := BH.cell' 1 _ rfl
        have HSS := Lib.hid hst
        have hd1 := HBB.out.d
        have ha1 := HBB.out.a
        simp only at hd1 ha1
        have HAS := Lib.hid has
        clear hcell hp hok hst has hap hnl hBM
        simp only [Hm.d] at HSS htn
        by_cases e1 : pk = 1
        · subst e1
          obtain ⟨st1, -⟩ := HAS.out.1 rfl
          simp only [Int.toNat_natCast] at st1
          rw [HOL.out] at st1
          have x0 : IntKind.i64.wrap ((at0 : Int) + (pm : Int)) = (at0 : Int) + (pm : Int) := IntWalk.i64_in _ (by omega)
          have HK := Lib.hid (keep_any (tot ((hs.take k).map Hm.d)) HBA.out (by have := HBB.out.len; simp only [List.length_map] at this; omega) HBB.out.a HBB.out.d HBB.out.nb (by omega) (by omega) (show pm ≤ 1000000 by omega))
          go_wp2_with (go_at_call 52; (with_reducible refine HK.out.mono ?_); rintro e w5 ⟨rfl, V5, hs5, b5, h5, fr5, hm5, hl5⟩; have bb1 := (fr5.blk BH hne hVl).cell' 1 _ rfl)
          go_roundw
          case rel => exact ⟨k + 1, at0 + pm, 0, b5, [], hs5, _, _, by go_num, by go_num, by omega, h5, Lib.hid (by rw [HSS.out, invS, if_pos rfl, Bs.keep, if_neg (by simp; omega)]; simp only [Int.toNat_natCast]; rw [← hm5])⟩
          case measure => simp [intOf]; omega
        · by_cases e2 : pk = 2
          · subst e2
            obtain ⟨st1, -⟩ := HAS.out.2.1 rfl
            simp only [Int.toNat_natCast] at st1
            rw [HOL.out] at st1
            have x0 : IntKind.i64.wrap ((at0 : Int) + (pm : Int)) = (at0 : Int) + (pm : Int) := IntWalk.i64_in _ (by omega)
            have x1 : (0 : Int) ≤ (at0 : Int) := by omega
            have x2 : (at0 : Int) ≤ (at0 : Int) + (pm : Int) := by omega
            have x3 : (at0 : Int) + (pm : Int) ≤ (ol : Int) := by omega
            have x4 : ((at0 : Int) + (pm : Int)).toNat = at0 + pm := by omega
            have hoc := (ln_rd L1.out).2
            rw [HOL.out] at hoc
            obtain ⟨bA, oA, rfl, -, -⟩ := (ln_rd L1.out).1.2 (by rw [HOL.out]; omega)
            have x5 : ¬ c1 = at0 := by omega
            have x6 : ¬ c1 - at0 = 0 := by omega
            have x7 : (0 : Int) ≤ (at0 : Int) + (pm : Int) := by omega
            have x8 : (at0 : Int) + (pm : Int) ≤ (c1 : Int) := by omega
            have hL1 := L1.out.new (hnr.alloc (.cells #[.int .i64 2, .int .i64 pm, .slice pa nl pc] 55))
            have hR1 : Rd (wr.alloc (.cells #[.int .i64 2, .int .i64 pm, .slice pa nl pc] 55)) 1 (some ⟨bA, oA + at0, none⟩) pm (sCells (((parts 10 data).drop at0).take pm)) := by
              have := (hL1.cut at0 (by rw [HOL.out]; omega)).take pm (by rw [List.length_drop, HOL.out]; omega)
              have ea : (⟨bA, oA, none⟩ : Addr).add at0 = ⟨bA, oA + at0, none⟩ := add_none rfl at0
              rw [if_neg x5, Option.map_some, ea] at this
              exact this
            have HRR := Lib.hid hR1
            clear hL1 hR1
            have HTL : Hid ((((parts 10 data).drop at0).take pm).length = pm) := Lib.hid (by rw [List.length_take, List.length_drop, HOL.out]; omega)
            have HSS2 : Hid (invO (parts 10 data) ((hs.take (k + 1)).map Hm.d) = (⟨hs1.map Hm.d, d, a ++ ((parts 10 data).drop at0).take pm⟩, at0 + pm)) := Lib.hid (by rw [HSS.out, invS, if_neg (by simp only; omega), if_pos rfl]; simp only [Int.toNat_natCast])
            generalize ((parts 10 data).drop at0).take pm = nx at *
            go_upto_region 15 with (fail)
            generalize hWW : wr.alloc (.cells #[.int .i64 2, .int .i64 pm, .slice pa nl pc] 55) = W at *
            have hWs : W.heap.size = wr.heap.size + 1 := by rw [← hWW, World.size_alloc]
            obtain ⟨hb0, hhb⟩ : ∃ hb0, wr.heap.size = hb0 := ⟨_, rfl⟩
            rw [hhb] at BH hVl hVA hne hWs
            rw [hhb]
            have BHW : Blk W hb0 55 #[.int .i64 2, .int .i64 pm, .slice pa nl pc] := BH
            have f2 := HBA.out.blk.cell' 2 _ rfl
            have fb := BHW.cell' 1 _ rfl
            have hk2 := HBA.out.k2
            clear hWW hhb y0 q0 q1 q2
            refine wp_region_held_drew (S := (fun Y : World => Y.cell? ⟨hb0, 1, none⟩ = some (.int .i64 (pm : Int)))) (by kernel_rfl) (fb) (fun hS => ?_)
            refine tkT 0 (v := ?v1) hS (fun wq hSq => ?y1) ?_; (case y1 => clear hSq; go_simp; (try with_reducible rfl)); simp only [Act.put, gqD, gqE, gqF]
            refine tkT 2 (v := ?v2) hS (fun wq hSq => ?y2) ?_; (case y2 => clear hSq; go_simp; (try with_reducible rfl)); simp only [Act.put, gqD, gqE, gqF]
            refine tkT 3 (v := ?v3) hS (fun wq hSq => ?y3) ?_; (case y3 => clear hSq; go_simp; (try with_reducible rfl)); simp only [Act.put, gqD, gqE, gqF]
            refine tkT 4 (v := ?v4) hS (fun wq hSq => ?y4) ?_; (case y4 => clear hSq; go_simp; (try with_reducible rfl)); simp only [Act.put, gqD, gqE, gqF]
            refine tkT 5 (v := ?v5) hS (fun wq hSq => ?y5) ?_; (case y5 => clear hSq; go_simp; (try with_reducible rfl)); simp only [Act.put, gqD, gqE, gqF]
            refine tkT 6 (v := ?v6) hS (fun wq hSq => ?y6) ?_; (case y6 => have hf0 := hSq; clear hSq; go_simp; (try with_reducible rfl)); simp only [Act.put, gqD, gqE, gqF]
            refine tkT 7 (v := ?v7) hS (fun wq hSq => ?y7) ?_; (case y7 => clear hSq; go_simp; (try with_reducible rfl)); simp only [Act.put, gqD, gqE, gqF]
            refine tkT 8 (v := ?v8) hS (fun wq hSq => ?y8) ?_; (case y8 => clear hSq; go_simp; (try with_reducible rfl)); simp only [Act.put, gqD, gqE, gqF]
            refine wpAnyH_ready (rs := [1]) (by kernel_rfl) (by simp) ?_
            refine AllReadyH.cons (o := ?oi9) ?hi9 (fun K hK => ?_) AllReadyH.nil
            case hi9 => (simp only [gqA, gqB, gqC]; rfl)
            go_simp
            refine hK.out _ _ (hS) (fun hS => ?_)
            clear hK K
            refine wpAnyH_ready (rs := [9]) (by kernel_rfl) (by simp) ?_
            refine AllReadyH.cons (o := ?oi10) ?hi10 (fun K hK => ?_) AllReadyH.nil
            case hi10 => (simp only [gqA, gqB, gqC]; rfl)
            refine step_append_rd (by rfl) _ _ (by rfl) b2 VA a.length (sCells a) (by rfl) HBA.out.add.drew (some ⟨bA, oA + at0, none⟩) pm (c1 - at0) nx (by rfl) HRR.out.drew (by omega) (by simp; omega) ?_
            intro v5 w5 hown5 hg5 h5
            have BG := HBA.out.drew.blk.grown hg5 (Ne.symm (ne_kind (cs := []) HBA.out.add HBA.out.blk (by decide)))
            have p0 := BG.cell' 2 _ rfl
            have p1 := BG.free 2
            have BH5 := BHW.drew.grown hg5 (Ne.symm hVA)
            obtain ⟨gv, cv, rfl, _, _⟩ := hown5.form (by omega)
            simp only [Act.put, gqD, gqE, gqF]
            refine hK.out _ _ (BH5.cell' 1 _ rfl) (fun hS => ?_)
            clear hK K
            refine tkT 10 (v := ?v11) hS (fun wq hSq => ?y11) ?_; (case y11 => clear hSq; go_simp; (try with_reducible rfl)); simp only [Act.put, gqD, gqE, gqF]
            refine wpAnyH_ready (rs := [11]) (by kernel_rfl) (by simp) ?_
            refine AllReadyH.cons (o := ?oi12) ?hi12 (fun K hK => ?_) AllReadyH.nil
            case hi12 => (simp only [gqA, gqB, gqC]; rfl)
            go_simp
            refine hK.out _ _ ((BH5.far (p := ⟨g, 2, none⟩) hne _).cell' 1 _ rfl) (fun hS => ?_)
            clear hK K
            refine wpAnyH_done (by kernel_rfl) ?_ _
            go_wp2
            go_roundw
            case rel => exact ⟨k + 1, at0 + pm, d, b2, a ++ nx, hs1, _, _, by go_num, by go_num, by omega, HBA.out.drew.addMore hg5 (by rw [sCells_app]; exact hown5), HSS2⟩
            case measure => simp [intOf]; omega
          · obtain rfl : pk = 3 := by omega
            have g1 := HBA.out.blk.cell' 1 _ rfl
            have g2 := HBA.out.blk.free 1
            have x0 : IntKind.i64.wrap ((d : Int) + (pm : Int)) = (d : Int) + (pm : Int) := IntWalk.i64_in _ (by omega)
            have D := HBA.out.setDrop (d + pm)
            rw [World.setCell_alloc_past (hn := hgl), show (((d + pm : Nat) : Int)) = (d : Int) + (pm : Int) by omega] at D
            have D := Lib.hid D
            go_wp2
            go_roundw
            case rel => exact ⟨k + 1, at0, d + pm, b2, a, hs1, _, _, rfl, by go_num, by omega, D.out, Lib.hid (by rw [HSS.out, invS, if_neg (by simp only; omega), if_neg (by simp only; omega)]; simp only [Int.toNat_natCast])⟩
            case measure => simp [intOf]; omega
      · obtain rfl : k = n := by omega
        have e : hs.take k = hs := List.take_of_length_le (by rw [HL.out]; exact Nat.le_refl _)
        rw [e] at HST
        have hIL : Hid (invL data (hs.map Hm.d) = (Bs.flush ⟨hs1.map Hm.d, d, a⟩).l) := Lib.hid (by rw [invL, HST.out])
        have HSK := Lib.hid (SzK.flush (b := ⟨hs1.map Hm.d, d, a⟩) HBB.out.sz (by have := HBB.out.a; simp only at this ⊢; omega) HBB.out.sa)
        have f0 := (HB1.out.new hnr).cell' 0 _ rfl
        have HNN := Lib.hid hnr
        have hd1 := HBB.out.d
        have ha1 := HBB.out.a
        have hl1 := HBB.out.len
        simp only [List.length_map] at hd1 ha1 hl1
        obtain ⟨nb, hnb⟩ : ∃ nb, newB sum base (appOut data (hs.map Hm.d)) = nb := ⟨_, rfl⟩
        have HNB := Lib.hid hnb
        have hnbs : nb.size ≤ 1000000 := by
          rw [← hnb, newB]
          split
          · decide
          · rename_i hq
            rcases hS with q | q
            · exact absurd q hq
            · exact q.2 _
        clear hnb hnr hBM
        go_upto_if 69 with (fail)
        go_cut [13] (fun v13 wc => v13 = .string nb ∧ New wr wc)
        case first =>
          rcases base_or base with ⟨x1, rfl, x2, x3, x4⟩ | ⟨x1, x2, x3⟩
          · obtain rfl : nb = ⟨#[]⟩ := by rw [← HNB.out]; rfl
            have y2 : (!(⟨#[]⟩ : ByteArray).toList.isEmpty) = false := by rw [x3]; rfl
            rw [y2]
            go_wp2
            go_meet
            case rel => exact ⟨rfl, New.refl _⟩
          · have hS2 : SumC sum := by
              rcases hS with q | q
              · exact absurd q x1
              · exact q.1
            obtain rfl : sum (joinV (appOut data (hs.map Hm.d))) = nb := by rw [← HNB.out, newB, if_neg x1]
            have HJ := Lib.hid (join_strings A2 ml c2 (appOut data (hs.map Hm.d)) HML.out wr (by have := (ln_rd (L2.out.new HNN.out)).1; rw [HML.out] at this; exact this) (by have := (ln_rd L2.out).2; rw [HML.out] at this; exact this) (by have := join_len HJE.out; rw [HML.out] at this; omega) (out_sz HZ.out hd))
            have HSU := Lib.hid (fun W => hS2 (joinV (appOut data (hs.map Hm.d))) W (by have := joinV_le HJE.out; omega))
            generalize joinV (appOut data (hs.map Hm.d)) = jv at *
            generalize sum jv = sv at *
            have y2 : (!base.toList.isEmpty) = true := by rw [x3]; rfl
            rw [y2]
            go_wp2_with (fail)
            with_reducible refine HJ.out.mono ?_
            rintro e w5 ⟨rfl, n5⟩
            go_wp2_with (go_at_call 53; (with_reducible refine (HSU.out _).mono ?_); rintro e w6 ⟨rfl, n6⟩)
            go_meet
            case rel => exact ⟨rfl, n5.trans n6⟩
        case rest =>
          obtain ⟨rfl, nc⟩ := hcut
          have HPA := Lib.hid (patch_any nb (HBT.out.new nc) (by omega) (by omega) (by omega) HSK.out hnbs (HE.out.new HNW.out))
          rw [← hIL.out] at HPA
          generalize invL data (hs.map Hm.d) = IL at *
          rw [HNB.out] at HI2
          clear f0
          go_wp2_with (fail)
          with_reducible refine HPA.out.mono ?_
          rintro e w9 hpb
          have RB := HR1.out.new hpb.1
          rcases hpb.out HNW.out RB (by rw [HG0.out]; omega) with ⟨AF, nF, cF, hF, hnF, rfl, hk⟩ | ⟨rfl, hk⟩
          · have HK := Lib.hid hk
            have t0 := RB.cell' 0 _ rfl
            have t1 := RB.cell' 1 _ rfl
            have s0 := RB.free 0
            have s1 := RB.free 1
            have BE := put2 RB (.string nb) (.slice AF nF cF)
            have e0 := BE.cell' 0 _ rfl
            have e1 := BE.cell' 1 _ rfl
            clear hk hpb hnF
            go_wp2
            exact bodyPost_ret (v := .tuple #[.agg #[.string nb, .slice AF nF cF], .int .i64 0]) (by simp [results, Tryz.results25, go_sem, e0, e1]) rfl (HI2.out _ _ (HK.out _ rfl))
          · have HK := Lib.hid hk
            have t0 := RB.cell' 0 _ rfl
            have t1 := RB.cell' 1 _ rfl
            have s0 := RB.free 0
            have s1 := RB.free 1
            have BE := put2 RB (.string ⟨#[]⟩) (.slice none 0 0)
            have e0 := BE.cell' 0 _ rfl
            have e1 := BE.cell' 1 _ rfl
            clear hk hpb
            go_wp2
            exact bodyPost_ret (v := .tuple #[.agg #[.string ⟨#[]⟩, .slice none 0 0], .int .i64 10]) (by simp [results, Tryz.results25, go_sem, e0, e1]) rfl (HI2.out _ _ (HK.out _ rfl))
  · have HA2 := Lib.hid (HA.out.mono fun e w' h => (And.intro h.1 (by have := h.2; rw [if_neg h0] at this; exact this)))
    obtain ⟨x, hx⟩ : ∃ x, appE sum base (hs.map Hm.d) data = x := ⟨_, rfl⟩
    rw [hx] at HA2 HIP h0
    have hx1 : (x == 0) = false := by simpa using h0
    have hx2 : (x != 0) = true := by simpa using h0
    have HI2 : Hid (∀ e w', New w w' → e = .returned (.tuple #[.agg #[.string ⟨#[]⟩, .slice none 0 0], .int .i64 x]) → IP e w') := Lib.hid (fun e w' hn he => by rw [HIP.out, if_neg h0]; exact ⟨hn, he⟩)
    clear hr hz hE HA HIP hg0 hx
    go_enter Tryz.func25, Tryz.ntmps25
    go_wp2_with (fail)
    rw [HG0.out]
    generalize ((w.alloc (.cells #[.string base, .slice A n c] 24)).alloc (.cells #[.string ⟨#[]⟩, .slice none 0 0] 24)) = wA at *
    with_reducible refine HA2.out.mono ?_
    rintro e w1 ⟨n1, rfl⟩
    have RB := R0.new n1
    have t0 := RB.cell' 0 _ rfl
    have t1 := RB.cell' 1 _ rfl
    have s0 := RB.free 0
    have s1 := RB.free 1
    have BE := put2 RB (.string ⟨#[]⟩) (.slice none 0 0)
    have e0 := BE.cell' 0 _ rfl
    have e1 := BE.cell' 1 _ rfl
    have nn := ((n0.trans n1).setCell (p := ⟨g0 + 1, 0, none⟩) (by rw [HG0.out]; simp) (.string ⟨#[]⟩)).setCell (p := ⟨g0 + 1, 1, none⟩) (by rw [HG0.out]; simp) (.slice none 0 0)
    go_wp2
    exact bodyPost_ret (v := .tuple #[.agg #[.string ⟨#[]⟩, .slice none 0 0], .int .i64 x]) (by simp [results, Tryz.results25, go_sem, e0, e1]) rfl (HI2.out _ _ nn rfl)
end Go.Proofs.YtfeknjpinboknaaGreatDoor

