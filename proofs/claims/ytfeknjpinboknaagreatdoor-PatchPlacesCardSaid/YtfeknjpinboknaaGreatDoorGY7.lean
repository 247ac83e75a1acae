/- The law PatchPlaces: it answers true. Conditions: none but the world's. (Printed by mk-y7.py.) -/
import Derived.Test.YtfeknjpinboknaaGreatDoorGW26
import Derived.Test.YtfeknjpinboknaaGreatDoorGW9
import Derived.Test.YtfeknjpinboknaaGreatDoorGY0
import Derived.Test.YtfeknjpinboknaaGreatDoorGS16

namespace Go.Proofs.YtfeknjpinboknaaGreatDoor
open Go Go.RowKit Go.Joins Go.Shelf
set_option linter.unusedSimpArgs false
set_option linter.unusedVariables false

theorem tr_form (base : ByteArray) : ∀ l : List Hk, ∀ p ∈ (trO base l).1, (0 ≤ p.1 ∧ p.2 = -1) ∨ (p.1 = -1 ∧ 0 ≤ p.2) := by
  intro l
  induction l using snoc_ind with
  | h0 => intro p hp; cases hp
  | h1 l h ih =>
    intro p hp
    rw [trO_snoc, trS] at hp
    split at hp
    · rcases List.mem_append.1 hp with q | q
      · exact ih p q
      · obtain ⟨j, _, rfl⟩ := List.mem_map.1 q
        exact Or.inr ⟨rfl, by simp only; omega⟩
    · split at hp
      · rcases List.mem_append.1 hp with q | q
        · exact ih p q
        · obtain ⟨j, _, rfl⟩ := List.mem_map.1 q
          exact Or.inl ⟨by simp only; omega, rfl⟩
      · exact ih p hp
theorem place_ok {sum : ByteArray → ByteArray} {base data : ByteArray} {l : List Hk} (h0 : appE sum base l data = 0) {k : Nat} {p : Int × Int} (hp : (trO base l).1[k]? = some p) :
    ∃ s, (appOut data l)[k]? = some s ∧ ((0 ≤ p.1 ∧ p.2 = -1 ∧ (parts 10 data)[p.1.toNat]? = some s ∧ ((thenO [] ((olds (trO base l).1).take k)).2.1 : Int) ≤ p.1) ∨ (p.1 = -1 ∧ 0 ≤ p.2 ∧ (textL base l)[p.2.toNat]? = some s)) := by
  obtain ⟨hv, hlin, hcc, hbs, hje⟩ := app_zero h0
  have ho := ok_of hv
  have hm := tr_map base (parts 10 data) (textL base l) l ho (by omega) (List.prefix_refl _)
  have hk := congrArg (·[k]?) hm
  simp only [List.getElem?_map, hp, Option.map_some] at hk
  have e : (appO (parts 10 data) l).1 = appOut data l := rfl
  rw [e] at hk
  cases hs : (appOut data l)[k]? with
  | none => rw [hs] at hk; cases hk
  | some s =>
    rw [hs] at hk
    have hk2 : pick (parts 10 data) (textL base l) p = some s := by injection hk
    refine ⟨s, rfl, ?_⟩
    rcases tr_form base l p (List.mem_of_getElem? hp) with ⟨q1, q2⟩ | ⟨q1, q2⟩
    · rw [pick, if_pos q1] at hk2
      refine Or.inl ⟨q1, q2, hk2, ?_⟩
      have hu := (pairs_ok ho hcc).2.2
      have e2 := olds_tr base l
      have e3 : (oldO l).1 = olds (trO base l).1 := by rw [e2]
      rw [e3] at hu
      have := (then_le (out := []) hu (k := k) (a := p.1.toNat) (by rw [olds, List.getElem?_map, hp, Option.map_some, if_pos q1])).1
      omega
    · rw [pick, if_neg (by omega)] at hk2
      exact Or.inr ⟨q1, q2, hk2⟩
theorem place_next {base : ByteArray} {l : List Hk} {k : Nat} {p : Int × Int} (hp : (trO base l).1[k]? = some p) : (thenO [] ((olds (trO base l).1).take (k + 1))).2.1 = if 0 ≤ p.1 then p.1.toNat + 1 else (thenO [] ((olds (trO base l).1).take k)).2.1 := by
  rw [then_more (f := if 0 ≤ p.1 then some p.1.toNat else none) (by rw [olds, List.getElem?_map, hp]; rfl)]
  split <;> rfl
set_option maxRecDepth 100000 in
set_option maxHeartbeats 16000000 in
theorem law_places (base : ByteArray) (A : Option Addr) (n c : Nat) (hs : List Hm) (s : ByteArray) (w : World) (hr : PRd w A n hs) (hn : n ≤ maxLen) (hll : ∀ h ∈ hs, h.lines.length ≤ maxLen) (hE : Env w) :
    Calls Tryz.prog 8 #[.agg #[.string base, .slice A n c], .string s] w fun e w' => e = .returned (.bool true) ∧ New w w' := by
  have BP0 := Blk.made w 24 #[.string base, .slice A n c]
  have n0 := (New.refl w).alloc (.cells #[.string base, .slice A n c] 24)
  have HE := Lib.hid hE
  have HR := Lib.hid hr
  have HLL := Lib.hid hll
  have HF := Lib.hid (fun W (h : New w W) => few_any base A n c hs W (hr.new h) hn hll)
  obtain ⟨gp, hgp⟩ : ∃ gp, w.heap.size = gp := ⟨_, rfl⟩
  rw [hgp] at BP0
  have HGP := Lib.hid hgp
  clear hr hll hE hgp hn
  go_enter Tryz.func8, Tryz.ntmps8
  go_wp2_with (fail)
  rw [HGP.out]
  generalize w.alloc (.cells #[.string base, .slice A n c] 24) = wA at *
  with_reducible refine (awake_any _ (HE.out.new n0)).mono ?_
  rintro e w1 ⟨rfl, m1⟩
  have n1 := n0.trans m1
  have BP1 := BP0.new m1
  clear n0 m1 BP0
  have d0 := BP1.cell' 0 _ rfl
  have d1 := BP1.cell' 1 _ rfl
  go_wp2_with (fail)
  with_reducible refine (HF.out _ n1).mono ?_
  rintro e w2 ⟨m2, v, rfl, hv⟩
  have n2 := n1.trans m2
  have BP2 := BP1.new m2
  clear d0 d1 n1 m2 BP1
  cases v
  · go_wp2
    go_ret
    exact ⟨rfl, n2⟩
  have HS := Lib.hid (hv rfl)
  have HF2 := Lib.hid (fews_any (some ⟨w2.heap.size, 0, none⟩) 1 1 [s] (w2.alloc (.cells #[.string s] 9)) (rd_new w2 (sCells [s]) 9 _ (by simp [sCells])) rfl (by decide))
  have n3 := n2.alloc (.cells #[.string s] 9)
  have BP3 := BP2.alloc (.cells #[.string s] 9)
  clear hv HF n2 BP2
  go_wp2_with (fail)
  generalize w2.alloc (.cells #[.string s] 9) = w3 at *
  with_reducible refine HF2.out.mono ?_
  rintro e w4 ⟨b, rfl, rfl, hb⟩
  cases b
  · go_wp2
    go_ret
    exact ⟨rfl, n3⟩
  have hsz := hb rfl s (by simp)
  have HSZ : Hid (SzH hs) := Lib.hid (HS.out.szh HLL.out)
  have hb1 : base.size ≤ 1000000 := by have := HS.out.b; omega
  clear hb HF2

  have C1 := Lib.hid (applyT_any sumV base A n c hs s w4 (HR.out.new n3) HSZ.out hb1 (by omega) (HE.out.new n3) (Or.inr sumC))
  by_cases h0 : appE sumV base (hs.map Hm.d) s = 0
  · obtain ⟨hv, hlin, hcc, hbs, hje⟩ := app_zero h0
    have hT : appT sumV base (hs.map Hm.d) s = joinV (appOut s (hs.map Hm.d)) := by rw [appT, if_pos h0]
    rw [hT, h0] at C1
    have hTs := joinV_le hje
    obtain ⟨hlT, hpT⟩ := joinE_lines hje
    have hjt : joinE (textL base (hs.map Hm.d)) = 0 := by
      have := hv
      simp only [validV, Bool.and_eq_true, decide_eq_true_eq] at this
      exact this.2
    obtain ⟨hlX, hpX⟩ := joinE_lines hjt
    have hXs := joinV_le hjt
    have C2 := Lib.hid (fun W => rlns_ok s W (by omega) hlin)
    have C3 := Lib.hid (fun W (h : New w W) => print_any base A n c hs W (HR.out.new h) HSZ.out hb1 (HE.out.new h))
    have C4 := Lib.hid (fun W => rlns_ok (joinV (textL base (hs.map Hm.d))) W (by omega) hlX)
    have C5 := Lib.hid (fun W => rlns_ok (joinV (appOut s (hs.map Hm.d))) W (by omega) hlT)
    rw [hpX] at C4
    rw [hpT] at C5
    have eP : chkT base (hs.map Hm.d) = joinV (textL base (hs.map Hm.d)) := by rw [chkT, if_pos hv]; rfl
    have eE : errV base (hs.map Hm.d) = 0 := by rw [errV, if_pos hv]
    rw [eP, eE] at C3
    have C6 := Lib.hid (fun W (h : New w W) => (ptrace_any base A n c hs (parts 10 s).length W (HR.out.new h) HSZ.out hb1 (HE.out.new h)).mono fun e w' h => (And.intro h.1 (by have := h.2; rw [if_pos ⟨hv, hcc⟩] at this; exact this)))
    have HPL := Lib.hid (fun (k : Nat) (p : Int × Int) (hp : (trO base (hs.map Hm.d)).1[k]? = some p) => place_ok h0 hp)
    have HPN := Lib.hid (fun (k : Nat) (p : Int × Int) (hp : (trO base (hs.map Hm.d)).1[k]? = some p) => place_next hp)
    have htl : (trO base (hs.map Hm.d)).1.length = (appOut s (hs.map Hm.d)).length := (tr_rise base (ok_of hv) hcc).2
    have hol := join_len hje
    have hpl := lines_len hlin
    have hxl := join_len hjt
    generalize joinV (appOut s (hs.map Hm.d)) = TV at *
    generalize joinV (textL base (hs.map Hm.d)) = XV at *
    generalize appOut s (hs.map Hm.d) = OS at *
    generalize textL base (hs.map Hm.d) = XL at *
    generalize parts 10 s = LS at *
    generalize (trO base (hs.map Hm.d)).1 = TP at *
    obtain ⟨ol, hol1⟩ : ∃ ol, OS.length = ol := ⟨_, rfl⟩
    obtain ⟨xl, hxl1⟩ : ∃ xl, XL.length = xl := ⟨_, rfl⟩
    obtain ⟨ll, hll1⟩ : ∃ ll, LS.length = ll := ⟨_, rfl⟩
    rw [hll1] at C2 C6 hpl
    rw [hxl1] at C4 hxl
    rw [hol1] at C5 hol htl
    rw [htl] at C6
    have HOL := Lib.hid hol1
    have HXL := Lib.hid hxl1
    have HLL1 := Lib.hid hll1
    have HTL := Lib.hid htl
    clear h0 hv hlin hcc hbs hje hT hTs hlT hpT hjt hlX hpX hXs eP eE htl hol1 hxl1 hll1
    have P0 := BP3.cell' 0 _ rfl
    have P1 := BP3.cell' 1 _ rfl
    go_wp2_with (fail)
    with_reducible refine (C1.out).mono ?_
    rintro e w4 ⟨rfl, m4⟩
    have n4 := n3.trans m4
    have BP4 := BP3.new m4
    clear P0 P1
    clear n3 BP3
    go_wp2_with (fail)
    with_reducible refine (C2.out _).mono ?_
    rintro e w5 ⟨AL, cL, rfl, L5, m5⟩
    have n5 := n4.trans m5
    have BP5 := BP4.new m5
    clear n4 BP4
    have HL5 := Lib.hid L5
    clear L5
    have P0 := BP5.cell' 0 _ rfl
    have P1 := BP5.cell' 1 _ rfl
    go_wp2_with (fail)
    with_reducible refine (C3.out _ n5).mono ?_
    rintro e w6 ⟨rfl, m6⟩
    have HL5 := Lib.hid (HL5.out.new m6)
    have n6 := n5.trans m6
    have BP6 := BP5.new m6
    clear P0 P1
    clear n5 BP5
    go_wp2_with (fail)
    with_reducible refine (C4.out _).mono ?_
    rintro e w7 ⟨AX, cX, rfl, L7, m7⟩
    have HL5 := Lib.hid (HL5.out.new m7)
    have HX := Lib.hid L7
    clear L7
    have n7 := n6.trans m7
    have BP7 := BP6.new m7
    clear n6 BP6
    go_wp2_with (fail)
    with_reducible refine (C5.out _).mono ?_
    rintro e w8 ⟨AO, cO, rfl, M8, m8⟩
    have HL5 := Lib.hid (HL5.out.new m8)
    have HX := Lib.hid (HX.out.new m8)
    have HO := Lib.hid M8
    clear M8
    have n8 := n7.trans m8
    have BP8 := BP7.new m8
    clear n7 BP7
    have P0 := BP8.cell' 0 _ rfl
    have P1 := BP8.cell' 1 _ rfl
    go_wp2_with (fail)
    with_reducible refine (C6.out _ n8).mono ?_
    rintro e w9 ⟨m9, AT, cT, rfl, rT, hcT⟩
    have HL5 := Lib.hid (HL5.out.new m9)
    have HX := Lib.hid (HX.out.new m9)
    have HO := Lib.hid (HO.out.new m9)
    have HRT := Lib.hid rT
    clear rT
    have n9 := n8.trans m9
    have BP9 := BP8.new m9
    clear P0 P1
    clear n8 BP8
    have HN9 := Lib.hid n9
    have z1 : ((ol : Int) == (ol : Int)) = true := by simp
    have z2 : ((ol : Int) != (ol : Int)) = false := by simp
    clear n9 BP9
    go_wp2
    go_loopw [17, 95] (fun v17 v95 wr => ∃ (k : Nat) (la : Int), v17 = .int .i64 la ∧ v95 = .int .i64 (k : Int) ∧ k ≤ ol ∧ New w9 wr ∧ Hid (la + 1 = ((thenO [] ((olds TP).take k)).2.1 : Int)) ∧ -1 ≤ la ∧ la ≤ 2000) (fun _ v95 _ => ol - (intOf v95).toNat)
    case atStart => exact ⟨0, -1, rfl, rfl, Nat.zero_le _, New.refl _, Lib.hid rfl, by omega, by omega⟩
    case round =>
      obtain ⟨k, la, rfl, rfl, hk, hn, HLA, hl1, hl2⟩ := hrel
      by_cases hlt : k < ol
      · obtain ⟨bk, o, rfl, hbk, p, hp, hcell⟩ := rd_row (f := plC) (k := 2) (fun _ => rfl) HTL.out (HRT.out.below hn) hlt
        obtain ⟨pa, pb⟩ := p
        have q0 := hcell 0 (.int .i64 pa) (by omega) rfl
        have q1 := hcell 1 (.int .i64 pb) (by omega) rfl
        simp only [Nat.add_zero] at q0
        rw [← Nat.add_assoc] at q1
        have i0' : (0 : Int) ≤ (k : Int) := by omega
        have i1' : (k : Int) < (ol : Int) := by omega
        have BX := Blk.made wr 44 #[.int .i64 pa, .int .i64 pb]
        have y0 := BX.cell' 0 _ rfl
        have y1 := BX.cell' 1 _ rfl
        have hpk := HPL.out k _ hp
        have hpn := HPN.out k _ hp
        simp only at hpk hpn
        obtain ⟨u, hu, hcase⟩ := hpk
        have nX := hn.alloc (.cells #[.int .i64 pa, .int .i64 pb] 44)
        have HNX := Lib.hid nX
        have r1 := (ln_rd (HO.out.new nX)).1
        rw [HOL.out] at r1
        obtain ⟨bo, oo, u', rfl, hbo, hu', co⟩ := sRd_at r1 hlt
        obtain rfl : u' = u := by rw [hu] at hu'; injection hu' with q; exact q.symm
        have HPN2 := Lib.hid hpn
        clear hcell hp r1 hu hu' hpn
        rcases hcase with ⟨c1, c2, c3, c4⟩ | ⟨c1, c2, c3⟩
        · subst c2
          obtain ⟨a, rfl⟩ : ∃ a : Nat, pa = (a : Int) := ⟨pa.toNat, by omega⟩
          rw [Int.toNat_natCast] at c3
          have hal : a < ll := by have := (List.getElem?_eq_some_iff.1 c3).1; rw [HLL1.out] at this; exact this
          have r2 := (ln_rd (HL5.out.new nX)).1
          rw [HLL1.out] at r2
          obtain ⟨b5, o5, v5, rfl, hb5, hv5, c5⟩ := sRd_at r2 hal
          obtain rfl : v5 = u' := by rw [c3] at hv5; injection hv5 with q; exact q.symm
          have hgt : la < (a : Int) := by have := HLA.out; omega
          have t1 : ((-1 : Int) == -1) = true := rfl
          have t2 : decide (la < (a : Int)) = true := decide_eq_true hgt
          have t3 : decide ((a : Int) < (ll : Int)) = true := decide_eq_true (by omega)
          have t4 : decide (a < ll) = true := decide_eq_true hal
          have e1 : (v5.toList == v5.toList) = true := by simp
          have e2 : (v5.toList != v5.toList) = false := by simp
          have a0 : (0 : Int) ≤ (a : Int) := by omega
          have a1 : (a : Int) < (ll : Int) := by omega
          have HLA2 : Hid ((a : Int) + 1 = ((thenO [] ((olds TP).take (k + 1))).2.1 : Int)) := Lib.hid (by rw [HPN2.out, if_pos c1, Int.toNat_natCast]; omega)
          clear c3 c4 r2 hv5 HPN2 HLA
          go_upto_region 21 with (fail)
          generalize wr.alloc (.cells #[.int .i64 (a : Int), .int .i64 (-1)] 44) = w7 at *
          generalize wr.heap.size = gx at *
          clear q0 q1
          go_quiet (fail)
          have y0 : (w7.drewN nq).cell? _ = _ := y0
          go_wp2
          go_roundw
          case rel => exact ⟨k + 1, (a : Int), rfl, by go_num, by omega, HNX.out.drewN _, HLA2, by omega, by omega⟩
          case measure => (simp [intOf]; try omega)
        · subst c1
          obtain ⟨a, rfl⟩ : ∃ a : Nat, pb = (a : Int) := ⟨pb.toNat, by omega⟩
          rw [Int.toNat_natCast] at c3
          have hal : a < xl := by have := (List.getElem?_eq_some_iff.1 c3).1; rw [HXL.out] at this; exact this
          have r2 := (ln_rd (HX.out.new nX)).1
          rw [HXL.out] at r2
          obtain ⟨b5, o5, v5, rfl, hb5, hv5, c5⟩ := sRd_at r2 hal
          obtain rfl : v5 = u' := by rw [c3] at hv5; injection hv5 with q; exact q.symm
          have t1 : ((a : Int) == -1) = false := beq_eq_false_iff_ne.2 (by omega)
          have t1' : ((-1 : Int) == -1) = true := rfl
          have t2 : decide ((0 : Int) ≤ (a : Int)) = true := decide_eq_true (by omega)
          have t3 : decide ((a : Int) < (xl : Int)) = true := decide_eq_true (by omega)
          have t4 : decide (a < xl) = true := decide_eq_true hal
          have e1 : (v5.toList == v5.toList) = true := by simp
          have e2 : (v5.toList != v5.toList) = false := by simp
          have a0 : (0 : Int) ≤ (a : Int) := by omega
          have a1 : (a : Int) < (xl : Int) := by omega
          have HLA2 : Hid (la + 1 = ((thenO [] ((olds TP).take (k + 1))).2.1 : Int)) := Lib.hid (by rw [HPN2.out, if_neg (by omega)]; exact HLA.out)
          clear c3 r2 hv5 HPN2 HLA
          go_upto_region 25 with (fail)
          generalize wr.alloc (.cells #[.int .i64 (-1), .int .i64 (a : Int)] 44) = w7 at *
          generalize wr.heap.size = gx at *
          clear q0 q1
          go_quiet (fail)
          have y0 : (w7.drewN nq).cell? _ = _ := y0
          go_wp2
          go_roundw
          case rel => exact ⟨k + 1, la, rfl, by go_num, by omega, HNX.out.drewN _, HLA2, by omega, by omega⟩
          case measure => (simp [intOf]; try omega)
      · obtain rfl : k = ol := by omega
        go_wp2
        go_ret
        exact ⟨rfl, HN9.out.trans hn⟩
  · have hT : appT sumV base (hs.map Hm.d) s = ⟨#[]⟩ := by rw [appT, if_neg h0]
    rw [hT] at C1
    generalize appE sumV base (hs.map Hm.d) s = x at *
    have x1 : (x == 0) = false := by simpa using h0
    have x2 : (x != 0) = true := by simpa using h0
    have P0 := BP3.cell' 0 _ rfl
    have P1 := BP3.cell' 1 _ rfl
    go_wp2_with (fail)
    with_reducible refine C1.out.mono ?_
    rintro e w4 ⟨rfl, m4⟩
    go_wp2
    go_ret
    exact ⟨rfl, n3.trans m4⟩
end Go.Proofs.YtfeknjpinboknaaGreatDoor

