/- The law BinaryReturns: it answers true. Conditions: none but the world's. (Printed by mk-x7.py.) -/
import Derived.Test.YtnknmpcgbfmfjaaGreatDoorGW
import Derived.Test.YtnknmpcgbfmfjaaGreatDoorGLaw2
import Derived.Test.YtnknmpcgbfmfjaaGreatDoorGX6

namespace Go.Proofs.YtnknmpcgbfmfjaaGreatDoor
open Go Go.RowKit Go.Joins
set_option linter.unusedSimpArgs false
set_option linter.unusedVariables false

theorem u16_of {n : Int} (h : (Lit.int .u16 n).wf = true) : 0 ≤ n ∧ n ≤ 65535 := by
  simp [Lit.wf, IntKind.min, IntKind.max, IntKind.signed, IntKind.bits] at h
  exact h
theorem dec_sz {l : List UInt8} {c : Bn} (h : decV l = some c) : SzB c ∧ SzX c.exps := by
  unfold decV decB at h
  simp only at h
  split at h
  · injection h with h
    have h1 := szb_of (hk := 65536) (he := 65536) (txtS 65536 (some l)).2 (b := (allS 65536 65536 (txtS 65536 (some l)).2).1) (s' := (allS 65536 65536 (txtS 65536 (some l)).2).2) rfl (Nat.le_refl _)
    rw [h] at h1
    refine ⟨h1, ?_⟩
    rw [← h]
    unfold allS
    exact many_all exS (fun x => x.sym.size ≤ 1000000 ∧ W64 x.pos) (fun s => ⟨txt_w _, num_w _ (Nat.le_refl _)⟩) _ _
  · cases h
theorem enc_cases (b : Bn) : (encV b = ([], 1) ∧ chkE b = 1) ∨ (encV b = ([], 10) ∧ chkE b = 0) ∨ (∃ l, encV b = (l, 0) ∧ chkE b = 0 ∧ decV l = some b) := by
  unfold encV chkE
  by_cases hc : checkV b = true
  · rw [if_pos hc, if_pos hc]
    by_cases hl : (encL b).length ≤ 65536
    · rw [if_pos hl]
      exact Or.inr (Or.inr ⟨_, rfl, rfl, (decV_iff _ _).2 ⟨hl, hc, rfl⟩⟩)
    · rw [if_neg hl]
      exact Or.inr (Or.inl ⟨rfl, rfl⟩)
  · rw [if_neg hc, if_neg hc]
    exact Or.inl ⟨rfl, rfl⟩
theorem decode_some {s : ByteArray} {c : Bn} (hd : decV s.data.toList = some c) (W : World) (hE : Env W) (hs : s.size ≤ 9223372036854775807) : Calls Tryz.prog 16 #[.string s] W fun e w' => (∃ h : BH, e = .returned (.tuple #[.agg #[.int .i64 c.kind, .int .i64 c.entry, .string c.image, .slice h.a1 c.places.length h.c1, .slice h.a2 c.fix.length h.c2, .slice h.a3 c.imps.length h.c3, .slice h.a4 c.exps.length h.c4, .slice h.a5 c.notes.length h.c5], .int .i64 0]) ∧ BRd w' c h) ∧ New W w' := by
  refine (decode_any s W hE hs).mono ?_
  rintro e w' ⟨⟨h, he, hr⟩, hn⟩
  have h1 : decBn s.data.toList = c := by unfold decBn; rw [hd]; rfl
  have h2 : decE s.data.toList = 0 := by unfold decE; rw [hd]; rfl
  rw [h1, h2] at he
  rw [h1] at hr
  exact ⟨⟨h, he, hr⟩, hn⟩
theorem decode_none {s : ByteArray} (hd : decV s.data.toList = none) (W : World) (hE : Env W) (hs : s.size ≤ 9223372036854775807) : Calls Tryz.prog 16 #[.string s] W fun e w' => (∃ h : BH, e = .returned (.tuple #[.agg #[.int .i64 0, .int .i64 0, .string ⟨#[]⟩, .slice h.a1 0 h.c1, .slice h.a2 0 h.c2, .slice h.a3 0 h.c3, .slice h.a4 0 h.c4, .slice h.a5 0 h.c5], .int .i64 17])) ∧ New W w' := by
  refine (decode_any s W hE hs).mono ?_
  rintro e w' ⟨⟨h, he, hr⟩, hn⟩
  have h1 : decBn s.data.toList = zB := by unfold decBn; rw [hd]; rfl
  have h2 : decE s.data.toList = 17 := by unfold decE; rw [hd]; rfl
  rw [h1, h2] at he
  exact ⟨⟨h, he⟩, hn⟩
theorem dec_data_ne {s : ByteArray} {c : Bn} (hd : decV s.data.toList = some c) : (s.toList == ([] : List UInt8)) = false := by
  rw [toList_eq]
  refine beq_eq_false_iff_ne.2 (fun h => ?_)
  rw [h, dec_nil] at hd
  cases hd

set_option maxRecDepth 100000 in
set_option maxHeartbeats 16000000 in
theorem law_returns (b : Bn) (h : BH) (data : ByteArray) (a : Int) (w : World) (hr : BRd w b h) (hl : LensB b) (hw : W64B b) (hE : Env w) (hd : data.size ≤ 9223372036854775807) (ha : 0 ≤ a ∧ a ≤ 65535) :
    Calls Tryz.prog 7 #[.agg (bcells b h), .string data, .int .u16 a] w fun e w' => e = .returned (.bool true) ∧ New w w' := by
  have HF := Lib.hid (fun W (hn : New w W) => few_any b h W (hr.new hn) hl)
  have H12 := Lib.hid (fun (hs : FewS b) W (hn : New w W) => encode_any b h W (hr.new hn) (hs.szb hw) (hs.szx hw) (hE.new hn))
  have H14 := Lib.hid (fun (hs : FewS b) W (hn : New w W) => check_any b h W (hr.new hn) (hs.szb hw) (hE.new hn))
  have H18 := Lib.hid (fun (hs : FewS b) (h2 : BH) W (hn : New w W) (hr2 : BRd W b h2) => same_self b h h2 W (hr.new hn) hr2 (by have := hs.l1; omega) (by have := hs.l2; omega) (by have := hs.l3; omega) (by have := hs.l4; omega) (by have := hs.l5; omega))
  have HE := Lib.hid hE
  have HD := Lib.hid hd
  have HR : Hid (∀ W e W', FewR b W e W' → (∃ v, e = .returned (.bool v) ∧ (v = true → FewS b)) ∧ New W W') := Lib.hid (fun W e W' q => q)
  obtain ⟨FS, hFS⟩ : ∃ x, FewS b = x := ⟨_, rfl⟩
  have HF2 := Lib.hid (fun W (hn : New w W) => (HF.out W hn).mono (fun e W' q => HR.out W e W' q))
  rw [hFS] at HF2 H12 H14 H18
  have B0 := Blk.made w 28 (bcells b h)
  have n0 : New w (w.alloc (.cells (bcells b h) 28)) := (New.refl w).alloc _
  clear HF HR hFS hr hl hw hE
  simp only [bcells] at B0 n0 HF2 H12 H14 H18 ⊢
  by_cases hbig : 6000 < data.size
  · have t0 : decide ((6000 : Int) < (data.size : Int)) = true := decide_eq_true (by omega)
    go_enter Tryz.func7, Tryz.ntmps7
    go_wp2_with (fail)
    with_reducible refine (awake_any _ (HE.out.new n0)).mono ?_
    rintro e w1 ⟨rfl, m1⟩
    have n1' := n0.trans m1
    have B1 := B0.new m1
    have x0 := B1.cell' 0 _ rfl
    have x1 := B1.cell' 1 _ rfl
    have x2 := B1.cell' 2 _ rfl
    have x3 := B1.cell' 3 _ rfl
    have x4 := B1.cell' 4 _ rfl
    have x5 := B1.cell' 5 _ rfl
    have x6 := B1.cell' 6 _ rfl
    have x7 := B1.cell' 7 _ rfl
    go_wp2_with (fail)
    with_reducible refine (HF2.out _ n1').mono ?_
    rintro e w2 ⟨⟨v, rfl, hv⟩, m2⟩
    have n2' := n1'.trans m2
    have B2 := B1.new m2
    cases v
    · go_wp2
      go_ret
      exact ⟨rfl, n2'⟩
    clear x0 x1 x2 x3 x4 x5 x6 x7
    go_wp2
    go_ret
    exact ⟨rfl, n2'⟩
  have t0 : decide ((6000 : Int) < (data.size : Int)) = false := decide_eq_false (by omega)
  clear hbig
  rcases enc_cases b with ⟨h1, h2⟩ | ⟨h1, h2⟩ | ⟨l, h1, h2, h3⟩
  · rw [h1] at H12
    rw [h2] at H14
    simp only at H12
    clear h1 h2
    go_enter Tryz.func7, Tryz.ntmps7
    go_wp2_with (fail)
    with_reducible refine (awake_any _ (HE.out.new n0)).mono ?_
    rintro e w1 ⟨rfl, m1⟩
    have n1' := n0.trans m1
    have B1 := B0.new m1
    have x0 := B1.cell' 0 _ rfl
    have x1 := B1.cell' 1 _ rfl
    have x2 := B1.cell' 2 _ rfl
    have x3 := B1.cell' 3 _ rfl
    have x4 := B1.cell' 4 _ rfl
    have x5 := B1.cell' 5 _ rfl
    have x6 := B1.cell' 6 _ rfl
    have x7 := B1.cell' 7 _ rfl
    go_wp2_with (fail)
    with_reducible refine (HF2.out _ n1').mono ?_
    rintro e w2 ⟨⟨v, rfl, hv⟩, m2⟩
    have n2' := n1'.trans m2
    have B2 := B1.new m2
    cases v
    · go_wp2
      go_ret
      exact ⟨rfl, n2'⟩
    have HS := Lib.hid (hv rfl)
    clear x0 x1 x2 x3 x4 x5 x6 x7
    clear hv
    have x0 := B2.cell' 0 _ rfl
    have x1 := B2.cell' 1 _ rfl
    have x2 := B2.cell' 2 _ rfl
    have x3 := B2.cell' 3 _ rfl
    have x4 := B2.cell' 4 _ rfl
    have x5 := B2.cell' 5 _ rfl
    have x6 := B2.cell' 6 _ rfl
    have x7 := B2.cell' 7 _ rfl
    go_wp2_with (fail)
    with_reducible refine (H12.out HS.out _ n2').mono ?_
    rintro e w3 ⟨rfl, m3⟩
    have n3' := n2'.trans m3
    have B3 := B2.new m3
    clear x0 x1 x2 x3 x4 x5 x6 x7
    have x0 := B3.cell' 0 _ rfl
    have x1 := B3.cell' 1 _ rfl
    have x2 := B3.cell' 2 _ rfl
    have x3 := B3.cell' 3 _ rfl
    have x4 := B3.cell' 4 _ rfl
    have x5 := B3.cell' 5 _ rfl
    have x6 := B3.cell' 6 _ rfl
    have x7 := B3.cell' 7 _ rfl
    go_wp2_with (fail)
    with_reducible refine (H14.out HS.out _ n3').mono ?_
    rintro e w4 ⟨rfl, m4⟩
    have n4' := n3'.trans m4
    have B4 := B3.new m4
    clear x0 x1 x2 x3 x4 x5 x6 x7
    have x0 := B4.cell' 0 _ rfl
    have x1 := B4.cell' 1 _ rfl
    have x2 := B4.cell' 2 _ rfl
    have x3 := B4.cell' 3 _ rfl
    have x4 := B4.cell' 4 _ rfl
    have x5 := B4.cell' 5 _ rfl
    have x6 := B4.cell' 6 _ rfl
    have x7 := B4.cell' 7 _ rfl
    cases hdd : decV data.data.toList with
    | none =>
      have HDN := Lib.hid (fun W (e : Env W) => decode_none hdd W e HD.out)
      clear hdd
      go_wp2_with (fail)
      with_reducible refine (HDN.out _ (HE.out.new n4')).mono ?_
      rintro e wd ⟨⟨hz, rfl⟩, md⟩
      have nd' := n4'.trans md
      go_wp2
      go_ret
      exact ⟨rfl, nd'.alloc _⟩
    | some c =>
      have HDS := Lib.hid (fun W (e : Env W) => decode_some hdd W e HD.out)
      have hne := dec_data_ne hdd
      obtain ⟨hec, hcc⟩ := dec_enc hdd
      obtain ⟨hz1, hz2⟩ := dec_sz hdd
      have H12c := Lib.hid (fun (hc : BH) W (r : BRd W c hc) (e : Env W) => encode_any c hc W r hz1 hz2 e)
      rw [hec] at H12c
      simp only [S_data] at H12c
      have H14c := Lib.hid (fun (hc : BH) W (r : BRd W c hc) (e : Env W) => check_any c hc W r hz1 e)
      have hce : chkE c = 0 := by unfold chkE; rw [hcc]; rfl
      rw [hce] at H14c
      have hpos : 0 < data.size := by
        rcases Nat.eq_zero_or_pos data.size with q | q
        · exfalso
          have : data.data.toList = [] := List.eq_nil_of_length_eq_zero (by rw [← size_eq]; exact q)
          rw [this, dec_nil] at hdd
          cases hdd
        · exact q
      obtain ⟨an, rfl⟩ : ∃ an : Nat, a = (an : Int) := ⟨a.toNat, by omega⟩
      have hk := Nat.mod_lt an hpos
      have hpre : decV (data.extract 0 (an % data.size)).data.toList = none := by
        rw [extract_S, data_S, List.drop_zero, Nat.sub_zero]
        exact dec_prefix hdd (by rw [← size_eq]; exact hk)
      have HDP := Lib.hid (fun W (e : Env W) => decode_none hpre W e (by have h1 : (data.extract 0 (an % data.size)).size ≤ data.size := (by simp; omega); have h2 := HD.out; omega))
      have u1 : IntKind.i64.wrap (an : Int) = (an : Int) := IntWalk.i64_in _ (by omega)
      have u2 : (an : Int).tmod (data.size : Int) = ((an % data.size : Nat) : Int) := by rw [Int.tmod_eq_emod_of_nonneg (by omega)]; rfl
      have u3 : ((data.size : Int) == 0) = false := beq_eq_false_iff_ne.2 (by omega)
      have u3' : ¬ ((data.size : Int) = 0) := by omega
      have u4 : IntKind.i64.wrap ((an % data.size : Nat) : Int) = ((an % data.size : Nat) : Int) := IntWalk.i64_in _ (by omega)
      have u5 : ((an % data.size : Nat) : Int) ≤ (data.size : Int) := by omega
      have HC := Lib.hid (And.intro hdd hcc)
      clear hdd hcc hec hz1 hz2 hce hpre
      simp only [bcells] at H12c H14c
      go_wp2_with (fail)
      with_reducible refine (HDS.out _ (HE.out.new n4')).mono ?_
      rintro e wd ⟨⟨hc, rfl, rc⟩, md⟩
      have ad := (New.refl wd).alloc (.cells #[.int .i64 c.kind, .int .i64 c.entry, .string c.image, .slice hc.a1 c.places.length hc.c1, .slice hc.a2 c.fix.length hc.c2, .slice hc.a3 c.imps.length hc.c3, .slice hc.a4 c.exps.length hc.c4, .slice hc.a5 c.notes.length hc.c5] 28)
      have nd' := (n4'.trans md).trans ad
      have RC := Lib.hid (rc.new ad)
      have BC := Blk.made wd 28 #[.int .i64 c.kind, .int .i64 c.entry, .string c.image, .slice hc.a1 c.places.length hc.c1, .slice hc.a2 c.fix.length hc.c2, .slice hc.a3 c.imps.length hc.c3, .slice hc.a4 c.exps.length hc.c4, .slice hc.a5 c.notes.length hc.c5]
      clear rc
      have k0 := BC.cell' 0 _ rfl
      have k1 := BC.cell' 1 _ rfl
      have k2 := BC.cell' 2 _ rfl
      have k3 := BC.cell' 3 _ rfl
      have k4 := BC.cell' 4 _ rfl
      have k5 := BC.cell' 5 _ rfl
      have k6 := BC.cell' 6 _ rfl
      have k7 := BC.cell' 7 _ rfl
      go_wp2_with (fail)
      with_reducible refine (H12c.out hc _ RC.out (HE.out.new nd')).mono ?_
      rintro e we ⟨rfl, me⟩
      have ne' := nd'.trans me
      have RC2 := Lib.hid (RC.out.new me)
      have BC2 := BC.new me
      clear k0 k1 k2 k3 k4 k5 k6 k7
      obtain ⟨kn, hkn⟩ : ∃ kn, an % data.size = kn := ⟨_, rfl⟩
      rw [hkn] at HDP u2 u4 u5 hk
      go_wp2_with (fail)
      with_reducible refine (HDP.out _ (HE.out.new ne')).mono ?_
      rintro e wf ⟨⟨hz, rfl⟩, mf⟩
      have af := (New.refl wf).alloc (.cells #[.int .i64 0, .int .i64 0, .string ⟨#[]⟩, .slice hz.a1 0 hz.c1, .slice hz.a2 0 hz.c2, .slice hz.a3 0 hz.c3, .slice hz.a4 0 hz.c4, .slice hz.a5 0 hz.c5] 28)
      have nf' := (ne'.trans mf).trans af
      have RC3 := Lib.hid ((RC2.out.new mf).new af)
      have BC3 := (BC2.new mf).new af
      have k0 := BC3.cell' 0 _ rfl
      have k1 := BC3.cell' 1 _ rfl
      have k2 := BC3.cell' 2 _ rfl
      have k3 := BC3.cell' 3 _ rfl
      have k4 := BC3.cell' 4 _ rfl
      have k5 := BC3.cell' 5 _ rfl
      have k6 := BC3.cell' 6 _ rfl
      have k7 := BC3.cell' 7 _ rfl
      go_wp2_with (fail)
      with_reducible refine (H14c.out hc _ RC3.out (HE.out.new nf')).mono ?_
      rintro e wg ⟨rfl, mg⟩
      have ng' := nf'.trans mg
      go_wp2
      go_ret
      exact ⟨rfl, ng'⟩
  · rw [h1] at H12
    rw [h2] at H14
    simp only at H12
    clear h1 h2
    go_enter Tryz.func7, Tryz.ntmps7
    go_wp2_with (fail)
    with_reducible refine (awake_any _ (HE.out.new n0)).mono ?_
    rintro e w1 ⟨rfl, m1⟩
    have n1' := n0.trans m1
    have B1 := B0.new m1
    have x0 := B1.cell' 0 _ rfl
    have x1 := B1.cell' 1 _ rfl
    have x2 := B1.cell' 2 _ rfl
    have x3 := B1.cell' 3 _ rfl
    have x4 := B1.cell' 4 _ rfl
    have x5 := B1.cell' 5 _ rfl
    have x6 := B1.cell' 6 _ rfl
    have x7 := B1.cell' 7 _ rfl
    go_wp2_with (fail)
    with_reducible refine (HF2.out _ n1').mono ?_
    rintro e w2 ⟨⟨v, rfl, hv⟩, m2⟩
    have n2' := n1'.trans m2
    have B2 := B1.new m2
    cases v
    · go_wp2
      go_ret
      exact ⟨rfl, n2'⟩
    have HS := Lib.hid (hv rfl)
    clear x0 x1 x2 x3 x4 x5 x6 x7
    clear hv
    have x0 := B2.cell' 0 _ rfl
    have x1 := B2.cell' 1 _ rfl
    have x2 := B2.cell' 2 _ rfl
    have x3 := B2.cell' 3 _ rfl
    have x4 := B2.cell' 4 _ rfl
    have x5 := B2.cell' 5 _ rfl
    have x6 := B2.cell' 6 _ rfl
    have x7 := B2.cell' 7 _ rfl
    go_wp2_with (fail)
    with_reducible refine (H12.out HS.out _ n2').mono ?_
    rintro e w3 ⟨rfl, m3⟩
    have n3' := n2'.trans m3
    have B3 := B2.new m3
    clear x0 x1 x2 x3 x4 x5 x6 x7
    have x0 := B3.cell' 0 _ rfl
    have x1 := B3.cell' 1 _ rfl
    have x2 := B3.cell' 2 _ rfl
    have x3 := B3.cell' 3 _ rfl
    have x4 := B3.cell' 4 _ rfl
    have x5 := B3.cell' 5 _ rfl
    have x6 := B3.cell' 6 _ rfl
    have x7 := B3.cell' 7 _ rfl
    go_wp2_with (fail)
    with_reducible refine (H14.out HS.out _ n3').mono ?_
    rintro e w4 ⟨rfl, m4⟩
    have n4' := n3'.trans m4
    have B4 := B3.new m4
    clear x0 x1 x2 x3 x4 x5 x6 x7
    have x0 := B4.cell' 0 _ rfl
    have x1 := B4.cell' 1 _ rfl
    have x2 := B4.cell' 2 _ rfl
    have x3 := B4.cell' 3 _ rfl
    have x4 := B4.cell' 4 _ rfl
    have x5 := B4.cell' 5 _ rfl
    have x6 := B4.cell' 6 _ rfl
    have x7 := B4.cell' 7 _ rfl
    cases hdd : decV data.data.toList with
    | none =>
      have HDN := Lib.hid (fun W (e : Env W) => decode_none hdd W e HD.out)
      clear hdd
      go_wp2_with (fail)
      with_reducible refine (HDN.out _ (HE.out.new n4')).mono ?_
      rintro e wd ⟨⟨hz, rfl⟩, md⟩
      have nd' := n4'.trans md
      go_wp2
      go_ret
      exact ⟨rfl, nd'.alloc _⟩
    | some c =>
      have HDS := Lib.hid (fun W (e : Env W) => decode_some hdd W e HD.out)
      have hne := dec_data_ne hdd
      obtain ⟨hec, hcc⟩ := dec_enc hdd
      obtain ⟨hz1, hz2⟩ := dec_sz hdd
      have H12c := Lib.hid (fun (hc : BH) W (r : BRd W c hc) (e : Env W) => encode_any c hc W r hz1 hz2 e)
      rw [hec] at H12c
      simp only [S_data] at H12c
      have H14c := Lib.hid (fun (hc : BH) W (r : BRd W c hc) (e : Env W) => check_any c hc W r hz1 e)
      have hce : chkE c = 0 := by unfold chkE; rw [hcc]; rfl
      rw [hce] at H14c
      have hpos : 0 < data.size := by
        rcases Nat.eq_zero_or_pos data.size with q | q
        · exfalso
          have : data.data.toList = [] := List.eq_nil_of_length_eq_zero (by rw [← size_eq]; exact q)
          rw [this, dec_nil] at hdd
          cases hdd
        · exact q
      obtain ⟨an, rfl⟩ : ∃ an : Nat, a = (an : Int) := ⟨a.toNat, by omega⟩
      have hk := Nat.mod_lt an hpos
      have hpre : decV (data.extract 0 (an % data.size)).data.toList = none := by
        rw [extract_S, data_S, List.drop_zero, Nat.sub_zero]
        exact dec_prefix hdd (by rw [← size_eq]; exact hk)
      have HDP := Lib.hid (fun W (e : Env W) => decode_none hpre W e (by have h1 : (data.extract 0 (an % data.size)).size ≤ data.size := (by simp; omega); have h2 := HD.out; omega))
      have u1 : IntKind.i64.wrap (an : Int) = (an : Int) := IntWalk.i64_in _ (by omega)
      have u2 : (an : Int).tmod (data.size : Int) = ((an % data.size : Nat) : Int) := by rw [Int.tmod_eq_emod_of_nonneg (by omega)]; rfl
      have u3 : ((data.size : Int) == 0) = false := beq_eq_false_iff_ne.2 (by omega)
      have u3' : ¬ ((data.size : Int) = 0) := by omega
      have u4 : IntKind.i64.wrap ((an % data.size : Nat) : Int) = ((an % data.size : Nat) : Int) := IntWalk.i64_in _ (by omega)
      have u5 : ((an % data.size : Nat) : Int) ≤ (data.size : Int) := by omega
      have HC := Lib.hid (And.intro hdd hcc)
      clear hdd hcc hec hz1 hz2 hce hpre
      simp only [bcells] at H12c H14c
      go_wp2_with (fail)
      with_reducible refine (HDS.out _ (HE.out.new n4')).mono ?_
      rintro e wd ⟨⟨hc, rfl, rc⟩, md⟩
      have ad := (New.refl wd).alloc (.cells #[.int .i64 c.kind, .int .i64 c.entry, .string c.image, .slice hc.a1 c.places.length hc.c1, .slice hc.a2 c.fix.length hc.c2, .slice hc.a3 c.imps.length hc.c3, .slice hc.a4 c.exps.length hc.c4, .slice hc.a5 c.notes.length hc.c5] 28)
      have nd' := (n4'.trans md).trans ad
      have RC := Lib.hid (rc.new ad)
      have BC := Blk.made wd 28 #[.int .i64 c.kind, .int .i64 c.entry, .string c.image, .slice hc.a1 c.places.length hc.c1, .slice hc.a2 c.fix.length hc.c2, .slice hc.a3 c.imps.length hc.c3, .slice hc.a4 c.exps.length hc.c4, .slice hc.a5 c.notes.length hc.c5]
      clear rc
      have k0 := BC.cell' 0 _ rfl
      have k1 := BC.cell' 1 _ rfl
      have k2 := BC.cell' 2 _ rfl
      have k3 := BC.cell' 3 _ rfl
      have k4 := BC.cell' 4 _ rfl
      have k5 := BC.cell' 5 _ rfl
      have k6 := BC.cell' 6 _ rfl
      have k7 := BC.cell' 7 _ rfl
      go_wp2_with (fail)
      with_reducible refine (H12c.out hc _ RC.out (HE.out.new nd')).mono ?_
      rintro e we ⟨rfl, me⟩
      have ne' := nd'.trans me
      have RC2 := Lib.hid (RC.out.new me)
      have BC2 := BC.new me
      clear k0 k1 k2 k3 k4 k5 k6 k7
      obtain ⟨kn, hkn⟩ : ∃ kn, an % data.size = kn := ⟨_, rfl⟩
      rw [hkn] at HDP u2 u4 u5 hk
      go_wp2_with (fail)
      with_reducible refine (HDP.out _ (HE.out.new ne')).mono ?_
      rintro e wf ⟨⟨hz, rfl⟩, mf⟩
      have af := (New.refl wf).alloc (.cells #[.int .i64 0, .int .i64 0, .string ⟨#[]⟩, .slice hz.a1 0 hz.c1, .slice hz.a2 0 hz.c2, .slice hz.a3 0 hz.c3, .slice hz.a4 0 hz.c4, .slice hz.a5 0 hz.c5] 28)
      have nf' := (ne'.trans mf).trans af
      have RC3 := Lib.hid ((RC2.out.new mf).new af)
      have BC3 := (BC2.new mf).new af
      have k0 := BC3.cell' 0 _ rfl
      have k1 := BC3.cell' 1 _ rfl
      have k2 := BC3.cell' 2 _ rfl
      have k3 := BC3.cell' 3 _ rfl
      have k4 := BC3.cell' 4 _ rfl
      have k5 := BC3.cell' 5 _ rfl
      have k6 := BC3.cell' 6 _ rfl
      have k7 := BC3.cell' 7 _ rfl
      go_wp2_with (fail)
      with_reducible refine (H14c.out hc _ RC3.out (HE.out.new nf')).mono ?_
      rintro e wg ⟨rfl, mg⟩
      have ng' := nf'.trans mg
      go_wp2
      go_ret
      exact ⟨rfl, ng'⟩
  · rw [h1] at H12
    rw [h2] at H14
    simp only at H12
    have hlen : l.length ≤ 65536 := ((decV_iff _ _).1 h3).1
    rw [← data_S l] at h3
    have HDE := Lib.hid (fun W (e : Env W) => decode_some h3 W e (by rw [size_S]; omega))
    clear h1 h2 h3 hlen
    generalize S l = sl at *
    go_enter Tryz.func7, Tryz.ntmps7
    go_wp2_with (fail)
    with_reducible refine (awake_any _ (HE.out.new n0)).mono ?_
    rintro e w1 ⟨rfl, m1⟩
    have n1' := n0.trans m1
    have B1 := B0.new m1
    have x0 := B1.cell' 0 _ rfl
    have x1 := B1.cell' 1 _ rfl
    have x2 := B1.cell' 2 _ rfl
    have x3 := B1.cell' 3 _ rfl
    have x4 := B1.cell' 4 _ rfl
    have x5 := B1.cell' 5 _ rfl
    have x6 := B1.cell' 6 _ rfl
    have x7 := B1.cell' 7 _ rfl
    go_wp2_with (fail)
    with_reducible refine (HF2.out _ n1').mono ?_
    rintro e w2 ⟨⟨v, rfl, hv⟩, m2⟩
    have n2' := n1'.trans m2
    have B2 := B1.new m2
    cases v
    · go_wp2
      go_ret
      exact ⟨rfl, n2'⟩
    have HS := Lib.hid (hv rfl)
    clear x0 x1 x2 x3 x4 x5 x6 x7
    clear hv
    have x0 := B2.cell' 0 _ rfl
    have x1 := B2.cell' 1 _ rfl
    have x2 := B2.cell' 2 _ rfl
    have x3 := B2.cell' 3 _ rfl
    have x4 := B2.cell' 4 _ rfl
    have x5 := B2.cell' 5 _ rfl
    have x6 := B2.cell' 6 _ rfl
    have x7 := B2.cell' 7 _ rfl
    go_wp2_with (fail)
    with_reducible refine (H12.out HS.out _ n2').mono ?_
    rintro e w3 ⟨rfl, m3⟩
    have n3' := n2'.trans m3
    have B3 := B2.new m3
    clear x0 x1 x2 x3 x4 x5 x6 x7
    have x0 := B3.cell' 0 _ rfl
    have x1 := B3.cell' 1 _ rfl
    have x2 := B3.cell' 2 _ rfl
    have x3 := B3.cell' 3 _ rfl
    have x4 := B3.cell' 4 _ rfl
    have x5 := B3.cell' 5 _ rfl
    have x6 := B3.cell' 6 _ rfl
    have x7 := B3.cell' 7 _ rfl
    go_wp2_with (fail)
    with_reducible refine (H14.out HS.out _ n3').mono ?_
    rintro e w4 ⟨rfl, m4⟩
    have n4' := n3'.trans m4
    have B4 := B3.new m4
    clear x0 x1 x2 x3 x4 x5 x6 x7
    have x0 := B4.cell' 0 _ rfl
    have x1 := B4.cell' 1 _ rfl
    have x2 := B4.cell' 2 _ rfl
    have x3 := B4.cell' 3 _ rfl
    have x4 := B4.cell' 4 _ rfl
    have x5 := B4.cell' 5 _ rfl
    have x6 := B4.cell' 6 _ rfl
    have x7 := B4.cell' 7 _ rfl
    go_wp2_with (fail)
    with_reducible refine (HDE.out _ (HE.out.new n4')).mono ?_
    rintro e w5 ⟨⟨h2, rfl, r5⟩, m5⟩
    have a5 := (New.refl w5).alloc (.cells #[.int .i64 b.kind, .int .i64 b.entry, .string b.image, .slice h2.a1 b.places.length h2.c1, .slice h2.a2 b.fix.length h2.c2, .slice h2.a3 b.imps.length h2.c3, .slice h2.a4 b.exps.length h2.c4, .slice h2.a5 b.notes.length h2.c5] 28)
    have n5' := (n4'.trans m5).trans a5
    have R5 := Lib.hid (r5.new a5)
    have Q5 := Blk.made w5 28 #[.int .i64 b.kind, .int .i64 b.entry, .string b.image, .slice h2.a1 b.places.length h2.c1, .slice h2.a2 b.fix.length h2.c2, .slice h2.a3 b.imps.length h2.c3, .slice h2.a4 b.exps.length h2.c4, .slice h2.a5 b.notes.length h2.c5]
    have B5 := (B4.new m5).new a5
    clear r5
    clear x0 x1 x2 x3 x4 x5 x6 x7
    have x0 := B5.cell' 0 _ rfl
    have x1 := B5.cell' 1 _ rfl
    have x2 := B5.cell' 2 _ rfl
    have x3 := B5.cell' 3 _ rfl
    have x4 := B5.cell' 4 _ rfl
    have x5 := B5.cell' 5 _ rfl
    have x6 := B5.cell' 6 _ rfl
    have x7 := B5.cell' 7 _ rfl
    have q0 := Q5.cell' 0 _ rfl
    have q1 := Q5.cell' 1 _ rfl
    have q2 := Q5.cell' 2 _ rfl
    have q3 := Q5.cell' 3 _ rfl
    have q4 := Q5.cell' 4 _ rfl
    have q5 := Q5.cell' 5 _ rfl
    have q6 := Q5.cell' 6 _ rfl
    have q7 := Q5.cell' 7 _ rfl
    go_wp2_with (fail)
    with_reducible refine (H18.out HS.out h2 _ n5' R5.out).mono ?_
    rintro e w6 ⟨rfl, m6⟩
    have n6' := n5'.trans m6
    have B6 := B5.new m6
    clear x0 x1 x2 x3 x4 x5 x6 x7
    clear q0 q1 q2 q3 q4 q5 q6 q7
    have x0 := B6.cell' 0 _ rfl
    have x1 := B6.cell' 1 _ rfl
    have x2 := B6.cell' 2 _ rfl
    have x3 := B6.cell' 3 _ rfl
    have x4 := B6.cell' 4 _ rfl
    have x5 := B6.cell' 5 _ rfl
    have x6 := B6.cell' 6 _ rfl
    have x7 := B6.cell' 7 _ rfl
    cases hdd : decV data.data.toList with
    | none =>
      have HDN := Lib.hid (fun W (e : Env W) => decode_none hdd W e HD.out)
      clear hdd
      go_wp2_with (fail)
      with_reducible refine (HDN.out _ (HE.out.new n6')).mono ?_
      rintro e wd ⟨⟨hz, rfl⟩, md⟩
      have nd' := n6'.trans md
      go_wp2
      go_ret
      exact ⟨rfl, nd'.alloc _⟩
    | some c =>
      have HDS := Lib.hid (fun W (e : Env W) => decode_some hdd W e HD.out)
      have hne := dec_data_ne hdd
      obtain ⟨hec, hcc⟩ := dec_enc hdd
      obtain ⟨hz1, hz2⟩ := dec_sz hdd
      have H12c := Lib.hid (fun (hc : BH) W (r : BRd W c hc) (e : Env W) => encode_any c hc W r hz1 hz2 e)
      rw [hec] at H12c
      simp only [S_data] at H12c
      have H14c := Lib.hid (fun (hc : BH) W (r : BRd W c hc) (e : Env W) => check_any c hc W r hz1 e)
      have hce : chkE c = 0 := by unfold chkE; rw [hcc]; rfl
      rw [hce] at H14c
      have hpos : 0 < data.size := by
        rcases Nat.eq_zero_or_pos data.size with q | q
        · exfalso
          have : data.data.toList = [] := List.eq_nil_of_length_eq_zero (by rw [← size_eq]; exact q)
          rw [this, dec_nil] at hdd
          cases hdd
        · exact q
      obtain ⟨an, rfl⟩ : ∃ an : Nat, a = (an : Int) := ⟨a.toNat, by omega⟩
      have hk := Nat.mod_lt an hpos
      have hpre : decV (data.extract 0 (an % data.size)).data.toList = none := by
        rw [extract_S, data_S, List.drop_zero, Nat.sub_zero]
        exact dec_prefix hdd (by rw [← size_eq]; exact hk)
      have HDP := Lib.hid (fun W (e : Env W) => decode_none hpre W e (by have h1 : (data.extract 0 (an % data.size)).size ≤ data.size := (by simp; omega); have h2 := HD.out; omega))
      have u1 : IntKind.i64.wrap (an : Int) = (an : Int) := IntWalk.i64_in _ (by omega)
      have u2 : (an : Int).tmod (data.size : Int) = ((an % data.size : Nat) : Int) := by rw [Int.tmod_eq_emod_of_nonneg (by omega)]; rfl
      have u3 : ((data.size : Int) == 0) = false := beq_eq_false_iff_ne.2 (by omega)
      have u3' : ¬ ((data.size : Int) = 0) := by omega
      have u4 : IntKind.i64.wrap ((an % data.size : Nat) : Int) = ((an % data.size : Nat) : Int) := IntWalk.i64_in _ (by omega)
      have u5 : ((an % data.size : Nat) : Int) ≤ (data.size : Int) := by omega
      have HC := Lib.hid (And.intro hdd hcc)
      clear hdd hcc hec hz1 hz2 hce hpre
      simp only [bcells] at H12c H14c
      go_wp2_with (fail)
      with_reducible refine (HDS.out _ (HE.out.new n6')).mono ?_
      rintro e wd ⟨⟨hc, rfl, rc⟩, md⟩
      have ad := (New.refl wd).alloc (.cells #[.int .i64 c.kind, .int .i64 c.entry, .string c.image, .slice hc.a1 c.places.length hc.c1, .slice hc.a2 c.fix.length hc.c2, .slice hc.a3 c.imps.length hc.c3, .slice hc.a4 c.exps.length hc.c4, .slice hc.a5 c.notes.length hc.c5] 28)
      have nd' := (n6'.trans md).trans ad
      have RC := Lib.hid (rc.new ad)
      have BC := Blk.made wd 28 #[.int .i64 c.kind, .int .i64 c.entry, .string c.image, .slice hc.a1 c.places.length hc.c1, .slice hc.a2 c.fix.length hc.c2, .slice hc.a3 c.imps.length hc.c3, .slice hc.a4 c.exps.length hc.c4, .slice hc.a5 c.notes.length hc.c5]
      clear rc
      have k0 := BC.cell' 0 _ rfl
      have k1 := BC.cell' 1 _ rfl
      have k2 := BC.cell' 2 _ rfl
      have k3 := BC.cell' 3 _ rfl
      have k4 := BC.cell' 4 _ rfl
      have k5 := BC.cell' 5 _ rfl
      have k6 := BC.cell' 6 _ rfl
      have k7 := BC.cell' 7 _ rfl
      go_wp2_with (fail)
      with_reducible refine (H12c.out hc _ RC.out (HE.out.new nd')).mono ?_
      rintro e we ⟨rfl, me⟩
      have ne' := nd'.trans me
      have RC2 := Lib.hid (RC.out.new me)
      have BC2 := BC.new me
      clear k0 k1 k2 k3 k4 k5 k6 k7
      obtain ⟨kn, hkn⟩ : ∃ kn, an % data.size = kn := ⟨_, rfl⟩
      rw [hkn] at HDP u2 u4 u5 hk
      go_wp2_with (fail)
      with_reducible refine (HDP.out _ (HE.out.new ne')).mono ?_
      rintro e wf ⟨⟨hz, rfl⟩, mf⟩
      have af := (New.refl wf).alloc (.cells #[.int .i64 0, .int .i64 0, .string ⟨#[]⟩, .slice hz.a1 0 hz.c1, .slice hz.a2 0 hz.c2, .slice hz.a3 0 hz.c3, .slice hz.a4 0 hz.c4, .slice hz.a5 0 hz.c5] 28)
      have nf' := (ne'.trans mf).trans af
      have RC3 := Lib.hid ((RC2.out.new mf).new af)
      have BC3 := (BC2.new mf).new af
      have k0 := BC3.cell' 0 _ rfl
      have k1 := BC3.cell' 1 _ rfl
      have k2 := BC3.cell' 2 _ rfl
      have k3 := BC3.cell' 3 _ rfl
      have k4 := BC3.cell' 4 _ rfl
      have k5 := BC3.cell' 5 _ rfl
      have k6 := BC3.cell' 6 _ rfl
      have k7 := BC3.cell' 7 _ rfl
      go_wp2_with (fail)
      with_reducible refine (H14c.out hc _ RC3.out (HE.out.new nf')).mono ?_
      rintro e wg ⟨rfl, mg⟩
      have ng' := nf'.trans mg
      go_wp2
      go_ret
      exact ⟨rfl, ng'⟩
end Go.Proofs.YtnknmpcgbfmfjaaGreatDoor

