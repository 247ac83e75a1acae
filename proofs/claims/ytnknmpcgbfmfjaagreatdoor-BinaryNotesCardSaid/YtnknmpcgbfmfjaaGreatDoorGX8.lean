/- The law BinaryNotes: it answers true. Conditions: none but the world's. (Printed by mk-x8.py.) -/
import Derived.Test.YtnknmpcgbfmfjaaGreatDoorGW
import Derived.Test.YtnknmpcgbfmfjaaGreatDoorGLaw3
import Derived.Test.YtnknmpcgbfmfjaaGreatDoorGA2

namespace Go.Proofs.YtnknmpcgbfmfjaaGreatDoor
open Go Go.RowKit Go.Joins
set_option linter.unusedSimpArgs false
set_option linter.unusedVariables false

theorem att_len (b : Bn) (n : NtD) (hl : LensB b) (hs : FewS b) : (attachV b n).1.places.length ≤ 1000000 ∧ (attachV b n).1.fix.length ≤ 1000000 ∧ (attachV b n).1.imps.length ≤ 1000000 ∧ (attachV b n).1.exps.length ≤ 1000000 ∧ (attachV b n).1.notes.length ≤ 1000000 := by
  have h1 := hs.l1; have h2 := hs.l2; have h3 := hs.l3; have h4 := hs.l4; have h5 := hs.l5
  have hz : zB.places.length ≤ 1000000 ∧ zB.fix.length ≤ 1000000 ∧ zB.imps.length ≤ 1000000 ∧ zB.exps.length ≤ 1000000 ∧ zB.notes.length ≤ 1000000 := by simp [zB]
  unfold attachV
  split
  · exact hz
  split
  · exact hz
  split
  · exact hz
  split
  · exact hz
  refine ⟨by simp only; omega, by simp only; omega, by simp only; omega, by simp only; omega, ?_⟩
  simp only [List.length_append, List.length_cons, List.length_nil]
  omega
theorem strip_len (b : Bn) (hs : FewS b) : (stripB b).places.length ≤ 1000000 ∧ (stripB b).fix.length ≤ 1000000 ∧ (stripB b).imps.length ≤ 1000000 ∧ (stripB b).exps.length ≤ 1000000 ∧ (stripB b).notes.length ≤ 1000000 := by
  have h1 := hs.l1; have h2 := hs.l2; have h3 := hs.l3; have h4 := hs.l4; have h5 := hs.l5
  have hz : zB.places.length ≤ 1000000 ∧ zB.fix.length ≤ 1000000 ∧ zB.imps.length ≤ 1000000 ∧ zB.exps.length ≤ 1000000 ∧ zB.notes.length ≤ 1000000 := by simp [zB]
  unfold stripB
  split
  · refine ⟨by simp only; omega, by simp only; omega, by simp only; omega, by simp only; omega, by simp⟩
  · exact hz

set_option maxRecDepth 100000 in
set_option maxHeartbeats 16000000 in
theorem law_notes (b : Bn) (h : BH) (n : NtD) (name : ByteArray) (w : World) (hr : BRd w b h) (hl : LensB b) (hw : W64B b) (hE : Env w) (hn1 : n.name.size ≤ 9223372036854775807) (hn2 : n.text.size ≤ 9223372036854775807) :
    Calls Tryz.prog 5 #[.agg (bcells b h), .agg #[.string n.name, .string n.text], .string name] w fun e w' => e = .returned (.bool true) ∧ New w w' := by
  have HF := Lib.hid (fun W (hn : New w W) => few_any b h W (hr.new hn) hl)
  have H19 := Lib.hid (fun (hs : FewS b) W (hn : New w W) => attach_any b h n W (hr.new hn) (hs.szb hw) (hE.new hn) hn1)
  have H20 := Lib.hid (fun (hs : FewS b) W (hn : New w W) => rattach_any b h n W (hr.new hn) (hs.szb hw))
  have H21 := Lib.hid (fun (hs : FewS b) W (hn : New w W) => strip_any b h W (hr.new hn) (hs.szb hw) (hE.new hn))
  have H22 := Lib.hid (fun (hs : FewS b) W (hn : New w W) => rstrip_any b h W (hr.new hn) (hs.szb hw))
  have H23 := Lib.hid (fun (hs : FewS b) W (hn : New w W) => note_any b h name W (hr.new hn) (by have := hs.l5; omega))
  have H24 := Lib.hid (fun (hs : FewS b) W (hn : New w W) => rnote_any b h name W (hr.new hn) (by have := hs.l5; omega))
  have HLA := Lib.hid (fun (hs : FewS b) => att_len b n hl hs)
  have HLS := Lib.hid (fun (hs : FewS b) => strip_len b hs)
  unfold AttP at H19 H20
  unfold StripP at H21 H22
  obtain ⟨⟨d, ce⟩, hd⟩ : ∃ x, attachV b n = x := ⟨_, rfl⟩
  obtain ⟨x, hx⟩ : ∃ y, stripB b = y := ⟨_, rfl⟩
  obtain ⟨cg, hcg⟩ : ∃ y, chkE b = y := ⟨_, rfl⟩
  obtain ⟨⟨ts, tv⟩, ht⟩ : ∃ y, noteV b.notes name = y := ⟨_, rfl⟩
  rw [hd] at H19 H20 HLA
  rw [hx, hcg] at H21 H22
  rw [hx] at HLS
  rw [ht] at H23 H24
  simp only at H19 H20 H21 H22 H23 H24 HLA HLS
  clear hd hx hcg ht
  have H18 := Lib.hid (fun (hs : FewS b) (g g2 : BH) W (r1 : BRd W d g) (r2 : BRd W d g2) => same_self d g g2 W r1 r2 (HLA.out hs).1 (HLA.out hs).2.1 (HLA.out hs).2.2.1 (HLA.out hs).2.2.2.1 (HLA.out hs).2.2.2.2)
  have H18' := Lib.hid (fun (hs : FewS b) (g g2 : BH) W (r1 : BRd W x g) (r2 : BRd W x g2) => same_self x g g2 W r1 r2 (HLS.out hs).1 (HLS.out hs).2.1 (HLS.out hs).2.2.1 (HLS.out hs).2.2.2.1 (HLS.out hs).2.2.2.2)
  have HE := Lib.hid hE
  have HR : Hid (∀ W e W', FewR b W e W' → (∃ v, e = .returned (.bool v) ∧ (v = true → FewS b)) ∧ New W W') := Lib.hid (fun W e W' q => q)
  clear HLA HLS
  obtain ⟨FS, hFS⟩ : ∃ x, FewS b = x := ⟨_, rfl⟩
  have HF2 := Lib.hid (fun W (hn : New w W) => (HF.out W hn).mono (fun e W' q => HR.out W e W' q))
  rw [hFS] at HF2 H18 H18' H19 H20 H21 H22 H23 H24
  have B0 := (Blk.made w 28 (bcells b h)).alloc (.cells #[.string n.name, .string n.text] 40)
  have Q0 := Blk.made (w.alloc (.cells (bcells b h) 28)) 40 #[.string n.name, .string n.text]
  rw [World.size_alloc] at Q0
  have n0 : New w ((w.alloc (.cells (bcells b h) 28)).alloc (.cells #[.string n.name, .string n.text] 40)) := ((New.refl w).alloc _).alloc _
  clear HF HR hFS hr hl hw hE
  obtain ⟨nm, tx⟩ := n
  simp only [bcells] at B0 Q0 n0 HF2 H19 H20 H21 H22 H23 H24 H18 H18' hn1 hn2 ⊢
  go_enter Tryz.func5, Tryz.ntmps5
  go_wp2_with (fail)
  with_reducible refine (awake_any _ (HE.out.new n0)).mono ?_
  rintro e w1 ⟨rfl, m1⟩
  have n1' := n0.trans m1
  have B1 := B0.new m1
  have Q1 := Q0.new m1
  have x0 := B1.cell' 0 _ rfl
  have x1 := B1.cell' 1 _ rfl
  have x2 := B1.cell' 2 _ rfl
  have x3 := B1.cell' 3 _ rfl
  have x4 := B1.cell' 4 _ rfl
  have x5 := B1.cell' 5 _ rfl
  have x6 := B1.cell' 6 _ rfl
  have x7 := B1.cell' 7 _ rfl
  have q0 := Q1.cell' 0 _ rfl
  have q1 := Q1.cell' 1 _ rfl
  go_wp2_with (fail)
  with_reducible refine (HF2.out _ n1').mono ?_
  rintro e w2 ⟨⟨v, rfl, hv⟩, m2⟩
  have n2' := n1'.trans m2
  have B2 := B1.new m2
  have Q2 := Q1.new m2
  cases v
  · go_wp2
    go_ret
    exact ⟨rfl, n2'⟩
  clear x0 x1 x2 x3 x4 x5 x6 x7
  clear q0 q1
  have q0 := Q2.cell' 0 _ rfl
  have q1 := Q2.cell' 1 _ rfl
  have HS := Lib.hid (hv rfl)
  clear hv
  by_cases g1 : 100 < nm.size
  · have t1 : decide ((100 : Int) < (nm.size : Int)) = true := decide_eq_true (by omega)
    clear g1
    go_wp2
    go_ret
    exact ⟨rfl, n2'⟩
  have t1 : decide ((100 : Int) < (nm.size : Int)) = false := decide_eq_false (by omega)
  clear g1
  by_cases g2 : 300 < tx.size ∧ tx.size < 65534
  · have t2 : decide ((300 : Int) < (tx.size : Int)) = true := decide_eq_true (by omega)
    have t3 : decide ((tx.size : Int) < 65534) = true := decide_eq_true (by omega)
    clear g2
    go_wp2
    go_ret
    exact ⟨rfl, n2'⟩
  have t23 : decide ((300 : Int) < (tx.size : Int)) = false ∨ (decide ((300 : Int) < (tx.size : Int)) = true ∧ decide ((tx.size : Int) < 65534) = false) := by
    by_cases k : 300 < tx.size
    · exact Or.inr ⟨decide_eq_true (by omega), decide_eq_false (by omega)⟩
    · exact Or.inl (decide_eq_false (by omega))
  clear g2
  by_cases g4 : 65538 < tx.size
  · have t4 : decide ((65538 : Int) < (tx.size : Int)) = true := decide_eq_true (by omega)
    clear g4
    rcases t23 with t2 | ⟨t2, t3⟩
    · skip
      go_wp2
      go_ret
      exact ⟨rfl, n2'⟩
    · skip
      go_wp2
      go_ret
      exact ⟨rfl, n2'⟩
  have t4 : decide ((65538 : Int) < (tx.size : Int)) = false := decide_eq_false (by omega)
  clear g4
  by_cases g5 : 100 < name.size
  · have t5 : decide ((100 : Int) < (name.size : Int)) = true := decide_eq_true (by omega)
    clear g5
    rcases t23 with t2 | ⟨t2, t3⟩
    · skip
      go_wp2
      go_ret
      exact ⟨rfl, n2'⟩
    · skip
      go_wp2
      go_ret
      exact ⟨rfl, n2'⟩
  have t5 : decide ((100 : Int) < (name.size : Int)) = false := decide_eq_false (by omega)
  clear g5
  have s1 : (ce == ce) = true := beq_self_eq_true _
  have s2 : (cg == cg) = true := beq_self_eq_true _
  rcases t23 with t2 | ⟨t2, t3⟩
  · skip
    have x0 := B2.cell' 0 _ rfl
    have x1 := B2.cell' 1 _ rfl
    have x2 := B2.cell' 2 _ rfl
    have x3 := B2.cell' 3 _ rfl
    have x4 := B2.cell' 4 _ rfl
    have x5 := B2.cell' 5 _ rfl
    have x6 := B2.cell' 6 _ rfl
    have x7 := B2.cell' 7 _ rfl
    go_wp2_with (fail)
    with_reducible refine (H19.out HS.out _ n2').mono ?_
    rintro e w3 ⟨⟨ha, rfl, r3⟩, m3⟩
    have a3 := (New.refl w3).alloc (.cells #[.int .i64 d.kind, .int .i64 d.entry, .string d.image, .slice ha.a1 d.places.length ha.c1, .slice ha.a2 d.fix.length ha.c2, .slice ha.a3 d.imps.length ha.c3, .slice ha.a4 d.exps.length ha.c4, .slice ha.a5 d.notes.length ha.c5] 28)
    have n3' := (n2'.trans m3).trans a3
    have B3 := (B2.new m3).new a3
    have Q3 := (Q2.new m3).new a3
    have Kha3 := Blk.made w3 28 #[.int .i64 d.kind, .int .i64 d.entry, .string d.image, .slice ha.a1 d.places.length ha.c1, .slice ha.a2 d.fix.length ha.c2, .slice ha.a3 d.imps.length ha.c3, .slice ha.a4 d.exps.length ha.c4, .slice ha.a5 d.notes.length ha.c5]
    have RKha3 := Lib.hid (r3.new a3)
    clear r3
    clear x0 x1 x2 x3 x4 x5 x6 x7
    clear q0 q1
    have x0 := B3.cell' 0 _ rfl
    have x1 := B3.cell' 1 _ rfl
    have x2 := B3.cell' 2 _ rfl
    have x3 := B3.cell' 3 _ rfl
    have x4 := B3.cell' 4 _ rfl
    have x5 := B3.cell' 5 _ rfl
    have x6 := B3.cell' 6 _ rfl
    have x7 := B3.cell' 7 _ rfl
    have q0 := Q3.cell' 0 _ rfl
    have q1 := Q3.cell' 1 _ rfl
    go_wp2_with (fail)
    with_reducible refine (H20.out HS.out _ n3').mono ?_
    rintro e w4 ⟨⟨hb, rfl, r4⟩, m4⟩
    have a4 := (New.refl w4).alloc (.cells #[.int .i64 d.kind, .int .i64 d.entry, .string d.image, .slice hb.a1 d.places.length hb.c1, .slice hb.a2 d.fix.length hb.c2, .slice hb.a3 d.imps.length hb.c3, .slice hb.a4 d.exps.length hb.c4, .slice hb.a5 d.notes.length hb.c5] 28)
    have n4' := (n3'.trans m4).trans a4
    have B4 := (B3.new m4).new a4
    have Q4 := (Q3.new m4).new a4
    have Kha4 := (Kha3.new m4).new a4
    have RKha4 := Lib.hid ((RKha3.out.new m4).new a4)
    have Khb4 := Blk.made w4 28 #[.int .i64 d.kind, .int .i64 d.entry, .string d.image, .slice hb.a1 d.places.length hb.c1, .slice hb.a2 d.fix.length hb.c2, .slice hb.a3 d.imps.length hb.c3, .slice hb.a4 d.exps.length hb.c4, .slice hb.a5 d.notes.length hb.c5]
    have RKhb4 := Lib.hid (r4.new a4)
    clear r4
    clear x0 x1 x2 x3 x4 x5 x6 x7
    clear q0 q1
    have x0 := B4.cell' 0 _ rfl
    have x1 := B4.cell' 1 _ rfl
    have x2 := B4.cell' 2 _ rfl
    have x3 := B4.cell' 3 _ rfl
    have x4 := B4.cell' 4 _ rfl
    have x5 := B4.cell' 5 _ rfl
    have x6 := B4.cell' 6 _ rfl
    have x7 := B4.cell' 7 _ rfl
    have q0 := Q4.cell' 0 _ rfl
    have q1 := Q4.cell' 1 _ rfl
    go_wp2_with (fail)
    with_reducible refine (H21.out HS.out _ n4').mono ?_
    rintro e w5 ⟨⟨hc, rfl, r5⟩, m5⟩
    have a5 := (New.refl w5).alloc (.cells #[.int .i64 x.kind, .int .i64 x.entry, .string x.image, .slice hc.a1 x.places.length hc.c1, .slice hc.a2 x.fix.length hc.c2, .slice hc.a3 x.imps.length hc.c3, .slice hc.a4 x.exps.length hc.c4, .slice hc.a5 x.notes.length hc.c5] 28)
    have n5' := (n4'.trans m5).trans a5
    have B5 := (B4.new m5).new a5
    have Q5 := (Q4.new m5).new a5
    have Kha5 := (Kha4.new m5).new a5
    have RKha5 := Lib.hid ((RKha4.out.new m5).new a5)
    have Khb5 := (Khb4.new m5).new a5
    have RKhb5 := Lib.hid ((RKhb4.out.new m5).new a5)
    have Khc5 := Blk.made w5 28 #[.int .i64 x.kind, .int .i64 x.entry, .string x.image, .slice hc.a1 x.places.length hc.c1, .slice hc.a2 x.fix.length hc.c2, .slice hc.a3 x.imps.length hc.c3, .slice hc.a4 x.exps.length hc.c4, .slice hc.a5 x.notes.length hc.c5]
    have RKhc5 := Lib.hid (r5.new a5)
    clear r5
    clear x0 x1 x2 x3 x4 x5 x6 x7
    clear q0 q1
    have x0 := B5.cell' 0 _ rfl
    have x1 := B5.cell' 1 _ rfl
    have x2 := B5.cell' 2 _ rfl
    have x3 := B5.cell' 3 _ rfl
    have x4 := B5.cell' 4 _ rfl
    have x5 := B5.cell' 5 _ rfl
    have x6 := B5.cell' 6 _ rfl
    have x7 := B5.cell' 7 _ rfl
    have q0 := Q5.cell' 0 _ rfl
    have q1 := Q5.cell' 1 _ rfl
    go_wp2_with (fail)
    with_reducible refine (H22.out HS.out _ n5').mono ?_
    rintro e w6 ⟨⟨hd, rfl, r6⟩, m6⟩
    have a6 := (New.refl w6).alloc (.cells #[.int .i64 x.kind, .int .i64 x.entry, .string x.image, .slice hd.a1 x.places.length hd.c1, .slice hd.a2 x.fix.length hd.c2, .slice hd.a3 x.imps.length hd.c3, .slice hd.a4 x.exps.length hd.c4, .slice hd.a5 x.notes.length hd.c5] 28)
    have n6' := (n5'.trans m6).trans a6
    have B6 := (B5.new m6).new a6
    have Q6 := (Q5.new m6).new a6
    have Kha6 := (Kha5.new m6).new a6
    have RKha6 := Lib.hid ((RKha5.out.new m6).new a6)
    have Khb6 := (Khb5.new m6).new a6
    have RKhb6 := Lib.hid ((RKhb5.out.new m6).new a6)
    have Khc6 := (Khc5.new m6).new a6
    have RKhc6 := Lib.hid ((RKhc5.out.new m6).new a6)
    have Khd6 := Blk.made w6 28 #[.int .i64 x.kind, .int .i64 x.entry, .string x.image, .slice hd.a1 x.places.length hd.c1, .slice hd.a2 x.fix.length hd.c2, .slice hd.a3 x.imps.length hd.c3, .slice hd.a4 x.exps.length hd.c4, .slice hd.a5 x.notes.length hd.c5]
    have RKhd6 := Lib.hid (r6.new a6)
    clear r6
    clear x0 x1 x2 x3 x4 x5 x6 x7
    clear q0 q1
    have x0 := B6.cell' 0 _ rfl
    have x1 := B6.cell' 1 _ rfl
    have x2 := B6.cell' 2 _ rfl
    have x3 := B6.cell' 3 _ rfl
    have x4 := B6.cell' 4 _ rfl
    have x5 := B6.cell' 5 _ rfl
    have x6 := B6.cell' 6 _ rfl
    have x7 := B6.cell' 7 _ rfl
    have q0 := Q6.cell' 0 _ rfl
    have q1 := Q6.cell' 1 _ rfl
    go_wp2_with (fail)
    with_reducible refine (H23.out HS.out _ n6').mono ?_
    rintro e w7 ⟨rfl, m7⟩
    have n7' := n6'.trans m7
    have B7 := B6.new m7
    have Q7 := Q6.new m7
    have Kha7 := Kha6.new m7
    have RKha7 := Lib.hid (RKha6.out.new m7)
    have Khb7 := Khb6.new m7
    have RKhb7 := Lib.hid (RKhb6.out.new m7)
    have Khc7 := Khc6.new m7
    have RKhc7 := Lib.hid (RKhc6.out.new m7)
    have Khd7 := Khd6.new m7
    have RKhd7 := Lib.hid (RKhd6.out.new m7)
    clear x0 x1 x2 x3 x4 x5 x6 x7
    clear q0 q1
    have x0 := B7.cell' 0 _ rfl
    have x1 := B7.cell' 1 _ rfl
    have x2 := B7.cell' 2 _ rfl
    have x3 := B7.cell' 3 _ rfl
    have x4 := B7.cell' 4 _ rfl
    have x5 := B7.cell' 5 _ rfl
    have x6 := B7.cell' 6 _ rfl
    have x7 := B7.cell' 7 _ rfl
    have q0 := Q7.cell' 0 _ rfl
    have q1 := Q7.cell' 1 _ rfl
    go_wp2_with (fail)
    with_reducible refine (H24.out HS.out _ n7').mono ?_
    rintro e w8 ⟨rfl, m8⟩
    have n8' := n7'.trans m8
    have B8 := B7.new m8
    have Q8 := Q7.new m8
    have Kha8 := Kha7.new m8
    have RKha8 := Lib.hid (RKha7.out.new m8)
    have Khb8 := Khb7.new m8
    have RKhb8 := Lib.hid (RKhb7.out.new m8)
    have Khc8 := Khc7.new m8
    have RKhc8 := Lib.hid (RKhc7.out.new m8)
    have Khd8 := Khd7.new m8
    have RKhd8 := Lib.hid (RKhd7.out.new m8)
    clear x0 x1 x2 x3 x4 x5 x6 x7
    clear q0 q1
    have x0 := B8.cell' 0 _ rfl
    have x1 := B8.cell' 1 _ rfl
    have x2 := B8.cell' 2 _ rfl
    have x3 := B8.cell' 3 _ rfl
    have x4 := B8.cell' 4 _ rfl
    have x5 := B8.cell' 5 _ rfl
    have x6 := B8.cell' 6 _ rfl
    have x7 := B8.cell' 7 _ rfl
    have q0 := Q8.cell' 0 _ rfl
    have q1 := Q8.cell' 1 _ rfl
    clear x0 x1 x2 x3 x4 x5 x6 x7
    clear q0 q1
    have k0 := Kha8.cell' 0 _ rfl
    have k1 := Kha8.cell' 1 _ rfl
    have k2 := Kha8.cell' 2 _ rfl
    have k3 := Kha8.cell' 3 _ rfl
    have k4 := Kha8.cell' 4 _ rfl
    have k5 := Kha8.cell' 5 _ rfl
    have k6 := Kha8.cell' 6 _ rfl
    have k7 := Kha8.cell' 7 _ rfl
    have l0 := Khb8.cell' 0 _ rfl
    have l1 := Khb8.cell' 1 _ rfl
    have l2 := Khb8.cell' 2 _ rfl
    have l3 := Khb8.cell' 3 _ rfl
    have l4 := Khb8.cell' 4 _ rfl
    have l5 := Khb8.cell' 5 _ rfl
    have l6 := Khb8.cell' 6 _ rfl
    have l7 := Khb8.cell' 7 _ rfl
    go_wp2_with (fail)
    with_reducible refine (H18.out HS.out _ _ _ RKha8.out RKhb8.out).mono ?_
    rintro e w9 ⟨rfl, m9⟩
    have n9' := n8'.trans m9
    have P9 := Khc8.new m9
    have S9 := Khd8.new m9
    have RP9 := Lib.hid (RKhc8.out.new m9)
    have RS9 := Lib.hid (RKhd8.out.new m9)
    clear k0 k1 k2 k3 k4 k5 k6 k7
    clear l0 l1 l2 l3 l4 l5 l6 l7
    have k0 := P9.cell' 0 _ rfl
    have k1 := P9.cell' 1 _ rfl
    have k2 := P9.cell' 2 _ rfl
    have k3 := P9.cell' 3 _ rfl
    have k4 := P9.cell' 4 _ rfl
    have k5 := P9.cell' 5 _ rfl
    have k6 := P9.cell' 6 _ rfl
    have k7 := P9.cell' 7 _ rfl
    have l0 := S9.cell' 0 _ rfl
    have l1 := S9.cell' 1 _ rfl
    have l2 := S9.cell' 2 _ rfl
    have l3 := S9.cell' 3 _ rfl
    have l4 := S9.cell' 4 _ rfl
    have l5 := S9.cell' 5 _ rfl
    have l6 := S9.cell' 6 _ rfl
    have l7 := S9.cell' 7 _ rfl
    go_wp2_with (fail)
    with_reducible refine (H18'.out HS.out _ _ _ RP9.out RS9.out).mono ?_
    rintro e w10 ⟨rfl, m10⟩
    have n10' := n9'.trans m10
    go_wp2
    go_ret
    exact ⟨rfl, n10'⟩
  · skip
    have x0 := B2.cell' 0 _ rfl
    have x1 := B2.cell' 1 _ rfl
    have x2 := B2.cell' 2 _ rfl
    have x3 := B2.cell' 3 _ rfl
    have x4 := B2.cell' 4 _ rfl
    have x5 := B2.cell' 5 _ rfl
    have x6 := B2.cell' 6 _ rfl
    have x7 := B2.cell' 7 _ rfl
    go_wp2_with (fail)
    with_reducible refine (H19.out HS.out _ n2').mono ?_
    rintro e w3 ⟨⟨ha, rfl, r3⟩, m3⟩
    have a3 := (New.refl w3).alloc (.cells #[.int .i64 d.kind, .int .i64 d.entry, .string d.image, .slice ha.a1 d.places.length ha.c1, .slice ha.a2 d.fix.length ha.c2, .slice ha.a3 d.imps.length ha.c3, .slice ha.a4 d.exps.length ha.c4, .slice ha.a5 d.notes.length ha.c5] 28)
    have n3' := (n2'.trans m3).trans a3
    have B3 := (B2.new m3).new a3
    have Q3 := (Q2.new m3).new a3
    have Kha3 := Blk.made w3 28 #[.int .i64 d.kind, .int .i64 d.entry, .string d.image, .slice ha.a1 d.places.length ha.c1, .slice ha.a2 d.fix.length ha.c2, .slice ha.a3 d.imps.length ha.c3, .slice ha.a4 d.exps.length ha.c4, .slice ha.a5 d.notes.length ha.c5]
    have RKha3 := Lib.hid (r3.new a3)
    clear r3
    clear x0 x1 x2 x3 x4 x5 x6 x7
    clear q0 q1
    have x0 := B3.cell' 0 _ rfl
    have x1 := B3.cell' 1 _ rfl
    have x2 := B3.cell' 2 _ rfl
    have x3 := B3.cell' 3 _ rfl
    have x4 := B3.cell' 4 _ rfl
    have x5 := B3.cell' 5 _ rfl
    have x6 := B3.cell' 6 _ rfl
    have x7 := B3.cell' 7 _ rfl
    have q0 := Q3.cell' 0 _ rfl
    have q1 := Q3.cell' 1 _ rfl
    go_wp2_with (fail)
    with_reducible refine (H20.out HS.out _ n3').mono ?_
    rintro e w4 ⟨⟨hb, rfl, r4⟩, m4⟩
    have a4 := (New.refl w4).alloc (.cells #[.int .i64 d.kind, .int .i64 d.entry, .string d.image, .slice hb.a1 d.places.length hb.c1, .slice hb.a2 d.fix.length hb.c2, .slice hb.a3 d.imps.length hb.c3, .slice hb.a4 d.exps.length hb.c4, .slice hb.a5 d.notes.length hb.c5] 28)
    have n4' := (n3'.trans m4).trans a4
    have B4 := (B3.new m4).new a4
    have Q4 := (Q3.new m4).new a4
    have Kha4 := (Kha3.new m4).new a4
    have RKha4 := Lib.hid ((RKha3.out.new m4).new a4)
    have Khb4 := Blk.made w4 28 #[.int .i64 d.kind, .int .i64 d.entry, .string d.image, .slice hb.a1 d.places.length hb.c1, .slice hb.a2 d.fix.length hb.c2, .slice hb.a3 d.imps.length hb.c3, .slice hb.a4 d.exps.length hb.c4, .slice hb.a5 d.notes.length hb.c5]
    have RKhb4 := Lib.hid (r4.new a4)
    clear r4
    clear x0 x1 x2 x3 x4 x5 x6 x7
    clear q0 q1
    have x0 := B4.cell' 0 _ rfl
    have x1 := B4.cell' 1 _ rfl
    have x2 := B4.cell' 2 _ rfl
    have x3 := B4.cell' 3 _ rfl
    have x4 := B4.cell' 4 _ rfl
    have x5 := B4.cell' 5 _ rfl
    have x6 := B4.cell' 6 _ rfl
    have x7 := B4.cell' 7 _ rfl
    have q0 := Q4.cell' 0 _ rfl
    have q1 := Q4.cell' 1 _ rfl
    go_wp2_with (fail)
    with_reducible refine (H21.out HS.out _ n4').mono ?_
    rintro e w5 ⟨⟨hc, rfl, r5⟩, m5⟩
    have a5 := (New.refl w5).alloc (.cells #[.int .i64 x.kind, .int .i64 x.entry, .string x.image, .slice hc.a1 x.places.length hc.c1, .slice hc.a2 x.fix.length hc.c2, .slice hc.a3 x.imps.length hc.c3, .slice hc.a4 x.exps.length hc.c4, .slice hc.a5 x.notes.length hc.c5] 28)
    have n5' := (n4'.trans m5).trans a5
    have B5 := (B4.new m5).new a5
    have Q5 := (Q4.new m5).new a5
    have Kha5 := (Kha4.new m5).new a5
    have RKha5 := Lib.hid ((RKha4.out.new m5).new a5)
    have Khb5 := (Khb4.new m5).new a5
    have RKhb5 := Lib.hid ((RKhb4.out.new m5).new a5)
    have Khc5 := Blk.made w5 28 #[.int .i64 x.kind, .int .i64 x.entry, .string x.image, .slice hc.a1 x.places.length hc.c1, .slice hc.a2 x.fix.length hc.c2, .slice hc.a3 x.imps.length hc.c3, .slice hc.a4 x.exps.length hc.c4, .slice hc.a5 x.notes.length hc.c5]
    have RKhc5 := Lib.hid (r5.new a5)
    clear r5
    clear x0 x1 x2 x3 x4 x5 x6 x7
    clear q0 q1
    have x0 := B5.cell' 0 _ rfl
    have x1 := B5.cell' 1 _ rfl
    have x2 := B5.cell' 2 _ rfl
    have x3 := B5.cell' 3 _ rfl
    have x4 := B5.cell' 4 _ rfl
    have x5 := B5.cell' 5 _ rfl
    have x6 := B5.cell' 6 _ rfl
    have x7 := B5.cell' 7 _ rfl
    have q0 := Q5.cell' 0 _ rfl
    have q1 := Q5.cell' 1 _ rfl
    go_wp2_with (fail)
    with_reducible refine (H22.out HS.out _ n5').mono ?_
    rintro e w6 ⟨⟨hd, rfl, r6⟩, m6⟩
    have a6 := (New.refl w6).alloc (.cells #[.int .i64 x.kind, .int .i64 x.entry, .string x.image, .slice hd.a1 x.places.length hd.c1, .slice hd.a2 x.fix.length hd.c2, .slice hd.a3 x.imps.length hd.c3, .slice hd.a4 x.exps.length hd.c4, .slice hd.a5 x.notes.length hd.c5] 28)
    have n6' := (n5'.trans m6).trans a6
    have B6 := (B5.new m6).new a6
    have Q6 := (Q5.new m6).new a6
    have Kha6 := (Kha5.new m6).new a6
    have RKha6 := Lib.hid ((RKha5.out.new m6).new a6)
    have Khb6 := (Khb5.new m6).new a6
    have RKhb6 := Lib.hid ((RKhb5.out.new m6).new a6)
    have Khc6 := (Khc5.new m6).new a6
    have RKhc6 := Lib.hid ((RKhc5.out.new m6).new a6)
    have Khd6 := Blk.made w6 28 #[.int .i64 x.kind, .int .i64 x.entry, .string x.image, .slice hd.a1 x.places.length hd.c1, .slice hd.a2 x.fix.length hd.c2, .slice hd.a3 x.imps.length hd.c3, .slice hd.a4 x.exps.length hd.c4, .slice hd.a5 x.notes.length hd.c5]
    have RKhd6 := Lib.hid (r6.new a6)
    clear r6
    clear x0 x1 x2 x3 x4 x5 x6 x7
    clear q0 q1
    have x0 := B6.cell' 0 _ rfl
    have x1 := B6.cell' 1 _ rfl
    have x2 := B6.cell' 2 _ rfl
    have x3 := B6.cell' 3 _ rfl
    have x4 := B6.cell' 4 _ rfl
    have x5 := B6.cell' 5 _ rfl
    have x6 := B6.cell' 6 _ rfl
    have x7 := B6.cell' 7 _ rfl
    have q0 := Q6.cell' 0 _ rfl
    have q1 := Q6.cell' 1 _ rfl
    go_wp2_with (fail)
    with_reducible refine (H23.out HS.out _ n6').mono ?_
    rintro e w7 ⟨rfl, m7⟩
    have n7' := n6'.trans m7
    have B7 := B6.new m7
    have Q7 := Q6.new m7
    have Kha7 := Kha6.new m7
    have RKha7 := Lib.hid (RKha6.out.new m7)
    have Khb7 := Khb6.new m7
    have RKhb7 := Lib.hid (RKhb6.out.new m7)
    have Khc7 := Khc6.new m7
    have RKhc7 := Lib.hid (RKhc6.out.new m7)
    have Khd7 := Khd6.new m7
    have RKhd7 := Lib.hid (RKhd6.out.new m7)
    clear x0 x1 x2 x3 x4 x5 x6 x7
    clear q0 q1
    have x0 := B7.cell' 0 _ rfl
    have x1 := B7.cell' 1 _ rfl
    have x2 := B7.cell' 2 _ rfl
    have x3 := B7.cell' 3 _ rfl
    have x4 := B7.cell' 4 _ rfl
    have x5 := B7.cell' 5 _ rfl
    have x6 := B7.cell' 6 _ rfl
    have x7 := B7.cell' 7 _ rfl
    have q0 := Q7.cell' 0 _ rfl
    have q1 := Q7.cell' 1 _ rfl
    go_wp2_with (fail)
    with_reducible refine (H24.out HS.out _ n7').mono ?_
    rintro e w8 ⟨rfl, m8⟩
    have n8' := n7'.trans m8
    have B8 := B7.new m8
    have Q8 := Q7.new m8
    have Kha8 := Kha7.new m8
    have RKha8 := Lib.hid (RKha7.out.new m8)
    have Khb8 := Khb7.new m8
    have RKhb8 := Lib.hid (RKhb7.out.new m8)
    have Khc8 := Khc7.new m8
    have RKhc8 := Lib.hid (RKhc7.out.new m8)
    have Khd8 := Khd7.new m8
    have RKhd8 := Lib.hid (RKhd7.out.new m8)
    clear x0 x1 x2 x3 x4 x5 x6 x7
    clear q0 q1
    have x0 := B8.cell' 0 _ rfl
    have x1 := B8.cell' 1 _ rfl
    have x2 := B8.cell' 2 _ rfl
    have x3 := B8.cell' 3 _ rfl
    have x4 := B8.cell' 4 _ rfl
    have x5 := B8.cell' 5 _ rfl
    have x6 := B8.cell' 6 _ rfl
    have x7 := B8.cell' 7 _ rfl
    have q0 := Q8.cell' 0 _ rfl
    have q1 := Q8.cell' 1 _ rfl
    clear x0 x1 x2 x3 x4 x5 x6 x7
    clear q0 q1
    have k0 := Kha8.cell' 0 _ rfl
    have k1 := Kha8.cell' 1 _ rfl
    have k2 := Kha8.cell' 2 _ rfl
    have k3 := Kha8.cell' 3 _ rfl
    have k4 := Kha8.cell' 4 _ rfl
    have k5 := Kha8.cell' 5 _ rfl
    have k6 := Kha8.cell' 6 _ rfl
    have k7 := Kha8.cell' 7 _ rfl
    have l0 := Khb8.cell' 0 _ rfl
    have l1 := Khb8.cell' 1 _ rfl
    have l2 := Khb8.cell' 2 _ rfl
    have l3 := Khb8.cell' 3 _ rfl
    have l4 := Khb8.cell' 4 _ rfl
    have l5 := Khb8.cell' 5 _ rfl
    have l6 := Khb8.cell' 6 _ rfl
    have l7 := Khb8.cell' 7 _ rfl
    go_wp2_with (fail)
    with_reducible refine (H18.out HS.out _ _ _ RKha8.out RKhb8.out).mono ?_
    rintro e w9 ⟨rfl, m9⟩
    have n9' := n8'.trans m9
    have P9 := Khc8.new m9
    have S9 := Khd8.new m9
    have RP9 := Lib.hid (RKhc8.out.new m9)
    have RS9 := Lib.hid (RKhd8.out.new m9)
    clear k0 k1 k2 k3 k4 k5 k6 k7
    clear l0 l1 l2 l3 l4 l5 l6 l7
    have k0 := P9.cell' 0 _ rfl
    have k1 := P9.cell' 1 _ rfl
    have k2 := P9.cell' 2 _ rfl
    have k3 := P9.cell' 3 _ rfl
    have k4 := P9.cell' 4 _ rfl
    have k5 := P9.cell' 5 _ rfl
    have k6 := P9.cell' 6 _ rfl
    have k7 := P9.cell' 7 _ rfl
    have l0 := S9.cell' 0 _ rfl
    have l1 := S9.cell' 1 _ rfl
    have l2 := S9.cell' 2 _ rfl
    have l3 := S9.cell' 3 _ rfl
    have l4 := S9.cell' 4 _ rfl
    have l5 := S9.cell' 5 _ rfl
    have l6 := S9.cell' 6 _ rfl
    have l7 := S9.cell' 7 _ rfl
    go_wp2_with (fail)
    with_reducible refine (H18'.out HS.out _ _ _ RP9.out RS9.out).mono ?_
    rintro e w10 ⟨rfl, m10⟩
    have n10' := n9'.trans m10
    go_wp2
    go_ret
    exact ⟨rfl, n10'⟩
end Go.Proofs.YtnknmpcgbfmfjaaGreatDoor

