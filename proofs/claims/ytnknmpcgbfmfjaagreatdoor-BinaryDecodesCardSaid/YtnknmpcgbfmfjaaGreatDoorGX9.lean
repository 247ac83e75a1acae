/- The law BinaryDecodes: it answers true. Conditions: none but the world's. -/
import Derived.Test.YtnknmpcgbfmfjaaGreatDoorGW
import Derived.Test.YtnknmpcgbfmfjaaGreatDoorGS1
import Derived.Test.YtnknmpcgbfmfjaaGreatDoorGY7

namespace Go.Proofs.YtnknmpcgbfmfjaaGreatDoor
open Go Go.RowKit Go.Joins
set_option linter.unusedSimpArgs false
set_option linter.unusedVariables false

theorem dec_len (l : List UInt8) : (decBn l).places.length ≤ 1000000 ∧ (decBn l).fix.length ≤ 1000000 ∧ (decBn l).imps.length ≤ 1000000 ∧ (decBn l).exps.length ≤ 1000000 ∧ (decBn l).notes.length ≤ 1000000 := by
  unfold decBn
  cases hd : decV l with
  | none => simp [zB]
  | some c =>
    unfold decV decB at hd
    simp only at hd
    split at hd
    · injection hd with hd
      have h1 := szb_of (hk := 65536) (he := 65536) (txtS 65536 (some l)).2 (b := (allS 65536 65536 (txtS 65536 (some l)).2).1) (s' := (allS 65536 65536 (txtS 65536 (some l)).2).2) rfl (Nat.le_refl _)
      rw [hd] at h1
      exact ⟨h1.l1, h1.l2, h1.l3, h1.l4, h1.l5⟩
    · cases hd
set_option maxRecDepth 100000 in
set_option maxHeartbeats 8000000 in
theorem law_decodes (data : ByteArray) (w : World) (hE : Env w) (hs : data.size ≤ 9223372036854775807) :
    Calls Tryz.prog 4 #[.string data] w fun e w' => e = .returned (.bool true) ∧ New w w' := by
  have H16 := Lib.hid (fun W (hn : New w W) => decode_any data W (hE.new hn) hs)
  have H17 := Lib.hid (fun W => rdecode_any data W hs)
  have HL := Lib.hid (dec_len data.data.toList)
  unfold DecP at H16 H17
  obtain ⟨d, hd⟩ : ∃ x, decBn data.data.toList = x := ⟨_, rfl⟩
  obtain ⟨ce, hce⟩ : ∃ x, decE data.data.toList = x := ⟨_, rfl⟩
  rw [hd, hce] at H16 H17
  rw [hd] at HL
  have H18 := Lib.hid (fun (g g2 : BH) W (r1 : BRd W d g) (r2 : BRd W d g2) => same_self d g g2 W r1 r2 HL.out.1 HL.out.2.1 HL.out.2.2.1 HL.out.2.2.2.1 HL.out.2.2.2.2)
  have HE := Lib.hid hE
  clear hd hce HL hE hs
  simp only [bcells] at H16 H17 H18
  have s1 : (ce == ce) = true := beq_self_eq_true _
  by_cases hbig : 6000 < data.size
  · have t0 : decide ((6000 : Int) < (data.size : Int)) = true := decide_eq_true (by omega)
    clear hbig
    go_enter Tryz.func4, Tryz.ntmps4
    go_wp2_with (fail)
    with_reducible refine (awake_any _ HE.out).mono ?_
    rintro e w1 ⟨rfl, m1⟩
    go_wp2
    go_ret
    exact ⟨rfl, m1⟩
  have t0 : decide ((6000 : Int) < (data.size : Int)) = false := decide_eq_false (by omega)
  clear hbig
  go_enter Tryz.func4, Tryz.ntmps4
  go_wp2_with (fail)
  with_reducible refine (awake_any _ HE.out).mono ?_
  rintro e w1 ⟨rfl, m1⟩
  go_wp2_with (fail)
  with_reducible refine (H16.out _ m1).mono ?_
  rintro e w2 ⟨⟨ha, rfl, r2⟩, m2⟩
  have a2 := (New.refl w2).alloc (.cells #[.int .i64 d.kind, .int .i64 d.entry, .string d.image, .slice ha.a1 d.places.length ha.c1, .slice ha.a2 d.fix.length ha.c2, .slice ha.a3 d.imps.length ha.c3, .slice ha.a4 d.exps.length ha.c4, .slice ha.a5 d.notes.length ha.c5] 28)
  have n2 := (m1.trans m2).trans a2
  have R2 := Lib.hid (r2.new a2)
  have K2 := Blk.made w2 28 #[.int .i64 d.kind, .int .i64 d.entry, .string d.image, .slice ha.a1 d.places.length ha.c1, .slice ha.a2 d.fix.length ha.c2, .slice ha.a3 d.imps.length ha.c3, .slice ha.a4 d.exps.length ha.c4, .slice ha.a5 d.notes.length ha.c5]
  clear r2
  go_wp2_with (fail)
  with_reducible refine (H17.out _).mono ?_
  rintro e w3 ⟨⟨hb, rfl, r3⟩, m3⟩
  have a3 := (New.refl w3).alloc (.cells #[.int .i64 d.kind, .int .i64 d.entry, .string d.image, .slice hb.a1 d.places.length hb.c1, .slice hb.a2 d.fix.length hb.c2, .slice hb.a3 d.imps.length hb.c3, .slice hb.a4 d.exps.length hb.c4, .slice hb.a5 d.notes.length hb.c5] 28)
  have n3 := (n2.trans m3).trans a3
  have R3 := Lib.hid (r3.new a3)
  have R2' := Lib.hid ((R2.out.new m3).new a3)
  have K3 := Blk.made w3 28 #[.int .i64 d.kind, .int .i64 d.entry, .string d.image, .slice hb.a1 d.places.length hb.c1, .slice hb.a2 d.fix.length hb.c2, .slice hb.a3 d.imps.length hb.c3, .slice hb.a4 d.exps.length hb.c4, .slice hb.a5 d.notes.length hb.c5]
  have K2' := (K2.new m3).new a3
  clear r3 K2
  have k0 := K2'.cell' 0 _ rfl
  have k1 := K2'.cell' 1 _ rfl
  have k2 := K2'.cell' 2 _ rfl
  have k3 := K2'.cell' 3 _ rfl
  have k4 := K2'.cell' 4 _ rfl
  have k5 := K2'.cell' 5 _ rfl
  have k6 := K2'.cell' 6 _ rfl
  have k7 := K2'.cell' 7 _ rfl
  have l0 := K3.cell' 0 _ rfl
  have l1 := K3.cell' 1 _ rfl
  have l2 := K3.cell' 2 _ rfl
  have l3 := K3.cell' 3 _ rfl
  have l4 := K3.cell' 4 _ rfl
  have l5 := K3.cell' 5 _ rfl
  have l6 := K3.cell' 6 _ rfl
  have l7 := K3.cell' 7 _ rfl
  go_wp2_with (fail)
  with_reducible refine (H18.out _ _ _ R2'.out R3.out).mono ?_
  rintro e w4 ⟨rfl, m4⟩
  have n4 := n3.trans m4
  go_wp2
  go_ret
  exact ⟨rfl, n4⟩
end Go.Proofs.YtnknmpcgbfmfjaaGreatDoor

