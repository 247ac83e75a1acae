/- The law EmulateLonger: it answers true. Conditions: none but the world's. -/
import Derived.Test.YtnjampfhkojbnaaGreatDoorGU13
import Derived.Test.YtnjampfhkojbnaaGreatDoorGLaw

namespace Go.Proofs.YtnjampfhkojbnaaGreatDoor
open Go Go.RowKit Go.Shelf
set_option linter.unusedSimpArgs false
set_option linter.unusedVariables false

theorem few_lib {x : LbD} (h : FewL x) (hw : W64B x.bin) : SzB x.bin ∧ x.path.size ≤ 1000000 := ⟨h.2.szb hw, by have := h.1; omega⟩
theorem frun_few {b : Bn} {h : BH} {A : Option Addr} {n c : Nat} {l : List LbD} {cs : List CaD} {w : World} (hf : FewAll b l cs) (hr : BRd w b h) (hw : W64B b) (hl : LsRd w A n l) (hlb : ∀ x ∈ l, LensB x.bin ∧ W64B x.bin) (hE : Env w) (inp : ByteArray) (L : Int) (W : World) (hn : New w W) :
    Calls Tryz.prog 12 #[.agg (bcells b h), .slice A n c, .string inp, .int .i64 L] W fun e w' => e = .returned (.tuple #[.agg #[.int .u32 ((runP b l inp.data.toList L).value : Int), .string (S (runP b l inp.data.toList L).out), .int .i64 ((runP b l inp.data.toList L).steps : Int)], .int .i64 (runP b l inp.data.toList L).e]) ∧ New W w' := by
  have q := frun_any b h A n c l inp.data.toList L W (hr.new hn) (hf.1.szb hw) (hl.new hn) (fun x hx => few_lib (hf.2.1.2 x hx) (hlb x hx).2) (hE.new hn)
  rw [S_data] at q
  exact q
theorem few_one {b : Bn} {h : BH} {A : Option Addr} {n c : Nat} {l : List LbD} {w : World} (x : CaD) (hr : BRd w b h) (hb : LensB b) (hl : LsRd w A n l) (hn : n ≤ 9223372036854775807) (hlb : ∀ x ∈ l, LensB x.bin ∧ W64B x.bin) (W : World) (hnw : New w W) (B : Nat) (hB : Blk W B 32 (caC x).toArray) :
    Calls Tryz.prog 11 #[.agg (bcells b h), .slice A n c, .slice (some ⟨B, 0, none⟩) 1 1] W (FewAR b l [x] W) := by
  refine fewall_any b h A n c l (some ⟨B, 0, none⟩) 1 1 [x] W (hr.new hnw) hb (hl.new hnw) (fun y hy => (hlb y hy).1) hn rfl ?_ (by decide)
  refine ⟨rfl, fun _ => ⟨_, 0, rfl, hB.lt, fun j v hv => ?_⟩⟩
  rw [Nat.zero_add]
  exact hB.cell' j v (by rw [← Array.getElem?_toList]; simpa using hv)
set_option maxRecDepth 100000 in
set_option maxHeartbeats 16000000 in
theorem law_longer (b : Bn) (h : BH) (A : Option Addr) (n c : Nat) (l : List LbD) (x : CaD) (w : World) (hr : BRd w b h) (hb : LensB b) (hw : W64B b) (hl : LsRd w A n l) (hn : n ≤ 9223372036854775807) (hlb : ∀ x ∈ l, LensB x.bin ∧ W64B x.bin) (hE : Env w) :
    Calls Tryz.prog 7 #[.agg (bcells b h), .slice A n c, .agg #[.int .i64 x.place, .int .i64 x.off, .string x.inp, .int .i64 x.lim, .slice x.at' x.n x.cap]] w fun e w' => e = .returned (.bool true) ∧ New w w' := by
  have HF := Lib.hid (fun W (hnw : New w W) B (hB : Blk W B 32 (caC x).toArray) => few_one (c := c) x hr hb hl hn hlb W hnw B hB)
  have HR := Lib.hid (fun (hf : FewAll b l [x]) (L : Int) W (hnw : New w W) => frun_few (c := c) hf hr hw hl hlb hE x.inp L W hnw)
  have HZ := Lib.hid (fun h9 => runP_zero (p := b) (l := l) (inp := x.inp.data.toList) (L := x.lim) h9)
  have HL := Lib.hid (fun h9 => runP_longer (p := b) (l := l) (inp := x.inp.data.toList) (L := x.lim) h9)
  have HLE := Lib.hid (fun h9 => rs_e_le (p := b) (l := l) (inp := x.inp.data.toList) (L := x.lim) h9)
  have HE := Lib.hid hE
  unfold FewAR at HF
  obtain ⟨RP, hRP⟩ : ∃ f : Int → Rs, ∀ L, runP b l x.inp.data.toList L = f L := ⟨_, fun _ => rfl⟩
  simp only [hRP] at HR HZ HL HLE
  clear hRP
  generalize FewAll b l [x] = FS at *
  clear hr hb hw hl hn hlb hE
  obtain ⟨pp, po, pi, pl, pa, pn, pc⟩ := x
  simp only [caC] at *
  have HR0 := Lib.hid (fun (hf : FS) W (hnw : New w W) => HR.out hf pl W hnw)
  obtain ⟨R0, hR0⟩ : ∃ r, RP pl = r := ⟨_, rfl⟩
  rw [hR0] at HZ HL HLE HR0
  clear hR0
  obtain ⟨kind, entry, image, places, fix, imps, exps, notes⟩ := b
  obtain ⟨a1, c1, a2, c2, a3, c3, a4, c4, a5, c5⟩ := h
  simp only [bcells] at *
  generalize places.length = n1 at *
  generalize fix.length = n2 at *
  generalize imps.length = n3 at *
  generalize exps.length = n4 at *
  generalize notes.length = n5 at *
  have B0 := (Blk.made w 28 #[.int .i64 kind, .int .i64 entry, .string image, .slice a1 n1 c1, .slice a2 n2 c2, .slice a3 n3 c3, .slice a4 n4 c4, .slice a5 n5 c5]).alloc (.cells #[.int .i64 pp, .int .i64 po, .string pi, .int .i64 pl, .slice pa pn pc] 32)
  have B1 : Blk ((w.alloc (.cells #[.int .i64 kind, .int .i64 entry, .string image, .slice a1 n1 c1, .slice a2 n2 c2, .slice a3 n3 c3, .slice a4 n4 c4, .slice a5 n5 c5] 28)).alloc (.cells #[.int .i64 pp, .int .i64 po, .string pi, .int .i64 pl, .slice pa pn pc] 32)) (w.heap.size + 1) 32 #[.int .i64 pp, .int .i64 po, .string pi, .int .i64 pl, .slice pa pn pc] := by
    have q := Blk.made (w.alloc (.cells #[.int .i64 kind, .int .i64 entry, .string image, .slice a1 n1 c1, .slice a2 n2 c2, .slice a3 n3 c3, .slice a4 n4 c4, .slice a5 n5 c5] 28)) 32 #[.int .i64 pp, .int .i64 po, .string pi, .int .i64 pl, .slice pa pn pc]
    rwa [show (w.alloc (.cells #[.int .i64 kind, .int .i64 entry, .string image, .slice a1 n1 c1, .slice a2 n2 c2, .slice a3 n3 c3, .slice a4 n4 c4, .slice a5 n5 c5] 28)).heap.size = w.heap.size + 1 from Array.size_push ..] at q
  have m0 : New w ((w.alloc (.cells #[.int .i64 kind, .int .i64 entry, .string image, .slice a1 n1 c1, .slice a2 n2 c2, .slice a3 n3 c3, .slice a4 n4 c4, .slice a5 n5 c5] 28)).alloc (.cells #[.int .i64 pp, .int .i64 po, .string pi, .int .i64 pl, .slice pa pn pc] 32)) := ((New.refl w).alloc _).alloc _
  have hs0 : S [] = (⟨#[]⟩ : ByteArray) := rfl
  by_cases he : R0.e = 0
  · obtain ⟨g1, g2, g3, g4, g5⟩ := HL.out he
    have HR1 := Lib.hid (fun (hf : FS) W (hnw : New w W) => HR.out hf 65536 W hnw)
    have HR2 := Lib.hid (fun (hf : FS) W (hnw : New w W) => HR.out hf R0.steps W hnw)
    have HR3 := Lib.hid (fun (hf : FS) W (hnw : New w W) => HR.out hf (R0.steps - 1 : Int) W hnw)
    have HS5 := Lib.hid g5
    rw [g3] at HR1
    rw [g4] at HR2
    have t1 : decide ((R0.steps : Int) < 1) = false := decide_eq_false (by omega)
    have t2 : decide (pl < (R0.steps : Int)) = false := decide_eq_false (by omega)
    have HST := Lib.hid g1
    have HW1 : Hid (IntKind.i64.wrap ((R0.steps : Int) - 1) = (R0.steps : Int) - 1) := Lib.hid (IntWalk.i64_in _ (by have := HST.out; have := HLE.out he; omega))
    obtain ⟨R3, hR3⟩ : ∃ r, RP ((R0.steps : Int) - 1) = r := ⟨_, rfl⟩
    rw [hR3] at HR3 HS5
    rw [he] at HR0 HR1 HR2
    generalize R0.value = V at *
    generalize S R0.out = O at *
    generalize R0.steps = k at *
    clear g1 g2 g3 g4 g5 HL HZ HR HLE hR3 he
    go_enter Tryz.func7, Tryz.ntmps7
    go_upto_region 1 with (fail)
    generalize (w.alloc (.cells #[.int .i64 kind, .int .i64 entry, .string image, .slice a1 n1 c1, .slice a2 n2 c2, .slice a3 n3 c3, .slice a4 n4 c4, .slice a5 n5 c5] 28)).alloc (.cells #[.int .i64 pp, .int .i64 po, .string pi, .int .i64 pl, .slice pa pn pc] 32) = w0 at *
    generalize w.heap.size = b0 at B0 B1 ⊢
    generalize b0 + 1 = b1 at *
    go_wp2_with (fail)
    with_reducible refine (awake_any _ (HE.out.new m0)).mono ?_
    rintro e w1 ⟨rfl, m1⟩
    have n1' := m0.trans m1
    have K0 := B0.new m1
    have K1 := B1.new m1
    have x0 := K0.cell' 0 _ rfl
    have x1 := K0.cell' 1 _ rfl
    have x2 := K0.cell' 2 _ rfl
    have x3 := K0.cell' 3 _ rfl
    have x4 := K0.cell' 4 _ rfl
    have x5 := K0.cell' 5 _ rfl
    have x6 := K0.cell' 6 _ rfl
    have x7 := K0.cell' 7 _ rfl
    have y0 := K1.cell' 0 _ rfl
    have y1 := K1.cell' 1 _ rfl
    have y2 := K1.cell' 2 _ rfl
    have y3 := K1.cell' 3 _ rfl
    have y4 := K1.cell' 4 _ rfl
    go_wp2_with (fail)
    with_reducible refine (HF.out _ (n1'.alloc _) _ (Blk.made w1 32 #[.int .i64 pp, .int .i64 po, .string pi, .int .i64 pl, .slice pa pn pc])).mono ?_
    rintro e w2 ⟨⟨v, rfl, hv⟩, m2⟩
    have n2' := (n1'.alloc (.cells #[.int .i64 pp, .int .i64 po, .string pi, .int .i64 pl, .slice pa pn pc] 32)).trans m2
    cases v
    · clear hv
      go_wp2
      go_ret
      exact ⟨rfl, n2'⟩
    have HFS := Lib.hid (hv rfl)
    clear hv
    clear x0 x1 x2 x3 x4 x5 x6 x7
    clear y0 y1 y2 y3 y4
    have L0 := (K0.alloc (.cells #[.int .i64 pp, .int .i64 po, .string pi, .int .i64 pl, .slice pa pn pc] 32)).new m2
    have L1 := (K1.alloc (.cells #[.int .i64 pp, .int .i64 po, .string pi, .int .i64 pl, .slice pa pn pc] 32)).new m2
    have x0 := L0.cell' 0 _ rfl
    have x1 := L0.cell' 1 _ rfl
    have x2 := L0.cell' 2 _ rfl
    have x3 := L0.cell' 3 _ rfl
    have x4 := L0.cell' 4 _ rfl
    have x5 := L0.cell' 5 _ rfl
    have x6 := L0.cell' 6 _ rfl
    have x7 := L0.cell' 7 _ rfl
    have y0 := L1.cell' 0 _ rfl
    have y1 := L1.cell' 1 _ rfl
    have y2 := L1.cell' 2 _ rfl
    have y3 := L1.cell' 3 _ rfl
    have y4 := L1.cell' 4 _ rfl
    go_wp2_with (fail)
    with_reducible refine (HR0.out HFS.out _ n2').mono ?_
    rintro e w3 ⟨rfl, m3⟩
    have n3' := n2'.trans m3
    clear x0 x1 x2 x3 x4 x5 x6 x7
    clear y0 y1 y2 y3 y4
    have n3c := n3'.alloc (.cells #[.int .u32 (V : Int), .string O, .int .i64 (k : Int)] 38)
    have D7 := Blk.made w3 38 #[.int .u32 (V : Int), .string O, .int .i64 (k : Int)]
    have P0 := (L0.new m3).alloc (.cells #[.int .u32 (V : Int), .string O, .int .i64 (k : Int)] 38)
    have P1 := (L1.new m3).alloc (.cells #[.int .u32 (V : Int), .string O, .int .i64 (k : Int)] 38)
    have x0 := P0.cell' 0 _ rfl
    have x1 := P0.cell' 1 _ rfl
    have x2 := P0.cell' 2 _ rfl
    have x3 := P0.cell' 3 _ rfl
    have x4 := P0.cell' 4 _ rfl
    have x5 := P0.cell' 5 _ rfl
    have x6 := P0.cell' 6 _ rfl
    have x7 := P0.cell' 7 _ rfl
    have y0 := P1.cell' 0 _ rfl
    have y1 := P1.cell' 1 _ rfl
    have y2 := P1.cell' 2 _ rfl
    have y3 := P1.cell' 3 _ rfl
    have y4 := P1.cell' 4 _ rfl
    have z0 := D7.cell' 0 _ rfl
    have z1 := D7.cell' 1 _ rfl
    have z2 := D7.cell' 2 _ rfl
    go_wp2_with (fail)
    with_reducible refine (HR1.out HFS.out _ n3c).mono ?_
    rintro e w4 ⟨rfl, m4⟩
    have n4c := (n3c.trans m4).alloc (.cells #[.int .u32 (V : Int), .string O, .int .i64 (k : Int)] 38)
    have D9 := Blk.made w4 38 #[.int .u32 (V : Int), .string O, .int .i64 (k : Int)]
    clear x0 x1 x2 x3 x4 x5 x6 x7
    clear y0 y1 y2 y3 y4
    clear z0 z1 z2
    have Q0 := (P0.new m4).alloc (.cells #[.int .u32 (V : Int), .string O, .int .i64 (k : Int)] 38)
    have Q1 := (P1.new m4).alloc (.cells #[.int .u32 (V : Int), .string O, .int .i64 (k : Int)] 38)
    have E7 := (D7.new m4).alloc (.cells #[.int .u32 (V : Int), .string O, .int .i64 (k : Int)] 38)
    have x0 := Q0.cell' 0 _ rfl
    have x1 := Q0.cell' 1 _ rfl
    have x2 := Q0.cell' 2 _ rfl
    have x3 := Q0.cell' 3 _ rfl
    have x4 := Q0.cell' 4 _ rfl
    have x5 := Q0.cell' 5 _ rfl
    have x6 := Q0.cell' 6 _ rfl
    have x7 := Q0.cell' 7 _ rfl
    have y0 := Q1.cell' 0 _ rfl
    have y1 := Q1.cell' 1 _ rfl
    have y2 := Q1.cell' 2 _ rfl
    have y3 := Q1.cell' 3 _ rfl
    have y4 := Q1.cell' 4 _ rfl
    have z0 := E7.cell' 0 _ rfl
    have z1 := E7.cell' 1 _ rfl
    have z2 := E7.cell' 2 _ rfl
    go_wp2_with (fail)
    with_reducible refine (HR2.out HFS.out _ n4c).mono ?_
    rintro e w5 ⟨rfl, m5⟩
    have n5c := (n4c.trans m5).alloc (.cells #[.int .u32 (V : Int), .string O, .int .i64 (k : Int)] 38)
    have F11 := Blk.made w5 38 #[.int .u32 (V : Int), .string O, .int .i64 (k : Int)]
    clear x0 x1 x2 x3 x4 x5 x6 x7
    clear y0 y1 y2 y3 y4
    clear z0 z1 z2
    have S0 := (Q0.new m5).alloc (.cells #[.int .u32 (V : Int), .string O, .int .i64 (k : Int)] 38)
    have S1 := (Q1.new m5).alloc (.cells #[.int .u32 (V : Int), .string O, .int .i64 (k : Int)] 38)
    have F7 := (E7.new m5).alloc (.cells #[.int .u32 (V : Int), .string O, .int .i64 (k : Int)] 38)
    have F9 := (D9.new m5).alloc (.cells #[.int .u32 (V : Int), .string O, .int .i64 (k : Int)] 38)
    have x0 := S0.cell' 0 _ rfl
    have x1 := S0.cell' 1 _ rfl
    have x2 := S0.cell' 2 _ rfl
    have x3 := S0.cell' 3 _ rfl
    have x4 := S0.cell' 4 _ rfl
    have x5 := S0.cell' 5 _ rfl
    have x6 := S0.cell' 6 _ rfl
    have x7 := S0.cell' 7 _ rfl
    have y0 := S1.cell' 0 _ rfl
    have y1 := S1.cell' 1 _ rfl
    have y2 := S1.cell' 2 _ rfl
    have y3 := S1.cell' 3 _ rfl
    have y4 := S1.cell' 4 _ rfl
    have z0 := F7.cell' 0 _ rfl
    have z1 := F7.cell' 1 _ rfl
    have z2 := F7.cell' 2 _ rfl
    have u0 := F9.cell' 0 _ rfl
    have u1 := F9.cell' 1 _ rfl
    have u2 := F9.cell' 2 _ rfl
    have s0 := F11.cell' 0 _ rfl
    have s1 := F11.cell' 1 _ rfl
    have s2 := F11.cell' 2 _ rfl
    by_cases hk : k = 1
    · have t3 : ((k : Int) == 1) = true := by rw [hk]; rfl
      clear hk
      go_wp2
      go_ret
      exact ⟨rfl, n5c⟩
    · have t3 : ((k : Int) == 1) = false := by rw [beq_eq_false_iff_ne]; omega
      have HEE := Lib.hid (HS5.out (by have := HST.out; omega))
      rw [HEE.out] at HR3
      have k1 := HW1.out
      clear hk
      go_wp2_with (fail)
      with_reducible refine (HR3.out HFS.out _ n5c).mono ?_
      rintro e w6 ⟨rfl, m6⟩
      go_wp2
      go_ret
      exact ⟨rfl, (n5c.trans m6).alloc _⟩
  · obtain ⟨g1, g2, g3⟩ := HZ.out he
    have te : (R0.e != 0) = true := bne_iff_ne.2 he
    rw [g1, g2, g3, hs0] at HR0
    generalize R0.e = e0 at *
    clear g1 g2 g3 HL HZ HR HLE he
    go_enter Tryz.func7, Tryz.ntmps7
    go_upto_region 1 with (fail)
    generalize (w.alloc (.cells #[.int .i64 kind, .int .i64 entry, .string image, .slice a1 n1 c1, .slice a2 n2 c2, .slice a3 n3 c3, .slice a4 n4 c4, .slice a5 n5 c5] 28)).alloc (.cells #[.int .i64 pp, .int .i64 po, .string pi, .int .i64 pl, .slice pa pn pc] 32) = w0 at *
    generalize w.heap.size = b0 at B0 B1 ⊢
    generalize b0 + 1 = b1 at *
    go_wp2_with (fail)
    with_reducible refine (awake_any _ (HE.out.new m0)).mono ?_
    rintro e w1 ⟨rfl, m1⟩
    have n1' := m0.trans m1
    have K0 := B0.new m1
    have K1 := B1.new m1
    have x0 := K0.cell' 0 _ rfl
    have x1 := K0.cell' 1 _ rfl
    have x2 := K0.cell' 2 _ rfl
    have x3 := K0.cell' 3 _ rfl
    have x4 := K0.cell' 4 _ rfl
    have x5 := K0.cell' 5 _ rfl
    have x6 := K0.cell' 6 _ rfl
    have x7 := K0.cell' 7 _ rfl
    have y0 := K1.cell' 0 _ rfl
    have y1 := K1.cell' 1 _ rfl
    have y2 := K1.cell' 2 _ rfl
    have y3 := K1.cell' 3 _ rfl
    have y4 := K1.cell' 4 _ rfl
    go_wp2_with (fail)
    with_reducible refine (HF.out _ (n1'.alloc _) _ (Blk.made w1 32 #[.int .i64 pp, .int .i64 po, .string pi, .int .i64 pl, .slice pa pn pc])).mono ?_
    rintro e w2 ⟨⟨v, rfl, hv⟩, m2⟩
    have n2' := (n1'.alloc (.cells #[.int .i64 pp, .int .i64 po, .string pi, .int .i64 pl, .slice pa pn pc] 32)).trans m2
    cases v
    · clear hv
      go_wp2
      go_ret
      exact ⟨rfl, n2'⟩
    have HFS := Lib.hid (hv rfl)
    clear hv
    clear x0 x1 x2 x3 x4 x5 x6 x7
    clear y0 y1 y2 y3 y4
    have L0 := (K0.alloc (.cells #[.int .i64 pp, .int .i64 po, .string pi, .int .i64 pl, .slice pa pn pc] 32)).new m2
    have L1 := (K1.alloc (.cells #[.int .i64 pp, .int .i64 po, .string pi, .int .i64 pl, .slice pa pn pc] 32)).new m2
    have x0 := L0.cell' 0 _ rfl
    have x1 := L0.cell' 1 _ rfl
    have x2 := L0.cell' 2 _ rfl
    have x3 := L0.cell' 3 _ rfl
    have x4 := L0.cell' 4 _ rfl
    have x5 := L0.cell' 5 _ rfl
    have x6 := L0.cell' 6 _ rfl
    have x7 := L0.cell' 7 _ rfl
    have y0 := L1.cell' 0 _ rfl
    have y1 := L1.cell' 1 _ rfl
    have y2 := L1.cell' 2 _ rfl
    have y3 := L1.cell' 3 _ rfl
    have y4 := L1.cell' 4 _ rfl
    go_wp2_with (fail)
    with_reducible refine (HR0.out HFS.out _ n2').mono ?_
    rintro e w3 ⟨rfl, m3⟩
    have n3' := n2'.trans m3
    go_wp2
    go_ret
    exact ⟨rfl, n3'.alloc _⟩
end Go.Proofs.YtnjampfhkojbnaaGreatDoor

