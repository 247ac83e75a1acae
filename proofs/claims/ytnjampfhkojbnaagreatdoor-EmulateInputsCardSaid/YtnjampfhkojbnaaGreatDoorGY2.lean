/- The law EmulateInputs: it answers true. Conditions: none but the world's. (Printed by mk-y2.py.) -/
import Derived.Test.YtnjampfhkojbnaaGreatDoorGBase
import Derived.Test.YtnjampfhkojbnaaGreatDoorGY1
import Derived.Test.YtnjampfhkojbnaaGreatDoorGBase

namespace Go.Proofs.YtnjampfhkojbnaaGreatDoor
open Go Go.RowKit Go.Shelf
set_option linter.unusedSimpArgs false
set_option linter.unusedVariables false

theorem ext_data (s : ByteArray) (k : Nat) : (s.extract 0 k).data.toList = s.data.toList.take k := by rw [ext_to, data_S]
theorem app_data (a b : ByteArray) : (a ++ b).data.toList = a.data.toList ++ b.data.toList := by simp
theorem runP_in {b : Bn} {l : List LbD} {pi : ByteArray} {L : Int} (h : (runP b l pi.data.toList L).e = 0) (hk : (runP b l pi.data.toList L).steps ≤ pi.size) (hs : pi.size ≤ 300) :
    runP b l (pi.extract 0 (runP b l pi.data.toList L).steps).data.toList L = runP b l pi.data.toList L ∧ runP b l (pi.extract 0 (runP b l pi.data.toList L).steps ++ ⟨#[111, 116, 104, 101, 114]⟩).data.toList L = runP b l pi.data.toList L := by
  have hk2 : (runP b l pi.data.toList L).steps ≤ pi.data.toList.length := by rw [← size_eq]; exact hk
  constructor
  · have q := runP_inputs h hk2 [] (by simp only [List.length_nil]; omega)
    rw [List.append_nil] at q
    rw [ext_data]; exact q
  · rw [app_data, ext_data]
    exact runP_inputs h hk2 [111, 116, 104, 101, 114] (by simp only [List.length_cons, List.length_nil]; omega)
set_option maxRecDepth 100000 in
set_option maxHeartbeats 16000000 in
theorem law_inputs (b : Bn) (h : BH) (A : Option Addr) (n c : Nat) (l : List LbD) (x : CaD) (w : World) (hr : BRd w b h) (hb : LensB b) (hw : W64B b) (hl : LsRd w A n l) (hn : n ≤ 9223372036854775807) (hlb : ∀ x ∈ l, LensB x.bin ∧ W64B x.bin) (hE : Env w) :
    Calls Tryz.prog 8 #[.agg (bcells b h), .slice A n c, .agg #[.int .i64 x.place, .int .i64 x.off, .string x.inp, .int .i64 x.lim, .slice x.at' x.n x.cap]] w fun e w' => e = .returned (.bool true) ∧ New w w' := by
  have HF := Lib.hid (fun W (hnw : New w W) B (hB : Blk W B 32 (caC x).toArray) => few_one (c := c) x hr hb hl hn hlb W hnw B hB)
  have HR := Lib.hid (fun (hf : FewAll b l [x]) (inp : ByteArray) W (hnw : New w W) => frun_few (c := c) hf hr hw hl hlb hE inp x.lim W hnw)
  have HIN := Lib.hid (fun (hf : FewAll b l [x]) he hk => runP_in (b := b) (l := l) (pi := x.inp) (L := x.lim) he hk (hf.2.2.1 x (List.mem_singleton.2 rfl)).1)
  have HSZ := Lib.hid (fun (hf : FewAll b l [x]) => (hf.2.2.1 x (List.mem_singleton.2 rfl)).1)
  have HE := Lib.hid hE
  unfold FewAR at HF
  obtain ⟨RP, hRP⟩ : ∃ f : ByteArray → Rs, ∀ s, runP b l s.data.toList x.lim = f s := ⟨_, fun _ => rfl⟩
  simp only [hRP] at HR HIN
  clear hRP
  generalize FewAll b l [x] = FS at *
  clear hr hb hw hl hn hlb hE
  obtain ⟨pp, po, pi, pl, pa, pn, pc⟩ := x
  simp only [caC] at *
  have HR0 := Lib.hid (fun (hf : FS) W (hnw : New w W) => HR.out hf pi W hnw)
  obtain ⟨R0, hR0⟩ : ∃ r, RP pi = r := ⟨_, rfl⟩
  rw [hR0] at HIN HR0
  clear hR0
  obtain ⟨kind, entry, image, places, fix, imps, exps, notes⟩ := b
  obtain ⟨a1, c1, a2, c2, a3, c3, a4, c4, a5, c5⟩ := h
  simp only [bcells] at *
  generalize places.length = n1 at *
  generalize fix.length = n2 at *
  generalize imps.length = n3 at *
  generalize exps.length = n4 at *
  generalize notes.length = n5 at *
  have B0 := (Blk.made w 28 #[.int .i64 kind, .int .i64 entry, .string image, .slice a1 n1 c1, .slice a2 n2 c2, .slice a3 n3 c3, .slice a4 n4 c4, .slice a5 n5 c5]).alloc (.cells #[.int .i64 pp, .int .i64 po, .string pi, .int .i64 pl, .slice pa pn pc] 32)
  have B1 : Blk ((w.alloc (.cells #[.int .i64 kind, .int .i64 entry, .string image, .slice a1 n1 c1, .slice a2 n2 c2, .slice a3 n3 c3, .slice a4 n4 c4, .slice a5 n5 c5] 28)).alloc (.cells #[.int .i64 pp, .int .i64 po, .string pi, .int .i64 pl, .slice pa pn pc] 32)) (w.heap.size + 1) 32 #[.int .i64 pp, .int .i64 po, .string pi, .int .i64 pl, .slice pa pn pc] := by
    have q := Blk.made (w.alloc (.cells #[.int .i64 kind, .int .i64 entry, .string image, .slice a1 n1 c1, .slice a2 n2 c2, .slice a3 n3 c3, .slice a4 n4 c4, .slice a5 n5 c5] 28)) 32 #[.int .i64 pp, .int .i64 po, .string pi, .int .i64 pl, .slice pa pn pc]
    rwa [show (w.alloc (.cells #[.int .i64 kind, .int .i64 entry, .string image, .slice a1 n1 c1, .slice a2 n2 c2, .slice a3 n3 c3, .slice a4 n4 c4, .slice a5 n5 c5] 28)).heap.size = w.heap.size + 1 from Array.size_push ..] at q
  have m0 : New w ((w.alloc (.cells #[.int .i64 kind, .int .i64 entry, .string image, .slice a1 n1 c1, .slice a2 n2 c2, .slice a3 n3 c3, .slice a4 n4 c4, .slice a5 n5 c5] 28)).alloc (.cells #[.int .i64 pp, .int .i64 po, .string pi, .int .i64 pl, .slice pa pn pc] 32)) := ((New.refl w).alloc _).alloc _
  go_enter Tryz.func8, Tryz.ntmps8
  go_upto_region 1 with (fail)
  generalize (w.alloc (.cells #[.int .i64 kind, .int .i64 entry, .string image, .slice a1 n1 c1, .slice a2 n2 c2, .slice a3 n3 c3, .slice a4 n4 c4, .slice a5 n5 c5] 28)).alloc (.cells #[.int .i64 pp, .int .i64 po, .string pi, .int .i64 pl, .slice pa pn pc] 32) = w0 at *
  generalize w.heap.size = b0 at B0 B1 ⊢
  generalize b0 + 1 = b1 at *
  go_wp2_with (fail)
  with_reducible refine (awake_any _ (HE.out.new m0)).mono ?_
  rintro e w1 ⟨rfl, m1⟩
  have n1' := m0.trans m1
  have K0 := B0.new m1
  have K1 := B1.new m1
  have x0 := K0.cell' 0 _ rfl
  have x1 := K0.cell' 1 _ rfl
  have x2 := K0.cell' 2 _ rfl
  have x3 := K0.cell' 3 _ rfl
  have x4 := K0.cell' 4 _ rfl
  have x5 := K0.cell' 5 _ rfl
  have x6 := K0.cell' 6 _ rfl
  have x7 := K0.cell' 7 _ rfl
  have y0 := K1.cell' 0 _ rfl
  have y1 := K1.cell' 1 _ rfl
  have y2 := K1.cell' 2 _ rfl
  have y3 := K1.cell' 3 _ rfl
  have y4 := K1.cell' 4 _ rfl
  go_wp2_with (fail)
  with_reducible refine (HF.out _ (n1'.alloc _) _ (Blk.made w1 32 #[.int .i64 pp, .int .i64 po, .string pi, .int .i64 pl, .slice pa pn pc])).mono ?_
  rintro e w2 ⟨⟨v, rfl, hv⟩, m2⟩
  have n2' := (n1'.alloc (.cells #[.int .i64 pp, .int .i64 po, .string pi, .int .i64 pl, .slice pa pn pc] 32)).trans m2
  cases v
  · clear hv
    go_wp2
    go_ret
    exact ⟨rfl, n2'⟩
  have HFS := Lib.hid (hv rfl)
  clear hv
  clear x0 x1 x2 x3 x4 x5 x6 x7
  clear y0 y1 y2 y3 y4
  have L0 := (K0.alloc (.cells #[.int .i64 pp, .int .i64 po, .string pi, .int .i64 pl, .slice pa pn pc] 32)).new m2
  have L1 := (K1.alloc (.cells #[.int .i64 pp, .int .i64 po, .string pi, .int .i64 pl, .slice pa pn pc] 32)).new m2
  have x0 := L0.cell' 0 _ rfl
  have x1 := L0.cell' 1 _ rfl
  have x2 := L0.cell' 2 _ rfl
  have x3 := L0.cell' 3 _ rfl
  have x4 := L0.cell' 4 _ rfl
  have x5 := L0.cell' 5 _ rfl
  have x6 := L0.cell' 6 _ rfl
  have x7 := L0.cell' 7 _ rfl
  have y0 := L1.cell' 0 _ rfl
  have y1 := L1.cell' 1 _ rfl
  have y2 := L1.cell' 2 _ rfl
  have y3 := L1.cell' 3 _ rfl
  have y4 := L1.cell' 4 _ rfl
  go_wp2_with (fail)
  with_reducible refine (HR0.out HFS.out _ n2').mono ?_
  rintro e w3 ⟨rfl, m3⟩
  have n3c := (n2'.trans m3).alloc (.cells #[.int .u32 (R0.value : Int), .string (S R0.out), .int .i64 (R0.steps : Int)] 38)
  by_cases he : R0.e = 0
  · rw [he]
    have HI2 := Lib.hid (fun hk => HIN.out HFS.out he hk)
    obtain ⟨k, hk⟩ : ∃ k, R0.steps = k := ⟨_, rfl⟩
    rw [hk] at HI2 n3c ⊢
    have D7 := Blk.made w3 38 #[.int .u32 (R0.value : Int), .string (S R0.out), .int .i64 (k : Int)]
    clear x0 x1 x2 x3 x4 x5 x6 x7 y0 y1 y2 y3 y4
    have P0 := (L0.new m3).alloc (.cells #[.int .u32 (R0.value : Int), .string (S R0.out), .int .i64 (k : Int)] 38)
    have P1 := (L1.new m3).alloc (.cells #[.int .u32 (R0.value : Int), .string (S R0.out), .int .i64 (k : Int)] 38)
    have y2 := P1.cell' 2 _ rfl
    have z2 := D7.cell' 2 _ rfl
    by_cases hlt : pi.size < k
    · have t3 : decide ((pi.size : Int) < (k : Int)) = true := decide_eq_true (by omega)
      have t4 : decide (pi.size < k) = true := decide_eq_true hlt
      clear hlt
      go_wp2
      go_ret
      exact ⟨rfl, n3c⟩
    · have t3 : decide ((pi.size : Int) < (k : Int)) = false := decide_eq_false (by omega)
      have t4 : decide (pi.size < k) = false := decide_eq_false hlt
      have HRA0 := HR.out HFS.out (pi.extract 0 k)
      have HRB0 := HR.out HFS.out (pi.extract 0 k ++ ⟨#[111, 116, 104, 101, 114]⟩)
      have q1 := (HI2.out (by omega)).1
      have q2 := (HI2.out (by omega)).2
      rw [q1, he, hk] at HRA0
      rw [q2, he, hk] at HRB0
      have hsz := HSZ.out HFS.out
      have g1 : (k : Int) ≤ (pi.size : Int) := by omega
      have g2 : k ≤ pi.size := by omega
      have hes : (pi.extract 0 k).size = k := by rw [ByteArray.size_extract]; omega
      have g3 : ¬ (9223372036854775807 < (pi.extract 0 k).size + 5) := by omega
      have g4 : ¬ (9223372036854775807 < k + 5) := by omega
      generalize R0.value = V at *
      generalize S R0.out = O at *
      have HRA := Lib.hid HRA0
      have HRB := Lib.hid HRB0
      have HSX := Lib.hid hes
      clear HRA0 HRB0 q1 q2 hsz HI2 HIN HR0 hk he HR hlt hes
      go_upto_region 10 with (fail)
      clear y2 z2
      have HG2 := Lib.hid g2
      generalize w3.alloc (.cells #[.int .u32 (V : Int), .string O, .int .i64 (k : Int)] 38) = w4 at *
      generalize w3.heap.size = b7 at *
      go_cut [9, 10] (fun v9 v10 wc => ∃ b9, v9 = .pointer (some ⟨b9, 0, none⟩) ∧ v10 = .int .i64 0 ∧ New w wc ∧ Blk wc b0 28 #[.int .i64 kind, .int .i64 entry, .string image, .slice a1 n1 c1, .slice a2 n2 c2, .slice a3 n3 c3, .slice a4 n4 c4, .slice a5 n5 c5] ∧ Blk wc b1 32 #[.int .i64 pp, .int .i64 po, .string pi, .int .i64 pl, .slice pa pn pc] ∧ Blk wc b7 38 #[.int .u32 (V : Int), .string O, .int .i64 (k : Int)] ∧ Blk wc b9 38 #[.int .u32 (V : Int), .string O, .int .i64 (k : Int)])
      case first =>
        go_wp2_with (fail)
        refine wp_region_held_drew (S := fun W => Blk W b0 28 #[.int .i64 kind, .int .i64 entry, .string image, .slice a1 n1 c1, .slice a2 n2 c2, .slice a3 n3 c3, .slice a4 n4 c4, .slice a5 n5 c5] ∧ Blk W b1 32 #[.int .i64 pp, .int .i64 po, .string pi, .int .i64 pl, .slice pa pn pc] ∧ Blk W b7 38 #[.int .u32 (V : Int), .string O, .int .i64 (k : Int)]) (by kernel_rfl) ⟨P0, P1, D7⟩ (fun hS => ?_)
        have K0 := Blk.drew P0
        have K1 := Blk.drew P1
        have K7 := Blk.drew D7
        have nC := New.drew n3c
        generalize w4.drew = wC at *
        refine tkT 0 (v := ?v101) hS (fun wq hSq => ?y101) ?_; (case y101 => have hf0 := hSq.1.cell' 0 _ rfl; have hf1 := hSq.1.cell' 1 _ rfl; have hf2 := hSq.1.cell' 2 _ rfl; have hf3 := hSq.1.cell' 3 _ rfl; have hf4 := hSq.1.cell' 4 _ rfl; have hf5 := hSq.1.cell' 5 _ rfl; have hf6 := hSq.1.cell' 6 _ rfl; have hf7 := hSq.1.cell' 7 _ rfl; have hf8 := hSq.2.1.cell' 0 _ rfl; have hf9 := hSq.2.1.cell' 1 _ rfl; have hf10 := hSq.2.1.cell' 2 _ rfl; have hf11 := hSq.2.1.cell' 3 _ rfl; have hf12 := hSq.2.1.cell' 4 _ rfl; have hf13 := hSq.2.2.cell' 0 _ rfl; have hf14 := hSq.2.2.cell' 1 _ rfl; have hf15 := hSq.2.2.cell' 2 _ rfl; clear hSq; go_simp; (try with_reducible rfl)); simp only [Act.put, gqD, gqE, gqF]
        refine tkT 1 (v := ?v102) hS (fun wq hSq => ?y102) ?_; (case y102 => clear hSq; go_simp; (try with_reducible rfl)); simp only [Act.put, gqD, gqE, gqF]
        refine tkT 2 (v := ?v103) hS (fun wq hSq => ?y103) ?_; (case y103 => clear hSq; go_simp; (try with_reducible rfl)); simp only [Act.put, gqD, gqE, gqF]
        refine tkT 4 (v := ?v104) hS (fun wq hSq => ?y104) ?_; (case y104 => clear hSq; go_simp; (try with_reducible rfl)); simp only [Act.put, gqD, gqE, gqF]
        refine tkT 7 (v := ?v105) hS (fun wq hSq => ?y105) ?_; (case y105 => clear hSq; go_simp; (try with_reducible rfl)); simp only [Act.put, gqD, gqE, gqF]
        refine tkT 3 (v := ?v106) hS (fun wq hSq => ?y106) ?_; (case y106 => have hf0 := hSq.1.cell' 0 _ rfl; have hf1 := hSq.1.cell' 1 _ rfl; have hf2 := hSq.1.cell' 2 _ rfl; have hf3 := hSq.1.cell' 3 _ rfl; have hf4 := hSq.1.cell' 4 _ rfl; have hf5 := hSq.1.cell' 5 _ rfl; have hf6 := hSq.1.cell' 6 _ rfl; have hf7 := hSq.1.cell' 7 _ rfl; have hf8 := hSq.2.1.cell' 0 _ rfl; have hf9 := hSq.2.1.cell' 1 _ rfl; have hf10 := hSq.2.1.cell' 2 _ rfl; have hf11 := hSq.2.1.cell' 3 _ rfl; have hf12 := hSq.2.1.cell' 4 _ rfl; have hf13 := hSq.2.2.cell' 0 _ rfl; have hf14 := hSq.2.2.cell' 1 _ rfl; have hf15 := hSq.2.2.cell' 2 _ rfl; clear hSq; go_simp; (try with_reducible rfl)); simp only [Act.put, gqD, gqE, gqF]
        refine tkT 5 (v := ?v107) hS (fun wq hSq => ?y107) ?_; (case y107 => have hf0 := hSq.1.cell' 0 _ rfl; have hf1 := hSq.1.cell' 1 _ rfl; have hf2 := hSq.1.cell' 2 _ rfl; have hf3 := hSq.1.cell' 3 _ rfl; have hf4 := hSq.1.cell' 4 _ rfl; have hf5 := hSq.1.cell' 5 _ rfl; have hf6 := hSq.1.cell' 6 _ rfl; have hf7 := hSq.1.cell' 7 _ rfl; have hf8 := hSq.2.1.cell' 0 _ rfl; have hf9 := hSq.2.1.cell' 1 _ rfl; have hf10 := hSq.2.1.cell' 2 _ rfl; have hf11 := hSq.2.1.cell' 3 _ rfl; have hf12 := hSq.2.1.cell' 4 _ rfl; have hf13 := hSq.2.2.cell' 0 _ rfl; have hf14 := hSq.2.2.cell' 1 _ rfl; have hf15 := hSq.2.2.cell' 2 _ rfl; clear hSq; go_simp; (try with_reducible rfl)); simp only [Act.put, gqD, gqE, gqF]
        refine tkT 8 (v := ?v108) hS (fun wq hSq => ?y108) ?_; (case y108 => have hf0 := hSq.1.cell' 0 _ rfl; have hf1 := hSq.1.cell' 1 _ rfl; have hf2 := hSq.1.cell' 2 _ rfl; have hf3 := hSq.1.cell' 3 _ rfl; have hf4 := hSq.1.cell' 4 _ rfl; have hf5 := hSq.1.cell' 5 _ rfl; have hf6 := hSq.1.cell' 6 _ rfl; have hf7 := hSq.1.cell' 7 _ rfl; have hf8 := hSq.2.1.cell' 0 _ rfl; have hf9 := hSq.2.1.cell' 1 _ rfl; have hf10 := hSq.2.1.cell' 2 _ rfl; have hf11 := hSq.2.1.cell' 3 _ rfl; have hf12 := hSq.2.1.cell' 4 _ rfl; have hf13 := hSq.2.2.cell' 0 _ rfl; have hf14 := hSq.2.2.cell' 1 _ rfl; have hf15 := hSq.2.2.cell' 2 _ rfl; clear hSq; go_simp; (try with_reducible rfl)); simp only [Act.put, gqD, gqE, gqF]
        refine tkT 6 (v := ?v109) hS (fun wq hSq => ?y109) ?_; (case y109 => clear hSq; go_simp; (try with_reducible rfl)); simp only [Act.put, gqD, gqE, gqF]
        refine wpAnyH_ready (rs := [9, 13]) (by kernel_rfl) (by simp) ?_
        refine AllReadyH.cons (o := ?oi110) ?hi110 (fun K hK => ?_) (AllReadyH.cons (o := ?oi111) ?hi111 (fun K hK => ?_) AllReadyH.nil)
        case hi110 => (simp only [gqA, gqB, gqC]; rfl)
        case hi111 => (simp only [gqA, gqB, gqC]; rfl)
        · go_simp
          with_reducible refine (HRA.out _ nC).mono ?_
          rintro e wD ⟨rfl, mD⟩
          replace K0 := K0.new mD
          replace K1 := K1.new mD
          replace K7 := K7.new mD
          replace nC := nC.trans mD
          clear mD
          clear hS
          skip
          refine hK.out _ _ (⟨K0, K1, K7⟩) (fun hS => ?_)
          clear hK K
          obtain ⟨wC, rfl⟩ : ∃ wC : World, wC = wD := ⟨_, rfl⟩
          refine tkT 10 (v := ?v112) hS (fun wq hSq => ?y112) ?_; (case y112 => clear hSq; go_simp; (try with_reducible rfl)); simp only [Act.put, gqD, gqE, gqF]
          refine tkT 11 (v := ?v113) hS (fun wq hSq => ?y113) ?_; (case y113 => clear hSq; go_simp; (try with_reducible rfl)); simp only [Act.put, gqD, gqE, gqF]
          refine tkT 12 (v := ?v114) hS (fun wq hSq => ?y114) ?_; (case y114 => clear hSq; go_simp; (try with_reducible rfl)); simp only [Act.put, gqD, gqE, gqF]
          refine wpAnyH_ready (rs := [13]) (by kernel_rfl) (by simp) ?_
          refine AllReadyH.cons (o := ?oi115) ?hi115 (fun K hK => ?_) AllReadyH.nil
          case hi115 => (simp only [gqA, gqB, gqC]; rfl)
          go_simp
          refine hK.out _ _ (⟨K0.alloc _, K1.alloc _, K7.alloc _⟩) (fun hS => ?_)
          clear hK K
          have H9 := Lib.hid nC.size
          have qK0 := Nat.ne_of_lt K0.lt
          have qK1 := Nat.ne_of_lt K1.lt
          have qK7 := Nat.ne_of_lt K7.lt
          replace K0 := K0.alloc (.cells #[.int .u32 0, .string ⟨#[]⟩, .int .i64 0] 38)
          replace K1 := K1.alloc (.cells #[.int .u32 0, .string ⟨#[]⟩, .int .i64 0] 38)
          replace K7 := K7.alloc (.cells #[.int .u32 0, .string ⟨#[]⟩, .int .i64 0] 38)
          have D9 := Blk.made wC 38 #[.int .u32 0, .string ⟨#[]⟩, .int .i64 0]
          replace nC := nC.alloc (.cells #[.int .u32 0, .string ⟨#[]⟩, .int .i64 0] 38)
          generalize wC.alloc (.cells #[.int .u32 0, .string ⟨#[]⟩, .int .i64 0] 38) = wA at *
          generalize wC.heap.size = b9 at *
          obtain ⟨wC, rfl⟩ : ∃ wC : World, wC = wA := ⟨_, rfl⟩
          refine wpAnyH_ready (rs := [14]) (by kernel_rfl) (by simp) ?_
          refine AllReadyH.cons (o := ?oi116) ?hi116 (fun K hK => ?_) AllReadyH.nil
          case hi116 => (simp only [gqA, gqB, gqC]; rfl)
          have y0 := D9.cell' 0 _ rfl
          have y1 := D9.cell' 1 _ rfl
          have y2 := D9.cell' 2 _ rfl
          have z0 := D9.free 0
          have z1 := D9.free 1
          have z2 := D9.free 2
          go_simp
          have E9 := ((D9.put 0 (.int .u32 (V : Int))).put 1 (.string O)).put 2 (.int .i64 (k : Int))
          have EK0 := ((K0.far (p := ⟨b9, 0, none⟩) qK0 (.int .u32 (V : Int))).far (p := ⟨b9, 1, none⟩) qK0 (.string O)).far (p := ⟨b9, 2, none⟩) qK0 (.int .i64 (k : Int))
          have EK1 := ((K1.far (p := ⟨b9, 0, none⟩) qK1 (.int .u32 (V : Int))).far (p := ⟨b9, 1, none⟩) qK1 (.string O)).far (p := ⟨b9, 2, none⟩) qK1 (.int .i64 (k : Int))
          have EK7 := ((K7.far (p := ⟨b9, 0, none⟩) qK7 (.int .u32 (V : Int))).far (p := ⟨b9, 1, none⟩) qK7 (.string O)).far (p := ⟨b9, 2, none⟩) qK7 (.int .i64 (k : Int))
          have nE := ((nC.setCell (p := ⟨b9, 0, none⟩) H9.out (.int .u32 (V : Int))).setCell (p := ⟨b9, 1, none⟩) H9.out (.string O)).setCell (p := ⟨b9, 2, none⟩) H9.out (.int .i64 (k : Int))
          refine hK.out _ _ (⟨EK0, EK1, EK7⟩) (fun hS => ?_)
          clear hK K
          refine tkT 15 (v := ?v117) hS (fun wq hSq => ?y117) ?_; (case y117 => clear hSq; go_simp; (try with_reducible rfl)); simp only [Act.put, gqD, gqE, gqF]
          refine wpAnyH_done (by kernel_rfl) ?_ _
          go_wp2
          go_meet
          case rel => exact ⟨b9, rfl, rfl, nE, EK0, EK1, EK7, E9⟩
        · go_simp
          refine hK.out _ _ (⟨K0.alloc _, K1.alloc _, K7.alloc _⟩) (fun hS => ?_)
          clear hK K
          have H9 := Lib.hid nC.size
          have qK0 := Nat.ne_of_lt K0.lt
          have qK1 := Nat.ne_of_lt K1.lt
          have qK7 := Nat.ne_of_lt K7.lt
          replace K0 := K0.alloc (.cells #[.int .u32 0, .string ⟨#[]⟩, .int .i64 0] 38)
          replace K1 := K1.alloc (.cells #[.int .u32 0, .string ⟨#[]⟩, .int .i64 0] 38)
          replace K7 := K7.alloc (.cells #[.int .u32 0, .string ⟨#[]⟩, .int .i64 0] 38)
          have D9 := Blk.made wC 38 #[.int .u32 0, .string ⟨#[]⟩, .int .i64 0]
          replace nC := nC.alloc (.cells #[.int .u32 0, .string ⟨#[]⟩, .int .i64 0] 38)
          generalize wC.alloc (.cells #[.int .u32 0, .string ⟨#[]⟩, .int .i64 0] 38) = wA at *
          generalize wC.heap.size = b9 at *
          obtain ⟨wC, rfl⟩ : ∃ wC : World, wC = wA := ⟨_, rfl⟩
          refine wpAnyH_ready (rs := [9]) (by kernel_rfl) (by simp) ?_
          refine AllReadyH.cons (o := ?oi118) ?hi118 (fun K hK => ?_) AllReadyH.nil
          case hi118 => (simp only [gqA, gqB, gqC]; rfl)
          go_simp
          with_reducible refine (HRA.out _ nC).mono ?_
          rintro e wD ⟨rfl, mD⟩
          replace K0 := K0.new mD
          replace K1 := K1.new mD
          replace K7 := K7.new mD
          replace D9 := D9.new mD
          replace nC := nC.trans mD
          clear mD
          clear hS
          skip
          refine hK.out _ _ (⟨K0, K1, K7⟩) (fun hS => ?_)
          clear hK K
          obtain ⟨wC, rfl⟩ : ∃ wC : World, wC = wD := ⟨_, rfl⟩
          refine tkT 10 (v := ?v119) hS (fun wq hSq => ?y119) ?_; (case y119 => clear hSq; go_simp; (try with_reducible rfl)); simp only [Act.put, gqD, gqE, gqF]
          refine tkT 11 (v := ?v120) hS (fun wq hSq => ?y120) ?_; (case y120 => clear hSq; go_simp; (try with_reducible rfl)); simp only [Act.put, gqD, gqE, gqF]
          refine tkT 12 (v := ?v121) hS (fun wq hSq => ?y121) ?_; (case y121 => clear hSq; go_simp; (try with_reducible rfl)); simp only [Act.put, gqD, gqE, gqF]
          refine wpAnyH_ready (rs := [14]) (by kernel_rfl) (by simp) ?_
          refine AllReadyH.cons (o := ?oi122) ?hi122 (fun K hK => ?_) AllReadyH.nil
          case hi122 => (simp only [gqA, gqB, gqC]; rfl)
          have y0 := D9.cell' 0 _ rfl
          have y1 := D9.cell' 1 _ rfl
          have y2 := D9.cell' 2 _ rfl
          have z0 := D9.free 0
          have z1 := D9.free 1
          have z2 := D9.free 2
          go_simp
          have E9 := ((D9.put 0 (.int .u32 (V : Int))).put 1 (.string O)).put 2 (.int .i64 (k : Int))
          have EK0 := ((K0.far (p := ⟨b9, 0, none⟩) qK0 (.int .u32 (V : Int))).far (p := ⟨b9, 1, none⟩) qK0 (.string O)).far (p := ⟨b9, 2, none⟩) qK0 (.int .i64 (k : Int))
          have EK1 := ((K1.far (p := ⟨b9, 0, none⟩) qK1 (.int .u32 (V : Int))).far (p := ⟨b9, 1, none⟩) qK1 (.string O)).far (p := ⟨b9, 2, none⟩) qK1 (.int .i64 (k : Int))
          have EK7 := ((K7.far (p := ⟨b9, 0, none⟩) qK7 (.int .u32 (V : Int))).far (p := ⟨b9, 1, none⟩) qK7 (.string O)).far (p := ⟨b9, 2, none⟩) qK7 (.int .i64 (k : Int))
          have nE := ((nC.setCell (p := ⟨b9, 0, none⟩) H9.out (.int .u32 (V : Int))).setCell (p := ⟨b9, 1, none⟩) H9.out (.string O)).setCell (p := ⟨b9, 2, none⟩) H9.out (.int .i64 (k : Int))
          refine hK.out _ _ (⟨EK0, EK1, EK7⟩) (fun hS => ?_)
          clear hK K
          refine tkT 15 (v := ?v123) hS (fun wq hSq => ?y123) ?_; (case y123 => clear hSq; go_simp; (try with_reducible rfl)); simp only [Act.put, gqD, gqE, gqF]
          refine wpAnyH_done (by kernel_rfl) ?_ _
          go_wp2
          go_meet
          case rel => exact ⟨b9, rfl, rfl, nE, EK0, EK1, EK7, E9⟩
      case rest =>
        obtain ⟨b8, rfl, rfl, nX, P0, P1, P7, P8⟩ := hcut
        go_upto_region 11 with (fail)
        go_cut [11, 12] (fun v11 v12 wc => ∃ b9, v11 = .pointer (some ⟨b9, 0, none⟩) ∧ v12 = .int .i64 0 ∧ New w wc ∧ Blk wc b0 28 #[.int .i64 kind, .int .i64 entry, .string image, .slice a1 n1 c1, .slice a2 n2 c2, .slice a3 n3 c3, .slice a4 n4 c4, .slice a5 n5 c5] ∧ Blk wc b1 32 #[.int .i64 pp, .int .i64 po, .string pi, .int .i64 pl, .slice pa pn pc] ∧ Blk wc b7 38 #[.int .u32 (V : Int), .string O, .int .i64 (k : Int)] ∧ Blk wc b9 38 #[.int .u32 (V : Int), .string O, .int .i64 (k : Int)] ∧ Blk wc b8 38 #[.int .u32 (V : Int), .string O, .int .i64 (k : Int)])
        case first =>
          go_wp2_with (fail)
          refine wp_region_held_drew (S := fun W => Blk W b0 28 #[.int .i64 kind, .int .i64 entry, .string image, .slice a1 n1 c1, .slice a2 n2 c2, .slice a3 n3 c3, .slice a4 n4 c4, .slice a5 n5 c5] ∧ Blk W b1 32 #[.int .i64 pp, .int .i64 po, .string pi, .int .i64 pl, .slice pa pn pc] ∧ Blk W b7 38 #[.int .u32 (V : Int), .string O, .int .i64 (k : Int)]) (by kernel_rfl) ⟨P0, P1, P7⟩ (fun hS => ?_)
          have K0 := Blk.drew P0
          have K1 := Blk.drew P1
          have K7 := Blk.drew P7
          have K8 := Blk.drew P8
          have nC := New.drew nX
          generalize wc.drew = wC at *
          refine tkT 0 (v := ?v201) hS (fun wq hSq => ?y201) ?_; (case y201 => have hf0 := hSq.1.cell' 0 _ rfl; have hf1 := hSq.1.cell' 1 _ rfl; have hf2 := hSq.1.cell' 2 _ rfl; have hf3 := hSq.1.cell' 3 _ rfl; have hf4 := hSq.1.cell' 4 _ rfl; have hf5 := hSq.1.cell' 5 _ rfl; have hf6 := hSq.1.cell' 6 _ rfl; have hf7 := hSq.1.cell' 7 _ rfl; have hf8 := hSq.2.1.cell' 0 _ rfl; have hf9 := hSq.2.1.cell' 1 _ rfl; have hf10 := hSq.2.1.cell' 2 _ rfl; have hf11 := hSq.2.1.cell' 3 _ rfl; have hf12 := hSq.2.1.cell' 4 _ rfl; have hf13 := hSq.2.2.cell' 0 _ rfl; have hf14 := hSq.2.2.cell' 1 _ rfl; have hf15 := hSq.2.2.cell' 2 _ rfl; clear hSq; go_simp; (try with_reducible rfl)); simp only [Act.put, gqD, gqE, gqF]
          refine tkT 1 (v := ?v202) hS (fun wq hSq => ?y202) ?_; (case y202 => clear hSq; go_simp; (try with_reducible rfl)); simp only [Act.put, gqD, gqE, gqF]
          refine tkT 2 (v := ?v203) hS (fun wq hSq => ?y203) ?_; (case y203 => clear hSq; go_simp; (try with_reducible rfl)); simp only [Act.put, gqD, gqE, gqF]
          refine tkT 4 (v := ?v204) hS (fun wq hSq => ?y204) ?_; (case y204 => clear hSq; go_simp; (try with_reducible rfl)); simp only [Act.put, gqD, gqE, gqF]
          refine tkT 8 (v := ?v205) hS (fun wq hSq => ?y205) ?_; (case y205 => clear hSq; go_simp; (try with_reducible rfl)); simp only [Act.put, gqD, gqE, gqF]
          refine tkT 3 (v := ?v206) hS (fun wq hSq => ?y206) ?_; (case y206 => have hf0 := hSq.1.cell' 0 _ rfl; have hf1 := hSq.1.cell' 1 _ rfl; have hf2 := hSq.1.cell' 2 _ rfl; have hf3 := hSq.1.cell' 3 _ rfl; have hf4 := hSq.1.cell' 4 _ rfl; have hf5 := hSq.1.cell' 5 _ rfl; have hf6 := hSq.1.cell' 6 _ rfl; have hf7 := hSq.1.cell' 7 _ rfl; have hf8 := hSq.2.1.cell' 0 _ rfl; have hf9 := hSq.2.1.cell' 1 _ rfl; have hf10 := hSq.2.1.cell' 2 _ rfl; have hf11 := hSq.2.1.cell' 3 _ rfl; have hf12 := hSq.2.1.cell' 4 _ rfl; have hf13 := hSq.2.2.cell' 0 _ rfl; have hf14 := hSq.2.2.cell' 1 _ rfl; have hf15 := hSq.2.2.cell' 2 _ rfl; clear hSq; go_simp; (try with_reducible rfl)); simp only [Act.put, gqD, gqE, gqF]
          refine tkT 5 (v := ?v207) hS (fun wq hSq => ?y207) ?_; (case y207 => have hf0 := hSq.1.cell' 0 _ rfl; have hf1 := hSq.1.cell' 1 _ rfl; have hf2 := hSq.1.cell' 2 _ rfl; have hf3 := hSq.1.cell' 3 _ rfl; have hf4 := hSq.1.cell' 4 _ rfl; have hf5 := hSq.1.cell' 5 _ rfl; have hf6 := hSq.1.cell' 6 _ rfl; have hf7 := hSq.1.cell' 7 _ rfl; have hf8 := hSq.2.1.cell' 0 _ rfl; have hf9 := hSq.2.1.cell' 1 _ rfl; have hf10 := hSq.2.1.cell' 2 _ rfl; have hf11 := hSq.2.1.cell' 3 _ rfl; have hf12 := hSq.2.1.cell' 4 _ rfl; have hf13 := hSq.2.2.cell' 0 _ rfl; have hf14 := hSq.2.2.cell' 1 _ rfl; have hf15 := hSq.2.2.cell' 2 _ rfl; clear hSq; go_simp; (try with_reducible rfl)); simp only [Act.put, gqD, gqE, gqF]
          refine tkT 9 (v := ?v208) hS (fun wq hSq => ?y208) ?_; (case y208 => have hf0 := hSq.1.cell' 0 _ rfl; have hf1 := hSq.1.cell' 1 _ rfl; have hf2 := hSq.1.cell' 2 _ rfl; have hf3 := hSq.1.cell' 3 _ rfl; have hf4 := hSq.1.cell' 4 _ rfl; have hf5 := hSq.1.cell' 5 _ rfl; have hf6 := hSq.1.cell' 6 _ rfl; have hf7 := hSq.1.cell' 7 _ rfl; have hf8 := hSq.2.1.cell' 0 _ rfl; have hf9 := hSq.2.1.cell' 1 _ rfl; have hf10 := hSq.2.1.cell' 2 _ rfl; have hf11 := hSq.2.1.cell' 3 _ rfl; have hf12 := hSq.2.1.cell' 4 _ rfl; have hf13 := hSq.2.2.cell' 0 _ rfl; have hf14 := hSq.2.2.cell' 1 _ rfl; have hf15 := hSq.2.2.cell' 2 _ rfl; clear hSq; go_simp; (try with_reducible rfl)); simp only [Act.put, gqD, gqE, gqF]
          refine tkT 6 (v := ?v209) hS (fun wq hSq => ?y209) ?_; (case y209 => clear hSq; go_simp; (try with_reducible rfl)); simp only [Act.put, gqD, gqE, gqF]
          refine tkT 7 (v := ?v210) hS (fun wq hSq => ?y210) ?_; (case y210 => clear hSq; go_simp; (try with_reducible rfl)); simp only [Act.put, gqD, gqE, gqF]
          refine wpAnyH_ready (rs := [10, 14]) (by kernel_rfl) (by simp) ?_
          refine AllReadyH.cons (o := ?oi211) ?hi211 (fun K hK => ?_) (AllReadyH.cons (o := ?oi212) ?hi212 (fun K hK => ?_) AllReadyH.nil)
          case hi211 => (simp only [gqA, gqB, gqC]; rfl)
          case hi212 => (simp only [gqA, gqB, gqC]; rfl)
          · go_simp
            with_reducible refine (HRB.out _ nC).mono ?_
            rintro e wD ⟨rfl, mD⟩
            replace K0 := K0.new mD
            replace K1 := K1.new mD
            replace K7 := K7.new mD
            replace K8 := K8.new mD
            replace nC := nC.trans mD
            clear mD
            clear hS
            skip
            refine hK.out _ _ (⟨K0, K1, K7⟩) (fun hS => ?_)
            clear hK K
            obtain ⟨wC, rfl⟩ : ∃ wC : World, wC = wD := ⟨_, rfl⟩
            refine tkT 11 (v := ?v213) hS (fun wq hSq => ?y213) ?_; (case y213 => clear hSq; go_simp; (try with_reducible rfl)); simp only [Act.put, gqD, gqE, gqF]
            refine tkT 12 (v := ?v214) hS (fun wq hSq => ?y214) ?_; (case y214 => clear hSq; go_simp; (try with_reducible rfl)); simp only [Act.put, gqD, gqE, gqF]
            refine tkT 13 (v := ?v215) hS (fun wq hSq => ?y215) ?_; (case y215 => clear hSq; go_simp; (try with_reducible rfl)); simp only [Act.put, gqD, gqE, gqF]
            refine wpAnyH_ready (rs := [14]) (by kernel_rfl) (by simp) ?_
            refine AllReadyH.cons (o := ?oi216) ?hi216 (fun K hK => ?_) AllReadyH.nil
            case hi216 => (simp only [gqA, gqB, gqC]; rfl)
            go_simp
            refine hK.out _ _ (⟨K0.alloc _, K1.alloc _, K7.alloc _⟩) (fun hS => ?_)
            clear hK K
            have H9 := Lib.hid nC.size
            have qK0 := Nat.ne_of_lt K0.lt
            have qK1 := Nat.ne_of_lt K1.lt
            have qK7 := Nat.ne_of_lt K7.lt
            have qK8 := Nat.ne_of_lt K8.lt
            replace K0 := K0.alloc (.cells #[.int .u32 0, .string ⟨#[]⟩, .int .i64 0] 38)
            replace K1 := K1.alloc (.cells #[.int .u32 0, .string ⟨#[]⟩, .int .i64 0] 38)
            replace K7 := K7.alloc (.cells #[.int .u32 0, .string ⟨#[]⟩, .int .i64 0] 38)
            replace K8 := K8.alloc (.cells #[.int .u32 0, .string ⟨#[]⟩, .int .i64 0] 38)
            have D9 := Blk.made wC 38 #[.int .u32 0, .string ⟨#[]⟩, .int .i64 0]
            replace nC := nC.alloc (.cells #[.int .u32 0, .string ⟨#[]⟩, .int .i64 0] 38)
            generalize wC.alloc (.cells #[.int .u32 0, .string ⟨#[]⟩, .int .i64 0] 38) = wA at *
            generalize wC.heap.size = b9 at *
            obtain ⟨wC, rfl⟩ : ∃ wC : World, wC = wA := ⟨_, rfl⟩
            refine wpAnyH_ready (rs := [15]) (by kernel_rfl) (by simp) ?_
            refine AllReadyH.cons (o := ?oi217) ?hi217 (fun K hK => ?_) AllReadyH.nil
            case hi217 => (simp only [gqA, gqB, gqC]; rfl)
            have y0 := D9.cell' 0 _ rfl
            have y1 := D9.cell' 1 _ rfl
            have y2 := D9.cell' 2 _ rfl
            have z0 := D9.free 0
            have z1 := D9.free 1
            have z2 := D9.free 2
            go_simp
            have E9 := ((D9.put 0 (.int .u32 (V : Int))).put 1 (.string O)).put 2 (.int .i64 (k : Int))
            have EK0 := ((K0.far (p := ⟨b9, 0, none⟩) qK0 (.int .u32 (V : Int))).far (p := ⟨b9, 1, none⟩) qK0 (.string O)).far (p := ⟨b9, 2, none⟩) qK0 (.int .i64 (k : Int))
            have EK1 := ((K1.far (p := ⟨b9, 0, none⟩) qK1 (.int .u32 (V : Int))).far (p := ⟨b9, 1, none⟩) qK1 (.string O)).far (p := ⟨b9, 2, none⟩) qK1 (.int .i64 (k : Int))
            have EK7 := ((K7.far (p := ⟨b9, 0, none⟩) qK7 (.int .u32 (V : Int))).far (p := ⟨b9, 1, none⟩) qK7 (.string O)).far (p := ⟨b9, 2, none⟩) qK7 (.int .i64 (k : Int))
            have EK8 := ((K8.far (p := ⟨b9, 0, none⟩) qK8 (.int .u32 (V : Int))).far (p := ⟨b9, 1, none⟩) qK8 (.string O)).far (p := ⟨b9, 2, none⟩) qK8 (.int .i64 (k : Int))
            have nE := ((nC.setCell (p := ⟨b9, 0, none⟩) H9.out (.int .u32 (V : Int))).setCell (p := ⟨b9, 1, none⟩) H9.out (.string O)).setCell (p := ⟨b9, 2, none⟩) H9.out (.int .i64 (k : Int))
            refine hK.out _ _ (⟨EK0, EK1, EK7⟩) (fun hS => ?_)
            clear hK K
            refine tkT 16 (v := ?v218) hS (fun wq hSq => ?y218) ?_; (case y218 => clear hSq; go_simp; (try with_reducible rfl)); simp only [Act.put, gqD, gqE, gqF]
            refine wpAnyH_done (by kernel_rfl) ?_ _
            go_wp2
            go_meet
            case rel => exact ⟨b9, rfl, rfl, nE, EK0, EK1, EK7, E9, EK8⟩
          · go_simp
            refine hK.out _ _ (⟨K0.alloc _, K1.alloc _, K7.alloc _⟩) (fun hS => ?_)
            clear hK K
            have H9 := Lib.hid nC.size
            have qK0 := Nat.ne_of_lt K0.lt
            have qK1 := Nat.ne_of_lt K1.lt
            have qK7 := Nat.ne_of_lt K7.lt
            have qK8 := Nat.ne_of_lt K8.lt
            replace K0 := K0.alloc (.cells #[.int .u32 0, .string ⟨#[]⟩, .int .i64 0] 38)
            replace K1 := K1.alloc (.cells #[.int .u32 0, .string ⟨#[]⟩, .int .i64 0] 38)
            replace K7 := K7.alloc (.cells #[.int .u32 0, .string ⟨#[]⟩, .int .i64 0] 38)
            replace K8 := K8.alloc (.cells #[.int .u32 0, .string ⟨#[]⟩, .int .i64 0] 38)
            have D9 := Blk.made wC 38 #[.int .u32 0, .string ⟨#[]⟩, .int .i64 0]
            replace nC := nC.alloc (.cells #[.int .u32 0, .string ⟨#[]⟩, .int .i64 0] 38)
            generalize wC.alloc (.cells #[.int .u32 0, .string ⟨#[]⟩, .int .i64 0] 38) = wA at *
            generalize wC.heap.size = b9 at *
            obtain ⟨wC, rfl⟩ : ∃ wC : World, wC = wA := ⟨_, rfl⟩
            refine wpAnyH_ready (rs := [10]) (by kernel_rfl) (by simp) ?_
            refine AllReadyH.cons (o := ?oi219) ?hi219 (fun K hK => ?_) AllReadyH.nil
            case hi219 => (simp only [gqA, gqB, gqC]; rfl)
            go_simp
            with_reducible refine (HRB.out _ nC).mono ?_
            rintro e wD ⟨rfl, mD⟩
            replace K0 := K0.new mD
            replace K1 := K1.new mD
            replace K7 := K7.new mD
            replace K8 := K8.new mD
            replace D9 := D9.new mD
            replace nC := nC.trans mD
            clear mD
            clear hS
            skip
            refine hK.out _ _ (⟨K0, K1, K7⟩) (fun hS => ?_)
            clear hK K
            obtain ⟨wC, rfl⟩ : ∃ wC : World, wC = wD := ⟨_, rfl⟩
            refine tkT 11 (v := ?v220) hS (fun wq hSq => ?y220) ?_; (case y220 => clear hSq; go_simp; (try with_reducible rfl)); simp only [Act.put, gqD, gqE, gqF]
            refine tkT 12 (v := ?v221) hS (fun wq hSq => ?y221) ?_; (case y221 => clear hSq; go_simp; (try with_reducible rfl)); simp only [Act.put, gqD, gqE, gqF]
            refine tkT 13 (v := ?v222) hS (fun wq hSq => ?y222) ?_; (case y222 => clear hSq; go_simp; (try with_reducible rfl)); simp only [Act.put, gqD, gqE, gqF]
            refine wpAnyH_ready (rs := [15]) (by kernel_rfl) (by simp) ?_
            refine AllReadyH.cons (o := ?oi223) ?hi223 (fun K hK => ?_) AllReadyH.nil
            case hi223 => (simp only [gqA, gqB, gqC]; rfl)
            have y0 := D9.cell' 0 _ rfl
            have y1 := D9.cell' 1 _ rfl
            have y2 := D9.cell' 2 _ rfl
            have z0 := D9.free 0
            have z1 := D9.free 1
            have z2 := D9.free 2
            go_simp
            have E9 := ((D9.put 0 (.int .u32 (V : Int))).put 1 (.string O)).put 2 (.int .i64 (k : Int))
            have EK0 := ((K0.far (p := ⟨b9, 0, none⟩) qK0 (.int .u32 (V : Int))).far (p := ⟨b9, 1, none⟩) qK0 (.string O)).far (p := ⟨b9, 2, none⟩) qK0 (.int .i64 (k : Int))
            have EK1 := ((K1.far (p := ⟨b9, 0, none⟩) qK1 (.int .u32 (V : Int))).far (p := ⟨b9, 1, none⟩) qK1 (.string O)).far (p := ⟨b9, 2, none⟩) qK1 (.int .i64 (k : Int))
            have EK7 := ((K7.far (p := ⟨b9, 0, none⟩) qK7 (.int .u32 (V : Int))).far (p := ⟨b9, 1, none⟩) qK7 (.string O)).far (p := ⟨b9, 2, none⟩) qK7 (.int .i64 (k : Int))
            have EK8 := ((K8.far (p := ⟨b9, 0, none⟩) qK8 (.int .u32 (V : Int))).far (p := ⟨b9, 1, none⟩) qK8 (.string O)).far (p := ⟨b9, 2, none⟩) qK8 (.int .i64 (k : Int))
            have nE := ((nC.setCell (p := ⟨b9, 0, none⟩) H9.out (.int .u32 (V : Int))).setCell (p := ⟨b9, 1, none⟩) H9.out (.string O)).setCell (p := ⟨b9, 2, none⟩) H9.out (.int .i64 (k : Int))
            refine hK.out _ _ (⟨EK0, EK1, EK7⟩) (fun hS => ?_)
            clear hK K
            refine tkT 16 (v := ?v224) hS (fun wq hSq => ?y224) ?_; (case y224 => clear hSq; go_simp; (try with_reducible rfl)); simp only [Act.put, gqD, gqE, gqF]
            refine wpAnyH_done (by kernel_rfl) ?_ _
            go_wp2
            go_meet
            case rel => exact ⟨b9, rfl, rfl, nE, EK0, EK1, EK7, E9, EK8⟩
        case rest =>
          obtain ⟨b9, rfl, rfl, nY, Q0, Q1, Q7, Q9, Q8⟩ := hcut
          have z0 := Q7.cell' 0 _ rfl
          have u0 := Q8.cell' 0 _ rfl
          have s0 := Q9.cell' 0 _ rfl
          have z1 := Q7.cell' 1 _ rfl
          have u1 := Q8.cell' 1 _ rfl
          have s1 := Q9.cell' 1 _ rfl
          have z2 := Q7.cell' 2 _ rfl
          have u2 := Q8.cell' 2 _ rfl
          have s2 := Q9.cell' 2 _ rfl
          go_wp2
          go_ret
          exact ⟨rfl, nY⟩
  · have te : (R0.e != 0) = true := bne_iff_ne.2 he
    generalize R0.e = e0 at *
    generalize R0.value = V at *
    generalize S R0.out = O at *
    generalize R0.steps = k at *
    clear he
    go_wp2
    go_ret
    exact ⟨rfl, n3c⟩
end Go.Proofs.YtnjampfhkojbnaaGreatDoor

