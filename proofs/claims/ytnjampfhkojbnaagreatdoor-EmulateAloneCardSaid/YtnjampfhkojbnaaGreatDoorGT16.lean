/- A step of the run: instructions of two bytes. Conditions: sizes. (Printed by mk-t16.py.) -/
import Derived.Test.YtnjampfhkojbnaaGreatDoorGBase
import Derived.Test.YtnjampfhkojbnaaGreatDoorGT14
import Derived.Laws.EntriesVeiled
import Derived.Shelf.Abstract

namespace Go.Proofs.YtnjampfhkojbnaaGreatDoor
open Go Go.RowKit Go.Shelf
set_option linter.unusedSimpArgs false
set_option linter.unusedVariables false

section
variable {w0 w : World} {m g mc r : Nat} {PL : Value} {s : Mc} {qs : List Nat} {q C : Nat} {VA V FV OV : Value} {n : Int} {val : Nat}
theorem RM.farSet {i GX : Nat} {u : Value} {cs : Array Value} (h : RM w0 w m g mc r PL s qs q C VA V FV OV n val) (hX : Blk w GX 135 cs) (h0 : w0.heap.size ≤ GX) : RM w0 (w.setCell ⟨GX, i, none⟩ u) m g mc r PL s qs q C VA V FV OV n val := by
  have hb : w.heap[GX]? = some (.cells cs 135 (0, 0)) := hX
  have hg0 := h.g0
  have hm0 := h.m0
  have hr : w.heap[r]? = some (.cells #[.pointer (some ⟨m, 0, none⟩), FV, .string (S s.inp), OV, .int .i64 n, .int .u32 (val : Int)] tRun (0, 0)) := h.run
  have kr : r ≠ GX := fun e => by subst e; rw [hr] at hb; injection hb with hb; injection hb with _ hb; exact absurd hb (by decide)
  exact ⟨grown_set h.gr u h0, h.g0, h.m0, h.mach.far (by simp only; omega) u, own_far u h.mem (fun e => by injection e with e; simp only at e; omega), h.r0, h.run.far kr u, own_far u h.fr (own_apart h.fr hb (by decide)), own_far u h.ou (own_apart h.ou hb (by decide)), h.ly.keep (Kp.setT u hb (by decide) (by decide)), by rw [set_size]; exact h.top.keep (Kp.setT u hb (by decide) (by decide))⟩
theorem le_tt {a b : Nat} (h : a ≤ b) : decide (a ≤ b) = true := decide_eq_true h
theorem le_ff {a b : Nat} (h : ¬ a ≤ b) : decide (a ≤ b) = false := decide_eq_false h
theorem byte_conv {x : Nat} (h : x < 256) : (x : Int) % 4294967296 = (x : Int) := by omega
theorem byte_i64 {x : Nat} (h : x < 256) : IntKind.i64.wrap (x : Int) = (x : Int) := IntWalk.i64_in _ (by omega)
theorem sum_i64 {x t : Nat} (h : x < 256) (ht : t ≤ 10) : IntKind.i64.wrap ((t : Int) + (x : Int)) = (t : Int) + (x : Int) := IntWalk.i64_in _ (by omega)
theorem lt_sum {a b c : Nat} (h : a < b + c) : decide ((a : Int) < (b : Int) + (c : Int)) = true := by rw [decide_eq_true_iff]; omega
theorem lt_sumf {a b c : Nat} (h : ¬ a < b + c) : decide ((a : Int) < (b : Int) + (c : Int)) = false := by rw [decide_eq_false_iff_not]; omega
theorem p1_lt {M p : Nat} (h : ¬ M < p + 2) : (p : Int) + 1 < (M : Int) := by omega
theorem p1_ltn {M p : Nat} (h : ¬ M < p + 2) : p + 1 < M := by omega
theorem p1_nn (p : Nat) : (0 : Int) ≤ (p : Int) + 1 := by omega
theorem p1_nat (p : Nat) : ((p : Int) + 1).toNat = p + 1 := by omega
theorem bad_2 (n v : Nat) : badV 2 n v = decide (v ≤ n) := by simp [badV]
theorem takes_2 (n : Nat) : insT 2 n = 0 := rfl
theorem bad_3 (n v : Nat) : badV 3 n v = decide (v ≤ n) := by simp [badV]
theorem takes_3 (n : Nat) : insT 3 n = 1 := rfl
theorem bad_8 (n v : Nat) : badV 8 n v = decide (3 ≤ n) := by simp [badV]
theorem takes_8 (n : Nat) : insT 8 n = 1 := rfl
theorem bad_9 (n v : Nat) : badV 9 n v = decide (18 ≤ n) := by simp [badV]
theorem takes_9 (n : Nat) : insT 9 n = 2 := rfl
theorem bad_12 (n v : Nat) : badV 12 n v = false := by simp [badV]
theorem takes_12 (n : Nat) : insT 12 n = 1 + n := rfl
set_option maxRecDepth 100000 in
set_option maxHeartbeats 16000000 in
theorem step_2 (p : Nat) (L : Int) (h : RM w0 w m g mc r PL s qs q C VA V FV OV n val) (hd : s.low.length ≤ 64) (hn : n ≠ L) (hn0 : 0 ≤ n) (hn1 : n ≤ 1000000) (hp : s.top.pc = (p : Int)) (hp2 : p < s.mem.length) (hK : byteN s.mem p = 2) (hm : s.mem.length ≤ 1000000000)
    (HDO : ∀ (W : World), insT 2 (byteN s.mem (p + 1)) ≤ s.top.vals.length → badV 2 (byteN s.mem (p + 1)) s.top.vars.length = false → RM w0 W m g mc r PL { s with top := { s.top with pc := (p : Int) + 2 } } qs q C VA V FV OV (n + 1) val → Calls Tryz.prog 89 #[.pointer (some ⟨r, 0, none⟩), .int .u32 (byteN s.mem (p + 1) : Int)] W (DoP w0 m g mc r PL (n + 1) (execV 2 (byteN s.mem (p + 1)) { s with top := { s.top with pc := (p : Int) + 2 } }))) :
    Calls Tryz.prog 38 #[.pointer (some ⟨r, 0, none⟩), .int .i64 L] w (DoP w0 m g mc r PL (n + 1) (stepV s)) := by
  have hO := step_eq hp hp2 hK (by decide) (by decide)
  rw [show insB 2 = 2 from rfl, show ((2 : Nat) : Int) = 2 from rfl, show operV s.mem 2 p = byteN s.mem (p + 1) from rfl, bad_2, takes_2] at hO
  have HDO2 := fun (W : World) h1 h2 h3 => HDO W (by rw [takes_2]; exact h1) (by rw [bad_2]; exact h2) h3
  clear HDO
  have ob := byteN_lt s.mem (p + 1)
  obtain ⟨op, hop⟩ : ∃ op, byteN s.mem (p + 1) = op := ⟨_, rfl⟩
  have HOPB := Lib.hid hop
  rw [hop] at hO HDO2 ob
  have o1 := byte_conv ob
  have o2 := byte_i64 ob
  have k1 : IntKind.i64.wrap ((p : Int) + 2) = (p : Int) + 2 := i64_small (by omega) (by omega)
  have kp1 : IntKind.i64.wrap ((p : Int) + 1) = (p : Int) + 1 := i64_small (by omega) (by omega)
  have kn : IntKind.i64.wrap (n + 1) = n + 1 := i64_small (by omega) (by omega)
  generalize stepV s = O at *
  have HO := Lib.hid hO
  have HD := Lib.hid HDO2
  clear hO HDO2 hop
  obtain ⟨TT, hTT⟩ : ∃ TT : Nat, 0 = TT := ⟨_, rfl⟩
  have HTT := Lib.hid hTT
  have hT9 : TT ≤ 10 := by omega
  have HT9 := Lib.hid hT9
  clear hTT hT9
  have hq : qs.length ≤ 1000 := by rw [h.ly.len]; omega
  have HT := Lib.hid (fun (W : World) (hR : RM w0 W m g mc r PL s qs q C VA V FV OV n val) => top_any hR hq)
  obtain ⟨M, hM⟩ : ∃ M, s.mem.length = M := ⟨_, rfl⟩
  have HM := Lib.hid hM
  rw [hM] at hp2 hm
  obtain ⟨AA, ca, rfl, _⟩ := own_form h.top.va
  obtain ⟨AV, cv, rfl, _⟩ := own_form h.top.vs
  obtain ⟨NA, hNA⟩ : ∃ NA, s.top.vars.length = NA := ⟨_, rfl⟩
  have HNA := Lib.hid hNA
  obtain ⟨II, hII⟩ : ∃ II : Nat, NA = II := ⟨_, rfl⟩
  have HII := Lib.hid hII
  clear hII
  obtain ⟨NV, hNV⟩ : ∃ NV, s.top.vals.length = NV := ⟨_, rfl⟩
  have HNV := Lib.hid hNV
  have HPC := Lib.hid hp
  have f4 := h.run.cell' 4 _ rfl
  have RC0 := Lib.hid h
  have g0 := (RC0.out.drew).run.cell' 0 _ rfl
  have g1 := (RC0.out.drew).mem_len hM
  have t0 := nel_f hn
  have t1 : decide ((p : Int) < 0) = false := nat_f p
  have t2 := le_f hp2
  have i1 : (p : Int) < (M : Int) := by omega
  have i2 : (0 : Int) ≤ (p : Int) := by omega
  have HKB := Lib.hid hK
  have HP2 := Lib.hid hp2
  clear h hq hM hNA hNV hp hn hK hd
  go_enter Tryz.func38, Tryz.ntmps38
  go_wp2_with (fail)
  refine wp_region_held_drew (S := fun W => W.cell? ⟨r, 0, none⟩ = some (.pointer (some ⟨m, 0, none⟩)) ∧ W.cell? ⟨m, 0, none⟩ = some (.slice (some ⟨g, 0, none⟩) M mc)) (by kernel_rfl) ⟨g0, g1⟩ (fun hS => ?_)
  have RC := Lib.hid RC0.out.drew
  clear g0 g1 f4
  generalize w.drew = wC at *
  clear RC0
  refine tkT 0 (v := ?v1) hS (fun wq hSq => ?y1) ?_; (case y1 => clear hSq; go_simp; (try with_reducible rfl)); simp only [Act.put, gqD, gqE, gqF]
  refine tkT 2 (v := ?v2) hS (fun wq hSq => ?y2) ?_; (case y2 => clear hSq; go_simp; (try with_reducible rfl)); simp only [Act.put, gqD, gqE, gqF]
  refine tkT 3 (v := ?v3) hS (fun wq hSq => ?y3) ?_; (case y3 => clear hSq; go_simp; (try with_reducible rfl)); simp only [Act.put, gqD, gqE, gqF]
  refine tkT 4 (v := ?v4) hS (fun wq hSq => ?y4) ?_; (case y4 => clear hSq; go_simp; (try with_reducible rfl)); simp only [Act.put, gqD, gqE, gqF]
  refine tkT 5 (v := ?v5) hS (fun wq hSq => ?y5) ?_; (case y5 => have hf0 := hSq.1; have hf1 := hSq.2; clear hSq; go_simp; (try with_reducible rfl)); simp only [Act.put, gqD, gqE, gqF]
  refine tkT 6 (v := ?v6) hS (fun wq hSq => ?y6) ?_; (case y6 => clear hSq; go_simp; (try with_reducible rfl)); simp only [Act.put, gqD, gqE, gqF]
  refine tkT 7 (v := ?v7) hS (fun wq hSq => ?y7) ?_; (case y7 => clear hSq; go_simp; (try with_reducible rfl)); simp only [Act.put, gqD, gqE, gqF]
  refine tkT 8 (v := ?v8) hS (fun wq hSq => ?y8) ?_; (case y8 => have hf0 := hSq.1; have hf1 := hSq.2; clear hSq; go_simp; (try with_reducible rfl)); simp only [Act.put, gqD, gqE, gqF]
  refine wpAnyH_ready (rs := [1]) (by kernel_rfl) (by simp) ?_
  refine AllReadyH.cons (o := ?oi9) ?hi9 (fun K hK => ?_) AllReadyH.nil
  case hi9 => (simp only [gqA, gqB, gqC]; rfl)
  go_simp
  with_reducible refine (HT.out _ RC.out).mono ?_
  rintro e wD ⟨rfl, nD⟩
  have RC := Lib.hid (RC.out.new nD)
  refine hK.out _ _ (⟨RC.out.run.cell' 0 _ rfl, RC.out.mem_len HM.out⟩) (fun hS => ?_)
  clear hK K
  refine tkT 9 (v := ?v10) hS (fun wq hSq => ?y10) ?_; (case y10 => clear hSq; go_simp; (try with_reducible rfl)); simp only [Act.put, gqD, gqE, gqF]
  refine tkT 10 (v := ?v11) hS (fun wq hSq => ?y11) ?_; (case y11 => clear hSq; go_simp; (try with_reducible rfl)); simp only [Act.put, gqD, gqE, gqF]
  refine wpAnyH_done (by kernel_rfl) ?_ _
  have f2 := RC.out.pc_at HPC.out
  have f0 := RC.out.va_len HNA.out
  go_wp2_with (go_at_call 59; (with_reducible refine (ins_any NA _).mono ?_); rintro e wE ⟨P, rfl, nE, hI'⟩; have RC := Lib.hid (RC.out.new nE); have hI := hI' 2 (by decide) (by decide); have c0 : wE.cell? ⟨P, 8, none⟩ = some (.int .i64 2) := hI.c0; have c1 : wE.cell? ⟨P, 9, none⟩ = some (.int .i64 (TT : Int)) := (by rw [← HTT.out]; exact hI.c1); have c2 : wE.cell? ⟨P, 10, none⟩ = some (.int .i64 (II : Int)) := (by rw [← HII.out]; exact hI.c2); have c3 : wE.cell? ⟨P, 11, none⟩ = some (.func (.func 89) #[] #[]) := hI.c3; clear hI' hI; have f2 := cellN nE f2; have fg : wE.cell? ⟨g, p, none⟩ = some (.int .u8 2) := RC.out.byte_at HM.out HP2.out HKB.out)
  have X := Blk.made wE 135 #[.int .i64 2, .int .i64 (TT : Int), .int .i64 (II : Int), .func (.func 89) #[] #[]]
  have RCE := RC
  have RC := Lib.hid (RC.out.new ((New.refl wE).alloc (.cells #[.int .i64 2, .int .i64 (TT : Int), .int .i64 (II : Int), .func (.func 89) #[] #[]] 135)))
  clear f2 f0 fg c0 c1 c2 c3 i1 i2 t0 t1 t2
  have hqG : q < wE.heap.size := RCE.out.lo.2.2
  have hrG : r < wE.heap.size := RCE.out.run.lt
  have hG0 : w0.heap.size ≤ wE.heap.size := RCE.out.gr.size
  generalize wE.alloc (.cells #[.int .i64 2, .int .i64 (TT : Int), .int .i64 (II : Int), .func (.func 89) #[] #[]] 135) = wX at *
  generalize wE.heap.size = GX at *
  have HG0 := Lib.hid hG0
  have nq1 := ne_gt hqG
  have nr1 := ne_gt hrG
  have x0 := X.cell' 0 _ rfl
  have f2 := RC.out.pc_at HPC.out
  clear hqG hrG RCE hG0
  go_quiet (fail)
  have RC := Lib.hid (RC.out.new ((New.refl wX).drewN nq))
  have X := X.new ((New.refl wX).drewN nq)
  clear x0 f2
  generalize wX.drewN nq = wY at *
  by_cases e3' : M < p + 2
  · have t6 : decide ((M : Int) < (p : Int) + 2) = true := lt_tt e3'
    have hO := HO.out
    rw [if_pos (by rw [HM.out]; exact e3')] at hO
    have HO := Lib.hid hO
    clear hO
    (repeat go_step)
    go_ret
    rw [HO.out]
    exact RC.out.err 3
  have t6 : decide ((M : Int) < (p : Int) + 2) = false := lt_ff e3'
  have hO := HO.out
  rw [if_neg (by rw [HM.out]; exact e3')] at hO
  have HO := Lib.hid hO
  clear hO
  have x0 := X.cell' 0 _ rfl
  have x1 := X.cell' 1 _ rfl
  have x2 := X.cell' 2 _ rfl
  have f2 := RC.out.pc_at HPC.out
  have fg : wY.cell? ⟨g, p + 1, none⟩ = some (.int .u8 (op : Int)) := RC.out.byte_at HM.out (p1_ltn e3') HOPB.out
  have q1 := p1_lt e3'
  have q2 := p1_nn p
  have q3 := p1_nat p
  by_cases e5 : II ≤ op
  · have t8 := le_tt e5
    have hO := HO.out
    rw [if_pos (decide_eq_true (by rw [HNA.out, HII.out]; exact e5))] at hO
    have HO := Lib.hid hO
    clear hO
    (repeat go_step)
    go_ret
    rw [HO.out]
    exact RC.out.err 17
  have t8 := le_ff e5
  have hO := HO.out
  rw [if_neg (by rw [decide_eq_true_iff, HNA.out, HII.out]; exact e5)] at hO
  have HE5 := Lib.hid (decide_eq_false (show ¬ _ from (by rw [HNA.out, HII.out]; exact e5 : ¬ s.top.vars.length ≤ op)))
  have HO := Lib.hid hO
  clear hO
  (repeat go_step)
  clear x0 x1 x2 f2 fg
  have x1 := X.cell' 1 _ rfl
  have f1 := RC.out.vs_len HNV.out
  go_quiet (fail)
  have RC := Lib.hid (RC.out.new ((New.refl wY).drewN nq))
  have X := X.new ((New.refl wY).drewN nq)
  clear x1 f1 t6
  generalize wY.drewN nq = wZ at *
  by_cases e4 : NV < TT
  · have t7 := lt_t e4
    have hO := HO.out
    rw [if_pos (by rw [HNV.out, HTT.out]; exact e4)] at hO
    have HO := Lib.hid hO
    clear hO
    (repeat go_step)
    go_ret
    rw [HO.out]
    exact RC.out.err 14
  have t7 := lt_f e4
  have hO := HO.out
  rw [if_neg (by rw [HNV.out, HTT.out]; exact e4)] at hO
  have HO := Lib.hid hO
  have HE4 := Lib.hid (show 0 ≤ s.top.vals.length by rw [HNV.out, HTT.out]; exact Nat.le_of_not_lt e4)
  clear hO
  (repeat go_step)
  have x0 := X.cell' 0 _ rfl
  have f2 := RC.out.pc_at HPC.out
  have z2 := RC.out.top.blk.free 2
  go_still_tail 9, (by kernel_rfl)
  have RC := Lib.hid (RC.out.new (New.refl wZ).drew)
  have X := X.drew
  change wpList _ _ _ _ _ wZ.drew
  clear x0 f2 z2
  generalize wZ.drew = wW at *
  have z2 := RC.out.top.blk.free 2
  have f2 := RC.out.pc_at HPC.out
  have f4 := RC.out.run.cell' 4 _ rfl
  have z4 := RC.out.run.free 4
  have x3 := X.cell' 3 _ rfl
  have RC := Lib.hid ((RC.out.setPc ((p : Int) + 2)).setSteps (n + 1))
  (repeat go_step)
  refine (HD.out _ HE4.out HE5.out RC.out).mono ?_
  rintro e w9 hO9
  obtain ⟨cc, rfl, hO9⟩ := hO9.ret
  rename_i hK1 _
  refine hK1 _ _ ?_
  (repeat go_step)
  go_ret
  rw [HO.out]
  exact hO9
set_option maxRecDepth 100000 in
set_option maxHeartbeats 16000000 in
theorem step_3 (p : Nat) (L : Int) (h : RM w0 w m g mc r PL s qs q C VA V FV OV n val) (hd : s.low.length ≤ 64) (hn : n ≠ L) (hn0 : 0 ≤ n) (hn1 : n ≤ 1000000) (hp : s.top.pc = (p : Int)) (hp2 : p < s.mem.length) (hK : byteN s.mem p = 3) (hm : s.mem.length ≤ 1000000000)
    (HDO : ∀ (W : World), insT 3 (byteN s.mem (p + 1)) ≤ s.top.vals.length → badV 3 (byteN s.mem (p + 1)) s.top.vars.length = false → RM w0 W m g mc r PL { s with top := { s.top with pc := (p : Int) + 2 } } qs q C VA V FV OV (n + 1) val → Calls Tryz.prog 90 #[.pointer (some ⟨r, 0, none⟩), .int .u32 (byteN s.mem (p + 1) : Int)] W (DoP w0 m g mc r PL (n + 1) (execV 3 (byteN s.mem (p + 1)) { s with top := { s.top with pc := (p : Int) + 2 } }))) :
    Calls Tryz.prog 38 #[.pointer (some ⟨r, 0, none⟩), .int .i64 L] w (DoP w0 m g mc r PL (n + 1) (stepV s)) := by
  have hO := step_eq hp hp2 hK (by decide) (by decide)
  rw [show insB 3 = 2 from rfl, show ((2 : Nat) : Int) = 2 from rfl, show operV s.mem 3 p = byteN s.mem (p + 1) from rfl, bad_3, takes_3] at hO
  have HDO2 := fun (W : World) h1 h2 h3 => HDO W (by rw [takes_3]; exact h1) (by rw [bad_3]; exact h2) h3
  clear HDO
  have ob := byteN_lt s.mem (p + 1)
  obtain ⟨op, hop⟩ : ∃ op, byteN s.mem (p + 1) = op := ⟨_, rfl⟩
  have HOPB := Lib.hid hop
  rw [hop] at hO HDO2 ob
  have o1 := byte_conv ob
  have o2 := byte_i64 ob
  have k1 : IntKind.i64.wrap ((p : Int) + 2) = (p : Int) + 2 := i64_small (by omega) (by omega)
  have kp1 : IntKind.i64.wrap ((p : Int) + 1) = (p : Int) + 1 := i64_small (by omega) (by omega)
  have kn : IntKind.i64.wrap (n + 1) = n + 1 := i64_small (by omega) (by omega)
  generalize stepV s = O at *
  have HO := Lib.hid hO
  have HD := Lib.hid HDO2
  clear hO HDO2 hop
  obtain ⟨TT, hTT⟩ : ∃ TT : Nat, 1 = TT := ⟨_, rfl⟩
  have HTT := Lib.hid hTT
  have hT9 : TT ≤ 10 := by omega
  have HT9 := Lib.hid hT9
  clear hTT hT9
  have hq : qs.length ≤ 1000 := by rw [h.ly.len]; omega
  have HT := Lib.hid (fun (W : World) (hR : RM w0 W m g mc r PL s qs q C VA V FV OV n val) => top_any hR hq)
  obtain ⟨M, hM⟩ : ∃ M, s.mem.length = M := ⟨_, rfl⟩
  have HM := Lib.hid hM
  rw [hM] at hp2 hm
  obtain ⟨AA, ca, rfl, _⟩ := own_form h.top.va
  obtain ⟨AV, cv, rfl, _⟩ := own_form h.top.vs
  obtain ⟨NA, hNA⟩ : ∃ NA, s.top.vars.length = NA := ⟨_, rfl⟩
  have HNA := Lib.hid hNA
  obtain ⟨II, hII⟩ : ∃ II : Nat, NA = II := ⟨_, rfl⟩
  have HII := Lib.hid hII
  clear hII
  obtain ⟨NV, hNV⟩ : ∃ NV, s.top.vals.length = NV := ⟨_, rfl⟩
  have HNV := Lib.hid hNV
  have HPC := Lib.hid hp
  have f4 := h.run.cell' 4 _ rfl
  have RC0 := Lib.hid h
  have g0 := (RC0.out.drew).run.cell' 0 _ rfl
  have g1 := (RC0.out.drew).mem_len hM
  have t0 := nel_f hn
  have t1 : decide ((p : Int) < 0) = false := nat_f p
  have t2 := le_f hp2
  have i1 : (p : Int) < (M : Int) := by omega
  have i2 : (0 : Int) ≤ (p : Int) := by omega
  have HKB := Lib.hid hK
  have HP2 := Lib.hid hp2
  clear h hq hM hNA hNV hp hn hK hd
  go_enter Tryz.func38, Tryz.ntmps38
  go_wp2_with (fail)
  refine wp_region_held_drew (S := fun W => W.cell? ⟨r, 0, none⟩ = some (.pointer (some ⟨m, 0, none⟩)) ∧ W.cell? ⟨m, 0, none⟩ = some (.slice (some ⟨g, 0, none⟩) M mc)) (by kernel_rfl) ⟨g0, g1⟩ (fun hS => ?_)
  have RC := Lib.hid RC0.out.drew
  clear g0 g1 f4
  generalize w.drew = wC at *
  clear RC0
  refine tkT 0 (v := ?v1) hS (fun wq hSq => ?y1) ?_; (case y1 => clear hSq; go_simp; (try with_reducible rfl)); simp only [Act.put, gqD, gqE, gqF]
  refine tkT 2 (v := ?v2) hS (fun wq hSq => ?y2) ?_; (case y2 => clear hSq; go_simp; (try with_reducible rfl)); simp only [Act.put, gqD, gqE, gqF]
  refine tkT 3 (v := ?v3) hS (fun wq hSq => ?y3) ?_; (case y3 => clear hSq; go_simp; (try with_reducible rfl)); simp only [Act.put, gqD, gqE, gqF]
  refine tkT 4 (v := ?v4) hS (fun wq hSq => ?y4) ?_; (case y4 => clear hSq; go_simp; (try with_reducible rfl)); simp only [Act.put, gqD, gqE, gqF]
  refine tkT 5 (v := ?v5) hS (fun wq hSq => ?y5) ?_; (case y5 => have hf0 := hSq.1; have hf1 := hSq.2; clear hSq; go_simp; (try with_reducible rfl)); simp only [Act.put, gqD, gqE, gqF]
  refine tkT 6 (v := ?v6) hS (fun wq hSq => ?y6) ?_; (case y6 => clear hSq; go_simp; (try with_reducible rfl)); simp only [Act.put, gqD, gqE, gqF]
  refine tkT 7 (v := ?v7) hS (fun wq hSq => ?y7) ?_; (case y7 => clear hSq; go_simp; (try with_reducible rfl)); simp only [Act.put, gqD, gqE, gqF]
  refine tkT 8 (v := ?v8) hS (fun wq hSq => ?y8) ?_; (case y8 => have hf0 := hSq.1; have hf1 := hSq.2; clear hSq; go_simp; (try with_reducible rfl)); simp only [Act.put, gqD, gqE, gqF]
  refine wpAnyH_ready (rs := [1]) (by kernel_rfl) (by simp) ?_
  refine AllReadyH.cons (o := ?oi9) ?hi9 (fun K hK => ?_) AllReadyH.nil
  case hi9 => (simp only [gqA, gqB, gqC]; rfl)
  go_simp
  with_reducible refine (HT.out _ RC.out).mono ?_
  rintro e wD ⟨rfl, nD⟩
  have RC := Lib.hid (RC.out.new nD)
  refine hK.out _ _ (⟨RC.out.run.cell' 0 _ rfl, RC.out.mem_len HM.out⟩) (fun hS => ?_)
  clear hK K
  refine tkT 9 (v := ?v10) hS (fun wq hSq => ?y10) ?_; (case y10 => clear hSq; go_simp; (try with_reducible rfl)); simp only [Act.put, gqD, gqE, gqF]
  refine tkT 10 (v := ?v11) hS (fun wq hSq => ?y11) ?_; (case y11 => clear hSq; go_simp; (try with_reducible rfl)); simp only [Act.put, gqD, gqE, gqF]
  refine wpAnyH_done (by kernel_rfl) ?_ _
  have f2 := RC.out.pc_at HPC.out
  have f0 := RC.out.va_len HNA.out
  go_wp2_with (go_at_call 59; (with_reducible refine (ins_any NA _).mono ?_); rintro e wE ⟨P, rfl, nE, hI'⟩; have RC := Lib.hid (RC.out.new nE); have hI := hI' 3 (by decide) (by decide); have c0 : wE.cell? ⟨P, 12, none⟩ = some (.int .i64 2) := hI.c0; have c1 : wE.cell? ⟨P, 13, none⟩ = some (.int .i64 (TT : Int)) := (by rw [← HTT.out]; exact hI.c1); have c2 : wE.cell? ⟨P, 14, none⟩ = some (.int .i64 (II : Int)) := (by rw [← HII.out]; exact hI.c2); have c3 : wE.cell? ⟨P, 15, none⟩ = some (.func (.func 90) #[] #[]) := hI.c3; clear hI' hI; have f2 := cellN nE f2; have fg : wE.cell? ⟨g, p, none⟩ = some (.int .u8 3) := RC.out.byte_at HM.out HP2.out HKB.out)
  have X := Blk.made wE 135 #[.int .i64 2, .int .i64 (TT : Int), .int .i64 (II : Int), .func (.func 90) #[] #[]]
  have RCE := RC
  have RC := Lib.hid (RC.out.new ((New.refl wE).alloc (.cells #[.int .i64 2, .int .i64 (TT : Int), .int .i64 (II : Int), .func (.func 90) #[] #[]] 135)))
  clear f2 f0 fg c0 c1 c2 c3 i1 i2 t0 t1 t2
  have hqG : q < wE.heap.size := RCE.out.lo.2.2
  have hrG : r < wE.heap.size := RCE.out.run.lt
  have hG0 : w0.heap.size ≤ wE.heap.size := RCE.out.gr.size
  generalize wE.alloc (.cells #[.int .i64 2, .int .i64 (TT : Int), .int .i64 (II : Int), .func (.func 90) #[] #[]] 135) = wX at *
  generalize wE.heap.size = GX at *
  have HG0 := Lib.hid hG0
  have nq1 := ne_gt hqG
  have nr1 := ne_gt hrG
  have x0 := X.cell' 0 _ rfl
  have f2 := RC.out.pc_at HPC.out
  clear hqG hrG RCE hG0
  go_quiet (fail)
  have RC := Lib.hid (RC.out.new ((New.refl wX).drewN nq))
  have X := X.new ((New.refl wX).drewN nq)
  clear x0 f2
  generalize wX.drewN nq = wY at *
  by_cases e3' : M < p + 2
  · have t6 : decide ((M : Int) < (p : Int) + 2) = true := lt_tt e3'
    have hO := HO.out
    rw [if_pos (by rw [HM.out]; exact e3')] at hO
    have HO := Lib.hid hO
    clear hO
    (repeat go_step)
    go_ret
    rw [HO.out]
    exact RC.out.err 3
  have t6 : decide ((M : Int) < (p : Int) + 2) = false := lt_ff e3'
  have hO := HO.out
  rw [if_neg (by rw [HM.out]; exact e3')] at hO
  have HO := Lib.hid hO
  clear hO
  have x0 := X.cell' 0 _ rfl
  have x1 := X.cell' 1 _ rfl
  have x2 := X.cell' 2 _ rfl
  have f2 := RC.out.pc_at HPC.out
  have fg : wY.cell? ⟨g, p + 1, none⟩ = some (.int .u8 (op : Int)) := RC.out.byte_at HM.out (p1_ltn e3') HOPB.out
  have q1 := p1_lt e3'
  have q2 := p1_nn p
  have q3 := p1_nat p
  by_cases e5 : II ≤ op
  · have t8 := le_tt e5
    have hO := HO.out
    rw [if_pos (decide_eq_true (by rw [HNA.out, HII.out]; exact e5))] at hO
    have HO := Lib.hid hO
    clear hO
    (repeat go_step)
    go_ret
    rw [HO.out]
    exact RC.out.err 17
  have t8 := le_ff e5
  have hO := HO.out
  rw [if_neg (by rw [decide_eq_true_iff, HNA.out, HII.out]; exact e5)] at hO
  have HE5 := Lib.hid (decide_eq_false (show ¬ _ from (by rw [HNA.out, HII.out]; exact e5 : ¬ s.top.vars.length ≤ op)))
  have HO := Lib.hid hO
  clear hO
  (repeat go_step)
  clear x0 x1 x2 f2 fg
  have x1 := X.cell' 1 _ rfl
  have f1 := RC.out.vs_len HNV.out
  go_quiet (fail)
  have RC := Lib.hid (RC.out.new ((New.refl wY).drewN nq))
  have X := X.new ((New.refl wY).drewN nq)
  clear x1 f1 t6
  generalize wY.drewN nq = wZ at *
  by_cases e4 : NV < TT
  · have t7 := lt_t e4
    have hO := HO.out
    rw [if_pos (by rw [HNV.out, HTT.out]; exact e4)] at hO
    have HO := Lib.hid hO
    clear hO
    (repeat go_step)
    go_ret
    rw [HO.out]
    exact RC.out.err 14
  have t7 := lt_f e4
  have hO := HO.out
  rw [if_neg (by rw [HNV.out, HTT.out]; exact e4)] at hO
  have HO := Lib.hid hO
  have HE4 := Lib.hid (show 1 ≤ s.top.vals.length by rw [HNV.out, HTT.out]; exact Nat.le_of_not_lt e4)
  clear hO
  (repeat go_step)
  have x0 := X.cell' 0 _ rfl
  have f2 := RC.out.pc_at HPC.out
  have z2 := RC.out.top.blk.free 2
  go_still_tail 9, (by kernel_rfl)
  have RC := Lib.hid (RC.out.new (New.refl wZ).drew)
  have X := X.drew
  change wpList _ _ _ _ _ wZ.drew
  clear x0 f2 z2
  generalize wZ.drew = wW at *
  have z2 := RC.out.top.blk.free 2
  have f2 := RC.out.pc_at HPC.out
  have f4 := RC.out.run.cell' 4 _ rfl
  have z4 := RC.out.run.free 4
  have x3 := X.cell' 3 _ rfl
  have RC := Lib.hid ((RC.out.setPc ((p : Int) + 2)).setSteps (n + 1))
  (repeat go_step)
  refine (HD.out _ HE4.out HE5.out RC.out).mono ?_
  rintro e w9 hO9
  obtain ⟨cc, rfl, hO9⟩ := hO9.ret
  rename_i hK1 _
  refine hK1 _ _ ?_
  (repeat go_step)
  go_ret
  rw [HO.out]
  exact hO9
set_option maxRecDepth 100000 in
set_option maxHeartbeats 16000000 in
theorem step_8 (p : Nat) (L : Int) (h : RM w0 w m g mc r PL s qs q C VA V FV OV n val) (hd : s.low.length ≤ 64) (hn : n ≠ L) (hn0 : 0 ≤ n) (hn1 : n ≤ 1000000) (hp : s.top.pc = (p : Int)) (hp2 : p < s.mem.length) (hK : byteN s.mem p = 8) (hm : s.mem.length ≤ 1000000000)
    (HDO : ∀ (W : World), insT 8 (byteN s.mem (p + 1)) ≤ s.top.vals.length → badV 8 (byteN s.mem (p + 1)) s.top.vars.length = false → RM w0 W m g mc r PL { s with top := { s.top with pc := (p : Int) + 2 } } qs q C VA V FV OV (n + 1) val → Calls Tryz.prog 95 #[.pointer (some ⟨r, 0, none⟩), .int .u32 (byteN s.mem (p + 1) : Int)] W (DoP w0 m g mc r PL (n + 1) (execV 8 (byteN s.mem (p + 1)) { s with top := { s.top with pc := (p : Int) + 2 } }))) :
    Calls Tryz.prog 38 #[.pointer (some ⟨r, 0, none⟩), .int .i64 L] w (DoP w0 m g mc r PL (n + 1) (stepV s)) := by
  have hO := step_eq hp hp2 hK (by decide) (by decide)
  rw [show insB 8 = 2 from rfl, show ((2 : Nat) : Int) = 2 from rfl, show operV s.mem 8 p = byteN s.mem (p + 1) from rfl, bad_8, takes_8] at hO
  have HDO2 := fun (W : World) h1 h2 h3 => HDO W (by rw [takes_8]; exact h1) (by rw [bad_8]; exact h2) h3
  clear HDO
  have ob := byteN_lt s.mem (p + 1)
  obtain ⟨op, hop⟩ : ∃ op, byteN s.mem (p + 1) = op := ⟨_, rfl⟩
  have HOPB := Lib.hid hop
  rw [hop] at hO HDO2 ob
  have o1 := byte_conv ob
  have o2 := byte_i64 ob
  have k1 : IntKind.i64.wrap ((p : Int) + 2) = (p : Int) + 2 := i64_small (by omega) (by omega)
  have kp1 : IntKind.i64.wrap ((p : Int) + 1) = (p : Int) + 1 := i64_small (by omega) (by omega)
  have kn : IntKind.i64.wrap (n + 1) = n + 1 := i64_small (by omega) (by omega)
  generalize stepV s = O at *
  have HO := Lib.hid hO
  have HD := Lib.hid HDO2
  clear hO HDO2 hop
  obtain ⟨TT, hTT⟩ : ∃ TT : Nat, 1 = TT := ⟨_, rfl⟩
  have HTT := Lib.hid hTT
  have hT9 : TT ≤ 10 := by omega
  have HT9 := Lib.hid hT9
  clear hTT hT9
  have hq : qs.length ≤ 1000 := by rw [h.ly.len]; omega
  have HT := Lib.hid (fun (W : World) (hR : RM w0 W m g mc r PL s qs q C VA V FV OV n val) => top_any hR hq)
  obtain ⟨M, hM⟩ : ∃ M, s.mem.length = M := ⟨_, rfl⟩
  have HM := Lib.hid hM
  rw [hM] at hp2 hm
  obtain ⟨AA, ca, rfl, _⟩ := own_form h.top.va
  obtain ⟨AV, cv, rfl, _⟩ := own_form h.top.vs
  obtain ⟨NA, hNA⟩ : ∃ NA, s.top.vars.length = NA := ⟨_, rfl⟩
  have HNA := Lib.hid hNA
  obtain ⟨II, hII⟩ : ∃ II : Nat, 3 = II := ⟨_, rfl⟩
  have HII := Lib.hid hII
  clear hII
  obtain ⟨NV, hNV⟩ : ∃ NV, s.top.vals.length = NV := ⟨_, rfl⟩
  have HNV := Lib.hid hNV
  have HPC := Lib.hid hp
  have f4 := h.run.cell' 4 _ rfl
  have RC0 := Lib.hid h
  have g0 := (RC0.out.drew).run.cell' 0 _ rfl
  have g1 := (RC0.out.drew).mem_len hM
  have t0 := nel_f hn
  have t1 : decide ((p : Int) < 0) = false := nat_f p
  have t2 := le_f hp2
  have i1 : (p : Int) < (M : Int) := by omega
  have i2 : (0 : Int) ≤ (p : Int) := by omega
  have HKB := Lib.hid hK
  have HP2 := Lib.hid hp2
  clear h hq hM hNA hNV hp hn hK hd
  go_enter Tryz.func38, Tryz.ntmps38
  go_wp2_with (fail)
  refine wp_region_held_drew (S := fun W => W.cell? ⟨r, 0, none⟩ = some (.pointer (some ⟨m, 0, none⟩)) ∧ W.cell? ⟨m, 0, none⟩ = some (.slice (some ⟨g, 0, none⟩) M mc)) (by kernel_rfl) ⟨g0, g1⟩ (fun hS => ?_)
  have RC := Lib.hid RC0.out.drew
  clear g0 g1 f4
  generalize w.drew = wC at *
  clear RC0
  refine tkT 0 (v := ?v1) hS (fun wq hSq => ?y1) ?_; (case y1 => clear hSq; go_simp; (try with_reducible rfl)); simp only [Act.put, gqD, gqE, gqF]
  refine tkT 2 (v := ?v2) hS (fun wq hSq => ?y2) ?_; (case y2 => clear hSq; go_simp; (try with_reducible rfl)); simp only [Act.put, gqD, gqE, gqF]
  refine tkT 3 (v := ?v3) hS (fun wq hSq => ?y3) ?_; (case y3 => clear hSq; go_simp; (try with_reducible rfl)); simp only [Act.put, gqD, gqE, gqF]
  refine tkT 4 (v := ?v4) hS (fun wq hSq => ?y4) ?_; (case y4 => clear hSq; go_simp; (try with_reducible rfl)); simp only [Act.put, gqD, gqE, gqF]
  refine tkT 5 (v := ?v5) hS (fun wq hSq => ?y5) ?_; (case y5 => have hf0 := hSq.1; have hf1 := hSq.2; clear hSq; go_simp; (try with_reducible rfl)); simp only [Act.put, gqD, gqE, gqF]
  refine tkT 6 (v := ?v6) hS (fun wq hSq => ?y6) ?_; (case y6 => clear hSq; go_simp; (try with_reducible rfl)); simp only [Act.put, gqD, gqE, gqF]
  refine tkT 7 (v := ?v7) hS (fun wq hSq => ?y7) ?_; (case y7 => clear hSq; go_simp; (try with_reducible rfl)); simp only [Act.put, gqD, gqE, gqF]
  refine tkT 8 (v := ?v8) hS (fun wq hSq => ?y8) ?_; (case y8 => have hf0 := hSq.1; have hf1 := hSq.2; clear hSq; go_simp; (try with_reducible rfl)); simp only [Act.put, gqD, gqE, gqF]
  refine wpAnyH_ready (rs := [1]) (by kernel_rfl) (by simp) ?_
  refine AllReadyH.cons (o := ?oi9) ?hi9 (fun K hK => ?_) AllReadyH.nil
  case hi9 => (simp only [gqA, gqB, gqC]; rfl)
  go_simp
  with_reducible refine (HT.out _ RC.out).mono ?_
  rintro e wD ⟨rfl, nD⟩
  have RC := Lib.hid (RC.out.new nD)
  refine hK.out _ _ (⟨RC.out.run.cell' 0 _ rfl, RC.out.mem_len HM.out⟩) (fun hS => ?_)
  clear hK K
  refine tkT 9 (v := ?v10) hS (fun wq hSq => ?y10) ?_; (case y10 => clear hSq; go_simp; (try with_reducible rfl)); simp only [Act.put, gqD, gqE, gqF]
  refine tkT 10 (v := ?v11) hS (fun wq hSq => ?y11) ?_; (case y11 => clear hSq; go_simp; (try with_reducible rfl)); simp only [Act.put, gqD, gqE, gqF]
  refine wpAnyH_done (by kernel_rfl) ?_ _
  have f2 := RC.out.pc_at HPC.out
  have f0 := RC.out.va_len HNA.out
  go_wp2_with (go_at_call 59; (with_reducible refine (ins_any NA _).mono ?_); rintro e wE ⟨P, rfl, nE, hI'⟩; have RC := Lib.hid (RC.out.new nE); have hI := hI' 8 (by decide) (by decide); have c0 : wE.cell? ⟨P, 32, none⟩ = some (.int .i64 2) := hI.c0; have c1 : wE.cell? ⟨P, 33, none⟩ = some (.int .i64 (TT : Int)) := (by rw [← HTT.out]; exact hI.c1); have c2 : wE.cell? ⟨P, 34, none⟩ = some (.int .i64 (II : Int)) := (by rw [← HII.out]; exact hI.c2); have c3 : wE.cell? ⟨P, 35, none⟩ = some (.func (.func 95) #[] #[]) := hI.c3; clear hI' hI; have f2 := cellN nE f2; have fg : wE.cell? ⟨g, p, none⟩ = some (.int .u8 8) := RC.out.byte_at HM.out HP2.out HKB.out)
  have X := Blk.made wE 135 #[.int .i64 2, .int .i64 (TT : Int), .int .i64 (II : Int), .func (.func 95) #[] #[]]
  have RCE := RC
  have RC := Lib.hid (RC.out.new ((New.refl wE).alloc (.cells #[.int .i64 2, .int .i64 (TT : Int), .int .i64 (II : Int), .func (.func 95) #[] #[]] 135)))
  clear f2 f0 fg c0 c1 c2 c3 i1 i2 t0 t1 t2
  have hqG : q < wE.heap.size := RCE.out.lo.2.2
  have hrG : r < wE.heap.size := RCE.out.run.lt
  have hG0 : w0.heap.size ≤ wE.heap.size := RCE.out.gr.size
  generalize wE.alloc (.cells #[.int .i64 2, .int .i64 (TT : Int), .int .i64 (II : Int), .func (.func 95) #[] #[]] 135) = wX at *
  generalize wE.heap.size = GX at *
  have HG0 := Lib.hid hG0
  have nq1 := ne_gt hqG
  have nr1 := ne_gt hrG
  have x0 := X.cell' 0 _ rfl
  have f2 := RC.out.pc_at HPC.out
  clear hqG hrG RCE hG0
  go_quiet (fail)
  have RC := Lib.hid (RC.out.new ((New.refl wX).drewN nq))
  have X := X.new ((New.refl wX).drewN nq)
  clear x0 f2
  generalize wX.drewN nq = wY at *
  by_cases e3' : M < p + 2
  · have t6 : decide ((M : Int) < (p : Int) + 2) = true := lt_tt e3'
    have hO := HO.out
    rw [if_pos (by rw [HM.out]; exact e3')] at hO
    have HO := Lib.hid hO
    clear hO
    (repeat go_step)
    go_ret
    rw [HO.out]
    exact RC.out.err 3
  have t6 : decide ((M : Int) < (p : Int) + 2) = false := lt_ff e3'
  have hO := HO.out
  rw [if_neg (by rw [HM.out]; exact e3')] at hO
  have HO := Lib.hid hO
  clear hO
  have x0 := X.cell' 0 _ rfl
  have x1 := X.cell' 1 _ rfl
  have x2 := X.cell' 2 _ rfl
  have f2 := RC.out.pc_at HPC.out
  have fg : wY.cell? ⟨g, p + 1, none⟩ = some (.int .u8 (op : Int)) := RC.out.byte_at HM.out (p1_ltn e3') HOPB.out
  have q1 := p1_lt e3'
  have q2 := p1_nn p
  have q3 := p1_nat p
  by_cases e5 : II ≤ op
  · have t8 := le_tt e5
    have hO := HO.out
    rw [if_pos (decide_eq_true (by rw [HII.out]; exact e5))] at hO
    have HO := Lib.hid hO
    clear hO
    (repeat go_step)
    go_ret
    rw [HO.out]
    exact RC.out.err 17
  have t8 := le_ff e5
  have hO := HO.out
  rw [if_neg (by rw [decide_eq_true_iff, HII.out]; exact e5)] at hO
  have HE5 := Lib.hid (decide_eq_false (show ¬ _ from (by rw [HII.out]; exact e5 : ¬ 3 ≤ op)))
  have HO := Lib.hid hO
  clear hO
  (repeat go_step)
  clear x0 x1 x2 f2 fg
  have x1 := X.cell' 1 _ rfl
  have f1 := RC.out.vs_len HNV.out
  go_quiet (fail)
  have RC := Lib.hid (RC.out.new ((New.refl wY).drewN nq))
  have X := X.new ((New.refl wY).drewN nq)
  clear x1 f1 t6
  generalize wY.drewN nq = wZ at *
  by_cases e4 : NV < TT
  · have t7 := lt_t e4
    have hO := HO.out
    rw [if_pos (by rw [HNV.out, HTT.out]; exact e4)] at hO
    have HO := Lib.hid hO
    clear hO
    (repeat go_step)
    go_ret
    rw [HO.out]
    exact RC.out.err 14
  have t7 := lt_f e4
  have hO := HO.out
  rw [if_neg (by rw [HNV.out, HTT.out]; exact e4)] at hO
  have HO := Lib.hid hO
  have HE4 := Lib.hid (show 1 ≤ s.top.vals.length by rw [HNV.out, HTT.out]; exact Nat.le_of_not_lt e4)
  clear hO
  (repeat go_step)
  have x0 := X.cell' 0 _ rfl
  have f2 := RC.out.pc_at HPC.out
  have z2 := RC.out.top.blk.free 2
  go_still_tail 9, (by kernel_rfl)
  have RC := Lib.hid (RC.out.new (New.refl wZ).drew)
  have X := X.drew
  change wpList _ _ _ _ _ wZ.drew
  clear x0 f2 z2
  generalize wZ.drew = wW at *
  have z2 := RC.out.top.blk.free 2
  have f2 := RC.out.pc_at HPC.out
  have f4 := RC.out.run.cell' 4 _ rfl
  have z4 := RC.out.run.free 4
  have x3 := X.cell' 3 _ rfl
  have RC := Lib.hid ((RC.out.setPc ((p : Int) + 2)).setSteps (n + 1))
  (repeat go_step)
  refine (HD.out _ HE4.out HE5.out RC.out).mono ?_
  rintro e w9 hO9
  obtain ⟨cc, rfl, hO9⟩ := hO9.ret
  rename_i hK1 _
  refine hK1 _ _ ?_
  (repeat go_step)
  go_ret
  rw [HO.out]
  exact hO9
set_option maxRecDepth 100000 in
set_option maxHeartbeats 16000000 in
theorem step_9 (p : Nat) (L : Int) (h : RM w0 w m g mc r PL s qs q C VA V FV OV n val) (hd : s.low.length ≤ 64) (hn : n ≠ L) (hn0 : 0 ≤ n) (hn1 : n ≤ 1000000) (hp : s.top.pc = (p : Int)) (hp2 : p < s.mem.length) (hK : byteN s.mem p = 9) (hm : s.mem.length ≤ 1000000000)
    (HDO : ∀ (W : World), insT 9 (byteN s.mem (p + 1)) ≤ s.top.vals.length → badV 9 (byteN s.mem (p + 1)) s.top.vars.length = false → RM w0 W m g mc r PL { s with top := { s.top with pc := (p : Int) + 2 } } qs q C VA V FV OV (n + 1) val → Calls Tryz.prog 96 #[.pointer (some ⟨r, 0, none⟩), .int .u32 (byteN s.mem (p + 1) : Int)] W (DoP w0 m g mc r PL (n + 1) (execV 9 (byteN s.mem (p + 1)) { s with top := { s.top with pc := (p : Int) + 2 } }))) :
    Calls Tryz.prog 38 #[.pointer (some ⟨r, 0, none⟩), .int .i64 L] w (DoP w0 m g mc r PL (n + 1) (stepV s)) := by
  have hO := step_eq hp hp2 hK (by decide) (by decide)
  rw [show insB 9 = 2 from rfl, show ((2 : Nat) : Int) = 2 from rfl, show operV s.mem 9 p = byteN s.mem (p + 1) from rfl, bad_9, takes_9] at hO
  have HDO2 := fun (W : World) h1 h2 h3 => HDO W (by rw [takes_9]; exact h1) (by rw [bad_9]; exact h2) h3
  clear HDO
  have ob := byteN_lt s.mem (p + 1)
  obtain ⟨op, hop⟩ : ∃ op, byteN s.mem (p + 1) = op := ⟨_, rfl⟩
  have HOPB := Lib.hid hop
  rw [hop] at hO HDO2 ob
  have o1 := byte_conv ob
  have o2 := byte_i64 ob
  have k1 : IntKind.i64.wrap ((p : Int) + 2) = (p : Int) + 2 := i64_small (by omega) (by omega)
  have kp1 : IntKind.i64.wrap ((p : Int) + 1) = (p : Int) + 1 := i64_small (by omega) (by omega)
  have kn : IntKind.i64.wrap (n + 1) = n + 1 := i64_small (by omega) (by omega)
  generalize stepV s = O at *
  have HO := Lib.hid hO
  have HD := Lib.hid HDO2
  clear hO HDO2 hop
  obtain ⟨TT, hTT⟩ : ∃ TT : Nat, 2 = TT := ⟨_, rfl⟩
  have HTT := Lib.hid hTT
  have hT9 : TT ≤ 10 := by omega
  have HT9 := Lib.hid hT9
  clear hTT hT9
  have hq : qs.length ≤ 1000 := by rw [h.ly.len]; omega
  have HT := Lib.hid (fun (W : World) (hR : RM w0 W m g mc r PL s qs q C VA V FV OV n val) => top_any hR hq)
  obtain ⟨M, hM⟩ : ∃ M, s.mem.length = M := ⟨_, rfl⟩
  have HM := Lib.hid hM
  rw [hM] at hp2 hm
  obtain ⟨AA, ca, rfl, _⟩ := own_form h.top.va
  obtain ⟨AV, cv, rfl, _⟩ := own_form h.top.vs
  obtain ⟨NA, hNA⟩ : ∃ NA, s.top.vars.length = NA := ⟨_, rfl⟩
  have HNA := Lib.hid hNA
  obtain ⟨II, hII⟩ : ∃ II : Nat, 18 = II := ⟨_, rfl⟩
  have HII := Lib.hid hII
  clear hII
  obtain ⟨NV, hNV⟩ : ∃ NV, s.top.vals.length = NV := ⟨_, rfl⟩
  have HNV := Lib.hid hNV
  have HPC := Lib.hid hp
  have f4 := h.run.cell' 4 _ rfl
  have RC0 := Lib.hid h
  have g0 := (RC0.out.drew).run.cell' 0 _ rfl
  have g1 := (RC0.out.drew).mem_len hM
  have t0 := nel_f hn
  have t1 : decide ((p : Int) < 0) = false := nat_f p
  have t2 := le_f hp2
  have i1 : (p : Int) < (M : Int) := by omega
  have i2 : (0 : Int) ≤ (p : Int) := by omega
  have HKB := Lib.hid hK
  have HP2 := Lib.hid hp2
  clear h hq hM hNA hNV hp hn hK hd
  go_enter Tryz.func38, Tryz.ntmps38
  go_wp2_with (fail)
  refine wp_region_held_drew (S := fun W => W.cell? ⟨r, 0, none⟩ = some (.pointer (some ⟨m, 0, none⟩)) ∧ W.cell? ⟨m, 0, none⟩ = some (.slice (some ⟨g, 0, none⟩) M mc)) (by kernel_rfl) ⟨g0, g1⟩ (fun hS => ?_)
  have RC := Lib.hid RC0.out.drew
  clear g0 g1 f4
  generalize w.drew = wC at *
  clear RC0
  refine tkT 0 (v := ?v1) hS (fun wq hSq => ?y1) ?_; (case y1 => clear hSq; go_simp; (try with_reducible rfl)); simp only [Act.put, gqD, gqE, gqF]
  refine tkT 2 (v := ?v2) hS (fun wq hSq => ?y2) ?_; (case y2 => clear hSq; go_simp; (try with_reducible rfl)); simp only [Act.put, gqD, gqE, gqF]
  refine tkT 3 (v := ?v3) hS (fun wq hSq => ?y3) ?_; (case y3 => clear hSq; go_simp; (try with_reducible rfl)); simp only [Act.put, gqD, gqE, gqF]
  refine tkT 4 (v := ?v4) hS (fun wq hSq => ?y4) ?_; (case y4 => clear hSq; go_simp; (try with_reducible rfl)); simp only [Act.put, gqD, gqE, gqF]
  refine tkT 5 (v := ?v5) hS (fun wq hSq => ?y5) ?_; (case y5 => have hf0 := hSq.1; have hf1 := hSq.2; clear hSq; go_simp; (try with_reducible rfl)); simp only [Act.put, gqD, gqE, gqF]
  refine tkT 6 (v := ?v6) hS (fun wq hSq => ?y6) ?_; (case y6 => clear hSq; go_simp; (try with_reducible rfl)); simp only [Act.put, gqD, gqE, gqF]
  refine tkT 7 (v := ?v7) hS (fun wq hSq => ?y7) ?_; (case y7 => clear hSq; go_simp; (try with_reducible rfl)); simp only [Act.put, gqD, gqE, gqF]
  refine tkT 8 (v := ?v8) hS (fun wq hSq => ?y8) ?_; (case y8 => have hf0 := hSq.1; have hf1 := hSq.2; clear hSq; go_simp; (try with_reducible rfl)); simp only [Act.put, gqD, gqE, gqF]
  refine wpAnyH_ready (rs := [1]) (by kernel_rfl) (by simp) ?_
  refine AllReadyH.cons (o := ?oi9) ?hi9 (fun K hK => ?_) AllReadyH.nil
  case hi9 => (simp only [gqA, gqB, gqC]; rfl)
  go_simp
  with_reducible refine (HT.out _ RC.out).mono ?_
  rintro e wD ⟨rfl, nD⟩
  have RC := Lib.hid (RC.out.new nD)
  refine hK.out _ _ (⟨RC.out.run.cell' 0 _ rfl, RC.out.mem_len HM.out⟩) (fun hS => ?_)
  clear hK K
  refine tkT 9 (v := ?v10) hS (fun wq hSq => ?y10) ?_; (case y10 => clear hSq; go_simp; (try with_reducible rfl)); simp only [Act.put, gqD, gqE, gqF]
  refine tkT 10 (v := ?v11) hS (fun wq hSq => ?y11) ?_; (case y11 => clear hSq; go_simp; (try with_reducible rfl)); simp only [Act.put, gqD, gqE, gqF]
  refine wpAnyH_done (by kernel_rfl) ?_ _
  have f2 := RC.out.pc_at HPC.out
  have f0 := RC.out.va_len HNA.out
  go_wp2_with (go_at_call 59; (with_reducible refine (ins_any NA _).mono ?_); rintro e wE ⟨P, rfl, nE, hI'⟩; have RC := Lib.hid (RC.out.new nE); have hI := hI' 9 (by decide) (by decide); have c0 : wE.cell? ⟨P, 36, none⟩ = some (.int .i64 2) := hI.c0; have c1 : wE.cell? ⟨P, 37, none⟩ = some (.int .i64 (TT : Int)) := (by rw [← HTT.out]; exact hI.c1); have c2 : wE.cell? ⟨P, 38, none⟩ = some (.int .i64 (II : Int)) := (by rw [← HII.out]; exact hI.c2); have c3 : wE.cell? ⟨P, 39, none⟩ = some (.func (.func 96) #[] #[]) := hI.c3; clear hI' hI; have f2 := cellN nE f2; have fg : wE.cell? ⟨g, p, none⟩ = some (.int .u8 9) := RC.out.byte_at HM.out HP2.out HKB.out)
  have X := Blk.made wE 135 #[.int .i64 2, .int .i64 (TT : Int), .int .i64 (II : Int), .func (.func 96) #[] #[]]
  have RCE := RC
  have RC := Lib.hid (RC.out.new ((New.refl wE).alloc (.cells #[.int .i64 2, .int .i64 (TT : Int), .int .i64 (II : Int), .func (.func 96) #[] #[]] 135)))
  clear f2 f0 fg c0 c1 c2 c3 i1 i2 t0 t1 t2
  have hqG : q < wE.heap.size := RCE.out.lo.2.2
  have hrG : r < wE.heap.size := RCE.out.run.lt
  have hG0 : w0.heap.size ≤ wE.heap.size := RCE.out.gr.size
  generalize wE.alloc (.cells #[.int .i64 2, .int .i64 (TT : Int), .int .i64 (II : Int), .func (.func 96) #[] #[]] 135) = wX at *
  generalize wE.heap.size = GX at *
  have HG0 := Lib.hid hG0
  have nq1 := ne_gt hqG
  have nr1 := ne_gt hrG
  have x0 := X.cell' 0 _ rfl
  have f2 := RC.out.pc_at HPC.out
  clear hqG hrG RCE hG0
  go_quiet (fail)
  have RC := Lib.hid (RC.out.new ((New.refl wX).drewN nq))
  have X := X.new ((New.refl wX).drewN nq)
  clear x0 f2
  generalize wX.drewN nq = wY at *
  by_cases e3' : M < p + 2
  · have t6 : decide ((M : Int) < (p : Int) + 2) = true := lt_tt e3'
    have hO := HO.out
    rw [if_pos (by rw [HM.out]; exact e3')] at hO
    have HO := Lib.hid hO
    clear hO
    (repeat go_step)
    go_ret
    rw [HO.out]
    exact RC.out.err 3
  have t6 : decide ((M : Int) < (p : Int) + 2) = false := lt_ff e3'
  have hO := HO.out
  rw [if_neg (by rw [HM.out]; exact e3')] at hO
  have HO := Lib.hid hO
  clear hO
  have x0 := X.cell' 0 _ rfl
  have x1 := X.cell' 1 _ rfl
  have x2 := X.cell' 2 _ rfl
  have f2 := RC.out.pc_at HPC.out
  have fg : wY.cell? ⟨g, p + 1, none⟩ = some (.int .u8 (op : Int)) := RC.out.byte_at HM.out (p1_ltn e3') HOPB.out
  have q1 := p1_lt e3'
  have q2 := p1_nn p
  have q3 := p1_nat p
  by_cases e5 : II ≤ op
  · have t8 := le_tt e5
    have hO := HO.out
    rw [if_pos (decide_eq_true (by rw [HII.out]; exact e5))] at hO
    have HO := Lib.hid hO
    clear hO
    (repeat go_step)
    go_ret
    rw [HO.out]
    exact RC.out.err 17
  have t8 := le_ff e5
  have hO := HO.out
  rw [if_neg (by rw [decide_eq_true_iff, HII.out]; exact e5)] at hO
  have HE5 := Lib.hid (decide_eq_false (show ¬ _ from (by rw [HII.out]; exact e5 : ¬ 18 ≤ op)))
  have HO := Lib.hid hO
  clear hO
  (repeat go_step)
  clear x0 x1 x2 f2 fg
  have x1 := X.cell' 1 _ rfl
  have f1 := RC.out.vs_len HNV.out
  go_quiet (fail)
  have RC := Lib.hid (RC.out.new ((New.refl wY).drewN nq))
  have X := X.new ((New.refl wY).drewN nq)
  clear x1 f1 t6
  generalize wY.drewN nq = wZ at *
  by_cases e4 : NV < TT
  · have t7 := lt_t e4
    have hO := HO.out
    rw [if_pos (by rw [HNV.out, HTT.out]; exact e4)] at hO
    have HO := Lib.hid hO
    clear hO
    (repeat go_step)
    go_ret
    rw [HO.out]
    exact RC.out.err 14
  have t7 := lt_f e4
  have hO := HO.out
  rw [if_neg (by rw [HNV.out, HTT.out]; exact e4)] at hO
  have HO := Lib.hid hO
  have HE4 := Lib.hid (show 2 ≤ s.top.vals.length by rw [HNV.out, HTT.out]; exact Nat.le_of_not_lt e4)
  clear hO
  (repeat go_step)
  have x0 := X.cell' 0 _ rfl
  have f2 := RC.out.pc_at HPC.out
  have z2 := RC.out.top.blk.free 2
  go_still_tail 9, (by kernel_rfl)
  have RC := Lib.hid (RC.out.new (New.refl wZ).drew)
  have X := X.drew
  change wpList _ _ _ _ _ wZ.drew
  clear x0 f2 z2
  generalize wZ.drew = wW at *
  have z2 := RC.out.top.blk.free 2
  have f2 := RC.out.pc_at HPC.out
  have f4 := RC.out.run.cell' 4 _ rfl
  have z4 := RC.out.run.free 4
  have x3 := X.cell' 3 _ rfl
  have RC := Lib.hid ((RC.out.setPc ((p : Int) + 2)).setSteps (n + 1))
  (repeat go_step)
  refine (HD.out _ HE4.out HE5.out RC.out).mono ?_
  rintro e w9 hO9
  obtain ⟨cc, rfl, hO9⟩ := hO9.ret
  rename_i hK1 _
  refine hK1 _ _ ?_
  (repeat go_step)
  go_ret
  rw [HO.out]
  exact hO9
set_option maxRecDepth 100000 in
set_option maxHeartbeats 16000000 in
theorem step_12 (p : Nat) (L : Int) (h : RM w0 w m g mc r PL s qs q C VA V FV OV n val) (hd : s.low.length ≤ 64) (hn : n ≠ L) (hn0 : 0 ≤ n) (hn1 : n ≤ 1000000) (hp : s.top.pc = (p : Int)) (hp2 : p < s.mem.length) (hK : byteN s.mem p = 12) (hm : s.mem.length ≤ 1000000000)
    (HDO : ∀ (W : World), insT 12 (byteN s.mem (p + 1)) ≤ s.top.vals.length → badV 12 (byteN s.mem (p + 1)) s.top.vars.length = false → RM w0 W m g mc r PL { s with top := { s.top with pc := (p : Int) + 2 } } qs q C VA V FV OV (n + 1) val → Calls Tryz.prog 99 #[.pointer (some ⟨r, 0, none⟩), .int .u32 (byteN s.mem (p + 1) : Int)] W (DoP w0 m g mc r PL (n + 1) (execV 12 (byteN s.mem (p + 1)) { s with top := { s.top with pc := (p : Int) + 2 } }))) :
    Calls Tryz.prog 38 #[.pointer (some ⟨r, 0, none⟩), .int .i64 L] w (DoP w0 m g mc r PL (n + 1) (stepV s)) := by
  have hO := step_eq hp hp2 hK (by decide) (by decide)
  rw [show insB 12 = 2 from rfl, show ((2 : Nat) : Int) = 2 from rfl, show operV s.mem 12 p = byteN s.mem (p + 1) from rfl, bad_12, takes_12] at hO
  have HDO2 := fun (W : World) h1 h3 => HDO W (by rw [takes_12]; exact h1) (bad_12 _ _) h3
  clear HDO
  have ob := byteN_lt s.mem (p + 1)
  obtain ⟨op, hop⟩ : ∃ op, byteN s.mem (p + 1) = op := ⟨_, rfl⟩
  have HOPB := Lib.hid hop
  rw [hop] at hO HDO2 ob
  have o1 := byte_conv ob
  have o2 := byte_i64 ob
  have k1 : IntKind.i64.wrap ((p : Int) + 2) = (p : Int) + 2 := i64_small (by omega) (by omega)
  have kp1 : IntKind.i64.wrap ((p : Int) + 1) = (p : Int) + 1 := i64_small (by omega) (by omega)
  have kn : IntKind.i64.wrap (n + 1) = n + 1 := i64_small (by omega) (by omega)
  generalize stepV s = O at *
  have HO := Lib.hid hO
  have HD := Lib.hid HDO2
  clear hO HDO2 hop
  obtain ⟨TT, hTT⟩ : ∃ TT : Nat, 1 = TT := ⟨_, rfl⟩
  have HTT := Lib.hid hTT
  have hT9 : TT ≤ 10 := by omega
  have HT9 := Lib.hid hT9
  clear hTT hT9
  have hq : qs.length ≤ 1000 := by rw [h.ly.len]; omega
  have HT := Lib.hid (fun (W : World) (hR : RM w0 W m g mc r PL s qs q C VA V FV OV n val) => top_any hR hq)
  obtain ⟨M, hM⟩ : ∃ M, s.mem.length = M := ⟨_, rfl⟩
  have HM := Lib.hid hM
  rw [hM] at hp2 hm
  obtain ⟨AA, ca, rfl, _⟩ := own_form h.top.va
  obtain ⟨AV, cv, rfl, _⟩ := own_form h.top.vs
  obtain ⟨NA, hNA⟩ : ∃ NA, s.top.vars.length = NA := ⟨_, rfl⟩
  have HNA := Lib.hid hNA
  obtain ⟨II, hII⟩ : ∃ II : Nat, 0 = II := ⟨_, rfl⟩
  have HII := Lib.hid hII
  clear hII
  obtain ⟨NV, hNV⟩ : ∃ NV, s.top.vals.length = NV := ⟨_, rfl⟩
  have HNV := Lib.hid hNV
  have HPC := Lib.hid hp
  have f4 := h.run.cell' 4 _ rfl
  have RC0 := Lib.hid h
  have g0 := (RC0.out.drew).run.cell' 0 _ rfl
  have g1 := (RC0.out.drew).mem_len hM
  have t0 := nel_f hn
  have t1 : decide ((p : Int) < 0) = false := nat_f p
  have t2 := le_f hp2
  have i1 : (p : Int) < (M : Int) := by omega
  have i2 : (0 : Int) ≤ (p : Int) := by omega
  have HKB := Lib.hid hK
  have HP2 := Lib.hid hp2
  clear h hq hM hNA hNV hp hn hK hd
  go_enter Tryz.func38, Tryz.ntmps38
  go_wp2_with (fail)
  refine wp_region_held_drew (S := fun W => W.cell? ⟨r, 0, none⟩ = some (.pointer (some ⟨m, 0, none⟩)) ∧ W.cell? ⟨m, 0, none⟩ = some (.slice (some ⟨g, 0, none⟩) M mc)) (by kernel_rfl) ⟨g0, g1⟩ (fun hS => ?_)
  have RC := Lib.hid RC0.out.drew
  clear g0 g1 f4
  generalize w.drew = wC at *
  clear RC0
  refine tkT 0 (v := ?v1) hS (fun wq hSq => ?y1) ?_; (case y1 => clear hSq; go_simp; (try with_reducible rfl)); simp only [Act.put, gqD, gqE, gqF]
  refine tkT 2 (v := ?v2) hS (fun wq hSq => ?y2) ?_; (case y2 => clear hSq; go_simp; (try with_reducible rfl)); simp only [Act.put, gqD, gqE, gqF]
  refine tkT 3 (v := ?v3) hS (fun wq hSq => ?y3) ?_; (case y3 => clear hSq; go_simp; (try with_reducible rfl)); simp only [Act.put, gqD, gqE, gqF]
  refine tkT 4 (v := ?v4) hS (fun wq hSq => ?y4) ?_; (case y4 => clear hSq; go_simp; (try with_reducible rfl)); simp only [Act.put, gqD, gqE, gqF]
  refine tkT 5 (v := ?v5) hS (fun wq hSq => ?y5) ?_; (case y5 => have hf0 := hSq.1; have hf1 := hSq.2; clear hSq; go_simp; (try with_reducible rfl)); simp only [Act.put, gqD, gqE, gqF]
  refine tkT 6 (v := ?v6) hS (fun wq hSq => ?y6) ?_; (case y6 => clear hSq; go_simp; (try with_reducible rfl)); simp only [Act.put, gqD, gqE, gqF]
  refine tkT 7 (v := ?v7) hS (fun wq hSq => ?y7) ?_; (case y7 => clear hSq; go_simp; (try with_reducible rfl)); simp only [Act.put, gqD, gqE, gqF]
  refine tkT 8 (v := ?v8) hS (fun wq hSq => ?y8) ?_; (case y8 => have hf0 := hSq.1; have hf1 := hSq.2; clear hSq; go_simp; (try with_reducible rfl)); simp only [Act.put, gqD, gqE, gqF]
  refine wpAnyH_ready (rs := [1]) (by kernel_rfl) (by simp) ?_
  refine AllReadyH.cons (o := ?oi9) ?hi9 (fun K hK => ?_) AllReadyH.nil
  case hi9 => (simp only [gqA, gqB, gqC]; rfl)
  go_simp
  with_reducible refine (HT.out _ RC.out).mono ?_
  rintro e wD ⟨rfl, nD⟩
  have RC := Lib.hid (RC.out.new nD)
  refine hK.out _ _ (⟨RC.out.run.cell' 0 _ rfl, RC.out.mem_len HM.out⟩) (fun hS => ?_)
  clear hK K
  refine tkT 9 (v := ?v10) hS (fun wq hSq => ?y10) ?_; (case y10 => clear hSq; go_simp; (try with_reducible rfl)); simp only [Act.put, gqD, gqE, gqF]
  refine tkT 10 (v := ?v11) hS (fun wq hSq => ?y11) ?_; (case y11 => clear hSq; go_simp; (try with_reducible rfl)); simp only [Act.put, gqD, gqE, gqF]
  refine wpAnyH_done (by kernel_rfl) ?_ _
  have f2 := RC.out.pc_at HPC.out
  have f0 := RC.out.va_len HNA.out
  go_wp2_with (go_at_call 59; (with_reducible refine (ins_any NA _).mono ?_); rintro e wE ⟨P, rfl, nE, hI'⟩; have RC := Lib.hid (RC.out.new nE); have hI := hI' 12 (by decide) (by decide); have c0 : wE.cell? ⟨P, 48, none⟩ = some (.int .i64 2) := hI.c0; have c1 : wE.cell? ⟨P, 49, none⟩ = some (.int .i64 (TT : Int)) := (by rw [← HTT.out]; exact hI.c1); have c2 : wE.cell? ⟨P, 50, none⟩ = some (.int .i64 (II : Int)) := (by rw [← HII.out]; exact hI.c2); have c3 : wE.cell? ⟨P, 51, none⟩ = some (.func (.func 99) #[] #[]) := hI.c3; clear hI' hI; have f2 := cellN nE f2; have fg : wE.cell? ⟨g, p, none⟩ = some (.int .u8 12) := RC.out.byte_at HM.out HP2.out HKB.out)
  have X := Blk.made wE 135 #[.int .i64 2, .int .i64 (TT : Int), .int .i64 (II : Int), .func (.func 99) #[] #[]]
  have RCE := RC
  have RC := Lib.hid (RC.out.new ((New.refl wE).alloc (.cells #[.int .i64 2, .int .i64 (TT : Int), .int .i64 (II : Int), .func (.func 99) #[] #[]] 135)))
  clear f2 f0 fg c0 c1 c2 c3 i1 i2 t0 t1 t2
  have hqG : q < wE.heap.size := RCE.out.lo.2.2
  have hrG : r < wE.heap.size := RCE.out.run.lt
  have hG0 : w0.heap.size ≤ wE.heap.size := RCE.out.gr.size
  generalize wE.alloc (.cells #[.int .i64 2, .int .i64 (TT : Int), .int .i64 (II : Int), .func (.func 99) #[] #[]] 135) = wX at *
  generalize wE.heap.size = GX at *
  have HG0 := Lib.hid hG0
  have nq1 := ne_gt hqG
  have nr1 := ne_gt hrG
  have x0 := X.cell' 0 _ rfl
  have f2 := RC.out.pc_at HPC.out
  clear hqG hrG RCE hG0
  go_quiet (fail)
  have RC := Lib.hid (RC.out.new ((New.refl wX).drewN nq))
  have X := X.new ((New.refl wX).drewN nq)
  clear x0 f2
  generalize wX.drewN nq = wY at *
  by_cases e3' : M < p + 2
  · have t6 : decide ((M : Int) < (p : Int) + 2) = true := lt_tt e3'
    have hO := HO.out
    rw [if_pos (by rw [HM.out]; exact e3')] at hO
    have HO := Lib.hid hO
    clear hO
    (repeat go_step)
    go_ret
    rw [HO.out]
    exact RC.out.err 3
  have t6 : decide ((M : Int) < (p : Int) + 2) = false := lt_ff e3'
  have hO := HO.out
  rw [if_neg (by rw [HM.out]; exact e3')] at hO
  have HO := Lib.hid hO
  clear hO
  have x0 := X.cell' 0 _ rfl
  have x1 := X.cell' 1 _ rfl
  have x2 := X.cell' 2 _ rfl
  have f2 := RC.out.pc_at HPC.out
  have fg : wY.cell? ⟨g, p + 1, none⟩ = some (.int .u8 (op : Int)) := RC.out.byte_at HM.out (p1_ltn e3') HOPB.out
  have q1 := p1_lt e3'
  have q2 := p1_nn p
  have q3 := p1_nat p
  have hO := HO.out
  rw [if_neg (by decide)] at hO
  have HO := Lib.hid hO
  clear hO
  have ks := sum_i64 ob HT9.out
  have z1 := X.free 1
  (repeat go_step)
  have RC := Lib.hid (RC.out.farSet (i := 1) (u := .int .i64 ((TT : Int) + (op : Int))) X HG0.out)
  have X := X.put 1 (.int .i64 ((TT : Int) + (op : Int)))
  clear x0 x1 x2 f2 fg z1
  generalize wY.setCell ⟨GX, 1, none⟩ (.int .i64 ((TT : Int) + (op : Int))) = wY at *
  have x1 := X.cell' 1 _ rfl
  have f1 := RC.out.vs_len HNV.out
  go_quiet (fail)
  have RC := Lib.hid (RC.out.new ((New.refl wY).drewN nq))
  have X := X.new ((New.refl wY).drewN nq)
  clear x1 f1 t6
  generalize wY.drewN nq = wZ at *
  by_cases e4 : NV < TT + op
  · have t7 := lt_t e4
    have t9 := lt_sum e4
    have hO := HO.out
    rw [if_pos (by rw [HNV.out, HTT.out]; exact e4)] at hO
    have HO := Lib.hid hO
    clear hO
    (repeat go_step)
    go_ret
    rw [HO.out]
    exact RC.out.err 14
  have t7 := lt_f e4
  have t9 := lt_sumf e4
  have hO := HO.out
  rw [if_neg (by rw [HNV.out, HTT.out]; exact e4)] at hO
  have HO := Lib.hid hO
  have HE4 := Lib.hid (show 1 + op ≤ s.top.vals.length by rw [HNV.out, HTT.out]; exact Nat.le_of_not_lt e4)
  clear hO
  (repeat go_step)
  have x0 := X.cell' 0 _ rfl
  have f2 := RC.out.pc_at HPC.out
  have z2 := RC.out.top.blk.free 2
  go_still_tail 9, (by kernel_rfl)
  have RC := Lib.hid (RC.out.new (New.refl wZ).drew)
  have X := X.drew
  change wpList _ _ _ _ _ wZ.drew
  clear x0 f2 z2
  generalize wZ.drew = wW at *
  have z2 := RC.out.top.blk.free 2
  have f2 := RC.out.pc_at HPC.out
  have f4 := RC.out.run.cell' 4 _ rfl
  have z4 := RC.out.run.free 4
  have x3 := X.cell' 3 _ rfl
  have RC := Lib.hid ((RC.out.setPc ((p : Int) + 2)).setSteps (n + 1))
  (repeat go_step)
  refine (HD.out _ HE4.out RC.out).mono ?_
  rintro e w9 hO9
  obtain ⟨cc, rfl, hO9⟩ := hO9.ret
  rename_i hK1 _
  refine hK1 _ _ ?_
  (repeat go_step)
  go_ret
  rw [HO.out]
  exact hO9
end
end Go.Proofs.YtnjampfhkojbnaaGreatDoor

