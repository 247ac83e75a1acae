/- A step of the run. Conditions: sizes. (Printed by mk-t14.py.) A step of the run: instructions of five bytes. Conditions: sizes. (Printed by mk-t15.py.) -/
import Derived.Test.YtnjampfhkojbnaaGreatDoorGBase
import Derived.Test.YtnjampfhkojbnaaGreatDoorGT12
import Derived.Laws.EntriesVeiled
import Derived.Shelf.Abstract

namespace Go.Proofs.YtnjampfhkojbnaaGreatDoor
open Go Go.RowKit Go.Shelf
set_option linter.unusedSimpArgs false
set_option linter.unusedVariables false

section
variable {w0 w : World} {m g mc r : Nat} {PL : Value} {s : Mc} {qs : List Nat} {q C : Nat} {VA V FV OV : Value} {n : Int} {val : Nat}
theorem RM.pc_at {p : Int} (h : RM w0 w m g mc r PL s qs q C VA V FV OV n val) (hp : s.top.pc = p) : w.cell? ⟨q, 2, none⟩ = some (.int .i64 p) := by rw [← hp]; exact h.top.blk.cell' 2 _ rfl
theorem RM.va_len {AA : Option Addr} {ca NA : Nat} (h : RM w0 w m g mc r PL s qs q C (.slice AA s.top.vars.length ca) V FV OV n val) (e : s.top.vars.length = NA) : w.cell? ⟨q, 0, none⟩ = some (.slice AA NA ca) := by rw [← e]; exact h.top.blk.cell' 0 _ rfl
theorem RM.vs_len {AV : Option Addr} {cv NV : Nat} (h : RM w0 w m g mc r PL s qs q C VA (.slice AV s.top.vals.length cv) FV OV n val) (e : s.top.vals.length = NV) : w.cell? ⟨q, 1, none⟩ = some (.slice AV NV cv) := by rw [← e]; exact h.top.blk.cell' 1 _ rfl
theorem RM.mem_len {M : Nat} (h : RM w0 w m g mc r PL s qs q C VA V FV OV n val) (e : s.mem.length = M) : w.cell? ⟨m, 0, none⟩ = some (.slice (some ⟨g, 0, none⟩) M mc) := by rw [← e]; exact h.mach.cell' 0 _ rfl
theorem RM.byte_at {M p K : Nat} (h : RM w0 w m g mc r PL s qs q C VA V FV OV n val) (e : s.mem.length = M) (hp : p < M) (hK : byteN s.mem p = K) : w.cell? ⟨g, p, none⟩ = some (.int .u8 (K : Int)) := by rw [← hK]; exact h.mm.cell (by rw [e]; exact hp)
theorem conv_k {K : Nat} (h : K < 15) : IntKind.i64.wrap (K : Int) = (K : Int) ∧ wrap64 (K : Int) = (K : Int) := ⟨IntWalk.i64_in _ (by omega), IntWalk.wrap64_in _ (by omega)⟩
theorem ne_gt {a b : Nat} (h : a < b) : b ≠ a := by omega
theorem nel_f {n L : Int} (h : n ≠ L) : (n == L) = false := by rw [beq_eq_false_iff_ne]; exact h
theorem nat_f (p : Nat) : decide ((p : Int) < 0) = false := by rw [decide_eq_false_iff_not]; omega
theorem le_f {p M : Nat} (h : p < M) : decide ((M : Int) ≤ (p : Int)) = false := by rw [decide_eq_false_iff_not]; omega
theorem lt1_f {K : Nat} (h : 1 ≤ K) : decide ((K : Int) < 1) = false := by rw [decide_eq_false_iff_not]; omega
theorem ge15_f {K : Nat} (h : K < 15) : decide (15 ≤ (K : Int)) = false := by rw [decide_eq_false_iff_not]; omega
theorem step_eq {s : Mc} {p K : Nat} (hp : s.top.pc = (p : Int)) (hp2 : p < s.mem.length) (hK : byteN s.mem p = K) (hK1 : 1 ≤ K) (hK2 : K < 15) :
    stepV s = if s.mem.length < p + insB K then .err 3 s.mem else if badV K (operV s.mem K p) s.top.vars.length = true then .err 17 s.mem else if s.top.vals.length < insT K (operV s.mem K p) then .err 14 s.mem else execV K (operV s.mem K p) { s with top := { s.top with pc := (p : Int) + insB K } } := by
  unfold stepV
  rw [hp, if_neg (by omega), Int.toNat_natCast]
  simp only [hK]
  rw [if_neg (by omega)]
theorem insT_eq {K n : Nat} (h : K ≠ 12) : insT K n = insT0 K := by
  unfold insT insT0
  by_cases h1 : K = 5 ∨ K = 9
  · rw [if_pos h1, if_pos h1]
  · rw [if_neg h1, if_neg h1, if_neg h]
    simp only [h, false_or]
theorem bad_f {K n v : Nat} (h2 : K ≠ 2) (h3 : K ≠ 3) (h8 : K ≠ 8) (h9 : K ≠ 9) : badV K n v = false := by unfold badV; simp [h2, h3, h8, h9]
theorem keq_f {K c : Nat} (h : K ≠ c) : ((K : Int) == (c : Int)) = false := by rw [beq_eq_false_iff_ne]; omega
theorem i64_small {x : Int} (h0 : 0 ≤ x) (h : x ≤ 9000000000000000000) : IntKind.i64.wrap x = x := IntWalk.i64_in _ (by omega)
theorem lt_tt {M : Nat} {x : Nat} (h : M < x) : decide ((M : Int) < (x : Int)) = true := by rw [decide_eq_true_iff]; omega
theorem lt_ff {M : Nat} {x : Nat} (h : ¬ M < x) : decide ((M : Int) < (x : Int)) = false := by rw [decide_eq_false_iff_not]; omega
set_option maxRecDepth 100000 in
set_option maxHeartbeats 16000000 in
theorem step_one (K p : Nat) (L : Int) (h : RM w0 w m g mc r PL s qs q C VA V FV OV n val) (hd : s.low.length ≤ 64) (hn : n ≠ L) (hn0 : 0 ≤ n) (hn1 : n ≤ 1000000) (hp : s.top.pc = (p : Int)) (hp2 : p < s.mem.length) (hK : byteN s.mem p = K) (hK1 : 1 ≤ K) (hK2 : K < 15) (hm : s.mem.length ≤ 1000000000) (hB : insB K = 1) (HEn : Enters Tryz.prog (87 + K))
    (HDO : ∀ (W : World), insT K (operV s.mem K p) ≤ s.top.vals.length → badV K (operV s.mem K p) s.top.vars.length = false → RM w0 W m g mc r PL { s with top := { s.top with pc := (p : Int) + (insB K : Int) } } qs q C VA V FV OV (n + 1) val → Calls Tryz.prog (87 + K) #[.pointer (some ⟨r, 0, none⟩), .int .u32 (operV s.mem K p : Int)] W (DoP w0 m g mc r PL (n + 1) (execV K (operV s.mem K p) { s with top := { s.top with pc := (p : Int) + (insB K : Int) } }))) :
    Calls Tryz.prog 38 #[.pointer (some ⟨r, 0, none⟩), .int .i64 L] w (DoP w0 m g mc r PL (n + 1) (stepV s)) := by
  have k2 : K ≠ 2 := fun e => by subst e; exact absurd hB (by decide)
  have k3 : K ≠ 3 := fun e => by subst e; exact absurd hB (by decide)
  have k8 : K ≠ 8 := fun e => by subst e; exact absurd hB (by decide)
  have k9 : K ≠ 9 := fun e => by subst e; exact absurd hB (by decide)
  have k12 : K ≠ 12 := fun e => by subst e; exact absurd hB (by decide)
  have hO := step_eq hp hp2 hK hK1 hK2
  rw [bad_f k2 k3 k8 k9, insT_eq k12] at hO
  have HDO2 := fun (W : World) h1 h2 => HDO W (by rw [insT_eq k12]; exact h1) (bad_f k2 k3 k8 k9) h2
  clear HDO
  rw [hB, show ((1 : Nat) : Int) = 1 from rfl] at hO HDO2
  have e2 := keq_f k2
  have e3 := keq_f k3
  have e8 := keq_f k8
  have e9 := keq_f k9
  have e12 := keq_f k12
  have HW := Lib.hid (fun (W : World) (hM : MM W m g mc PL s.mem) (h5 : p + 5 ≤ s.mem.length) => (show Calls Tryz.prog 53 #[.pointer (some ⟨m, 0, none⟩), .int .i64 ((p : Int) + 1)] W _ from mword_any (p + 1) W hM (by omega) hm))
  have HOP : Hid (operV s.mem K p = 0) := Lib.hid (by unfold operV; rw [hB]; rfl)
  rw [HOP.out] at hO HDO2
  have k1 : IntKind.i64.wrap ((p : Int) + 1) = (p : Int) + 1 := i64_small (by omega) (by omega)
  have kp1 : IntKind.i64.wrap ((p : Int) + 1) = (p : Int) + 1 := i64_small (by omega) (by omega)
  have kn : IntKind.i64.wrap (n + 1) = n + 1 := i64_small (by omega) (by omega)
  generalize stepV s = O at *
  have HO := Lib.hid hO
  have HD := Lib.hid HDO2
  clear hO HDO2 HOP
  have hq : qs.length ≤ 1000 := by rw [h.ly.len]; omega
  have HT := Lib.hid (fun (W : World) (hR : RM w0 W m g mc r PL s qs q C VA V FV OV n val) => top_any hR hq)
  obtain ⟨M, hM⟩ : ∃ M, s.mem.length = M := ⟨_, rfl⟩
  have HM := Lib.hid hM
  rw [hM] at hp2 hm
  obtain ⟨AA, ca, rfl, _⟩ := own_form h.top.va
  obtain ⟨AV, cv, rfl, _⟩ := own_form h.top.vs
  obtain ⟨NA, hNA⟩ : ∃ NA, s.top.vars.length = NA := ⟨_, rfl⟩
  have HNA := Lib.hid hNA
  obtain ⟨NV, hNV⟩ : ∃ NV, s.top.vals.length = NV := ⟨_, rfl⟩
  have HNV := Lib.hid hNV
  have HPC := Lib.hid hp
  have f4 := h.run.cell' 4 _ rfl
  have RC0 := Lib.hid h
  have g0 := (RC0.out.drew).run.cell' 0 _ rfl
  have g1 := (RC0.out.drew).mem_len hM
  have t0 := nel_f hn
  have t1 : decide ((p : Int) < 0) = false := nat_f p
  have t2 := le_f hp2
  have i1 : (p : Int) < (M : Int) := by omega
  have i2 : (0 : Int) ≤ (p : Int) := by omega
  have u1 := lt1_f hK1
  have u2 := ge15_f hK2
  have v1 : (K : Int) < 15 := by omega
  have v2 : (0 : Int) ≤ (K : Int) := by omega
  obtain ⟨b1, b2⟩ := conv_k hK2
  have HKB := Lib.hid hK
  have HK1 := Lib.hid hK1
  have HK2 := Lib.hid hK2
  have HP2 := Lib.hid hp2
  clear h hq hM hNA hNV hp hn hK hd
  go_enter Tryz.func38, Tryz.ntmps38
  go_wp2_with (fail)
  refine wp_region_held_drew (S := fun W => W.cell? ⟨r, 0, none⟩ = some (.pointer (some ⟨m, 0, none⟩)) ∧ W.cell? ⟨m, 0, none⟩ = some (.slice (some ⟨g, 0, none⟩) M mc)) (by kernel_rfl) ⟨g0, g1⟩ (fun hS => ?_)
  have RC := Lib.hid RC0.out.drew
  clear g0 g1 f4
  generalize w.drew = wC at *
  clear RC0
  refine tkT 0 (v := ?v1) hS (fun wq hSq => ?y1) ?_; (case y1 => clear hSq; go_simp; (try with_reducible rfl)); simp only [Act.put, gqD, gqE, gqF]
  refine tkT 2 (v := ?v2) hS (fun wq hSq => ?y2) ?_; (case y2 => clear hSq; go_simp; (try with_reducible rfl)); simp only [Act.put, gqD, gqE, gqF]
  refine tkT 3 (v := ?v3) hS (fun wq hSq => ?y3) ?_; (case y3 => clear hSq; go_simp; (try with_reducible rfl)); simp only [Act.put, gqD, gqE, gqF]
  refine tkT 4 (v := ?v4) hS (fun wq hSq => ?y4) ?_; (case y4 => clear hSq; go_simp; (try with_reducible rfl)); simp only [Act.put, gqD, gqE, gqF]
  refine tkT 5 (v := ?v5) hS (fun wq hSq => ?y5) ?_; (case y5 => have hf0 := hSq.1; have hf1 := hSq.2; clear hSq; go_simp; (try with_reducible rfl)); simp only [Act.put, gqD, gqE, gqF]
  refine tkT 6 (v := ?v6) hS (fun wq hSq => ?y6) ?_; (case y6 => clear hSq; go_simp; (try with_reducible rfl)); simp only [Act.put, gqD, gqE, gqF]
  refine tkT 7 (v := ?v7) hS (fun wq hSq => ?y7) ?_; (case y7 => clear hSq; go_simp; (try with_reducible rfl)); simp only [Act.put, gqD, gqE, gqF]
  refine tkT 8 (v := ?v8) hS (fun wq hSq => ?y8) ?_; (case y8 => have hf0 := hSq.1; have hf1 := hSq.2; clear hSq; go_simp; (try with_reducible rfl)); simp only [Act.put, gqD, gqE, gqF]
  refine wpAnyH_ready (rs := [1]) (by kernel_rfl) (by simp) ?_
  refine AllReadyH.cons (o := ?oi9) ?hi9 (fun K hK => ?_) AllReadyH.nil
  case hi9 => (simp only [gqA, gqB, gqC]; rfl)
  go_simp
  with_reducible refine (HT.out _ RC.out).mono ?_
  rintro e wD ⟨rfl, nD⟩
  have RC := Lib.hid (RC.out.new nD)
  refine hK.out _ _ (⟨RC.out.run.cell' 0 _ rfl, RC.out.mem_len HM.out⟩) (fun hS => ?_)
  clear hK K
  refine tkT 9 (v := ?v10) hS (fun wq hSq => ?y10) ?_; (case y10 => clear hSq; go_simp; (try with_reducible rfl)); simp only [Act.put, gqD, gqE, gqF]
  refine tkT 10 (v := ?v11) hS (fun wq hSq => ?y11) ?_; (case y11 => clear hSq; go_simp; (try with_reducible rfl)); simp only [Act.put, gqD, gqE, gqF]
  refine wpAnyH_done (by kernel_rfl) ?_ _
  have f2 := RC.out.pc_at HPC.out
  have f0 := RC.out.va_len HNA.out
  go_wp2_with (go_at_call 59; (with_reducible refine (ins_any NA _).mono ?_); rintro e wE ⟨P, rfl, nE, hI'⟩; have RC := Lib.hid (RC.out.new nE); have hI := hI' K HK1.out HK2.out; have c0 := hI.c0; have c1 := hI.c1; have c2 := hI.c2; have c3 := hI.c3; clear hI' hI; have f2 := cellN nE f2; have fg := RC.out.byte_at HM.out HP2.out HKB.out)
  obtain ⟨TT, hTT⟩ : ∃ TT, insT0 K = TT := ⟨_, rfl⟩
  obtain ⟨II, hII⟩ : ∃ II, insI K NA = II := ⟨_, rfl⟩
  rw [hTT, hII]
  have X := Blk.made wE 135 #[.int .i64 1, .int .i64 (TT : Int), .int .i64 (II : Int), .func (.func (87 + K)) #[] #[]]
  have RCE := RC
  have RC := Lib.hid (RC.out.new ((New.refl wE).alloc (.cells #[.int .i64 1, .int .i64 (TT : Int), .int .i64 (II : Int), .func (.func (87 + K)) #[] #[]] 135)))
  clear f2 f0 fg c0 c1 c2 c3 b1 b2 u1 u2 v1 v2 i1 i2 t0 t1 t2
  have hqG : q < wE.heap.size := RCE.out.lo.2.2
  have hrG : r < wE.heap.size := RCE.out.run.lt
  generalize wE.alloc (.cells #[.int .i64 1, .int .i64 (TT : Int), .int .i64 (II : Int), .func (.func (87 + K)) #[] #[]] 135) = wX at *
  generalize wE.heap.size = GX at *
  have HTT := Lib.hid hTT
  have nq1 := ne_gt hqG
  have nr1 := ne_gt hrG
  have x0 := X.cell' 0 _ rfl
  have f2 := RC.out.pc_at HPC.out
  clear hTT hII hqG hrG RCE
  go_quiet (fail)
  have RC := Lib.hid (RC.out.new ((New.refl wX).drewN nq))
  have X := X.new ((New.refl wX).drewN nq)
  clear x0 f2
  generalize wX.drewN nq = wY at *
  by_cases e3' : M < p + 1
  · exact absurd (Nat.lt_of_lt_of_le e3' hp2) (Nat.lt_irrefl _)
  have t6 : decide ((M : Int) < (p : Int) + 1) = false := lt_ff e3'
  have hO := HO.out
  rw [if_neg (by rw [HM.out]; exact e3'), if_neg (by decide)] at hO
  have HO := Lib.hid hO
  clear hO
  have x0 := X.cell' 0 _ rfl
  (repeat go_step)
  have f1 := RC.out.vs_len HNV.out
  have x1 := X.cell' 1 _ rfl
  go_quiet (fail)
  have RC := Lib.hid (RC.out.new ((New.refl wY).drewN nq))
  have X := X.new ((New.refl wY).drewN nq)
  clear x0 x1 f1 t6
  generalize wY.drewN nq = wZ at *
  by_cases e4 : NV < TT
  · have t7 := lt_t e4
    have hO := HO.out
    rw [if_pos (by rw [HNV.out, HTT.out]; exact e4)] at hO
    have HO := Lib.hid hO
    clear hO
    (repeat go_step)
    go_ret
    rw [HO.out]
    exact RC.out.err 14
  have t7 := lt_f e4
  have hO := HO.out
  rw [if_neg (by rw [HNV.out, HTT.out]; exact e4)] at hO
  have HO := Lib.hid hO
  have HE4 := Lib.hid (show insT0 K ≤ s.top.vals.length by rw [HNV.out, HTT.out]; exact Nat.le_of_not_lt e4)
  clear hO
  (repeat go_step)
  have x0 := X.cell' 0 _ rfl
  have f2 := RC.out.pc_at HPC.out
  have z2 := RC.out.top.blk.free 2
  go_still_tail 9, (by kernel_rfl)
  have RC := Lib.hid (RC.out.new (New.refl wZ).drew)
  have X := X.drew
  change wpList _ _ _ _ _ wZ.drew
  clear x0 f2 z2
  generalize wZ.drew = wW at *
  have z2 := RC.out.top.blk.free 2
  have f2 := RC.out.pc_at HPC.out
  have f4 := RC.out.run.cell' 4 _ rfl
  have z4 := RC.out.run.free 4
  have x3 := X.cell' 3 _ rfl
  have RC := Lib.hid ((RC.out.setPc ((p : Int) + 1)).setSteps (n + 1))
  (repeat go_step)
  rw [HEn _ _, Oper.upon_enter]
  refine (HD.out _ HE4.out RC.out).mono ?_
  rintro e w9 hO9
  obtain ⟨cc, rfl, hO9⟩ := hO9.ret
  rename_i hK1 _
  refine hK1 _ _ ?_
  (repeat go_step)
  go_ret
  rw [HO.out]
  exact hO9
end
end Go.Proofs.YtnjampfhkojbnaaGreatDoor

namespace Go.Proofs.YtnjampfhkojbnaaGreatDoor
open Go Go.RowKit Go.Shelf
set_option linter.unusedSimpArgs false
set_option linter.unusedVariables false

section
variable {w0 w : World} {m g mc r : Nat} {PL : Value} {s : Mc} {qs : List Nat} {q C : Nat} {VA V FV OV : Value} {n : Int} {val : Nat}
theorem hp5_of {M p : Nat} {l : List UInt8} (h : ¬ M < p + 5) (e : l.length = M) : p + 5 ≤ l.length := by omega
set_option maxRecDepth 100000 in
set_option maxHeartbeats 16000000 in
theorem step_five (K p : Nat) (L : Int) (h : RM w0 w m g mc r PL s qs q C VA V FV OV n val) (hd : s.low.length ≤ 64) (hn : n ≠ L) (hn0 : 0 ≤ n) (hn1 : n ≤ 1000000) (hp : s.top.pc = (p : Int)) (hp2 : p < s.mem.length) (hK : byteN s.mem p = K) (hK1 : 1 ≤ K) (hK2 : K < 15) (hm : s.mem.length ≤ 1000000000) (hB : insB K = 5) (HEn : Enters Tryz.prog (87 + K))
    (HDO : ∀ (W : World), insT K (operV s.mem K p) ≤ s.top.vals.length → badV K (operV s.mem K p) s.top.vars.length = false → RM w0 W m g mc r PL { s with top := { s.top with pc := (p : Int) + (insB K : Int) } } qs q C VA V FV OV (n + 1) val → Calls Tryz.prog (87 + K) #[.pointer (some ⟨r, 0, none⟩), .int .u32 (operV s.mem K p : Int)] W (DoP w0 m g mc r PL (n + 1) (execV K (operV s.mem K p) { s with top := { s.top with pc := (p : Int) + (insB K : Int) } }))) :
    Calls Tryz.prog 38 #[.pointer (some ⟨r, 0, none⟩), .int .i64 L] w (DoP w0 m g mc r PL (n + 1) (stepV s)) := by
  have k2 : K ≠ 2 := fun e => by subst e; exact absurd hB (by decide)
  have k3 : K ≠ 3 := fun e => by subst e; exact absurd hB (by decide)
  have k8 : K ≠ 8 := fun e => by subst e; exact absurd hB (by decide)
  have k9 : K ≠ 9 := fun e => by subst e; exact absurd hB (by decide)
  have k12 : K ≠ 12 := fun e => by subst e; exact absurd hB (by decide)
  have hO := step_eq hp hp2 hK hK1 hK2
  rw [bad_f k2 k3 k8 k9, insT_eq k12] at hO
  have HDO2 := fun (W : World) h1 h2 => HDO W (by rw [insT_eq k12]; exact h1) (bad_f k2 k3 k8 k9) h2
  clear HDO
  rw [hB, show ((5 : Nat) : Int) = 5 from rfl] at hO HDO2
  have e2 := keq_f k2
  have e3 := keq_f k3
  have e8 := keq_f k8
  have e9 := keq_f k9
  have e12 := keq_f k12
  have HW := Lib.hid (fun (W : World) (hM : MM W m g mc PL s.mem) (h5 : p + 5 ≤ s.mem.length) => (show Calls Tryz.prog 53 #[.pointer (some ⟨m, 0, none⟩), .int .i64 ((p : Int) + 1)] W _ from mword_any (p + 1) W hM (by omega) hm))
  have HOP : Hid (operV s.mem K p = wordN s.mem (p + 1)) := Lib.hid (by unfold operV; rw [hB]; rfl)
  rw [HOP.out] at hO HDO2
  have k1 : IntKind.i64.wrap ((p : Int) + 5) = (p : Int) + 5 := i64_small (by omega) (by omega)
  have kp1 : IntKind.i64.wrap ((p : Int) + 1) = (p : Int) + 1 := i64_small (by omega) (by omega)
  have kn : IntKind.i64.wrap (n + 1) = n + 1 := i64_small (by omega) (by omega)
  generalize stepV s = O at *
  have HO := Lib.hid hO
  have HD := Lib.hid HDO2
  clear hO HDO2 HOP
  have hq : qs.length ≤ 1000 := by rw [h.ly.len]; omega
  have HT := Lib.hid (fun (W : World) (hR : RM w0 W m g mc r PL s qs q C VA V FV OV n val) => top_any hR hq)
  obtain ⟨M, hM⟩ : ∃ M, s.mem.length = M := ⟨_, rfl⟩
  have HM := Lib.hid hM
  rw [hM] at hp2 hm
  obtain ⟨AA, ca, rfl, _⟩ := own_form h.top.va
  obtain ⟨AV, cv, rfl, _⟩ := own_form h.top.vs
  obtain ⟨NA, hNA⟩ : ∃ NA, s.top.vars.length = NA := ⟨_, rfl⟩
  have HNA := Lib.hid hNA
  obtain ⟨NV, hNV⟩ : ∃ NV, s.top.vals.length = NV := ⟨_, rfl⟩
  have HNV := Lib.hid hNV
  have HPC := Lib.hid hp
  have f4 := h.run.cell' 4 _ rfl
  have RC0 := Lib.hid h
  have g0 := (RC0.out.drew).run.cell' 0 _ rfl
  have g1 := (RC0.out.drew).mem_len hM
  have t0 := nel_f hn
  have t1 : decide ((p : Int) < 0) = false := nat_f p
  have t2 := le_f hp2
  have i1 : (p : Int) < (M : Int) := by omega
  have i2 : (0 : Int) ≤ (p : Int) := by omega
  have u1 := lt1_f hK1
  have u2 := ge15_f hK2
  have v1 : (K : Int) < 15 := by omega
  have v2 : (0 : Int) ≤ (K : Int) := by omega
  obtain ⟨b1, b2⟩ := conv_k hK2
  have HKB := Lib.hid hK
  have HK1 := Lib.hid hK1
  have HK2 := Lib.hid hK2
  have HP2 := Lib.hid hp2
  clear h hq hM hNA hNV hp hn hK hd
  go_enter Tryz.func38, Tryz.ntmps38
  go_wp2_with (fail)
  refine wp_region_held_drew (S := fun W => W.cell? ⟨r, 0, none⟩ = some (.pointer (some ⟨m, 0, none⟩)) ∧ W.cell? ⟨m, 0, none⟩ = some (.slice (some ⟨g, 0, none⟩) M mc)) (by kernel_rfl) ⟨g0, g1⟩ (fun hS => ?_)
  have RC := Lib.hid RC0.out.drew
  clear g0 g1 f4
  generalize w.drew = wC at *
  clear RC0
  refine tkT 0 (v := ?v1) hS (fun wq hSq => ?y1) ?_; (case y1 => clear hSq; go_simp; (try with_reducible rfl)); simp only [Act.put, gqD, gqE, gqF]
  refine tkT 2 (v := ?v2) hS (fun wq hSq => ?y2) ?_; (case y2 => clear hSq; go_simp; (try with_reducible rfl)); simp only [Act.put, gqD, gqE, gqF]
  refine tkT 3 (v := ?v3) hS (fun wq hSq => ?y3) ?_; (case y3 => clear hSq; go_simp; (try with_reducible rfl)); simp only [Act.put, gqD, gqE, gqF]
  refine tkT 4 (v := ?v4) hS (fun wq hSq => ?y4) ?_; (case y4 => clear hSq; go_simp; (try with_reducible rfl)); simp only [Act.put, gqD, gqE, gqF]
  refine tkT 5 (v := ?v5) hS (fun wq hSq => ?y5) ?_; (case y5 => have hf0 := hSq.1; have hf1 := hSq.2; clear hSq; go_simp; (try with_reducible rfl)); simp only [Act.put, gqD, gqE, gqF]
  refine tkT 6 (v := ?v6) hS (fun wq hSq => ?y6) ?_; (case y6 => clear hSq; go_simp; (try with_reducible rfl)); simp only [Act.put, gqD, gqE, gqF]
  refine tkT 7 (v := ?v7) hS (fun wq hSq => ?y7) ?_; (case y7 => clear hSq; go_simp; (try with_reducible rfl)); simp only [Act.put, gqD, gqE, gqF]
  refine tkT 8 (v := ?v8) hS (fun wq hSq => ?y8) ?_; (case y8 => have hf0 := hSq.1; have hf1 := hSq.2; clear hSq; go_simp; (try with_reducible rfl)); simp only [Act.put, gqD, gqE, gqF]
  refine wpAnyH_ready (rs := [1]) (by kernel_rfl) (by simp) ?_
  refine AllReadyH.cons (o := ?oi9) ?hi9 (fun K hK => ?_) AllReadyH.nil
  case hi9 => (simp only [gqA, gqB, gqC]; rfl)
  go_simp
  with_reducible refine (HT.out _ RC.out).mono ?_
  rintro e wD ⟨rfl, nD⟩
  have RC := Lib.hid (RC.out.new nD)
  refine hK.out _ _ (⟨RC.out.run.cell' 0 _ rfl, RC.out.mem_len HM.out⟩) (fun hS => ?_)
  clear hK K
  refine tkT 9 (v := ?v10) hS (fun wq hSq => ?y10) ?_; (case y10 => clear hSq; go_simp; (try with_reducible rfl)); simp only [Act.put, gqD, gqE, gqF]
  refine tkT 10 (v := ?v11) hS (fun wq hSq => ?y11) ?_; (case y11 => clear hSq; go_simp; (try with_reducible rfl)); simp only [Act.put, gqD, gqE, gqF]
  refine wpAnyH_done (by kernel_rfl) ?_ _
  have f2 := RC.out.pc_at HPC.out
  have f0 := RC.out.va_len HNA.out
  go_wp2_with (go_at_call 59; (with_reducible refine (ins_any NA _).mono ?_); rintro e wE ⟨P, rfl, nE, hI'⟩; have RC := Lib.hid (RC.out.new nE); have hI := hI' K HK1.out HK2.out; have c0 := hI.c0; have c1 := hI.c1; have c2 := hI.c2; have c3 := hI.c3; clear hI' hI; have f2 := cellN nE f2; have fg := RC.out.byte_at HM.out HP2.out HKB.out)
  obtain ⟨TT, hTT⟩ : ∃ TT, insT0 K = TT := ⟨_, rfl⟩
  obtain ⟨II, hII⟩ : ∃ II, insI K NA = II := ⟨_, rfl⟩
  rw [hTT, hII]
  have X := Blk.made wE 135 #[.int .i64 5, .int .i64 (TT : Int), .int .i64 (II : Int), .func (.func (87 + K)) #[] #[]]
  have RCE := RC
  have RC := Lib.hid (RC.out.new ((New.refl wE).alloc (.cells #[.int .i64 5, .int .i64 (TT : Int), .int .i64 (II : Int), .func (.func (87 + K)) #[] #[]] 135)))
  clear f2 f0 fg c0 c1 c2 c3 b1 b2 u1 u2 v1 v2 i1 i2 t0 t1 t2
  have hqG : q < wE.heap.size := RCE.out.lo.2.2
  have hrG : r < wE.heap.size := RCE.out.run.lt
  generalize wE.alloc (.cells #[.int .i64 5, .int .i64 (TT : Int), .int .i64 (II : Int), .func (.func (87 + K)) #[] #[]] 135) = wX at *
  generalize wE.heap.size = GX at *
  have HTT := Lib.hid hTT
  have nq1 := ne_gt hqG
  have nr1 := ne_gt hrG
  have x0 := X.cell' 0 _ rfl
  have f2 := RC.out.pc_at HPC.out
  clear hTT hII hqG hrG RCE
  go_quiet (fail)
  have RC := Lib.hid (RC.out.new ((New.refl wX).drewN nq))
  have X := X.new ((New.refl wX).drewN nq)
  clear x0 f2
  generalize wX.drewN nq = wY at *
  by_cases e3' : M < p + 5
  · have t6 : decide ((M : Int) < (p : Int) + 5) = true := lt_tt e3'
    have hO := HO.out
    rw [if_pos (by rw [HM.out]; exact e3')] at hO
    have HO := Lib.hid hO
    clear hO
    (repeat go_step)
    go_ret
    rw [HO.out]
    exact RC.out.err 3
  have t6 : decide ((M : Int) < (p : Int) + 5) = false := lt_ff e3'
  have hO := HO.out
  rw [if_neg (by rw [HM.out]; exact e3'), if_neg (by decide)] at hO
  have HO := Lib.hid hO
  clear hO
  have x0 := X.cell' 0 _ rfl
  (repeat go_step)
  have g0 := RC.out.run.cell' 0 _ rfl
  have g2 := RC.out.pc_at HPC.out
  have hp5 := hp5_of e3' HM.out
  refine wp_region_held_drew (S := fun W => W.cell? ⟨r, 0, none⟩ = some (.pointer (some ⟨m, 0, none⟩)) ∧ W.cell? ⟨q, 2, none⟩ = some (.int .i64 (p : Int))) (by kernel_rfl) ⟨g0, g2⟩ (fun hS => ?_)
  have RC := Lib.hid (RC.out.new (New.refl wY).drew)
  have X := X.drew
  clear g0 g2 x0
  generalize wY.drew = wV at *
  refine tkT 0 (v := ?v101) hS (fun wq hSq => ?y101) ?_; (case y101 => clear hSq; go_simp; (try with_reducible rfl)); simp only [Act.put, gqD, gqE, gqF]
  refine tkT 4 (v := ?v102) hS (fun wq hSq => ?y102) ?_; (case y102 => clear hSq; go_simp; (try with_reducible rfl)); simp only [Act.put, gqD, gqE, gqF]
  refine tkT 1 (v := ?v103) hS (fun wq hSq => ?y103) ?_; (case y103 => clear hSq; go_simp; (try with_reducible rfl)); simp only [Act.put, gqD, gqE, gqF]
  refine tkT 5 (v := ?v104) hS (fun wq hSq => ?y104) ?_; (case y104 => clear hSq; go_simp; (try with_reducible rfl)); simp only [Act.put, gqD, gqE, gqF]
  refine tkT 2 (v := ?v105) hS (fun wq hSq => ?y105) ?_; (case y105 => clear hSq; go_simp; (try with_reducible rfl)); simp only [Act.put, gqD, gqE, gqF]
  refine tkT 6 (v := ?v106) hS (fun wq hSq => ?y106) ?_; (case y106 => clear hSq; go_simp; (try with_reducible rfl)); simp only [Act.put, gqD, gqE, gqF]
  refine tkT 3 (v := ?v107) hS (fun wq hSq => ?y107) ?_; (case y107 => have hf0 := hSq.1; have hf1 := hSq.2; clear hSq; go_simp; (try with_reducible rfl)); simp only [Act.put, gqD, gqE, gqF]
  refine tkT 7 (v := ?v108) hS (fun wq hSq => ?y108) ?_; (case y108 => have hf0 := hSq.1; have hf1 := hSq.2; clear hSq; go_simp; (try with_reducible rfl)); simp only [Act.put, gqD, gqE, gqF]
  refine tkT 8 (v := ?v109) hS (fun wq hSq => ?y109) ?_; (case y109 => clear hSq; go_simp; (try with_reducible rfl)); simp only [Act.put, gqD, gqE, gqF]
  refine wpAnyH_ready (rs := [9]) (by kernel_rfl) (by simp) ?_
  refine AllReadyH.cons (o := ?oi110) ?hi110 (fun K hK => ?_) AllReadyH.nil
  case hi110 => (simp only [gqA, gqB, gqC]; rfl)
  go_simp
  with_reducible refine (HW.out _ RC.out.mm hp5).mono ?_
  rintro e wY ⟨rfl, nY⟩
  have RC := Lib.hid (RC.out.new nY)
  have X := X.new nY
  refine hK.out _ _ (⟨RC.out.run.cell' 0 _ rfl, RC.out.pc_at HPC.out⟩) (fun hS => ?_)
  clear hK K
  refine tkT 10 (v := ?v111) hS (fun wq hSq => ?y111) ?_; (case y111 => clear hSq; go_simp; (try with_reducible rfl)); simp only [Act.put, gqD, gqE, gqF]
  refine wpAnyH_done (by kernel_rfl) ?_ _
  have x0 := X.cell' 0 _ rfl
  (repeat go_step)
  have f1 := RC.out.vs_len HNV.out
  have x1 := X.cell' 1 _ rfl
  go_quiet (fail)
  have RC := Lib.hid (RC.out.new ((New.refl wY).drewN nq))
  have X := X.new ((New.refl wY).drewN nq)
  clear x0 x1 f1 t6
  generalize wY.drewN nq = wZ at *
  by_cases e4 : NV < TT
  · have t7 := lt_t e4
    have hO := HO.out
    rw [if_pos (by rw [HNV.out, HTT.out]; exact e4)] at hO
    have HO := Lib.hid hO
    clear hO
    (repeat go_step)
    go_ret
    rw [HO.out]
    exact RC.out.err 14
  have t7 := lt_f e4
  have hO := HO.out
  rw [if_neg (by rw [HNV.out, HTT.out]; exact e4)] at hO
  have HO := Lib.hid hO
  have HE4 := Lib.hid (show insT0 K ≤ s.top.vals.length by rw [HNV.out, HTT.out]; exact Nat.le_of_not_lt e4)
  clear hO
  (repeat go_step)
  have x0 := X.cell' 0 _ rfl
  have f2 := RC.out.pc_at HPC.out
  have z2 := RC.out.top.blk.free 2
  go_still_tail 9, (by kernel_rfl)
  have RC := Lib.hid (RC.out.new (New.refl wZ).drew)
  have X := X.drew
  change wpList _ _ _ _ _ wZ.drew
  clear x0 f2 z2
  generalize wZ.drew = wW at *
  have z2 := RC.out.top.blk.free 2
  have f2 := RC.out.pc_at HPC.out
  have f4 := RC.out.run.cell' 4 _ rfl
  have z4 := RC.out.run.free 4
  have x3 := X.cell' 3 _ rfl
  have RC := Lib.hid ((RC.out.setPc ((p : Int) + 5)).setSteps (n + 1))
  (repeat go_step)
  rw [HEn _ _, Oper.upon_enter]
  refine (HD.out _ HE4.out RC.out).mono ?_
  rintro e w9 hO9
  obtain ⟨cc, rfl, hO9⟩ := hO9.ret
  rename_i hK1 _
  refine hK1 _ _ ?_
  (repeat go_step)
  go_ret
  rw [HO.out]
  exact hO9
end
end Go.Proofs.YtnjampfhkojbnaaGreatDoor

