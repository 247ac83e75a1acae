/- A step of the run, whatever it is. Conditions: sizes. (Printed by mk-t17.py.) Call of a machine: a run. Conditions: sizes. Call of a machine: a run that begins. Conditions: sizes. -/
import Derived.Test.YtnjampfhkojbnaaGreatDoorGBase
import Derived.Test.YtnjampfhkojbnaaGreatDoorGT16

namespace Go.Proofs.YtnjampfhkojbnaaGreatDoor
open Go Go.RowKit Go.Shelf
set_option linter.unusedSimpArgs false
set_option linter.unusedVariables false

section
variable {w0 w : World} {m g mc r : Nat} {PL : Value} {s : Mc} {qs : List Nat} {q C : Nat} {VA V FV OV : Value} {n : Int} {val : Nat} {M k : Nat}
theorem OkS.pcs (ok : OkS M k s) (hk : k ≤ 100000) : -9000000000000000000 ≤ s.top.pc ∧ s.top.pc ≤ 9000000000000000000 := by
  have h1 := ok.top.lo
  have h2 := ok.top.hi
  omega
theorem OkS.lens (ok : OkS M k s) : s.low.length ≤ 1000 ∧ s.low.length ≤ 63 ∧ stkN s ≤ 100000 ∧ s.top.vars.length ≤ 1000 := by
  have h1 := ok.deep
  have h2 := ok.stk
  have h3 := ok.top.len
  exact ⟨by omega, by omega, by omega, by omega⟩
theorem do_any (K x : Nat) (h : RM w0 w m g mc r PL s qs q C VA V FV OV n val) (ok : OkS M k s) (hk : k ≤ 100000) (hM : M ≤ 1000000000) (hi : s.inp.length ≤ 1000000) (hx : x < W32) (hK1 : 1 ≤ K) (hK2 : K < 15) (ht : insT K x ≤ s.top.vals.length) (hb : badV K x s.top.vars.length = false) :
    Calls Tryz.prog (87 + K) #[.pointer (some ⟨r, 0, none⟩), .int .u32 (x : Int)] w (DoP w0 m g mc r PL n (execV K x s)) := by
  obtain ⟨l1, l2, l3, l4⟩ := ok.lens
  obtain ⟨p1, p2⟩ := ok.pcs hk
  have hm : s.mem.length ≤ 1000000000 := by rw [ok.mem]; exact hM
  have hv := ok.top.vals
  match K, hK1, hK2, ht, hb with
  | 1, _, _, _, _ => exact constant_any x h l1 l3
  | 2, _, _, _, hb => exact get_any x h l1 l3 (by rw [bad_2] at hb; simpa using hb) l4
  | 3, _, _, ht, hb => exact set_any x h l1 l3 ht hv (by rw [bad_3] at hb; simpa using hb) l4
  | 4, _, _, ht, _ => exact read_any x h l1 l3 ht hv hm
  | 5, _, _, ht, _ => exact store_any x h l1 l3 ht hv hm
  | 6, _, _, _, _ => exact rin_any x h l1 l3 hi
  | 7, _, _, ht, _ => exact out_any x h l1 l3 ht hv ok.out
  | 8, _, _, ht, hb => exact rununary_any x h l1 l3 ht hv (by rw [bad_8] at hb; simpa using hb)
  | 9, _, _, ht, hb => exact runbinary_any x h l1 l3 ht hv (by rw [bad_9] at hb; simpa using hb)
  | 10, _, _, _, _ => exact jump_any x h l1 l3 hx p1 p2
  | 11, _, _, ht, _ => exact zero_any x h l1 l3 ht hx p1 p2
  | 12, _, _, ht, _ => exact invoke_any x h l2 l3 ht hv hm hx
  | 13, _, _, ht, _ => exact leave_any x h l1 l3 ht
  | 14, _, _, ht, _ => exact drop_any x h l1 l3 ht
  | K + 15, _, h2, _, _ => exact absurd h2 (by omega)
set_option maxRecDepth 100000 in
set_option maxHeartbeats 16000000 in
theorem step_limit (h : RM w0 w m g mc r PL s qs q C VA V FV OV n val) :
    Calls Tryz.prog 38 #[.pointer (some ⟨r, 0, none⟩), .int .i64 n] w fun e w' => e = .returned (.int .i64 16) ∧ w' = w := by
  have f4 := h.run.cell' 4 _ rfl
  clear h
  have t0 : (n == n) = true := beq_self_eq_true n
  go_enter Tryz.func38, Tryz.ntmps38
  (repeat go_step)
  go_ret
  exact ⟨rfl, rfl⟩
theorem lt0_t {x : Int} (h : x < 0) : decide (x < 0) = true := decide_eq_true h
theorem lt0_f {x : Int} (h : ¬ x < 0) : decide (x < 0) = false := decide_eq_false h
theorem leM_t {x : Int} {M : Nat} (h : (M : Int) ≤ x) : decide ((M : Int) ≤ x) = true := decide_eq_true h
set_option maxRecDepth 100000 in
set_option maxHeartbeats 16000000 in
theorem step_low {L : Int} (h : RM w0 w m g mc r PL s qs q C VA V FV OV n val) (ok : OkS M k s) (hn : n ≠ L) (hp : s.top.pc < 0 ∨ (s.mem.length : Int) ≤ s.top.pc) :
    Calls Tryz.prog 38 #[.pointer (some ⟨r, 0, none⟩), .int .i64 L] w (DoP w0 m g mc r PL (n + 1) (stepV s)) := by
  have hO : stepV s = .err 3 s.mem := by unfold stepV; rw [if_pos hp]
  rw [hO]
  rw [ok.mem] at hp
  obtain ⟨p, hpc⟩ : ∃ p, s.top.pc = p := ⟨_, rfl⟩
  rw [hpc] at hp
  have HPC := Lib.hid hpc
  clear hO hpc
  have hq : qs.length ≤ 1000 := by rw [h.ly.len]; exact ok.lens.1
  have HT := Lib.hid (fun (W : World) (hR : RM w0 W m g mc r PL s qs q C VA V FV OV n val) => top_any hR hq)
  have HM := Lib.hid ok.mem
  have f4 := h.run.cell' 4 _ rfl
  have RC0 := Lib.hid h
  have g0 := (RC0.out.drew).run.cell' 0 _ rfl
  have g1 := (RC0.out.drew).mem_len ok.mem
  have t0 := nel_f hn
  clear h hq hn ok
  go_enter Tryz.func38, Tryz.ntmps38
  go_wp2_with (fail)
  refine wp_region_held_drew (S := fun W => W.cell? ⟨r, 0, none⟩ = some (.pointer (some ⟨m, 0, none⟩)) ∧ W.cell? ⟨m, 0, none⟩ = some (.slice (some ⟨g, 0, none⟩) M mc)) (by kernel_rfl) ⟨g0, g1⟩ (fun hS => ?_)
  have RC := Lib.hid RC0.out.drew
  clear g0 g1 f4
  generalize w.drew = wC at *
  clear RC0
  refine tkT 0 (v := ?v1) hS (fun wq hSq => ?y1) ?_; (case y1 => clear hSq; go_simp; (try with_reducible rfl)); simp only [Act.put, gqD, gqE, gqF]
  refine tkT 2 (v := ?v2) hS (fun wq hSq => ?y2) ?_; (case y2 => clear hSq; go_simp; (try with_reducible rfl)); simp only [Act.put, gqD, gqE, gqF]
  refine tkT 3 (v := ?v3) hS (fun wq hSq => ?y3) ?_; (case y3 => clear hSq; go_simp; (try with_reducible rfl)); simp only [Act.put, gqD, gqE, gqF]
  refine tkT 4 (v := ?v4) hS (fun wq hSq => ?y4) ?_; (case y4 => clear hSq; go_simp; (try with_reducible rfl)); simp only [Act.put, gqD, gqE, gqF]
  refine tkT 5 (v := ?v5) hS (fun wq hSq => ?y5) ?_; (case y5 => have hf0 := hSq.1; have hf1 := hSq.2; clear hSq; go_simp; (try with_reducible rfl)); simp only [Act.put, gqD, gqE, gqF]
  refine tkT 6 (v := ?v6) hS (fun wq hSq => ?y6) ?_; (case y6 => clear hSq; go_simp; (try with_reducible rfl)); simp only [Act.put, gqD, gqE, gqF]
  refine tkT 7 (v := ?v7) hS (fun wq hSq => ?y7) ?_; (case y7 => clear hSq; go_simp; (try with_reducible rfl)); simp only [Act.put, gqD, gqE, gqF]
  refine tkT 8 (v := ?v8) hS (fun wq hSq => ?y8) ?_; (case y8 => have hf0 := hSq.1; have hf1 := hSq.2; clear hSq; go_simp; (try with_reducible rfl)); simp only [Act.put, gqD, gqE, gqF]
  refine wpAnyH_ready (rs := [1]) (by kernel_rfl) (by simp) ?_
  refine AllReadyH.cons (o := ?oi9) ?hi9 (fun K hK => ?_) AllReadyH.nil
  case hi9 => (simp only [gqA, gqB, gqC]; rfl)
  go_simp
  with_reducible refine (HT.out _ RC.out).mono ?_
  rintro e wD ⟨rfl, nD⟩
  have RC := Lib.hid (RC.out.new nD)
  refine hK.out _ _ (⟨RC.out.run.cell' 0 _ rfl, RC.out.mem_len HM.out⟩) (fun hS => ?_)
  clear hK K
  refine tkT 9 (v := ?v10) hS (fun wq hSq => ?y10) ?_; (case y10 => clear hSq; go_simp; (try with_reducible rfl)); simp only [Act.put, gqD, gqE, gqF]
  refine tkT 10 (v := ?v11) hS (fun wq hSq => ?y11) ?_; (case y11 => clear hSq; go_simp; (try with_reducible rfl)); simp only [Act.put, gqD, gqE, gqF]
  refine wpAnyH_done (by kernel_rfl) ?_ _
  have f2 := RC.out.pc_at HPC.out
  by_cases h1 : p < 0
  · have t1 := lt0_t h1
    (repeat go_step)
    go_ret
    exact RC.out.err 3
  · have t1 := lt0_f h1
    have t2 := leM_t (hp.resolve_left h1)
    (repeat go_step)
    go_ret
    exact RC.out.err 3
theorem bad_test {K : Nat} (h : K < 1 ∨ 15 ≤ K) : (decide ((K : Int) < 1) = true) ∨ (decide ((K : Int) < 1) = false ∧ decide (15 ≤ (K : Int)) = true) := by
  by_cases h1 : K < 1
  · exact Or.inl (by rw [decide_eq_true_iff]; omega)
  · exact Or.inr ⟨by rw [decide_eq_false_iff_not]; omega, by rw [decide_eq_true_iff]; omega⟩
theorem conv_i64 {K : Nat} (h : K < 256) : IntKind.i64.wrap (K : Int) = (K : Int) := IntWalk.i64_in _ (by omega)
theorem idx_nn (p : Nat) : (0 : Int) ≤ (p : Int) := by omega
theorem idx_lt {p M : Nat} (h : p < M) : (p : Int) < (M : Int) := by omega
set_option maxRecDepth 100000 in
set_option maxHeartbeats 16000000 in
theorem step_bad {L : Int} (p K : Nat) (h : RM w0 w m g mc r PL s qs q C VA V FV OV n val) (ok : OkS M k s) (hn : n ≠ L) (hp : s.top.pc = (p : Int)) (hp2 : p < s.mem.length) (hK : byteN s.mem p = K) (hbad : K < 1 ∨ 15 ≤ K) :
    Calls Tryz.prog 38 #[.pointer (some ⟨r, 0, none⟩), .int .i64 L] w (DoP w0 m g mc r PL (n + 1) (stepV s)) := by
  have hO : stepV s = .err 17 s.mem := by unfold stepV; rw [hp, if_neg (by omega), Int.toNat_natCast]; simp only [hK]; rw [if_pos hbad]
  rw [hO]
  have hKb : K < 256 := by rw [← hK]; exact byteN_lt _ _
  rw [ok.mem] at hp2
  have HPC := Lib.hid hp
  have HKB := Lib.hid hK
  have HP2 := Lib.hid hp2
  obtain ⟨AA, ca, rfl, _⟩ := own_form h.top.va
  have t1 := nat_f p
  have t2 := le_f hp2
  have i1 := idx_lt hp2
  have i2 := idx_nn p
  clear hO hp hK
  have hq : qs.length ≤ 1000 := by rw [h.ly.len]; exact ok.lens.1
  have HT := Lib.hid (fun (W : World) (hR : RM w0 W m g mc r PL s qs q C (.slice AA s.top.vars.length ca) V FV OV n val) => top_any hR hq)
  have HM := Lib.hid ok.mem
  have f4 := h.run.cell' 4 _ rfl
  have RC0 := Lib.hid h
  have g0 := (RC0.out.drew).run.cell' 0 _ rfl
  have g1 := (RC0.out.drew).mem_len ok.mem
  have t0 := nel_f hn
  have bt := bad_test hbad
  have b1 := conv_i64 hKb
  clear hbad hKb hp2
  clear h hq hn ok
  go_enter Tryz.func38, Tryz.ntmps38
  go_wp2_with (fail)
  refine wp_region_held_drew (S := fun W => W.cell? ⟨r, 0, none⟩ = some (.pointer (some ⟨m, 0, none⟩)) ∧ W.cell? ⟨m, 0, none⟩ = some (.slice (some ⟨g, 0, none⟩) M mc)) (by kernel_rfl) ⟨g0, g1⟩ (fun hS => ?_)
  have RC := Lib.hid RC0.out.drew
  clear g0 g1 f4
  generalize w.drew = wC at *
  clear RC0
  refine tkT 0 (v := ?v1) hS (fun wq hSq => ?y1) ?_; (case y1 => clear hSq; go_simp; (try with_reducible rfl)); simp only [Act.put, gqD, gqE, gqF]
  refine tkT 2 (v := ?v2) hS (fun wq hSq => ?y2) ?_; (case y2 => clear hSq; go_simp; (try with_reducible rfl)); simp only [Act.put, gqD, gqE, gqF]
  refine tkT 3 (v := ?v3) hS (fun wq hSq => ?y3) ?_; (case y3 => clear hSq; go_simp; (try with_reducible rfl)); simp only [Act.put, gqD, gqE, gqF]
  refine tkT 4 (v := ?v4) hS (fun wq hSq => ?y4) ?_; (case y4 => clear hSq; go_simp; (try with_reducible rfl)); simp only [Act.put, gqD, gqE, gqF]
  refine tkT 5 (v := ?v5) hS (fun wq hSq => ?y5) ?_; (case y5 => have hf0 := hSq.1; have hf1 := hSq.2; clear hSq; go_simp; (try with_reducible rfl)); simp only [Act.put, gqD, gqE, gqF]
  refine tkT 6 (v := ?v6) hS (fun wq hSq => ?y6) ?_; (case y6 => clear hSq; go_simp; (try with_reducible rfl)); simp only [Act.put, gqD, gqE, gqF]
  refine tkT 7 (v := ?v7) hS (fun wq hSq => ?y7) ?_; (case y7 => clear hSq; go_simp; (try with_reducible rfl)); simp only [Act.put, gqD, gqE, gqF]
  refine tkT 8 (v := ?v8) hS (fun wq hSq => ?y8) ?_; (case y8 => have hf0 := hSq.1; have hf1 := hSq.2; clear hSq; go_simp; (try with_reducible rfl)); simp only [Act.put, gqD, gqE, gqF]
  refine wpAnyH_ready (rs := [1]) (by kernel_rfl) (by simp) ?_
  refine AllReadyH.cons (o := ?oi9) ?hi9 (fun K hK => ?_) AllReadyH.nil
  case hi9 => (simp only [gqA, gqB, gqC]; rfl)
  go_simp
  with_reducible refine (HT.out _ RC.out).mono ?_
  rintro e wD ⟨rfl, nD⟩
  have RC := Lib.hid (RC.out.new nD)
  refine hK.out _ _ (⟨RC.out.run.cell' 0 _ rfl, RC.out.mem_len HM.out⟩) (fun hS => ?_)
  clear hK K
  refine tkT 9 (v := ?v10) hS (fun wq hSq => ?y10) ?_; (case y10 => clear hSq; go_simp; (try with_reducible rfl)); simp only [Act.put, gqD, gqE, gqF]
  refine tkT 10 (v := ?v11) hS (fun wq hSq => ?y11) ?_; (case y11 => clear hSq; go_simp; (try with_reducible rfl)); simp only [Act.put, gqD, gqE, gqF]
  refine wpAnyH_done (by kernel_rfl) ?_ _
  have f2 := RC.out.pc_at HPC.out
  have f0 := RC.out.va_len rfl
  rcases bt with u1 | ⟨u1, u2⟩
  · go_wp2_with (go_at_call 59; (with_reducible refine (ins_any s.top.vars.length _).mono ?_); rintro e wE ⟨P, rfl, nE, _⟩; have RC := Lib.hid (RC.out.new nE); have f2 := cellN nE f2; have fg := RC.out.byte_at HM.out HP2.out HKB.out)
    go_ret
    exact RC.out.err 17
  · go_wp2_with (go_at_call 59; (with_reducible refine (ins_any s.top.vars.length _).mono ?_); rintro e wE ⟨P, rfl, nE, _⟩; have RC := Lib.hid (RC.out.new nE); have f2 := cellN nE f2; have fg := RC.out.byte_at HM.out HP2.out HKB.out)
    go_ret
    exact RC.out.err 17
theorem enter_do (K : Nat) (hK1 : 1 ≤ K) (hK2 : K < 15) : Enters Tryz.prog (87 + K) := by
  match K, hK1, hK2 with
  | 1, _, _ => exact enters_of Tryz.func88 (by kernel_rfl) rfl
  | 2, _, _ => exact enters_of Tryz.func89 (by kernel_rfl) rfl
  | 3, _, _ => exact enters_of Tryz.func90 (by kernel_rfl) rfl
  | 4, _, _ => exact enters_of Tryz.func91 (by kernel_rfl) rfl
  | 5, _, _ => exact enters_of Tryz.func92 (by kernel_rfl) rfl
  | 6, _, _ => exact enters_of Tryz.func93 (by kernel_rfl) rfl
  | 7, _, _ => exact enters_of Tryz.func94 (by kernel_rfl) rfl
  | 8, _, _ => exact enters_of Tryz.func95 (by kernel_rfl) rfl
  | 9, _, _ => exact enters_of Tryz.func96 (by kernel_rfl) rfl
  | 10, _, _ => exact enters_of Tryz.func97 (by kernel_rfl) rfl
  | 11, _, _ => exact enters_of Tryz.func98 (by kernel_rfl) rfl
  | 12, _, _ => exact enters_of Tryz.func99 (by kernel_rfl) rfl
  | 13, _, _ => exact enters_of Tryz.func100 (by kernel_rfl) rfl
  | 14, _, _ => exact enters_of Tryz.func101 (by kernel_rfl) rfl
  | K + 15, _, h2 => exact absurd h2 (by omega)
theorem step_go {L : Int} (h : RM w0 w m g mc r PL s qs q C VA V FV OV n val) (ok : OkS M k s) (hk : k ≤ 100000) (hM : M ≤ 1000000000) (hi : s.inp.length ≤ 1000000) (hn : n ≠ L) (hn0 : 0 ≤ n) (hn1 : n ≤ 1000000) :
    Calls Tryz.prog 38 #[.pointer (some ⟨r, 0, none⟩), .int .i64 L] w (DoP w0 m g mc r PL (n + 1) (stepV s)) := by
  by_cases hp : s.top.pc < 0 ∨ (s.mem.length : Int) ≤ s.top.pc
  · exact step_low h ok hn hp
  obtain ⟨p, hpc⟩ : ∃ p : Nat, s.top.pc = (p : Int) := ⟨s.top.pc.toNat, by omega⟩
  have hp2 : p < s.mem.length := by omega
  obtain ⟨K, hK⟩ : ∃ K, byteN s.mem p = K := ⟨_, rfl⟩
  by_cases hbad : K < 1 ∨ 15 ≤ K
  · exact step_bad p K h ok hn hpc hp2 hK hbad
  have hK1 : 1 ≤ K := by omega
  have hK2 : K < 15 := by omega
  have hd : s.low.length ≤ 64 := by have := ok.deep; omega
  have hm : s.mem.length ≤ 1000000000 := by rw [ok.mem]; exact hM
  have hM2 : M < W32 := Nat.lt_of_le_of_lt hM (by decide)
  have past : ∀ b : Nat, (p + b : Nat) ≤ s.mem.length + 5 → OkS M k { s with top := { s.top with pc := (p : Int) + (b : Int) } } := fun b hb => by
    have h1 := ok.mem
    have h2 := ok.top.lo
    exact ⟨ok.mem, ok.stk, ok.deep, ok.low, ⟨ok.top.len, ok.top.vars, ok.top.vals, by simp only; omega, by simp only; omega⟩, ok.out⟩
  have HD : ∀ (W : World), insT K (operV s.mem K p) ≤ s.top.vals.length → badV K (operV s.mem K p) s.top.vars.length = false → RM w0 W m g mc r PL { s with top := { s.top with pc := (p : Int) + (insB K : Int) } } qs q C VA V FV OV (n + 1) val → Calls Tryz.prog (87 + K) #[.pointer (some ⟨r, 0, none⟩), .int .u32 (operV s.mem K p : Int)] W (DoP w0 m g mc r PL (n + 1) (execV K (operV s.mem K p) { s with top := { s.top with pc := (p : Int) + (insB K : Int) } })) := fun W h1 h2 hR =>
    do_any K (operV s.mem K p) hR (past (insB K) (by have := (insB_le K).2; omega)) hk hM hi (operV_lt _ _ _) hK1 hK2 h1 h2
  by_cases b1 : insB K = 1
  · exact step_one K p L h hd hn hn0 hn1 hpc hp2 hK hK1 hK2 hm b1 (enter_do K hK1 hK2) HD
  by_cases b5 : insB K = 5
  · exact step_five K p L h hd hn hn0 hn1 hpc hp2 hK hK1 hK2 hm b5 (enter_do K hK1 hK2) HD
  match K, hK1, hK2, hK, b1, b5, HD with
  | 1, _, _, _, b1, b5, _ => exact absurd rfl b5
  | 2, _, _, hK, _, _, HD => exact step_2 p L h hd hn hn0 hn1 hpc hp2 hK hm HD
  | 3, _, _, hK, _, _, HD => exact step_3 p L h hd hn hn0 hn1 hpc hp2 hK hm HD
  | 4, _, _, _, b1, b5, _ => exact absurd rfl b1
  | 5, _, _, _, b1, b5, _ => exact absurd rfl b1
  | 6, _, _, _, b1, b5, _ => exact absurd rfl b1
  | 7, _, _, _, b1, b5, _ => exact absurd rfl b1
  | 8, _, _, hK, _, _, HD => exact step_8 p L h hd hn hn0 hn1 hpc hp2 hK hm HD
  | 9, _, _, hK, _, _, HD => exact step_9 p L h hd hn hn0 hn1 hpc hp2 hK hm HD
  | 10, _, _, _, b1, b5, _ => exact absurd rfl b5
  | 11, _, _, _, b1, b5, _ => exact absurd rfl b5
  | 12, _, _, hK, _, _, HD => exact step_12 p L h hd hn hn0 hn1 hpc hp2 hK hm HD
  | 13, _, _, _, b1, b5, _ => exact absurd rfl b1
  | 14, _, _, _, b1, b5, _ => exact absurd rfl b1
  | K + 15, _, h2, _, _, _, _ => exact absurd h2 (by omega)
end
end Go.Proofs.YtnjampfhkojbnaaGreatDoor

namespace Go.Proofs.YtnjampfhkojbnaaGreatDoor
open Go Go.RowKit Go.Shelf
set_option linter.unusedSimpArgs false
set_option linter.unusedVariables false

theorem own_u8 {w : World} {B l cap g : Nat} {xs : List UInt8} (h : w.ownsRow B 5 1 (.slice (some ⟨g, 0, none⟩) l cap) l (u8C xs)) : Rd w 1 (some ⟨g, 0, none⟩) l (u8C xs) := Rd.of_own h
theorem conv_out {W : World} {A : Option Addr} {n : Nat} (c : Nat) {l : List UInt8} (hl : l.length = n) (hr : Rd W 1 A n (u8C l)) : (convert 73 9 (.slice A n c)).run Tryz.prog W = .ok (.string (S l)) W := by
  by_cases h0 : 0 < n
  · obtain ⟨b, o, rfl, _, hc⟩ := hr.2 h0
    subst hl
    refine run_convert_bytes_back (P := Tryz.prog) W 73 9 5 ⟨b, o, none⟩ c l Tryz.underlying73 Tryz.underlying5 Tryz.underlying9 (fun j hj => ?_)
    have := hc j (.int .u8 (l[j].toNat : Int)) (by rw [u8C, List.getElem?_map, List.getElem?_eq_getElem hj]; rfl)
    rw [show (⟨b, o, none⟩ : Addr).add j = ⟨b, o + j, none⟩ from by unfold Addr.add; split <;> simp_all]
    simpa using this
  · obtain rfl : n = 0 := by omega
    obtain rfl : l = [] := List.eq_nil_of_length_eq_zero hl
    rw [run_convert_bytes_string W 73 9 5 _ 0 c Tryz.underlying73 Tryz.underlying5 Tryz.underlying9]
    cases A <;> simp [Conv.bytesToString, loadCells]
    all_goals rfl
def RetP (w : World) (m g mc : Nat) (PL : Value) (R : Rs) (e : Ending) (w' : World) : Prop :=
  e = .returned (.tuple #[.agg #[.int .u32 (R.value : Int), .string (S R.out), .int .i64 (R.steps : Int)], .int .i64 R.e]) ∧ MM w' m g mc PL R.mem ∧ w.grownBy w' (some g)
def stepsAt (w : World) (r : Nat) : Nat := match w.cell? ⟨r, 4, none⟩ with | some (.int _ n) => n.toNat | _ => 0
theorem stepsAt_at {w : World} {r : Nat} {n : Int} (h : w.cell? ⟨r, 4, none⟩ = some (.int .i64 n)) : stepsAt w r = n.toNat := by unfold stepsAt; rw [h]
theorem callV_no {mem : List UInt8} {a : Nat} {inp : List UInt8} {L : Int} {args : List Nat} (h : L < 1 ∨ 65536 < L ∨ 65536 < inp.length ∨ 8 < args.length) : callV mem a inp L args = Rs.err 1 mem := if_pos h
section
variable {w W : World} {m g mc B : Nat} {PL : Value} {mem : List UInt8}
theorem ret_set {c0 c1 c2 v0 v1 v2 : Value} (hM : MM W m g mc PL mem) (hX : Blk W B 38 #[c0, c1, c2]) (hB : w.heap.size ≤ B) (hg : w.grownBy W (some g)) :
    Blk (((W.setCell ⟨B, 0, none⟩ v0).setCell ⟨B, 1, none⟩ v1).setCell ⟨B, 2, none⟩ v2) B 38 #[v0, v1, v2] ∧ MM (((W.setCell ⟨B, 0, none⟩ v0).setCell ⟨B, 1, none⟩ v1).setCell ⟨B, 2, none⟩ v2) m g mc PL mem ∧ w.grownBy (((W.setCell ⟨B, 0, none⟩ v0).setCell ⟨B, 1, none⟩ v1).setCell ⟨B, 2, none⟩ v2) (some g) := by
  have hx : W.heap[B]? = some (.cells #[c0, c1, c2] 38 (0, 0)) := hX
  have hm : W.heap[m]? = some (.cells #[.slice (some ⟨g, 0, none⟩) mem.length mc, PL] tMach (0, 0)) := hM.mach
  have k1 : m ≠ B := fun e => by subst e; rw [hm] at hx; injection hx with hx; injection hx with _ hx; exact absurd hx (by decide)
  have k2 : (Value.slice (some ⟨g, 0, none⟩) mem.length mc).ownBlock ≠ some B := own_apart hM.row hx (by decide)
  exact ⟨((hX.put 0 v0).put 1 v1).put 2 v2, ⟨((hM.mach.far k1 v0).far k1 v1).far k1 v2, own_far _ (own_far _ (own_far _ hM.row k2) k2) k2⟩, grown_set (grown_set (grown_set hg v0 hB) v1 hB) v2 hB⟩
end
theorem exec_inp {c n : Nat} {u t : Mc} (h : execV c n u = .go t) : t.inp.length ≤ u.inp.length := by
  by_cases hk : c = 6
  · subst hk
    simp only [execV] at h
    cases hi : u.inp with
    | nil => rw [hi] at h; rw [pushV_keep h, hi]; exact Nat.le_refl _
    | cons b l =>
      rw [hi] at h
      simp only at h
      cases hp : pushV b.toNat u with
      | err e m => rw [hp] at h; cases h
      | fin v m o => rw [hp] at h; cases h
      | go y => rw [hp] at h; injection h with h; subst h; simp
  · rw [execV_keep hk h]; exact Nat.le_refl _
theorem step_inp {s t : Mc} (h : stepV s = .go t) : t.inp.length ≤ s.inp.length := by
  obtain ⟨q1, q2, c, n, q3, q4, q5, q6, q7, q8, q9, q10⟩ := stepV_go h
  exact exec_inp (u := { s with top := { s.top with pc := s.top.pc + insB c } }) q10
theorem gt_f {a b : Int} (h : ¬ a < b) : decide (a < b) = false := decide_eq_false h
theorem gt_t {a b : Int} (h : a < b) : decide (a < b) = true := decide_eq_true h
theorem gtn_f {b : Nat} {a : Int} {n : Nat} (h : ¬ (a < (b : Int))) (e : n = b) : decide (a < (n : Int)) = false := by subst e; exact decide_eq_false h
set_option maxRecDepth 100000 in
set_option maxHeartbeats 16000000 in
theorem call_bad {w : World} {m g mc a c : Nat} {PL : Value} {mem inp : List UInt8} {A : Option Addr} {args : List Nat} {L : Int} (hM : MM w m g mc PL mem) (hc : L < 1 ∨ 65536 < L ∨ 65536 < inp.length ∨ 8 < args.length) :
    Calls Tryz.prog 19 #[.pointer (some ⟨m, 0, none⟩), .int .u32 (a : Int), .string (S inp), .int .i64 L, .slice A args.length c] w (RetP w m g mc PL (callV mem a inp L args)) := by
  rw [callV_no hc]
  have BX := Blk.made w 38 #[.int .u32 0, .string ⟨#[]⟩, .int .i64 0]
  have HM1 := Lib.hid (hM.new ((New.refl w).alloc (.cells #[.int .u32 0, .string ⟨#[]⟩, .int .i64 0] 38)))
  have hsz : (S inp).size = inp.length := size_S inp
  obtain ⟨str, hstr⟩ : ∃ str, S inp = str := ⟨_, rfl⟩
  rw [hstr] at hsz ⊢
  obtain ⟨al, hal⟩ : ∃ al, args.length = al := ⟨_, rfl⟩
  rw [hal] at hc ⊢
  rw [← hsz] at hc
  have z0 := BX.free 0
  have z1 := BX.free 1
  have z2 := BX.free 2
  have y0 := BX.cell' 0 _ rfl
  have y1 := BX.cell' 1 _ rfl
  have y2 := BX.cell' 2 _ rfl
  clear hstr hsz hal hM BX
  by_cases c1 : L < 1
  · have t1 := gt_t c1
    clear hc
    go_enter Tryz.func19, Tryz.ntmps19
    go_wp2
    exact bodyPost_ret (v := .tuple #[.agg #[.int .u32 0, .string ⟨#[]⟩, .int .i64 0], .int .i64 1]) (by simp [results, Tryz.results19, go_sem, y0, y1, y2]) rfl ⟨rfl, HM1.out, ((New.refl w).alloc _).grown_ _⟩
  have t1 := gt_f c1
  by_cases c2 : 65536 < L
  · have t2 := gt_t c2
    clear hc
    go_enter Tryz.func19, Tryz.ntmps19
    go_wp2
    exact bodyPost_ret (v := .tuple #[.agg #[.int .u32 0, .string ⟨#[]⟩, .int .i64 0], .int .i64 1]) (by simp [results, Tryz.results19, go_sem, y0, y1, y2]) rfl ⟨rfl, HM1.out, ((New.refl w).alloc _).grown_ _⟩
  have t2 := gt_f c2
  by_cases c3 : 65536 < str.size
  · have t3 : decide ((65536 : Int) < (str.size : Int)) = true := by rw [decide_eq_true_iff]; omega
    clear hc
    go_enter Tryz.func19, Tryz.ntmps19
    go_wp2
    exact bodyPost_ret (v := .tuple #[.agg #[.int .u32 0, .string ⟨#[]⟩, .int .i64 0], .int .i64 1]) (by simp [results, Tryz.results19, go_sem, y0, y1, y2]) rfl ⟨rfl, HM1.out, ((New.refl w).alloc _).grown_ _⟩
  have t3 : decide ((65536 : Int) < (str.size : Int)) = false := by rw [decide_eq_false_iff_not]; omega
  have c4 : 8 < al := by omega
  have t4 : decide ((8 : Int) < (al : Int)) = true := by rw [decide_eq_true_iff]; omega
  clear hc
  go_enter Tryz.func19, Tryz.ntmps19
  go_wp2
  exact bodyPost_ret (v := .tuple #[.agg #[.int .u32 0, .string ⟨#[]⟩, .int .i64 0], .int .i64 1]) (by simp [results, Tryz.results19, go_sem, y0, y1, y2]) rfl ⟨rfl, HM1.out, ((New.refl w).alloc _).grown_ _⟩
end Go.Proofs.YtnjampfhkojbnaaGreatDoor

namespace Go.Proofs.YtnjampfhkojbnaaGreatDoor
open Go Go.RowKit Go.Shelf
set_option linter.unusedSimpArgs false
set_option linter.unusedVariables false

theorem callV_open {mem : List UInt8} {a : Nat} {inp : List UInt8} {L : Int} {args : List Nat} (h : ¬ (L < 1 ∨ 65536 < L ∨ 65536 < inp.length ∨ 8 < args.length)) :
    callV mem a inp L args = match openV mem 0 a args with | .error e => Rs.err e mem | .ok f => mrunV L.toNat 0 ⟨mem, [], f, inp, []⟩ := if_neg h
abbrev runC (m : Nat) (str : ByteArray) : Array Value := #[.pointer (some ⟨m, 0, none⟩), .slice none 0 0, .string str, .slice none 0 0, .int .i64 0, .int .u32 0]
theorem call_start {w w1 : World} {m g mc a c al : Nat} {PL : Value} {mem : List UInt8} {str : ByteArray} {A : Option Addr} {args : List Nat} (hM : MM w1 m g mc PL mem) (hA : Rd w1 1 A args.length (uC args)) (hs : w1.heap.size = w.heap.size + 1) (ha : a < 4294967296) (hml : mem.length ≤ 1000000000) (hal : args.length = al) (h8 : al ≤ 8) :
    Calls Tryz.prog 37 #[.pointer (some ⟨w.heap.size + 1, 0, none⟩), .int .u32 (a : Int), .slice A al c] (w1.alloc (.cells (runC m str) 94)) (CallP (w1.alloc (.cells (runC m str) 94)) w1.heap.size w1.heap.size 0 (.slice none 0 0) [] (openV mem 0 a args)) := by
  subst hal
  rw [← hs]
  have hn := (New.refl w1).alloc (.cells (runC m str) 94)
  have hb : Blk (w1.alloc (.cells (runC m str) 94)) w1.heap.size tRun (runC m str) := Blk.made w1 94 (runC m str)
  exact call_any hb (hM.new hn) (World.ownsRow_nil _ _ _ _) (hA.below hn) hn.size (by omega) ha hml (by omega)
theorem CallP.first {w1 w' : World} {m g mc : Nat} {PL : Value} {mem inp : List UInt8} {f : Fr} {e : Ending} (hM : MM w1 m g mc PL mem) (g0 : g < w1.heap.size) (m0 : m < w1.heap.size)
    (hP : CallP (w1.alloc (.cells (runC m (S inp)) 94)) w1.heap.size w1.heap.size 0 (.slice none 0 0) [] (.ok f) e w') : e = .returned (.int .i64 0) ∧ (f.vals = [] → ∃ q C VA V FV, RM w1 w' m g mc w1.heap.size PL ⟨mem, [], f, inp, []⟩ [] q C VA V FV (.slice none 0 0) 0 0) := by
  obtain ⟨rfl, W0, W1, W2, q', VA', FV', hn0, hn1, htop, hg, hv, rfl⟩ := hP
  have hn := (New.refl w1).alloc (.cells (runC m (S inp)) 94)
  have hb : Blk (w1.alloc (.cells (runC m (S inp)) 94)) w1.heap.size tRun (runC m (S inp)) := Blk.made w1 94 (runC m (S inp))
  exact ⟨rfl, fun _ => ⟨q', W0.heap.size, VA', _, FV', RM.first (hn.trans hn0) g0 m0 hM.mach hM.row (Nat.le_refl _) (hb.new hn0) hn1 htop hg hv⟩⟩
def CInv (w1 wr : World) (m g mc r : Nat) (PL : Value) (L : Int) (R : Rs) : Prop := ∃ k : Nat, (k : Int) ≤ L ∧
  ((∃ s qs q C VA V FV OV val M, RM w1 wr m g mc r PL s qs q C VA V FV OV (k : Int) val ∧ OkS M k s ∧ M ≤ 1000000000 ∧ s.inp.length ≤ 65536 ∧ mrunV (L.toNat - k) k s = R) ∨ (∃ FV OV v mem out, RE w1 wr m g mc r PL mem out FV OV (k : Int) v ∧ R = ⟨v, out, k, 0, mem⟩))
theorem ne0_t {c : Int} (h : c ≠ 0) : (c != 0) = true := by rw [bne_iff_ne]; exact h
theorem pos_len (n : Nat) : (0 : Int) < (n : Int) + 1 := by omega
theorem pos_len2 (n : Nat) : decide (0 < (n : Int) + 1) = true := by rw [decide_eq_true_iff]; omega
theorem run_zero {L : Int} {k : Nat} {s : Mc} {R : Rs} (h : mrunV (L.toNat - k) k s = R) (hk : (k : Int) = L) : R = Rs.err 16 s.mem := by
  rw [← h, show L.toNat - k = 0 by omega]; rfl
theorem run_next {L : Int} {k : Nat} {s : Mc} {R : Rs} (h : mrunV (L.toNat - k) k s = R) (hk : (k : Int) ≠ L) (hl : (k : Int) ≤ L) : ∃ d, L.toNat - k = d + 1 ∧ L.toNat - (k + 1) = d ∧ ((k + 1 : Nat) : Int) ≤ L ∧ R = (match stepV s with | .err e m => Rs.err e m | .go s' => mrunV d (k + 1) s' | .fin v m o => ⟨v, o, k + 1, 0, m⟩) := by
  refine ⟨L.toNat - k - 1, by omega, by omega, by omega, ?_⟩
  rw [← h, show L.toNat - k = (L.toNat - k - 1) + 1 by omega]; rfl
theorem meas_next {L : Int} {k : Nat} (hk : (k : Int) ≠ L) (hl : (k : Int) ≤ L) : L.toNat + 1 - ((k : Int) + 1).toNat < L.toNat + 1 - ((k : Int)).toNat := by omega
theorem RM.res {w1 wr w : World} {m g mc r : Nat} {PL : Value} {s : Mc} {qs : List Nat} {q C : Nat} {VA V FV OV : Value} {n : Int} {val B : Nat} {cs : Array Value} (hg : w1.grownBy wr (some g)) (hX : Blk w1 B 38 cs) (hne : B ≠ g) : Blk wr B 38 cs := hX.grown hg (fun e => hne (by injection e))
theorem MM.ne_res {w1 : World} {m g mc B : Nat} {PL : Value} {mem : List UInt8} {cs : Array Value} (hM : MM w1 m g mc PL mem) (hX : Blk w1 B 38 cs) : B ≠ g := fun e => by
  have hx : w1.heap[B]? = some (.cells cs 38 (0, 0)) := hX
  exact own_apart hM.row hx (by decide) (e ▸ rfl)
theorem grown_base {w w1 W : World} {g : Nat} (h : New w w1) (h2 : w1.grownBy W (some g)) : w.grownBy W (some g) :=
  ⟨h2.os.trans h.os, h2.tape.trans h.tape, h2.output.trans h.output, Nat.le_trans h.size h2.size, fun k hk hr => (h2.block k (Nat.lt_of_lt_of_le hk h.size) hr).trans (h.block k hk)⟩
set_option maxRecDepth 100000 in
set_option maxHeartbeats 16000000 in
theorem call_good {w : World} {m g mc a c : Nat} {PL : Value} {mem inp : List UInt8} {A : Option Addr} {args : List Nat} {L : Int} (hM : MM w m g mc PL mem) (hA : Rd w 1 A args.length (uC args)) (hg : g < w.heap.size) (ha : a < 4294967296) (hw : ∀ x ∈ args, x < W32) (hml : mem.length ≤ 1000000000)
    (hc : ¬ (L < 1 ∨ 65536 < L ∨ 65536 < inp.length ∨ 8 < args.length)) :
    Calls Tryz.prog 19 #[.pointer (some ⟨m, 0, none⟩), .int .u32 (a : Int), .string (S inp), .int .i64 L, .slice A args.length c] w (RetP w m g mc PL (callV mem a inp L args)) := by
  rw [callV_open hc]
  have hml2 := hM.mach.lt
  have BX := Blk.made w 38 #[.int .u32 0, .string ⟨#[]⟩, .int .i64 0]
  have HM1 := Lib.hid (hM.new ((New.refl w).alloc (.cells #[.int .u32 0, .string ⟨#[]⟩, .int .i64 0] 38)))
  have HA1 := Lib.hid (hA.below ((New.refl w).alloc (.cells #[.int .u32 0, .string ⟨#[]⟩, .int .i64 0] 38)))
  have N1 := Lib.hid ((New.refl w).alloc (.cells #[.int .u32 0, .string ⟨#[]⟩, .int .i64 0] 38))
  have HS1 := Lib.hid (World.size_alloc w (.cells #[.int .u32 0, .string ⟨#[]⟩, .int .i64 0] 38))
  have hsz : (S inp).size = inp.length := size_S inp
  obtain ⟨str, hstr⟩ : ∃ str, S inp = str := ⟨_, rfl⟩
  have HSTR := Lib.hid hstr
  rw [hstr] at hsz ⊢
  obtain ⟨al, hal⟩ : ∃ al, args.length = al := ⟨_, rfl⟩
  have HAL := Lib.hid hal
  rw [hal] at hc ⊢
  have HC0 := Lib.hid hc
  rw [← hsz] at hc
  have t1 : decide (L < 1) = false := gt_f (by omega)
  have t2 : decide (65536 < L) = false := gt_f (by omega)
  have t3 : decide ((65536 : Int) < (str.size : Int)) = false := gt_f (by omega)
  have t4 : decide ((8 : Int) < (al : Int)) = false := gt_f (by omega)
  obtain ⟨R, hR⟩ : ∃ R, (match openV mem 0 a args with | .error e => Rs.err e mem | .ok f => mrunV L.toNat 0 ⟨mem, [], f, inp, []⟩) = R := ⟨_, rfl⟩
  have HR := Lib.hid hR
  rw [hR]
  have h8 : al ≤ 8 := by omega
  clear hR hstr hsz hal hM hA
  go_enter Tryz.func19, Tryz.ntmps19
  go_wp2_with (fail)
  generalize w.alloc (.cells #[.int .u32 0, .string ⟨#[]⟩, .int .i64 0] 38) = w1 at *
  with_reducible refine (call_start (mem := mem) (args := args) HM1.out HA1.out HS1.out ha hml HAL.out h8).mono ?_
  rintro e w4 hP
  cases hO : openV mem 0 a args with
  | error cc =>
    rw [hO] at hP HR
    obtain ⟨rfl, n4⟩ := hP
    have t5 := ne0_t (openV_err hO)
    have N4 := Lib.hid (((New.refl w1).alloc (.cells (runC m str) 94)).trans n4)
    have BX4 := BX.new N4.out
    have z0 := BX4.free 0
    have z1 := BX4.free 1
    have z2 := BX4.free 2
    have y0 := BX4.cell' 0 _ rfl
    have y1 := BX4.cell' 1 _ rfl
    have y2 := BX4.cell' 2 _ rfl
    have HF := Lib.hid (ret_set (w := w) (v0 := .int .u32 0) (v1 := .string ⟨#[]⟩) (v2 := .int .i64 0) (HM1.out.new N4.out) BX4 (Nat.le_refl _) ((N1.out.trans N4.out).grown_ _))
    clear hO BX4 n4
    go_wp2
    have e0 := HF.out.1.cell' 0 _ rfl
    have e1 := HF.out.1.cell' 1 _ rfl
    have e2 := HF.out.1.cell' 2 _ rfl
    exact bodyPost_ret (v := .tuple #[.agg #[.int .u32 0, .string ⟨#[]⟩, .int .i64 0], .int .i64 cc]) (by simp [results, Tryz.results19, go_sem, e0, e1, e2]) rfl ⟨by rw [← HR.out]; rfl, by rw [← HR.out]; exact HF.out.2.1, HF.out.2.2⟩
  | ok f =>
    rw [hO] at hP HR
    rw [← HSTR.out] at hP
    obtain ⟨rfl, hP2⟩ := CallP.first HM1.out (Nat.lt_of_lt_of_le hg N1.out.size) (Nat.lt_of_lt_of_le hml2 N1.out.size) hP
    obtain ⟨q, C, VA, V, FV, hRM⟩ := hP2 (openV_ok hO).2.2.2.2.1
    have ok0 := open_ok inp rfl (Nat.lt_of_le_of_lt hml (by decide)) hw hO
    have hinv : CInv w1 w4 m g mc w1.heap.size PL L R := ⟨0, by omega, Or.inl ⟨_, _, _, _, _, _, _, _, _, _, hRM, ok0, hml, (by have h9 := HC0.out; simp only; omega), HR.out⟩⟩
    have HI := Lib.hid hinv
    have HNE := Lib.hid (HM1.out.ne_res BX)
    have HBX := Lib.hid BX
    have HGB := Lib.hid (show w.heap.size ≤ w.heap.size from Nat.le_refl _)
    clear hO hP hP2 hRM ok0 hinv hw HR BX
    have hrr := HS1.out.symm
    rw [hrr]
    generalize w1.heap.size = rr at *
    have HW0 := Lib.hid (show New w w1 from N1.out)
    go_wp2
    go_loopw [] (fun wr => CInv w1 wr m g mc rr PL L R) (fun wr => (L.toNat + 1) - stepsAt wr rr)
    case atStart => exact HI.out
    case round =>
      obtain ⟨k, hkL, ⟨s, qs, q, C, VA, V, FV, OV, val, M, hR, ok, hM9, hin, hrun⟩ | ⟨FV, OV, v, mem', out, hE, hRR⟩⟩ := hrel
      · have HN := Lib.hid (stepsAt_at (hR.run.cell' 4 _ rfl))
        obtain ⟨kf, cap, rfl, hcap, hk1, hk2, hat⟩ := hR.frow_at
        have f1 := hR.run.cell' 1 _ rfl
        have p1 := pos_len qs.length
        have p2 := pos_len2 qs.length
        have HRM := Lib.hid hR
        have HKL := Lib.hid hkL
        by_cases hk : (k : Int) = L
        · have HS := Lib.hid (show Calls Tryz.prog 38 #[.pointer (some ⟨rr, 0, none⟩), .int .i64 L] wr _ from hk ▸ step_limit hR)
          have HRE := Lib.hid (run_zero hrun hk)
          have BX4 := HBX.out.grown hR.gr (fun e => HNE.out (by injection e))
          have HF := Lib.hid (ret_set (w := w) (v0 := .int .u32 0) (v1 := .string ⟨#[]⟩) (v2 := .int .i64 0) hR.mm BX4 (Nat.le_refl _) (grown_base HW0.out hR.gr))
          have z0 := BX4.free 0
          have z1 := BX4.free 1
          have z2 := BX4.free 2
          have y0 := BX4.cell' 0 _ rfl
          have y1 := BX4.cell' 1 _ rfl
          have y2 := BX4.cell' 2 _ rfl
          clear hrun hR ok hin hM9 hkL hk hat hcap hk1 hk2 BX4
          go_wp2_with (go_at_call 38; (with_reducible refine HS.out.mono ?_); rintro e w9 ⟨rfl, hw9⟩; obtain rfl := hw9)
          have e0 := HF.out.1.cell' 0 _ rfl
          have e1 := HF.out.1.cell' 1 _ rfl
          have e2 := HF.out.1.cell' 2 _ rfl
          exact bodyPost_ret (v := .tuple #[.agg #[.int .u32 0, .string ⟨#[]⟩, .int .i64 0], .int .i64 16]) (by simp [results, Tryz.results19, go_sem, e0, e1, e2]) rfl ⟨by rw [HRE.out]; rfl, by rw [HRE.out]; exact HF.out.2.1, HF.out.2.2⟩
        · obtain ⟨d, hd1, hd2, hd3, hRn⟩ := run_next hrun hk hkL
          have hkb : k ≤ 65536 := by have h9 := HC0.out; omega
          have HS := Lib.hid (step_go hR ok (by omega) hM9 (by omega) hk (by omega) (by omega))
          have hok1 := fun t (h : stepV s = .go t) => stepV_ok ok (Nat.lt_of_le_of_lt hM9 (by decide)) h
          cases hst : stepV s with
          | err ee mm =>
            rw [hst] at HS hRn
            have HRN := Lib.hid hRn
            have HEE := Lib.hid (ne0_t (stepV_err hst).1)
            clear hrun hR ok hin hM9 hkL hk hat hcap hk1 hk2 hRn hok1 hd1 hd2 hd3 hst hkb
            have t7 := HEE.out
            go_wp2_with (go_at_call 38; (with_reducible refine HS.out.mono ?_); rintro e w9 ⟨rfl, gE, mE⟩; have BX4 := HBX.out.grown gE (fun e => HNE.out (by injection e)); have HF := Lib.hid (ret_set (w := w) (v0 := .int .u32 0) (v1 := .string ⟨#[]⟩) (v2 := .int .i64 0) mE BX4 (Nat.le_refl _) (grown_base HW0.out gE)); have z0 := BX4.free 0; have z1 := BX4.free 1; have z2 := BX4.free 2; have y0 := BX4.cell' 0 _ rfl; have y1 := BX4.cell' 1 _ rfl; have y2 := BX4.cell' 2 _ rfl)
            have e0 := HF.out.1.cell' 0 _ rfl
            have e1 := HF.out.1.cell' 1 _ rfl
            have e2 := HF.out.1.cell' 2 _ rfl
            exact bodyPost_ret (v := .tuple #[.agg #[.int .u32 0, .string ⟨#[]⟩, .int .i64 0], .int .i64 ee]) (by simp [results, Tryz.results19, go_sem, e0, e1, e2]) rfl ⟨by rw [HRN.out]; rfl, by rw [HRN.out]; exact HF.out.2.1, HF.out.2.2⟩
          | go t =>
            rw [hst] at HS hRn
            have HNX := Lib.hid (fun (w9 : World) (h9 : ∃ qs q C VA V FV OV val, RM w1 w9 m g mc rr PL t qs q C VA V FV OV ((k : Int) + 1) val) => (by
              obtain ⟨qs, q, C, VA, V, FV, OV, val, h⟩ := h9
              exact ⟨k + 1, hd3, Or.inl ⟨t, qs, q, C, VA, V, FV, OV, val, M, h, hok1 t hst, hM9, Nat.le_trans (step_inp hst) hin, by rw [hd2]; exact hRn.symm⟩⟩ : CInv w1 w9 m g mc rr PL L R))
            have HST := Lib.hid (fun (w9 : World) (h9 : ∃ qs q C VA V FV OV val, RM w1 w9 m g mc rr PL t qs q C VA V FV OV ((k : Int) + 1) val) => (by
              obtain ⟨qs, q, C, VA, V, FV, OV, val, h⟩ := h9
              exact stepsAt_at (h.run.cell' 4 _ rfl) : stepsAt w9 rr = ((k : Int) + 1).toNat))
            have HMS := Lib.hid (meas_next hk hkL)
            clear hrun hR ok hin hM9 hkL hk hat hcap hk1 hk2 hRn hok1 hd1 hd2 hd3 hst hkb
            go_wp2_with (go_at_call 38; (with_reducible refine HS.out.mono ?_); rintro e w9 ⟨rfl, hD⟩)
            go_roundw
            case rel => exact HNX.out _ hD
            case measure => rw [HST.out _ hD, HN.out]; exact HMS.out
          | fin v mm out =>
            rw [hst] at HS hRn
            have HNX := Lib.hid (fun (w9 : World) (h9 : ∃ FV OV, RE w1 w9 m g mc rr PL mm out FV OV ((k : Int) + 1) v) => (by
              obtain ⟨FV, OV, h⟩ := h9
              exact ⟨k + 1, hd3, Or.inr ⟨FV, OV, v, mm, out, h, hRn⟩⟩ : CInv w1 w9 m g mc rr PL L R))
            have HST := Lib.hid (fun (w9 : World) (h9 : ∃ FV OV, RE w1 w9 m g mc rr PL mm out FV OV ((k : Int) + 1) v) => (by
              obtain ⟨FV, OV, h⟩ := h9
              obtain ⟨I, hI⟩ := h.run
              exact stepsAt_at (hI.cell' 4 _ rfl) : stepsAt w9 rr = ((k : Int) + 1).toNat))
            have HMS := Lib.hid (meas_next hk hkL)
            clear hrun hR ok hin hM9 hkL hk hat hcap hk1 hk2 hRn hok1 hd1 hd2 hd3 hst hkb
            go_wp2_with (go_at_call 38; (with_reducible refine HS.out.mono ?_); rintro e w9 ⟨rfl, hD⟩)
            go_roundw
            case rel => exact HNX.out _ hD
            case measure => rw [HST.out _ hD, HN.out]; exact HMS.out
      · obtain ⟨AF, cf, rfl⟩ := hE.fv
        obtain ⟨I, hrunb⟩ := hE.run
        obtain ⟨OA, oc, rfl, _, _, hrd⟩ := own_form hE.ou
        have f1 := hrunb.cell' 1 _ rfl
        have p2 : decide ((0 : Int) < 0) = false := rfl
        have hE2 := hE
        have HX5 := Lib.hid (HBX.out.grown hE.gr (fun e => HNE.out (by injection e)))
        have HEE := Lib.hid hE
        have HRB := Lib.hid hrunb
        have HRD := Lib.hid hrd
        have HRR := Lib.hid hRR
        clear hE hrunb hrd hRR hE2 hkL
        go_wp2
        have f5 := HRB.out.cell' 5 _ rfl
        have f3 := HRB.out.cell' 3 _ rfl
        have f4 := HRB.out.cell' 4 _ rfl
        have hcv := conv_out (W := wr) (A := OA) oc rfl HRD.out
        have hcv2 : (convert 73 9 (.slice OA out.length oc)).run Tryz.prog wr.drew = .ok (.string (S out)) wr.drew := conv_out oc rfl (HRD.out.drew)
        go_still_tail 14, (by kernel_rfl)
        have HF := Lib.hid (ret_set (w := w) (v0 := .int .u32 (v : Int)) (v1 := .string (S out)) (v2 := .int .i64 (k : Int)) (show MM wr.drew m g mc PL mem' from (⟨HEE.out.mach, HEE.out.mem⟩ : MM wr m g mc PL mem').new (New.refl wr).drew) HX5.out.drew (Nat.le_refl _) (grown_drew (grown_base HW0.out HEE.out.gr)))
        have X6 := HX5.out.drew
        clear f5 f3 f4 f1 hcv hcv2
        change wpList _ _ _ _ _ wr.drew
        generalize wr.drew = wd at *
        have z0 := X6.free 0
        have z1 := X6.free 1
        have z2 := X6.free 2
        have y0 := X6.cell' 0 _ rfl
        have y1 := X6.cell' 1 _ rfl
        have y2 := X6.cell' 2 _ rfl
        go_wp2
        have e0 := HF.out.1.cell' 0 _ rfl
        have e1 := HF.out.1.cell' 1 _ rfl
        have e2 := HF.out.1.cell' 2 _ rfl
        exact bodyPost_ret (v := .tuple #[.agg #[.int .u32 (v : Int), .string (S out), .int .i64 (k : Int)], .int .i64 0]) (by simp [results, Tryz.results19, go_sem, e0, e1, e2]) rfl ⟨by rw [HRR.out], by rw [HRR.out]; exact HF.out.2.1, HF.out.2.2⟩
theorem mcall_any {w : World} {m g mc a c : Nat} {PL : Value} {mem inp : List UInt8} {A : Option Addr} {args : List Nat} {L : Int} (hM : MM w m g mc PL mem) (hA : Rd w 1 A args.length (uC args)) (hg : g < w.heap.size) (ha : a < 4294967296) (hw : ∀ x ∈ args, x < W32) (hml : mem.length ≤ 1000000000) :
    Calls Tryz.prog 19 #[.pointer (some ⟨m, 0, none⟩), .int .u32 (a : Int), .string (S inp), .int .i64 L, .slice A args.length c] w (RetP w m g mc PL (callV mem a inp L args)) := by
  by_cases hc : L < 1 ∨ 65536 < L ∨ 65536 < inp.length ∨ 8 < args.length
  · exact call_bad hM hc
  · exact call_good hM hA hg ha hw hml hc
end Go.Proofs.YtnjampfhkojbnaaGreatDoor

