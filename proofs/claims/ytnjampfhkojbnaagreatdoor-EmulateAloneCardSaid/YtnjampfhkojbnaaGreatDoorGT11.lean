/- The step functions whose regions draw their order: set, read, out, unary, binary. Conditions: sizes. (Printed by mk-t11.py.) -/
import Derived.Test.YtnjampfhkojbnaaGreatDoorGBase
import Derived.Test.YtnjampfhkojbnaaGreatDoorGT9
import Derived.Test.YtnjampfhkojbnaaGreatDoorGBase

namespace Go.Proofs.YtnjampfhkojbnaaGreatDoor
open Go Go.RowKit
set_option linter.unusedSimpArgs false
set_option linter.unusedVariables false

theorem Tryz.byteT : EType Tryz.prog 73 5 (.int .u8 0) 1 1 := ⟨Tryz.underlying73, by kernel_rfl, rfl, by decide⟩
section
variable {w0 w : World} {m g mc r : Nat} {PL : Value} {s : Mc} {qs : List Nat} {q C : Nat} {VA V FV OV : Value} {n : Int} {val : Nat}
theorem RM.drew (h : RM w0 w m g mc r PL s qs q C VA V FV OV n val) : RM w0 w.drew m g mc r PL s qs q C VA V FV OV n val := h.new (New.refl w).drew
set_option maxRecDepth 100000 in
set_option maxHeartbeats 16000000 in
theorem read_any (x : Nat) (h : RM w0 w m g mc r PL s qs q C VA V FV OV n val) (hd : s.low.length ≤ 1000) (hs : stkN s ≤ 100000) (ht : 1 ≤ s.top.vals.length) (hb : ∀ x ∈ s.top.vals, x < 4294967296) (hm : s.mem.length ≤ 1000000000) :
    Calls Tryz.prog 91 #[.pointer (some ⟨r, 0, none⟩), .int .u32 (x : Int)] w (DoP w0 m g mc r PL n (execV 4 x s)) := by
  obtain ⟨vs, y, hv, hvl, e1, e2⟩ := last_val (k := 0) (l := s.top.vals) (by omega)
  have hy : y < 4294967296 := hb y (by rw [hv]; simp)
  have hq : qs.length ≤ 1000 := by rw [h.ly.len]; exact hd
  have hvs : vs.length ≤ 100000 := by have h9 := hs; unfold stkN at h9; omega
  have hs2 : stkN (s.put vs) ≤ 100000 := by have h9 := stk_put s vs; omega
  have HT := Lib.hid (fun (W : World) (V2 : Value) (hR : RM w0 W m g mc r PL s qs q C VA V2 FV OV n val) => top_any hR hq)
  have HO := Lib.hid (fun (W : World) (V2 : Value) (hR : RM w0 W m g mc r PL s qs q C VA V2 FV OV n val) => pop_far hR hv hvs)
  have e0 : execV 4 x s = if y % 4 ≠ 0 ∨ s.mem.length < y + 4 then .err 3 s.mem else pushV (wordN s.mem y) (s.put vs) := by simp only [execV, e1, e2]
  rw [e0]
  have HA := Lib.hid (fun (W : World) (hM : MM W m g mc PL s.mem) => mat_any y W hM hm hy)
  have HP := Lib.hid (fun (W : World) (V2 : Value) (hR : RM w0 W m g mc r PL (s.put vs) qs q C VA V2 FV OV n val) => push_any (wordN s.mem y) hR hd hs2)
  have RC0 := Lib.hid h
  have f0 := (RC0.out.drew).run.cell' 0 _ rfl
  by_cases hc : y % 4 ≠ 0 ∨ s.mem.length < y + 4
  · rw [if_pos hc]
    have e9 : atV s.mem y = (0, 3) := if_pos hc
    rw [e9] at HA
    clear h hv e1 e2 e0 hb hc e9 hs hs2 hvs hvl hq hd ht HP
    go_enter Tryz.func91, Tryz.ntmps91
    go_wp2_with (fail)
    refine wp_region_held_drew (S := fun W => W.cell? ⟨r, 0, none⟩ = some (.pointer (some ⟨m, 0, none⟩))) (by kernel_rfl) (f0) (fun hS => ?_)
    have RC := Lib.hid RC0.out.drew
    generalize w.drew = wC at *
    clear RC0
    refine tkT 0 (v := ?v1) hS (fun wq hSq => ?y1) ?_; (case y1 => clear hSq; go_simp; (try with_reducible rfl)); simp only [Act.put, gqD, gqE, gqF]
    refine tkT 4 (v := ?v2) hS (fun wq hSq => ?y2) ?_; (case y2 => clear hSq; go_simp; (try with_reducible rfl)); simp only [Act.put, gqD, gqE, gqF]
    refine tkT 1 (v := ?v3) hS (fun wq hSq => ?y3) ?_; (case y3 => clear hSq; go_simp; (try with_reducible rfl)); simp only [Act.put, gqD, gqE, gqF]
    refine tkT 2 (v := ?v4) hS (fun wq hSq => ?y4) ?_; (case y4 => clear hSq; go_simp; (try with_reducible rfl)); simp only [Act.put, gqD, gqE, gqF]
    refine tkT 3 (v := ?v5) hS (fun wq hSq => ?y5) ?_; (case y5 => have hf0 := hSq; clear hSq; go_simp; (try with_reducible rfl)); simp only [Act.put, gqD, gqE, gqF]
    refine wpAnyH_ready (rs := [5]) (by kernel_rfl) (by simp) ?_
    refine AllReadyH.cons (o := ?oi6) ?hi6 (fun K hK => ?_) AllReadyH.nil
    case hi6 => (simp only [gqA, gqB, gqC]; rfl)
    go_simp
    with_reducible refine (HT.out _ _ RC.out).mono ?_
    rintro e wD ⟨rfl, nD⟩
    have RC := Lib.hid (RC.out.new nD)
    refine hK.out _ _ (RC.out.run.cell' 0 _ rfl) (fun hS => ?_)
    clear hK K
    refine wpAnyH_ready (rs := [6]) (by kernel_rfl) (by simp) ?_
    refine AllReadyH.cons (o := ?oi7) ?hi7 (fun K hK => ?_) AllReadyH.nil
    case hi7 => (simp only [gqA, gqB, gqC]; rfl)
    go_simp
    with_reducible refine (HO.out _ _ RC.out).mono ?_
    rintro e wE ⟨rfl, ⟨V2, RP⟩, gE⟩
    have RC := Lib.hid RP
    refine hK.out _ _ (RC.out.run.cell' 0 _ rfl) (fun hS => ?_)
    clear hK K
    refine wpAnyH_ready (rs := [7]) (by kernel_rfl) (by simp) ?_
    refine AllReadyH.cons (o := ?oi8) ?hi8 (fun K hK => ?_) AllReadyH.nil
    case hi8 => (simp only [gqA, gqB, gqC]; rfl)
    go_simp
    with_reducible refine (HA.out _ RC.out.mm).mono ?_
    rintro e wF ⟨rfl, nF⟩
    have RC := Lib.hid (RC.out.new nF)
    refine hK.out _ _ (RC.out.run.cell' 0 _ rfl) (fun hS => ?_)
    clear hK K
    refine tkT 8 (v := ?v9) hS (fun wq hSq => ?y9) ?_; (case y9 => clear hSq; go_simp; (try with_reducible rfl)); simp only [Act.put, gqD, gqE, gqF]
    refine tkT 9 (v := ?v10) hS (fun wq hSq => ?y10) ?_; (case y10 => clear hSq; go_simp; (try with_reducible rfl)); simp only [Act.put, gqD, gqE, gqF]
    refine tkT 10 (v := ?v11) hS (fun wq hSq => ?y11) ?_; (case y11 => clear hSq; go_simp; (try with_reducible rfl)); simp only [Act.put, gqD, gqE, gqF]
    refine tkT 11 (v := ?v12) hS (fun wq hSq => ?y12) ?_; (case y12 => clear hSq; go_simp; (try with_reducible rfl)); simp only [Act.put, gqD, gqE, gqF]
    refine tkT 12 (v := ?v13) hS (fun wq hSq => ?y13) ?_; (case y13 => clear hSq; go_simp; (try with_reducible rfl)); simp only [Act.put, gqD, gqE, gqF]
    refine wpAnyH_done (by kernel_rfl) ?_ _
    go_wp2
    go_ret
    exact RC.out.err 3
  · rw [if_neg hc]
    have e9 : atV s.mem y = (wordN s.mem y, 0) := if_neg hc
    rw [e9] at HA
    generalize wordN s.mem y = wd at *
    generalize pushV wd (s.put vs) = O at *
    clear h hv e1 e2 e0 hb hc e9 hs hs2 hvs hvl hq hd ht
    go_enter Tryz.func91, Tryz.ntmps91
    go_wp2_with (fail)
    refine wp_region_held_drew (S := fun W => W.cell? ⟨r, 0, none⟩ = some (.pointer (some ⟨m, 0, none⟩))) (by kernel_rfl) (f0) (fun hS => ?_)
    have RC := Lib.hid RC0.out.drew
    generalize w.drew = wC at *
    clear RC0
    refine tkT 0 (v := ?v14) hS (fun wq hSq => ?y14) ?_; (case y14 => clear hSq; go_simp; (try with_reducible rfl)); simp only [Act.put, gqD, gqE, gqF]
    refine tkT 4 (v := ?v15) hS (fun wq hSq => ?y15) ?_; (case y15 => clear hSq; go_simp; (try with_reducible rfl)); simp only [Act.put, gqD, gqE, gqF]
    refine tkT 1 (v := ?v16) hS (fun wq hSq => ?y16) ?_; (case y16 => clear hSq; go_simp; (try with_reducible rfl)); simp only [Act.put, gqD, gqE, gqF]
    refine tkT 2 (v := ?v17) hS (fun wq hSq => ?y17) ?_; (case y17 => clear hSq; go_simp; (try with_reducible rfl)); simp only [Act.put, gqD, gqE, gqF]
    refine tkT 3 (v := ?v18) hS (fun wq hSq => ?y18) ?_; (case y18 => have hf0 := hSq; clear hSq; go_simp; (try with_reducible rfl)); simp only [Act.put, gqD, gqE, gqF]
    refine wpAnyH_ready (rs := [5]) (by kernel_rfl) (by simp) ?_
    refine AllReadyH.cons (o := ?oi19) ?hi19 (fun K hK => ?_) AllReadyH.nil
    case hi19 => (simp only [gqA, gqB, gqC]; rfl)
    go_simp
    with_reducible refine (HT.out _ _ RC.out).mono ?_
    rintro e wD ⟨rfl, nD⟩
    have RC := Lib.hid (RC.out.new nD)
    refine hK.out _ _ (RC.out.run.cell' 0 _ rfl) (fun hS => ?_)
    clear hK K
    refine wpAnyH_ready (rs := [6]) (by kernel_rfl) (by simp) ?_
    refine AllReadyH.cons (o := ?oi20) ?hi20 (fun K hK => ?_) AllReadyH.nil
    case hi20 => (simp only [gqA, gqB, gqC]; rfl)
    go_simp
    with_reducible refine (HO.out _ _ RC.out).mono ?_
    rintro e wE ⟨rfl, ⟨V2, RP⟩, gE⟩
    have RC := Lib.hid RP
    refine hK.out _ _ (RC.out.run.cell' 0 _ rfl) (fun hS => ?_)
    clear hK K
    refine wpAnyH_ready (rs := [7]) (by kernel_rfl) (by simp) ?_
    refine AllReadyH.cons (o := ?oi21) ?hi21 (fun K hK => ?_) AllReadyH.nil
    case hi21 => (simp only [gqA, gqB, gqC]; rfl)
    go_simp
    with_reducible refine (HA.out _ RC.out.mm).mono ?_
    rintro e wF ⟨rfl, nF⟩
    have RC := Lib.hid (RC.out.new nF)
    refine hK.out _ _ (RC.out.run.cell' 0 _ rfl) (fun hS => ?_)
    clear hK K
    refine tkT 8 (v := ?v22) hS (fun wq hSq => ?y22) ?_; (case y22 => clear hSq; go_simp; (try with_reducible rfl)); simp only [Act.put, gqD, gqE, gqF]
    refine tkT 9 (v := ?v23) hS (fun wq hSq => ?y23) ?_; (case y23 => clear hSq; go_simp; (try with_reducible rfl)); simp only [Act.put, gqD, gqE, gqF]
    refine tkT 10 (v := ?v24) hS (fun wq hSq => ?y24) ?_; (case y24 => clear hSq; go_simp; (try with_reducible rfl)); simp only [Act.put, gqD, gqE, gqF]
    refine tkT 11 (v := ?v25) hS (fun wq hSq => ?y25) ?_; (case y25 => clear hSq; go_simp; (try with_reducible rfl)); simp only [Act.put, gqD, gqE, gqF]
    refine tkT 12 (v := ?v26) hS (fun wq hSq => ?y26) ?_; (case y26 => clear hSq; go_simp; (try with_reducible rfl)); simp only [Act.put, gqD, gqE, gqF]
    refine wpAnyH_done (by kernel_rfl) ?_ _
    go_wp2_with (go_at_call 123; (with_reducible refine (HP.out _ _ RC.out).mono ?_); rintro e w9 hO; obtain ⟨cc, rfl, hO⟩ := hO.ret)
    go_ret
    exact hO
theorem RM.var_cell {k cap i u : Nat} (h : RM w0 w m g mc r PL s qs q C (.slice (some ⟨k, 0, none⟩) s.top.vars.length cap) V FV OV n val) (hu : s.top.vars[i]? = some u) : w.cell? ⟨k, i, none⟩ = some (.int .u32 (u : Int)) ∧ w.frozen? ⟨k, i, none⟩ = false := ⟨own_cell h.top.va (uC_at hu), h.top.va.frozenAt i⟩
set_option maxRecDepth 100000 in
set_option maxHeartbeats 16000000 in
theorem set_any (x : Nat) (h : RM w0 w m g mc r PL s qs q C VA V FV OV n val) (hd : s.low.length ≤ 1000) (hs : stkN s ≤ 100000) (ht : 1 ≤ s.top.vals.length) (hb : ∀ x ∈ s.top.vals, x < 4294967296) (hx : x < s.top.vars.length) (hx1 : s.top.vars.length ≤ 1000) :
    Calls Tryz.prog 90 #[.pointer (some ⟨r, 0, none⟩), .int .u32 (x : Int)] w (DoP w0 m g mc r PL n (execV 3 x s)) := by
  obtain ⟨vs, y, hv, hvl, e1, e2⟩ := last_val (k := 0) (l := s.top.vals) (by omega)
  have hy : y < 4294967296 := hb y (by rw [hv]; simp)
  have hq : qs.length ≤ 1000 := by rw [h.ly.len]; exact hd
  have hvs : vs.length ≤ 100000 := by have h9 := hs; unfold stkN at h9; omega
  have hs2 : stkN (s.put vs) ≤ 100000 := by have h9 := stk_put s vs; omega
  have HT := Lib.hid (fun (W : World) (V2 : Value) (hR : RM w0 W m g mc r PL s qs q C VA V2 FV OV n val) => top_any hR hq)
  have HO := Lib.hid (fun (W : World) (V2 : Value) (hR : RM w0 W m g mc r PL s qs q C VA V2 FV OV n val) => pop_far hR hv hvs)
  obtain ⟨u, hu⟩ : ∃ u, s.top.vars[x]? = some u := ⟨_, List.getElem?_eq_getElem hx⟩
  have e0 : execV 3 x s = .go { (s.put vs) with top := { (s.put vs).top with vars := (s.put vs).top.vars.set x y } } := by simp only [execV, e1, e2]
  rw [e0]
  obtain ⟨kv, cv, rfl, hat⟩ := h.vars_at (by omega)
  have RC0 := Lib.hid h
  have HU := Lib.hid hu
  have k1 : (x : Int) < (s.top.vars.length : Int) := by omega
  have k2 : (0 : Int) ≤ (x : Int) := by omega
  have k3 := hx
  have f0 := (RC0.out.drew).top.blk.cell' 0 _ rfl
  clear h hv e1 e2 e0 hb hs hs2 hvs hvl hq hd ht hat hu hx hx1
  go_enter Tryz.func90, Tryz.ntmps90
  go_wp2_with (fail)
  refine wp_region_held_drew (S := fun W => W.cell? ⟨q, 0, none⟩ = some (.slice (some ⟨kv, 0, none⟩) s.top.vars.length cv)) (by kernel_rfl) (f0) (fun hS => ?_)
  have RC := Lib.hid RC0.out.drew
  generalize w.drew = wC at *
  clear RC0
  refine tkT 0 (v := ?v1) hS (fun wq hSq => ?y1) ?_; (case y1 => clear hSq; go_simp; (try with_reducible rfl)); simp only [Act.put, gqD, gqE, gqF]
  refine tkT 5 (v := ?v2) hS (fun wq hSq => ?y2) ?_; (case y2 => clear hSq; go_simp; (try with_reducible rfl)); simp only [Act.put, gqD, gqE, gqF]
  refine tkT 6 (v := ?v3) hS (fun wq hSq => ?y3) ?_; (case y3 => clear hSq; go_simp; (try with_reducible rfl)); simp only [Act.put, gqD, gqE, gqF]
  refine wpAnyH_ready (rs := [1]) (by kernel_rfl) (by simp) ?_
  refine AllReadyH.cons (o := ?oi4) ?hi4 (fun K hK => ?_) AllReadyH.nil
  case hi4 => (simp only [gqA, gqB, gqC]; rfl)
  go_simp
  with_reducible refine (HT.out _ _ RC.out).mono ?_
  rintro e wD ⟨rfl, nD⟩
  have RC := Lib.hid (RC.out.new nD)
  refine hK.out _ _ (RC.out.top.blk.cell' 0 _ rfl) (fun hS => ?_)
  clear hK K
  refine tkT 2 (v := ?v5) hS (fun wq hSq => ?y5) ?_; (case y5 => clear hSq; go_simp; (try with_reducible rfl)); simp only [Act.put, gqD, gqE, gqF]
  refine tkT 3 (v := ?v6) hS (fun wq hSq => ?y6) ?_; (case y6 => clear hSq; go_simp; (try with_reducible rfl)); simp only [Act.put, gqD, gqE, gqF]
  refine tkT 4 (v := ?v7) hS (fun wq hSq => ?y7) ?_; (case y7 => have hf0 := hSq; clear hSq; go_simp; (try with_reducible rfl)); simp only [Act.put, gqD, gqE, gqF]
  refine wpAnyH_ready (rs := [7]) (by kernel_rfl) (by simp) ?_
  refine AllReadyH.cons (o := ?oi8) ?hi8 (fun K hK => ?_) AllReadyH.nil
  case hi8 => (simp only [gqA, gqB, gqC]; rfl)
  go_simp
  with_reducible refine (HT.out _ _ RC.out).mono ?_
  rintro e wD ⟨rfl, nD⟩
  have RC := Lib.hid (RC.out.new nD)
  refine hK.out _ _ (RC.out.top.blk.cell' 0 _ rfl) (fun hS => ?_)
  clear hK K
  refine wpAnyH_ready (rs := [8]) (by kernel_rfl) (by simp) ?_
  refine AllReadyH.cons (o := ?oi9) ?hi9 (fun K hK => ?_) AllReadyH.nil
  case hi9 => (simp only [gqA, gqB, gqC]; rfl)
  go_simp
  with_reducible refine (HO.out _ _ RC.out).mono ?_
  rintro e wE ⟨rfl, ⟨V2, RP⟩, gE⟩
  have RC := Lib.hid RP
  refine hK.out _ _ (RC.out.top.blk.cell' 0 _ rfl) (fun hS => ?_)
  clear hK K
  refine tkT 9 (v := ?v10) hS (fun wq hSq => ?y10) ?_; (case y10 => clear hSq; go_simp; (try with_reducible rfl)); simp only [Act.put, gqD, gqE, gqF]
  refine wpAnyH_ready (rs := [10]) (by kernel_rfl) (by simp) ?_
  refine AllReadyH.cons (o := ?oi11) ?hi11 (fun K hK => ?_) AllReadyH.nil
  case hi11 => (simp only [gqA, gqB, gqC]; rfl)
  have c9 := (RC.out.var_cell HU.out).1
  have z9 := (RC.out.var_cell HU.out).2
  go_simp
  clear c9 z9
  have RC := Lib.hid (RC.out.setVar (k := kv) (cap := cv) rfl x y)
  refine hK.out _ _ (RC.out.top.blk.cell' 0 _ rfl) (fun hS => ?_)
  clear hK K
  refine wpAnyH_done (by kernel_rfl) ?_ _
  go_wp2
  go_ret
  exact RC.out.go
theorem out_cells (l : List UInt8) (y : Nat) : u8C (l ++ [UInt8.ofNat y]) = u8C l ++ [.int .u8 (IntKind.u8.wrap (y : Int))] := by
  rw [u8C, List.map_append]
  have e : IntKind.u8.wrap (y : Int) = (y : Int) % 256 := by simp [IntKind.wrap, IntKind.bits, IntKind.signed]
  simp only [List.map_cons, List.map_nil, UInt8.toNat_ofNat', e]
  rfl
set_option maxRecDepth 100000 in
set_option maxHeartbeats 16000000 in
theorem out_any (x : Nat) (h : RM w0 w m g mc r PL s qs q C VA V FV OV n val) (hd : s.low.length ≤ 1000) (hs : stkN s ≤ 100000) (ht : 1 ≤ s.top.vals.length) (hb : ∀ x ∈ s.top.vals, x < 4294967296) (ho : s.out.length ≤ 65536) :
    Calls Tryz.prog 94 #[.pointer (some ⟨r, 0, none⟩), .int .u32 (x : Int)] w (DoP w0 m g mc r PL n (execV 7 x s)) := by
  obtain ⟨vs, y, hv, hvl, e1, e2⟩ := last_val (k := 0) (l := s.top.vals) (by omega)
  have hy : y < 4294967296 := hb y (by rw [hv]; simp)
  have hq : qs.length ≤ 1000 := by rw [h.ly.len]; exact hd
  have hvs : vs.length ≤ 100000 := by have h9 := hs; unfold stkN at h9; omega
  have hs2 : stkN (s.put vs) ≤ 100000 := by have h9 := stk_put s vs; omega
  have HT := Lib.hid (fun (W : World) (V2 : Value) (hR : RM w0 W m g mc r PL s qs q C VA V2 FV OV n val) => top_any hR hq)
  have HO := Lib.hid (fun (W : World) (V2 : Value) (hR : RM w0 W m g mc r PL s qs q C VA V2 FV OV n val) => pop_far hR hv hvs)
  have RC0 := Lib.hid h
  obtain ⟨OA, oc, rfl, _⟩ := own_form h.ou
  have f3 := h.run.cell' 3 _ rfl
  by_cases hfull : 65536 ≤ s.out.length
  · have e0 : execV 7 x s = .err 10 s.mem := by simp only [execV]; rw [if_pos hfull]
    rw [e0]
    have k0 : ((s.out.length : Int) == 65536) = true := by rw [beq_iff_eq]; omega
    clear h hv e1 e2 e0 hb hs hs2 hvs hvl hq hd ht hfull
    go_enter Tryz.func94, Tryz.ntmps94
    go_wp2
    go_ret
    exact RC0.out.err 10
  · have e0 : execV 7 x s = .go { (s.put vs) with out := s.out ++ [UInt8.ofNat y] } := by simp only [execV, e1, e2]; rw [if_neg hfull]
    rw [e0]
    have k0 : ((s.out.length : Int) == 65536) = false := by rw [beq_eq_false_iff_ne]; omega
    have HO1 := Lib.hid (show s.out.length + 1 ≤ 1000000000 by omega)
    have f4 : w.drew.cell? ⟨r, 3, none⟩ = some (.slice OA s.out.length oc) := f3
    clear h hv e1 e2 e0 hb hs hs2 hvs hvl hq hd ht hfull ho
    go_enter Tryz.func94, Tryz.ntmps94
    go_wp2_with (fail)
    refine wp_region_held_drew (S := fun _ => True) (by kernel_rfl) (trivial) (fun hS => ?_)
    have RC := Lib.hid RC0.out.drew
    clear f3 f4
    generalize w.drew = wC at *
    clear RC0
    refine tkT 0 (v := ?v1) hS (fun wq hSq => ?y1) ?_; (case y1 => clear hSq; go_simp; (try with_reducible rfl)); simp only [Act.put, gqD, gqE, gqF]
    refine tkT 1 (v := ?v2) hS (fun wq hSq => ?y2) ?_; (case y2 => clear hSq; go_simp; (try with_reducible rfl)); simp only [Act.put, gqD, gqE, gqF]
    refine tkT 5 (v := ?v3) hS (fun wq hSq => ?y3) ?_; (case y3 => clear hSq; go_simp; (try with_reducible rfl)); simp only [Act.put, gqD, gqE, gqF]
    refine tkT 2 (v := ?v4) hS (fun wq hSq => ?y4) ?_; (case y4 => clear hSq; go_simp; (try with_reducible rfl)); simp only [Act.put, gqD, gqE, gqF]
    refine tkT 3 (v := ?v5) hS (fun wq hSq => ?y5) ?_; (case y5 => clear hSq; go_simp; (try with_reducible rfl)); simp only [Act.put, gqD, gqE, gqF]
    refine wpAnyH_ready (rs := [4, 6]) (by kernel_rfl) (by simp) ?_
    refine AllReadyH.cons (o := ?oi6) ?hi6 (fun K hK => ?_) (AllReadyH.cons (o := ?oi7) ?hi7 (fun K hK => ?_) AllReadyH.nil)
    case hi6 => (simp only [gqA, gqB, gqC]; rfl)
    case hi7 => (simp only [gqA, gqB, gqC]; rfl)
    · have c4 := RC.out.run.cell' 3 _ rfl
      go_simp
      clear c4
      refine hK.out _ _ (trivial) (fun hS => ?_)
      clear hK K
      refine wpAnyH_ready (rs := [6]) (by kernel_rfl) (by simp) ?_
      refine AllReadyH.cons (o := ?oi8) ?hi8 (fun K hK => ?_) AllReadyH.nil
      case hi8 => (simp only [gqA, gqB, gqC]; rfl)
      go_simp
      with_reducible refine (HT.out _ _ RC.out).mono ?_
      rintro e wD ⟨rfl, nD⟩
      have RC := Lib.hid (RC.out.new nD)
      refine hK.out _ _ (trivial) (fun hS => ?_)
      clear hK K
      refine wpAnyH_ready (rs := [7]) (by kernel_rfl) (by simp) ?_
      refine AllReadyH.cons (o := ?oi9) ?hi9 (fun K hK => ?_) AllReadyH.nil
      case hi9 => (simp only [gqA, gqB, gqC]; rfl)
      go_simp
      with_reducible refine (HO.out _ _ RC.out).mono ?_
      rintro e wE ⟨rfl, ⟨V2, RP⟩, gE⟩
      have RC := Lib.hid RP
      refine hK.out _ _ (trivial) (fun hS => ?_)
      clear hK K
      refine tkT 8 (v := ?v10) hS (fun wq hSq => ?y10) ?_; (case y10 => clear hSq; go_simp; (try with_reducible rfl)); simp only [Act.put, gqD, gqE, gqF]
      refine wpAnyH_ready (rs := [9]) (by kernel_rfl) (by simp) ?_
      refine AllReadyH.cons (o := ?oi11) ?hi11 (fun K hK => ?_) AllReadyH.nil
      case hi11 => (simp only [gqA, gqB, gqC]; rfl)
      go_simp
      refine hK.out _ _ (trivial) (fun hS => ?_)
      clear hK K
      have RC := Lib.hid (RC.out.new ((New.refl _).alloc (.cells #[.int .u8 (IntKind.u8.wrap (y : Int))] 5)))
      have RO := rd_one wE (.int .u8 (IntKind.u8.wrap (y : Int))) 5
      generalize wE.alloc (.cells #[.int .u8 (IntKind.u8.wrap (y : Int))] 5) = wA at *
      refine wpAnyH_ready (rs := [10]) (by kernel_rfl) (by simp) ?_
      refine AllReadyH.cons (o := ?oi12) ?hi12 (fun K hK => ?_) AllReadyH.nil
      case hi12 => (simp only [gqA, gqB, gqC]; rfl)
      refine step_append_rdG Tryz.byteT (by rfl) _ _ (by rfl) w0.heap.size (.slice OA s.out.length oc) s.out.length (u8C s.out) (by rfl) RC.out.ou _ 1 1 _ (by rfl) RO (fun u hu => by simp at hu; subst hu; rfl) HO1.out (by decide) RC.out.gr.size ?_
      intro v9 w9 own9 g9 _
      have B9 := RC.out.run.grown g9 (Ne.symm RC.out.apart.2.2.2.2.2.2.1)
      have c9 : w9.cell? ⟨r, 3, none⟩ = some (.slice OA s.out.length oc) := B9.cell' 3 _ rfl
      obtain ⟨OA9, oc9, rfl, _⟩ := own_form own9
      have RC := Lib.hid (RC.out.putOut (OV' := .slice OA9 (s.out.length + 1) oc9) (o := s.out ++ [UInt8.ofNat y]) g9 (by rw [out_cells, List.length_append]; exact own9))
      have z9 := B9.free 3
      simp only [Act.put, gqD, gqE, gqF]
      refine hK.out _ _ (trivial) (fun hS => ?_)
      clear hK K
      refine tkT 11 (v := ?v13) hS (fun wq hSq => ?y13) ?_; (case y13 => clear hSq; go_simp; (try with_reducible rfl)); simp only [Act.put, gqD, gqE, gqF]
      refine tkT 12 (v := ?v14) hS (fun wq hSq => ?y14) ?_; (case y14 => clear hSq; go_simp; (try with_reducible rfl)); simp only [Act.put, gqD, gqE, gqF]
      refine wpAnyH_ready (rs := [13]) (by kernel_rfl) (by simp) ?_
      refine AllReadyH.cons (o := ?oi15) ?hi15 (fun K hK => ?_) AllReadyH.nil
      case hi15 => (simp only [gqA, gqB, gqC]; rfl)
      go_simp
      clear c9 z9
      refine hK.out _ _ (trivial) (fun hS => ?_)
      clear hK K
      refine wpAnyH_done (by kernel_rfl) ?_ _
      go_wp2
      go_ret
      exact RC.out.go
    · go_simp
      with_reducible refine (HT.out _ _ RC.out).mono ?_
      rintro e wD ⟨rfl, nD⟩
      have RC := Lib.hid (RC.out.new nD)
      refine hK.out _ _ (trivial) (fun hS => ?_)
      clear hK K
      refine wpAnyH_ready (rs := [4, 7]) (by kernel_rfl) (by simp) ?_
      refine AllReadyH.cons (o := ?oi16) ?hi16 (fun K hK => ?_) (AllReadyH.cons (o := ?oi17) ?hi17 (fun K hK => ?_) AllReadyH.nil)
      case hi16 => (simp only [gqA, gqB, gqC]; rfl)
      case hi17 => (simp only [gqA, gqB, gqC]; rfl)
      · have c4 := RC.out.run.cell' 3 _ rfl
        go_simp
        clear c4
        refine hK.out _ _ (trivial) (fun hS => ?_)
        clear hK K
        refine wpAnyH_ready (rs := [7]) (by kernel_rfl) (by simp) ?_
        refine AllReadyH.cons (o := ?oi18) ?hi18 (fun K hK => ?_) AllReadyH.nil
        case hi18 => (simp only [gqA, gqB, gqC]; rfl)
        go_simp
        with_reducible refine (HO.out _ _ RC.out).mono ?_
        rintro e wE ⟨rfl, ⟨V2, RP⟩, gE⟩
        have RC := Lib.hid RP
        refine hK.out _ _ (trivial) (fun hS => ?_)
        clear hK K
        refine tkT 8 (v := ?v19) hS (fun wq hSq => ?y19) ?_; (case y19 => clear hSq; go_simp; (try with_reducible rfl)); simp only [Act.put, gqD, gqE, gqF]
        refine wpAnyH_ready (rs := [9]) (by kernel_rfl) (by simp) ?_
        refine AllReadyH.cons (o := ?oi20) ?hi20 (fun K hK => ?_) AllReadyH.nil
        case hi20 => (simp only [gqA, gqB, gqC]; rfl)
        go_simp
        refine hK.out _ _ (trivial) (fun hS => ?_)
        clear hK K
        have RC := Lib.hid (RC.out.new ((New.refl _).alloc (.cells #[.int .u8 (IntKind.u8.wrap (y : Int))] 5)))
        have RO := rd_one wE (.int .u8 (IntKind.u8.wrap (y : Int))) 5
        generalize wE.alloc (.cells #[.int .u8 (IntKind.u8.wrap (y : Int))] 5) = wA at *
        refine wpAnyH_ready (rs := [10]) (by kernel_rfl) (by simp) ?_
        refine AllReadyH.cons (o := ?oi21) ?hi21 (fun K hK => ?_) AllReadyH.nil
        case hi21 => (simp only [gqA, gqB, gqC]; rfl)
        refine step_append_rdG Tryz.byteT (by rfl) _ _ (by rfl) w0.heap.size (.slice OA s.out.length oc) s.out.length (u8C s.out) (by rfl) RC.out.ou _ 1 1 _ (by rfl) RO (fun u hu => by simp at hu; subst hu; rfl) HO1.out (by decide) RC.out.gr.size ?_
        intro v9 w9 own9 g9 _
        have B9 := RC.out.run.grown g9 (Ne.symm RC.out.apart.2.2.2.2.2.2.1)
        have c9 : w9.cell? ⟨r, 3, none⟩ = some (.slice OA s.out.length oc) := B9.cell' 3 _ rfl
        obtain ⟨OA9, oc9, rfl, _⟩ := own_form own9
        have RC := Lib.hid (RC.out.putOut (OV' := .slice OA9 (s.out.length + 1) oc9) (o := s.out ++ [UInt8.ofNat y]) g9 (by rw [out_cells, List.length_append]; exact own9))
        have z9 := B9.free 3
        simp only [Act.put, gqD, gqE, gqF]
        refine hK.out _ _ (trivial) (fun hS => ?_)
        clear hK K
        refine tkT 11 (v := ?v22) hS (fun wq hSq => ?y22) ?_; (case y22 => clear hSq; go_simp; (try with_reducible rfl)); simp only [Act.put, gqD, gqE, gqF]
        refine tkT 12 (v := ?v23) hS (fun wq hSq => ?y23) ?_; (case y23 => clear hSq; go_simp; (try with_reducible rfl)); simp only [Act.put, gqD, gqE, gqF]
        refine wpAnyH_ready (rs := [13]) (by kernel_rfl) (by simp) ?_
        refine AllReadyH.cons (o := ?oi24) ?hi24 (fun K hK => ?_) AllReadyH.nil
        case hi24 => (simp only [gqA, gqB, gqC]; rfl)
        go_simp
        clear c9 z9
        refine hK.out _ _ (trivial) (fun hS => ?_)
        clear hK K
        refine wpAnyH_done (by kernel_rfl) ?_ _
        go_wp2
        go_ret
        exact RC.out.go
      · go_simp
        with_reducible refine (HO.out _ _ RC.out).mono ?_
        rintro e wE ⟨rfl, ⟨V2, RP⟩, gE⟩
        have RC := Lib.hid RP
        refine hK.out _ _ (trivial) (fun hS => ?_)
        clear hK K
        refine tkT 8 (v := ?v25) hS (fun wq hSq => ?y25) ?_; (case y25 => clear hSq; go_simp; (try with_reducible rfl)); simp only [Act.put, gqD, gqE, gqF]
        refine wpAnyH_ready (rs := [4, 9]) (by kernel_rfl) (by simp) ?_
        refine AllReadyH.cons (o := ?oi26) ?hi26 (fun K hK => ?_) (AllReadyH.cons (o := ?oi27) ?hi27 (fun K hK => ?_) AllReadyH.nil)
        case hi26 => (simp only [gqA, gqB, gqC]; rfl)
        case hi27 => (simp only [gqA, gqB, gqC]; rfl)
        · have c4 := RC.out.run.cell' 3 _ rfl
          go_simp
          clear c4
          refine hK.out _ _ (trivial) (fun hS => ?_)
          clear hK K
          refine wpAnyH_ready (rs := [9]) (by kernel_rfl) (by simp) ?_
          refine AllReadyH.cons (o := ?oi28) ?hi28 (fun K hK => ?_) AllReadyH.nil
          case hi28 => (simp only [gqA, gqB, gqC]; rfl)
          go_simp
          refine hK.out _ _ (trivial) (fun hS => ?_)
          clear hK K
          have RC := Lib.hid (RC.out.new ((New.refl _).alloc (.cells #[.int .u8 (IntKind.u8.wrap (y : Int))] 5)))
          have RO := rd_one wE (.int .u8 (IntKind.u8.wrap (y : Int))) 5
          generalize wE.alloc (.cells #[.int .u8 (IntKind.u8.wrap (y : Int))] 5) = wA at *
          refine wpAnyH_ready (rs := [10]) (by kernel_rfl) (by simp) ?_
          refine AllReadyH.cons (o := ?oi29) ?hi29 (fun K hK => ?_) AllReadyH.nil
          case hi29 => (simp only [gqA, gqB, gqC]; rfl)
          refine step_append_rdG Tryz.byteT (by rfl) _ _ (by rfl) w0.heap.size (.slice OA s.out.length oc) s.out.length (u8C s.out) (by rfl) RC.out.ou _ 1 1 _ (by rfl) RO (fun u hu => by simp at hu; subst hu; rfl) HO1.out (by decide) RC.out.gr.size ?_
          intro v9 w9 own9 g9 _
          have B9 := RC.out.run.grown g9 (Ne.symm RC.out.apart.2.2.2.2.2.2.1)
          have c9 : w9.cell? ⟨r, 3, none⟩ = some (.slice OA s.out.length oc) := B9.cell' 3 _ rfl
          obtain ⟨OA9, oc9, rfl, _⟩ := own_form own9
          have RC := Lib.hid (RC.out.putOut (OV' := .slice OA9 (s.out.length + 1) oc9) (o := s.out ++ [UInt8.ofNat y]) g9 (by rw [out_cells, List.length_append]; exact own9))
          have z9 := B9.free 3
          simp only [Act.put, gqD, gqE, gqF]
          refine hK.out _ _ (trivial) (fun hS => ?_)
          clear hK K
          refine tkT 11 (v := ?v30) hS (fun wq hSq => ?y30) ?_; (case y30 => clear hSq; go_simp; (try with_reducible rfl)); simp only [Act.put, gqD, gqE, gqF]
          refine tkT 12 (v := ?v31) hS (fun wq hSq => ?y31) ?_; (case y31 => clear hSq; go_simp; (try with_reducible rfl)); simp only [Act.put, gqD, gqE, gqF]
          refine wpAnyH_ready (rs := [13]) (by kernel_rfl) (by simp) ?_
          refine AllReadyH.cons (o := ?oi32) ?hi32 (fun K hK => ?_) AllReadyH.nil
          case hi32 => (simp only [gqA, gqB, gqC]; rfl)
          go_simp
          clear c9 z9
          refine hK.out _ _ (trivial) (fun hS => ?_)
          clear hK K
          refine wpAnyH_done (by kernel_rfl) ?_ _
          go_wp2
          go_ret
          exact RC.out.go
        · go_simp
          refine hK.out _ _ (trivial) (fun hS => ?_)
          clear hK K
          have RC := Lib.hid (RC.out.new ((New.refl _).alloc (.cells #[.int .u8 (IntKind.u8.wrap (y : Int))] 5)))
          have RO := rd_one wE (.int .u8 (IntKind.u8.wrap (y : Int))) 5
          generalize wE.alloc (.cells #[.int .u8 (IntKind.u8.wrap (y : Int))] 5) = wA at *
          refine wpAnyH_ready (rs := [4]) (by kernel_rfl) (by simp) ?_
          refine AllReadyH.cons (o := ?oi33) ?hi33 (fun K hK => ?_) AllReadyH.nil
          case hi33 => (simp only [gqA, gqB, gqC]; rfl)
          have c4 := RC.out.run.cell' 3 _ rfl
          go_simp
          clear c4
          refine hK.out _ _ (trivial) (fun hS => ?_)
          clear hK K
          refine wpAnyH_ready (rs := [10]) (by kernel_rfl) (by simp) ?_
          refine AllReadyH.cons (o := ?oi34) ?hi34 (fun K hK => ?_) AllReadyH.nil
          case hi34 => (simp only [gqA, gqB, gqC]; rfl)
          refine step_append_rdG Tryz.byteT (by rfl) _ _ (by rfl) w0.heap.size (.slice OA s.out.length oc) s.out.length (u8C s.out) (by rfl) RC.out.ou _ 1 1 _ (by rfl) RO (fun u hu => by simp at hu; subst hu; rfl) HO1.out (by decide) RC.out.gr.size ?_
          intro v9 w9 own9 g9 _
          have B9 := RC.out.run.grown g9 (Ne.symm RC.out.apart.2.2.2.2.2.2.1)
          have c9 : w9.cell? ⟨r, 3, none⟩ = some (.slice OA s.out.length oc) := B9.cell' 3 _ rfl
          obtain ⟨OA9, oc9, rfl, _⟩ := own_form own9
          have RC := Lib.hid (RC.out.putOut (OV' := .slice OA9 (s.out.length + 1) oc9) (o := s.out ++ [UInt8.ofNat y]) g9 (by rw [out_cells, List.length_append]; exact own9))
          have z9 := B9.free 3
          simp only [Act.put, gqD, gqE, gqF]
          refine hK.out _ _ (trivial) (fun hS => ?_)
          clear hK K
          refine tkT 11 (v := ?v35) hS (fun wq hSq => ?y35) ?_; (case y35 => clear hSq; go_simp; (try with_reducible rfl)); simp only [Act.put, gqD, gqE, gqF]
          refine tkT 12 (v := ?v36) hS (fun wq hSq => ?y36) ?_; (case y36 => clear hSq; go_simp; (try with_reducible rfl)); simp only [Act.put, gqD, gqE, gqF]
          refine wpAnyH_ready (rs := [13]) (by kernel_rfl) (by simp) ?_
          refine AllReadyH.cons (o := ?oi37) ?hi37 (fun K hK => ?_) AllReadyH.nil
          case hi37 => (simp only [gqA, gqB, gqC]; rfl)
          go_simp
          clear c9 z9
          refine hK.out _ _ (trivial) (fun hS => ?_)
          clear hK K
          refine wpAnyH_done (by kernel_rfl) ?_ _
          go_wp2
          go_ret
          exact RC.out.go
end
end Go.Proofs.YtnjampfhkojbnaaGreatDoor

