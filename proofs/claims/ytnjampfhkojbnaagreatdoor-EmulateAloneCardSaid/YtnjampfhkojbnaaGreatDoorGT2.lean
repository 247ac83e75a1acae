/- The machine's words: read, put. Conditions: the place lies in the memory. The run's stack: top, pop, full, push. Conditions: sizes. The run's push; what a step function leaves. Conditions: sizes. The step functions whose regions draw no order: constant, get, jump, zero, drop, store. Conditions: sizes. Word of a machine; the step functions store and in. Conditions: sizes. The step functions store, in, leave. Conditions: sizes. The step function leave. Conditions: sizes. -/
import Derived.Test.YtnjampfhkojbnaaGreatDoorGT1
import Derived.Test.YtnjampfhkojbnaaGreatDoorGQ
import Derived.StillTailTactics
import Derived.Maps.AppendAt

namespace Go.Proofs.YtnjampfhkojbnaaGreatDoor
open Go Go.RowKit
set_option linter.unusedSimpArgs false
set_option linter.unusedVariables false

structure MM (w : World) (m g mc : Nat) (PL : Value) (mem : List UInt8) : Prop where
  mach : Blk w m tMach #[.slice (some ⟨g, 0, none⟩) mem.length mc, PL]
  row : w.ownsRow 0 5 1 (.slice (some ⟨g, 0, none⟩) mem.length mc) mem.length (u8C mem)
theorem u8C_len (l : List UInt8) : (u8C l).length = l.length := by simp [u8C]
theorem u8C_at {l : List UInt8} {i : Nat} (h : i < l.length) : (u8C l)[i]? = some (.int .u8 (byteN l i : Int)) := by
  unfold u8C byteN
  rw [List.getElem?_map, List.getElem?_eq_getElem h]
  simp [List.getD_eq_getElem?_getD, List.getElem?_eq_getElem h]
section
variable {w w' : World} {m g mc : Nat} {PL : Value} {mem : List UInt8}
theorem MM.new (h : MM w m g mc PL mem) (hn : New w w') : MM w' m g mc PL mem := ⟨h.mach.new hn, own_at h.row fun j _ e _ => hn.block j (h.row.lt j e).2⟩
theorem MM.cell (h : MM w m g mc PL mem) {i : Nat} (hi : i < mem.length) : w.cell? ⟨g, i, none⟩ = some (.int .u8 (byteN mem i : Int)) := by
  obtain ⟨b, o, e, _, hc⟩ := (Rd.of_own h.row).2 (by omega)
  injection e with e
  injection e with e1 e2
  subst e1 e2
  have := hc i _ (u8C_at hi)
  rw [Nat.zero_add] at this
  exact this
theorem MM.cap (h : MM w m g mc PL mem) : mem.length ≤ mc := by
  obtain ⟨A, c, e, h1, _⟩ := own_form h.row
  injection e with _ _ e3
  rw [e3]; exact h1
end
theorem retI {k : IntKind} {a b : Int} (h : a = b) : Ending.returned (.int k a) = .returned (.int k b) := by rw [h]
theorem or32m (x y : Nat) (m : Nat) (hx : x < 2 ^ m) (hb : x + 2 ^ m * y < 4294967296) : bits .or .u32 (x : Int) ((2 ^ m * y : Nat) : Int) = ((x + 2 ^ m * y : Nat) : Int) := by
  have h1 : 2 ^ m * y + x = 2 ^ m * y ||| x := Nat.two_pow_add_eq_or_of_lt hx y
  have h2 : x ||| 2 ^ m * y = x + 2 ^ m * y := by rw [Nat.or_comm, ← h1, Nat.add_comm]
  generalize 2 ^ m * y = z at *
  rw [u32_or_nat _ _ (by omega) (by omega), h2]
set_option maxRecDepth 100000 in
set_option maxHeartbeats 2000000 in
theorem mword_any {m g mc : Nat} {PL : Value} {mem : List UInt8} (k : Nat) (w : World) (h : MM w m g mc PL mem) (hk : k + 4 ≤ mem.length) (hs : mem.length ≤ 1000000000) :
    Calls Tryz.prog 53 #[.pointer (some ⟨m, 0, none⟩), .int .i64 (k : Int)] w fun e w' => e = .returned (.int .u32 (wordN mem k : Int)) ∧ New w w' := by
  have k1 : IntKind.i64.wrap ((k : Int) + 4) = (k : Int) + 4 := IntWalk.i64_in _ (by omega)
  have hc := h.cap
  have j0 : (k : Int) ≤ (k : Int) + 4 := by omega
  have j1 : (k : Int) + 4 ≤ (mc : Int) := by omega
  have j2 : (0 : Int) ≤ (k : Int) + 4 := by omega
  have j3 : ((k : Int) + 4).toNat = k + 4 := by omega
  have j4 : ¬ mc = k := by omega
  have f0 := h.mach.cell' 0 _ rfl
  have c0 := h.cell (i := k) (by omega)
  have c1 := h.cell (i := k + 1) (by omega)
  have c2 := h.cell (i := k + 2) (by omega)
  have c3 := h.cell (i := k + 3) (by omega)
  have W0 : wordN mem k = byteN mem k + 256 * byteN mem (k + 1) + 65536 * byteN mem (k + 2) + 16777216 * byteN mem (k + 3) := rfl
  have b0 := byteN_lt mem k
  have b1 := byteN_lt mem (k + 1)
  have b2 := byteN_lt mem (k + 2)
  have b3 := byteN_lt mem (k + 3)
  have HW := Lib.hid W0
  generalize wordN mem k = W at *
  generalize byteN mem k = x0 at *
  generalize byteN mem (k + 1) = x1 at *
  generalize byteN mem (k + 2) = x2 at *
  generalize byteN mem (k + 3) = x3 at *
  clear W0
  go_enter Tryz.func53, Tryz.ntmps53
  go_wp2
  go_quiet (fail)
  go_wp2
  go_ret
  refine ⟨retI ?_, (New.refl w).drewN nq⟩
  rw [HW.out]
  have e1 : (x1 : Int) * 256 = ((2 ^ 8 * x1 : Nat) : Int) := by omega
  have e2 : (x2 : Int) * 65536 = ((2 ^ 16 * x2 : Nat) : Int) := by omega
  have e3 : (x3 : Int) * 16777216 = ((2 ^ 24 * x3 : Nat) : Int) := by omega
  rw [e1, e2, e3, or32m x0 x1 8 (by omega) (by omega), or32m _ x2 16 (by omega) (by omega), or32m _ x3 24 (by omega) (by omega)]
def putK (mem : List UInt8) (a n : Nat) : Nat → List UInt8
  | 0 => mem
  | i + 1 => (putK mem a n i).set (a + i) (UInt8.ofNat (n / 2 ^ (8 * i)))
theorem putK_4 (mem : List UInt8) (a n : Nat) : putK mem a n 4 = putN mem a n := by simp [putK, putN]
theorem putK_len (mem : List UInt8) (a n i : Nat) : (putK mem a n i).length = mem.length := by
  induction i with
  | zero => rfl
  | succ i ih => rw [putK, List.length_set, ih]
theorem MM.set {w : World} {m g mc : Nat} {PL : Value} {mem : List UInt8} (h : MM w m g mc PL mem) (i : Nat) (c : UInt8) : MM (w.setCell ⟨g, i, none⟩ (.int .u8 (c.toNat : Int))) m g mc PL (mem.set i c) := by
  have hm : w.heap[m]? = some (.cells #[.slice (some ⟨g, 0, none⟩) mem.length mc, PL] tMach (0, 0)) := h.mach
  have hne : m ≠ g := fun e => own_apart h.row hm (by decide) (e ▸ rfl)
  refine ⟨by rw [List.length_set]; exact h.mach.far hne _, ?_⟩
  rw [List.length_set, u8C_set]
  exact own_set h.row i _
theorem MM.free {w : World} {m g mc : Nat} {PL : Value} {mem : List UInt8} (h : MM w m g mc PL mem) (i : Nat) : w.frozen? ⟨g, i, none⟩ = false := h.row.frozenAt i
set_option maxRecDepth 100000 in
theorem byte_at (n i : Nat) : ((n : Int) / 2 ^ (8 * i)) % 256 = (((UInt8.ofNat (n / 2 ^ (8 * i))).toNat : Nat) : Int) := by
  rw [UInt8.toNat_ofNat']
  push_cast
  rfl
theorem grown_drew {w0 w : World} {row : Option Nat} (h : w0.grownBy w row) : w0.grownBy w.drew row := ⟨h.os, h.tape, h.output, h.size, h.block⟩
set_option maxRecDepth 100000 in
set_option maxHeartbeats 2000000 in
theorem put_any {m g mc : Nat} {PL : Value} {mem : List UInt8} (k n : Nat) (w : World) (h : MM w m g mc PL mem) (hk : k + 4 ≤ mem.length) (hs : mem.length ≤ 1000000000) (hn : n < 4294967296) :
    Calls Tryz.prog 32 #[.pointer (some ⟨m, 0, none⟩), .int .i64 (k : Int), .int .u32 (n : Int)] w fun e w' => e = .returned (.tuple #[]) ∧ MM w' m g mc PL (putN mem k n) ∧ w.grownBy w' (some g) := by
  have HM := Lib.hid h
  have hc := h.cap
  clear h
  go_enter Tryz.func32, Tryz.ntmps32
  go_wp2
  go_loopw [7] (fun v7 wr => ∃ i : Nat, v7 = .int .i64 (i : Int) ∧ i ≤ 4 ∧ MM wr m g mc PL (putK mem k n i) ∧ w.grownBy wr (some g)) (fun v7 _ => 4 - (intOf v7).toNat)
  case atStart => exact ⟨0, rfl, by omega, HM.out, ⟨rfl, rfl, rfl, Nat.le_refl _, fun _ _ _ => rfl⟩⟩
  case round =>
    obtain ⟨i, rfl, hi, hM, hG⟩ := hrel
    by_cases hlt : i < 4
    · have f0 := hM.mach.cell' 0 _ rfl
      have c0 := hM.cell (i := k + i) (by rw [putK_len]; omega)
      have fz := hM.free (k + i)
      have M1 := hM.set (k + i) (UInt8.ofNat (n / 2 ^ (8 * i)))
      have G1 := grown_row hG (k + i) (.int .u8 (((UInt8.ofNat (n / 2 ^ (8 * i))).toNat : Nat) : Int))
      rw [putK_len] at f0
      have k1 : IntKind.i64.wrap ((k : Int) + (i : Int)) = (k : Int) + (i : Int) := IntWalk.i64_in _ (by omega)
      have k2 : (0 : Int) ≤ (k : Int) + (i : Int) := by omega
      have k3 : (k : Int) + (i : Int) < (mem.length : Int) := by omega
      have k4 : ((k : Int) + (i : Int)).toNat = k + i := by omega
      have k5 : IntKind.i64.wrap (8 * (i : Int)) = 8 * (i : Int) := IntWalk.i64_in _ (by omega)
      have k6 : IntKind.i64.wrap ((i : Int) + 1) = (i : Int) + 1 := IntWalk.i64_in _ (by omega)
      have k7 : (i : Int) < 4 := by omega
      have k8 : (0 : Int) ≤ 8 * (i : Int) := by omega
      have k9 : 8 * (i : Int) ≤ 32 := by omega
      have kA : (8 * (i : Int)).toNat = 8 * i := by omega
      have HM1 := Lib.hid M1
      have HG1 := Lib.hid G1
      clear M1 G1 hM hG
      go_wp2
      go_still_tail 13, (by kernel_rfl)
      go_wp2
      rw [byte_at]
      go_roundw
      case rel => exact ⟨i + 1, by go_num, by omega, HM1.out.new ((New.refl _).drew), grown_drew HG1.out⟩
      case measure => (simp [intOf]; omega)
    · obtain rfl : i = 4 := by omega
      go_wp2
      go_end0
      rw [putK_4] at hM
      exact ⟨rfl, hM, hG⟩
end Go.Proofs.YtnjampfhkojbnaaGreatDoor

namespace Go.Proofs.YtnjampfhkojbnaaGreatDoor
open Go Go.RowKit
set_option linter.unusedSimpArgs false
set_option linter.unusedVariables false

section
variable {w0 w : World} {m g mc r : Nat} {PL : Value} {s : Mc} {qs : List Nat} {q C : Nat} {VA V FV OV : Value} {n : Int} {val : Nat}
theorem RM.mm (h : RM w0 w m g mc r PL s qs q C VA V FV OV n val) : MM w m g mc PL s.mem := ⟨h.mach, h.mem⟩
theorem cellN {w w' : World} (hn : New w w') {b o : Nat} {v : Value} (h : w.cell? ⟨b, o, none⟩ = some v) : w'.cell? ⟨b, o, none⟩ = some v := (hn.cell (p := ⟨b, o, none⟩) (World.block_lt_of_cell? w ⟨b, o, none⟩ h)).trans h
theorem own_cell {w : World} {B l k cap : Nat} {e : TypeId} {xs : List Value} (h : w.ownsRow B e 1 (.slice (some ⟨k, 0, none⟩) l cap) l xs) {i : Nat} {u : Value} (hi : xs[i]? = some u) : w.cell? ⟨k, i, none⟩ = some u := by
  have hlt : i < xs.length := (List.getElem?_eq_some_iff.1 hi).1
  have hl := h.1
  obtain ⟨b, o, e, _, hc⟩ := (Rd.of_own h).2 (by omega)
  injection e with e
  injection e with e1 e2
  subst e1 e2
  have := hc i _ hi
  rw [Nat.zero_add] at this
  exact this
theorem RM.frow_at (h : RM w0 w m g mc r PL s qs q C VA V FV OV n val) : ∃ k cap, FV = .slice (some ⟨k, 0, none⟩) (qs.length + 1) cap ∧ qs.length + 1 ≤ cap ∧ w0.heap.size ≤ k ∧ k < w.heap.size ∧ (∀ i u, (qs ++ [q])[i]? = some u → w.cell? ⟨k, i, none⟩ = some (.pointer (some ⟨u, 0, none⟩))) := by
  obtain ⟨k, cap, rfl, h1, h2⟩ := own_some h.fr (by omega)
  obtain ⟨A, c, e, hc, _⟩ := own_form h.fr
  injection e with _ _ e
  subst e
  exact ⟨k, cap, rfl, hc, h1, h2, fun i u hi => own_cell h.fr (by rw [pC, List.getElem?_map, hi]; rfl)⟩
set_option maxRecDepth 100000 in
set_option maxHeartbeats 1000000 in
theorem top_any (h : RM w0 w m g mc r PL s qs q C VA V FV OV n val) (hd : qs.length ≤ 1000) :
    Calls Tryz.prog 58 #[.pointer (some ⟨r, 0, none⟩)] w fun e w' => e = .returned (.pointer (some ⟨q, 0, none⟩)) ∧ New w w' := by
  obtain ⟨k, cap, rfl, hc, h1, h2, hat⟩ := h.frow_at
  have f1 := h.run.cell' 1 _ rfl
  have ck := hat qs.length q (by simp)
  have k0 : IntKind.i64.wrap (((qs.length + 1 : Nat) : Int) - 1) = (qs.length : Int) := by rw [IntWalk.i64_in _ (by omega)]; omega
  have k1 : IntKind.i64.wrap ((qs.length : Int) + 1 - 1) = (qs.length : Int) := by rw [IntWalk.i64_in _ (by omega)]; omega
  have k2 : (0 : Int) ≤ (qs.length : Int) := by omega
  have k3 : (qs.length : Int) < ((qs.length + 1 : Nat) : Int) := by omega
  have k4 : (qs.length : Int) < (qs.length : Int) + 1 := by omega
  clear hat
  go_enter Tryz.func58, Tryz.ntmps58
  go_wp2
  go_quiet (fail)
  go_wp2
  go_ret
  exact ⟨rfl, (New.refl w).drewN nq⟩
theorem uC_at {l : List Nat} {i x : Nat} (h : l[i]? = some x) : (uC l)[i]? = some (.int .u32 (x : Int)) := by rw [uC, List.getElem?_map, h]; rfl
theorem RM.vals_at (h : RM w0 w m g mc r PL s qs q C VA V FV OV n val) (hl : 0 < s.top.vals.length) : ∃ k cap, V = .slice (some ⟨k, 0, none⟩) s.top.vals.length cap ∧ s.top.vals.length ≤ cap ∧ C ≤ k ∧ k < w.heap.size ∧ (∀ (i u : Nat), s.top.vals[i]? = some u → w.cell? ⟨k, i, none⟩ = some (.int .u32 (u : Int))) := by
  obtain ⟨k, cap, rfl, h1, h2⟩ := own_some h.top.vs hl
  obtain ⟨A, c, e, hc, _⟩ := own_form h.top.vs
  injection e with _ _ e
  subst e
  exact ⟨k, cap, rfl, hc, h1, h2, fun i u hi => own_cell h.top.vs (uC_at hi)⟩
set_option maxRecDepth 100000 in
set_option maxHeartbeats 1000000 in
theorem pop_far {vs : List Nat} {x : Nat} (h : RM w0 w m g mc r PL s qs q C VA V FV OV n val) (hv : s.top.vals = vs ++ [x]) (hs : vs.length ≤ 100000) :
    Calls Tryz.prog 124 #[.pointer (some ⟨q, 0, none⟩)] w fun e w' => e = .returned (.int .u32 (x : Int)) ∧ (∃ V', RM w0 w' m g mc r PL (s.put vs) qs q C VA V' FV OV n val) ∧ w.grownBy w' (some q) := by
  have hl : s.top.vals.length = vs.length + 1 := by rw [hv]; simp
  obtain ⟨k, cap, rfl, hc, h1, h2, hat⟩ := h.vals_at (by omega)
  have own := h.top.vs
  have HT := Lib.hid (own_take own (m := vs.length) (by omega))
  have ck := hat vs.length x (by rw [hv]; simp)
  have HH := Lib.hid h
  have f1 := h.top.blk.cell' 1 _ rfl
  have z1 := h.top.blk.free 1
  have HV := Lib.hid hv
  have k2 : (0 : Int) ≤ (vs.length : Int) := by omega
  have k3 : (vs.length : Int) ≤ (cap : Int) := by omega
  have k4 : (vs.length : Int) < (vs.length : Int) + 1 := by omega
  have k1 : IntKind.i64.wrap ((vs.length : Int) + 1 - 1) = (vs.length : Int) := by rw [IntWalk.i64_in _ (by omega)]; omega
  have k5 : IntKind.i64.wrap (vs.length : Int) = (vs.length : Int) := IntWalk.i64_in _ (by omega)
  rw [hl] at f1
  clear hat own h hv
  have HL := Lib.hid hl
  clear hl
  go_enter Tryz.func124, Tryz.ntmps124
  go_wp2
  go_quiet (fail)
  go_wp2
  have H1 := Lib.hid (HH.out.new ((New.refl w).drewN nq))
  have N1 := Lib.hid ((New.refl w).drewN nq)
  clear f1 z1 HT HH
  generalize w.drewN nq = w1 at *
  have HT := Lib.hid (own_take H1.out.top.vs (m := vs.length) (by have := HL.out; omega))
  have f1 := H1.out.top.blk.cell' 1 _ rfl
  have z1 := H1.out.top.blk.free 1
  rw [HL.out] at f1
  go_still_tail 14, (by kernel_rfl)
  have H2 := Lib.hid (H1.out.new (New.refl w1).drew)
  go_wp2
  go_ret
  refine ⟨rfl, ⟨_, (H1.out.setVals (V' := .slice (some ⟨k, 0, none⟩) vs.length cap) (vs := vs) ?_ rfl).new (New.refl _).drew⟩, grown_drew (grown_row (N1.out.grown_ _) 1 _)⟩
  have h9 := HT.out
  rw [HV.out, Nat.mul_one] at h9
  have e9 : (uC (vs ++ [x])).take vs.length = uC vs := by rw [uC, List.map_append, List.take_left' (by simp)]; rfl
  rw [e9] at h9
  exact h9
theorem pop_any {vs : List Nat} {x : Nat} (h : RM w0 w m g mc r PL s qs q C VA V FV OV n val) (hv : s.top.vals = vs ++ [x]) (hs : vs.length ≤ 100000) :
    Calls Tryz.prog 124 #[.pointer (some ⟨q, 0, none⟩)] w fun e w' => e = .returned (.int .u32 (x : Int)) ∧ ∃ V', RM w0 w' m g mc r PL (s.put vs) qs q C VA V' FV OV n val :=
  (pop_far h hv hs).mono fun _ _ h => ⟨h.1, h.2.1⟩
theorem Ly.at : ∀ {qs : List Nat} {fs : List Fr} {B D i u : Nat}, Ly w B qs fs D → qs[i]? = some u → ∃ f, fs[i]? = some f ∧ ∃ A c, w.cell? ⟨u, 1, none⟩ = some (.slice A f.vals.length c)
  | q :: qs, f :: fs, B, D, 0, u, ⟨E, VA, V, h, _, _⟩, hi => by
    simp only [List.getElem?_cons_zero, Option.some.injEq] at hi
    subst hi
    obtain ⟨A, c, rfl, _⟩ := own_form h.vs
    exact ⟨f, rfl, A, c, h.blk.cell' 1 _ rfl⟩
  | q :: qs, f :: fs, B, D, i + 1, u, ⟨E, VA, V, _, _, l⟩, hi => by
    rw [List.getElem?_cons_succ] at hi ⊢
    exact Ly.at l hi
  | [], _, _, _, _, _, _, hi => by simp at hi
  | _ :: _, [], _, _, _, _, h, _ => h.elim
theorem RM.frame_at (h : RM w0 w m g mc r PL s qs q C VA V FV OV n val) {i u : Nat} (hi : (qs ++ [q])[i]? = some u) : ∃ f, s.frs[i]? = some f ∧ ∃ A c, w.cell? ⟨u, 1, none⟩ = some (.slice A f.vals.length c) := by
  have hl := h.ly.len
  rcases snoc_at hi with ⟨h1, h2⟩ | ⟨rfl, rfl⟩
  · obtain ⟨f, hf, hc⟩ := Ly.at h.ly h1
    exact ⟨f, by rw [Mc.frs, List.getElem?_append_left (by omega)]; exact hf, hc⟩
  · obtain ⟨A, c, e, _⟩ := own_form h.top.vs
    refine ⟨s.top, by rw [Mc.frs, hl, List.getElem?_append_right (Nat.le_refl _), Nat.sub_self]; rfl, A, c, ?_⟩
    have := h.top.blk.cell' 1 _ rfl
    rw [e] at this
    exact this
def valN (l : List Fr) (i : Nat) : Nat := ((l.take i).map fun f => f.vals.length).sum
theorem valN_succ {l : List Fr} {i : Nat} {f : Fr} (h : l[i]? = some f) : valN l (i + 1) = valN l i + f.vals.length := by
  unfold valN
  rw [List.take_add_one, h]
  simp
theorem valN_all (s : Mc) : valN s.frs (s.low.length + 1) = stkN s := by
  unfold valN stkN Mc.frs
  rw [List.take_of_length_le (by simp)]
  simp
theorem valN_le (l : List Fr) (i : Nat) : valN l i ≤ (l.map fun f => f.vals.length).sum := by
  induction l generalizing i with
  | nil => simp [valN]
  | cons x l ih =>
    cases i with
    | zero => simp [valN]
    | succ i =>
      have := ih i
      unfold valN at this ⊢
      simp only [List.take_succ_cons, List.map_cons, List.sum_cons]
      omega
set_option maxRecDepth 100000 in
set_option maxHeartbeats 1000000 in
theorem full_any (h : RM w0 w m g mc r PL s qs q C VA V FV OV n val) (hd : s.low.length ≤ 1000) (hs : stkN s ≤ 100000) :
    Calls Tryz.prog 143 #[.pointer (some ⟨r, 0, none⟩)] w fun e w' => e = .returned (.int .i64 (stkN s : Int)) ∧ New w w' := by
  obtain ⟨k, cap, rfl, hc, h1, h2, hat⟩ := h.frow_at
  have hl := h.ly.len
  have f1 := h.run.cell' 1 _ rfl
  have HA := Lib.hid hat
  have HF := Lib.hid (fun (i u : Nat) (hi : (qs ++ [q])[i]? = some u) => h.frame_at hi)
  have HL := Lib.hid (show qs.length = s.low.length from hl)
  rw [hl] at f1
  obtain ⟨N, hN⟩ : ∃ N, s.low.length = N := ⟨_, rfl⟩
  have HN := Lib.hid hN
  rw [hN] at f1 hd
  clear hat h hl hc h1 h2 hN
  go_enter Tryz.func143, Tryz.ntmps143
  go_wp2
  go_loopw [3, 11] (fun v3 v11 wr => ∃ i : Nat, v11 = .int .i64 (i : Int) ∧ v3 = .int .i64 (valN s.frs i : Int) ∧ i ≤ N + 1 ∧ New w wr) (fun _ v11 _ => (N + 1) - (intOf v11).toNat)
  case atStart => exact ⟨0, rfl, rfl, by omega, New.refl w⟩
  case round =>
    obtain ⟨i, rfl, rfl, hi, hnr⟩ := hrel
    by_cases hlt : i < N + 1
    · obtain ⟨u, hu⟩ : ∃ u, (qs ++ [q])[i]? = some u := ⟨_, List.getElem?_eq_getElem (by rw [List.length_append, List.length_singleton, HL.out, HN.out]; exact hlt)⟩
      obtain ⟨f, hf, A, c, hc⟩ := HF.out i u hu
      have c0 := cellN hnr (HA.out i u hu)
      have c1 := cellN hnr hc
      have HS := Lib.hid (valN_succ hf)
      have hle := valN_le s.frs (i + 1)
      rw [show ((s.frs.map fun f => f.vals.length).sum) = stkN s by rw [← valN_all s, valN, List.take_of_length_le (by simp [Mc.frs])]] at hle
      rw [HS.out] at hle
      have k1 : IntKind.i64.wrap ((valN s.frs i : Int) + (f.vals.length : Int)) = (valN s.frs i : Int) + (f.vals.length : Int) := IntWalk.i64_in _ (by omega)
      have k2 : IntKind.i64.wrap ((i : Int) + 1) = (i : Int) + 1 := IntWalk.i64_in _ (by omega)
      have k3 : (i : Int) < (N : Int) + 1 := by omega
      have k4 : (0 : Int) ≤ (i : Int) := by omega
      generalize f.vals.length = fl at *
      generalize valN s.frs i = V0 at *
      clear hf hc hu
      go_wp2
      go_roundw
      case rel => exact ⟨i + 1, by go_num, by rw [HS.out]; go_num, by omega, hnr⟩
      case measure => (simp [intOf]; omega)
    · obtain rfl : i = N + 1 := by omega
      have k3 : ¬ (((N + 1 : Nat) : Int) < (N : Int) + 1) := by omega
      go_wp2
      go_ret
      refine ⟨retI ?_, hnr⟩
      rw [← valN_all s, HN.out]
end
end Go.Proofs.YtnjampfhkojbnaaGreatDoor

namespace Go.Proofs.YtnjampfhkojbnaaGreatDoor
open Go Go.RowKit
set_option linter.unusedSimpArgs false
set_option linter.unusedVariables false

theorem Tryz.info36w : (Tryz.prog.info? 36).map (fun i => (i.zero, i.size, i.bytes)) = some (some (.int .u32 0), 1, 4) := by kernel_rfl
def DoP (w0 : World) (m g mc r : Nat) (PL : Value) (n : Int) (o : Ot) (e : Ending) (w' : World) : Prop := match o with
  | .err c mem => e = .returned (.int .i64 c) ∧ w0.grownBy w' (some g) ∧ MM w' m g mc PL mem
  | .go s => e = .returned (.int .i64 0) ∧ ∃ qs q C VA V FV OV val, RM w0 w' m g mc r PL s qs q C VA V FV OV n val
  | .fin v mem out => e = .returned (.int .i64 0) ∧ ∃ FV OV, RE w0 w' m g mc r PL mem out FV OV n v
section
variable {w0 w : World} {m g mc r : Nat} {PL : Value} {s : Mc} {qs : List Nat} {q C : Nat} {VA V FV OV : Value} {n : Int} {val : Nat}
theorem RM.err (h : RM w0 w m g mc r PL s qs q C VA V FV OV n val) (c : Int) : DoP w0 m g mc r PL n (.err c s.mem) (.returned (.int .i64 c)) w := ⟨rfl, h.gr, h.mm⟩
theorem RM.go (h : RM w0 w m g mc r PL s qs q C VA V FV OV n val) : DoP w0 m g mc r PL n (.go s) (.returned (.int .i64 0)) w := ⟨rfl, _, _, _, _, _, _, _, _, h⟩
theorem DoP.ret {o : Ot} {e : Ending} {w' : World} (h : DoP w0 m g mc r PL n o e w') : ∃ c : Int, e = .returned (.int .i64 c) ∧ DoP w0 m g mc r PL n o (.returned (.int .i64 c)) w' := by
  cases o with
  | err c mem => obtain ⟨rfl, h⟩ := h; exact ⟨c, rfl, rfl, h⟩
  | go s => obtain ⟨rfl, h⟩ := h; exact ⟨0, rfl, rfl, h⟩
  | fin v mem out => obtain ⟨rfl, h⟩ := h; exact ⟨0, rfl, rfl, h⟩
set_option maxRecDepth 100000 in
set_option maxHeartbeats 4000000 in
theorem push_any (x : Nat) (h : RM w0 w m g mc r PL s qs q C VA V FV OV n val) (hd : s.low.length ≤ 1000) (hs : stkN s ≤ 100000) :
    Calls Tryz.prog 123 #[.pointer (some ⟨r, 0, none⟩), .int .u32 (x : Int)] w (DoP w0 m g mc r PL n (pushV x s)) := by
  obtain ⟨i0, hi, hz0, hz1, hz2⟩ := info_parts Tryz.info36w
  have HH := Lib.hid h
  have HD := Lib.hid hd
  have hq : qs.length ≤ 1000 := by rw [h.ly.len]; exact hd
  have HF := Lib.hid (full_any h hd hs)
  have HT := Lib.hid (fun (W : World) (hW : RM w0 W m g mc r PL s qs q C VA V FV OV n val) => top_any hW hq)
  by_cases hfull : 1024 ≤ stkN s
  · rw [pushV, if_pos hfull]
    obtain ⟨N, hN⟩ : ∃ N, stkN s = N := ⟨_, rfl⟩
    rw [hN] at HF hfull
    clear h hd hs hN
    have k0 : (1024 : Int) ≤ (N : Int) := by omega
    go_enter Tryz.func123, Tryz.ntmps123
    go_wp2_with (go_at_call 143; (with_reducible refine HF.out.mono ?_); rintro e w1 ⟨rfl, n1⟩)
    go_ret
    exact (HH.out.new n1).err 15
  · rw [pushV, if_neg hfull]
    have hvl : s.top.vals.length ≤ 100000 := by have := hs; unfold stkN at this; omega
    obtain ⟨N, hN⟩ : ∃ N, stkN s = N := ⟨_, rfl⟩
    rw [hN] at HF hfull
    have k0 : ¬ (1024 : Int) ≤ (N : Int) := by omega
    obtain ⟨A, c, rfl, _⟩ := own_form h.top.vs
    clear h hd hs hN
    have HV := Lib.hid hvl
    go_enter Tryz.func123, Tryz.ntmps123
    go_wp2_with (first
      | (go_at_call 58; have hq2 := R2; (with_reducible refine (HT.out _ R2.out).mono ?_); rintro e w3 ⟨rfl, n3⟩; have R3 := Lib.hid (R2.out.new n3); have f1 := R3.out.top.blk.cell' 1 _ rfl; have R4 := Lib.hid (R3.out.new ((New.refl w3).alloc (.cells #[.int .u32 (x : Int)] 36))))
      | (go_at_call 58; have hq1 := R1; (with_reducible refine (HT.out _ R1.out).mono ?_); rintro e w2 ⟨rfl, n2⟩; have R2 := Lib.hid (R1.out.new n2))
      | (go_at_call 143; (with_reducible refine HF.out.mono ?_); rintro e w1 ⟨rfl, n1⟩; have R1 := Lib.hid (HH.out.new n1))
      | (at_builtin; refine wpList_append_own_at _ rfl _ _ 30 rfl C 36 i0 (.int .u32 0) 1 4 Tryz.underlying30 hi hz0 hz1 hz2 rfl (by decide) _ _ _ rfl R4.out.top.vs ⟨w3.heap.size, 0, none⟩ 1 1 [.int .u32 (x : Int)] rfl rfl ?c1 ?c2 ?c3 ?c4 ?c5 ?_))
    case c1 => exact cell_one_new _ _ _
    case c2 => intro u hu; simp at hu; subst hu; rfl
    case c3 => have := HV.out; simp only [maxLen]; omega
    case c4 => have := HV.out; omega
    case c5 => have := R4.out.lo; omega
    intro v' w5 own5 hg5 _ hb5
    have P5 := Lib.hid (R4.out.pushed (vs := s.top.vals ++ [x]) hg5 (V' := v') (by rw [List.length_append, uC, List.map_append]; exact own5) (by
      rcases hb5 with q5 | q5
      · exact Or.inl q5
      · exact Or.inr fun k hk => by rw [q5] at hk; injection hk with hk; rw [World.size_alloc]; exact Nat.le_of_eq hk))
    obtain ⟨A5, c5, rfl, _⟩ := own_form own5
    have B5 := R4.out.top.blk.grown hg5 (Ne.symm R4.out.top.apart.2)
    have f5 := B5.cell' 1 _ rfl
    have z5 := B5.free 1
    clear f1
    go_wp2
    go_ret
    exact P5.out.go
end
end Go.Proofs.YtnjampfhkojbnaaGreatDoor

namespace Go.Proofs.YtnjampfhkojbnaaGreatDoor
open Go Go.RowKit
set_option linter.unusedSimpArgs false
set_option linter.unusedVariables false

theorem last_val {l : List Nat} {k : Nat} (h : k + 1 ≤ l.length) : ∃ vs x, l = vs ++ [x] ∧ vs.length = l.length - 1 ∧ l.getD (l.length - 1) 0 = x ∧ l.take (l.length - 1) = vs := by
  rcases List.eq_nil_or_concat l with rfl | ⟨vs, x, rfl⟩
  · simp at h
  · rw [List.concat_eq_append]
    refine ⟨vs, x, rfl, by simp, ?_, ?_⟩
    · rw [List.getD_eq_getElem?_getD, List.length_append, List.length_singleton, Nat.add_sub_cancel, List.getElem?_append_right (Nat.le_refl _), Nat.sub_self]; rfl
    · rw [List.length_append, List.length_singleton, Nat.add_sub_cancel, List.take_left' rfl]
section
variable {w0 w : World} {m g mc r : Nat} {PL : Value} {s : Mc} {qs : List Nat} {q C : Nat} {VA V FV OV : Value} {n : Int} {val : Nat}
theorem RM.vars_at (h : RM w0 w m g mc r PL s qs q C VA V FV OV n val) (hl : 0 < s.top.vars.length) : ∃ k cap, VA = .slice (some ⟨k, 0, none⟩) s.top.vars.length cap ∧ (∀ (i u : Nat), s.top.vars[i]? = some u → w.cell? ⟨k, i, none⟩ = some (.int .u32 (u : Int))) := by
  obtain ⟨k, cap, rfl, h1, h2⟩ := own_some h.top.va hl
  exact ⟨k, cap, rfl, fun i u hi => own_cell h.top.va (uC_at hi)⟩
set_option maxRecDepth 100000 in
set_option maxHeartbeats 4000000 in
theorem constant_any (x : Nat) (h : RM w0 w m g mc r PL s qs q C VA V FV OV n val) (hd : s.low.length ≤ 1000) (hs : stkN s ≤ 100000) :
    Calls Tryz.prog 88 #[.pointer (some ⟨r, 0, none⟩), .int .u32 (x : Int)] w (DoP w0 m g mc r PL n (execV 1 x s)) := by
  have HP := Lib.hid (push_any x h hd hs)
  show Calls Tryz.prog 88 #[.pointer (some ⟨r, 0, none⟩), .int .u32 (x : Int)] w (DoP w0 m g mc r PL n (pushV x s))
  generalize pushV x s = O at *
  clear h
  go_enter Tryz.func88, Tryz.ntmps88
  go_wp2_with (go_at_call 123; (with_reducible refine HP.out.mono ?_); rintro e w1 hO; obtain ⟨c1, rfl, hO⟩ := hO.ret)
  go_ret
  exact hO
set_option maxRecDepth 100000 in
set_option maxHeartbeats 4000000 in
theorem get_any (x : Nat) (h : RM w0 w m g mc r PL s qs q C VA V FV OV n val) (hd : s.low.length ≤ 1000) (hs : stkN s ≤ 100000) (hx : x < s.top.vars.length) (hx1 : s.top.vars.length ≤ 1000) :
    Calls Tryz.prog 89 #[.pointer (some ⟨r, 0, none⟩), .int .u32 (x : Int)] w (DoP w0 m g mc r PL n (execV 2 x s)) := by
  obtain ⟨y, hy⟩ : ∃ y, s.top.vars[x]? = some y := ⟨_, List.getElem?_eq_getElem hx⟩
  have e0 : execV 2 x s = pushV y s := by show pushV (s.top.vars.getD x 0) s = _; rw [List.getD_eq_getElem?_getD, hy]; rfl
  rw [e0]
  have HT := Lib.hid (top_any h (by rw [h.ly.len]; exact hd))
  obtain ⟨k, cap, rfl, hat⟩ := h.vars_at (by omega)
  have ck := hat x y hy
  have f0 := h.top.blk.cell' 0 _ rfl
  have HH := Lib.hid (fun (W : World) (hn : New w W) => push_any y (h.new hn) hd hs)
  have k1 : (x : Int) < (s.top.vars.length : Int) := by omega
  have k2 : (0 : Int) ≤ (x : Int) := by omega
  generalize pushV y s = O at *
  generalize s.top.vars.length = N at *
  clear h hy hat e0
  go_enter Tryz.func89, Tryz.ntmps89
  go_wp2_with (first
    | (go_at_call 123; (with_reducible refine (HH.out _ n1).mono ?_); rintro e w2 hO; obtain ⟨c1, rfl, hO⟩ := hO.ret)
    | (go_at_call 58; (with_reducible refine HT.out.mono ?_); rintro e w1 ⟨rfl, n1⟩; have f1 := cellN n1 f0; have d1 := cellN n1 ck))
  go_ret
  exact hO
set_option maxRecDepth 100000 in
set_option maxHeartbeats 4000000 in
theorem drop_any (x : Nat) (h : RM w0 w m g mc r PL s qs q C VA V FV OV n val) (hd : s.low.length ≤ 1000) (hs : stkN s ≤ 100000) (ht : 1 ≤ s.top.vals.length) :
    Calls Tryz.prog 101 #[.pointer (some ⟨r, 0, none⟩), .int .u32 (x : Int)] w (DoP w0 m g mc r PL n (execV 14 x s)) := by
  obtain ⟨vs, y, hv, hvl, e1, e2⟩ := last_val (k := 0) (l := s.top.vals) (by omega)
  have hq : qs.length ≤ 1000 := by rw [h.ly.len]; exact hd
  have hvs : vs.length ≤ 100000 := by have h9 := hs; unfold stkN at h9; omega
  have HT := Lib.hid (top_any h hq)
  have HO := Lib.hid (fun (W : World) (hn : New w W) => pop_any (h.new hn) hv hvs)
  have e0 : execV 14 x s = .go (s.put vs) := by show Ot.go (s.put (s.top.vals.take (s.top.vals.length - 1))) = _; rw [e2]
  rw [e0]
  clear h hv e1 e2 e0
  go_enter Tryz.func101, Tryz.ntmps101
  go_wp2_with (first
    | (go_at_call 124; (with_reducible refine (HO.out _ n1).mono ?_); rintro e w2 ⟨rfl, V2, R2⟩)
    | (go_at_call 58; (with_reducible refine HT.out.mono ?_); rintro e w1 ⟨rfl, n1⟩))
  go_ret
  exact R2.go
set_option maxRecDepth 100000 in
set_option maxHeartbeats 4000000 in
theorem jump_any (x : Nat) (h : RM w0 w m g mc r PL s qs q C VA V FV OV n val) (hd : s.low.length ≤ 1000) (hs : stkN s ≤ 100000) (hx : x < 4294967296) (h1 : -9000000000000000000 ≤ s.top.pc) (h2 : s.top.pc ≤ 9000000000000000000) :
    Calls Tryz.prog 97 #[.pointer (some ⟨r, 0, none⟩), .int .u32 (x : Int)] w (DoP w0 m g mc r PL n (execV 10 x s)) := by
  have hq : qs.length ≤ 1000 := by rw [h.ly.len]; exact hd
  have HT := Lib.hid (top_any h hq)
  have HH := Lib.hid h
  have k1 := wrap_sgn x hx
  have k0 := sgn_le (x := x) hx
  have k2 : IntKind.i64.wrap (sgn x) = sgn x := IntWalk.i64_in _ (by omega)
  have k3 : IntKind.i64.wrap (s.top.pc + sgn x) = s.top.pc + sgn x := IntWalk.i64_in _ (by omega)
  have f2 := h.top.blk.cell' 2 _ rfl
  have z2 := h.top.blk.free 2
  show Calls Tryz.prog 97 #[.pointer (some ⟨r, 0, none⟩), .int .u32 (x : Int)] w (DoP w0 m g mc r PL n (.go { s with top := { s.top with pc := s.top.pc + sgn x } }))
  clear h
  go_enter Tryz.func97, Tryz.ntmps97
  go_wp2_with (go_at_call 58; (with_reducible refine HT.out.mono ?_); rintro e w1 ⟨rfl, n1⟩; have f1 := cellN n1 f2; have z1 := (HH.out.new n1).top.blk.free 2)
  go_ret
  exact ((HH.out.new n1).setPc _).go
set_option maxRecDepth 100000 in
set_option maxHeartbeats 4000000 in
theorem zero_any (x : Nat) (h : RM w0 w m g mc r PL s qs q C VA V FV OV n val) (hd : s.low.length ≤ 1000) (hs : stkN s ≤ 100000) (ht : 1 ≤ s.top.vals.length) (hx : x < 4294967296) (h1 : -9000000000000000000 ≤ s.top.pc) (h2 : s.top.pc ≤ 9000000000000000000) :
    Calls Tryz.prog 98 #[.pointer (some ⟨r, 0, none⟩), .int .u32 (x : Int)] w (DoP w0 m g mc r PL n (execV 11 x s)) := by
  obtain ⟨vs, y, hv, hvl, e1, e2⟩ := last_val (k := 0) (l := s.top.vals) (by omega)
  have hq : qs.length ≤ 1000 := by rw [h.ly.len]; exact hd
  have hvs : vs.length ≤ 100000 := by have h9 := hs; unfold stkN at h9; omega
  have HT := Lib.hid (top_any h hq)
  have HO := Lib.hid (fun (W : World) (hn : New w W) => pop_any (h.new hn) hv hvs)
  have hs2 : stkN (s.put vs) ≤ 100000 := by have h9 := stk_put s vs; omega
  have HJ := Lib.hid (fun (W : World) (V2 : Value) (h : RM w0 W m g mc r PL (s.put vs) qs q C VA V2 FV OV n val) => jump_any x h hd hs2 hx h1 h2)
  by_cases hy : y = 0
  · have e0 : execV 11 x s = execV 10 x (s.put vs) := by
      simp only [execV, e1, e2, hy, if_pos]
    rw [e0]
    subst hy
    generalize execV 10 x (s.put vs) = O at *
    clear h hv e1 e2 e0 h1 h2
    go_enter Tryz.func98, Tryz.ntmps98
    go_wp2_with (first
      | (go_at_call 97; (with_reducible refine (HJ.out _ _ R2).mono ?_); rintro e w3 hO; obtain ⟨c1, rfl, hO⟩ := hO.ret)
      | (go_at_call 124; (with_reducible refine (HO.out _ n1).mono ?_); rintro e w2 ⟨rfl, V2, R2⟩)
      | (go_at_call 58; (with_reducible refine HT.out.mono ?_); rintro e w1 ⟨rfl, n1⟩))
    go_ret
    exact hO
  · have e0 : execV 11 x s = .go (s.put vs) := by
      simp only [execV, e1, e2, hy, if_false]
    rw [e0]
    have hyb : ((y : Int) == 0) = false := by rw [ieq0]; exact beq_false_of_ne hy
    clear h hv e1 e2 e0 h1 h2 HJ
    go_enter Tryz.func98, Tryz.ntmps98
    go_wp2_with (first
      | (go_at_call 124; (with_reducible refine (HO.out _ n1).mono ?_); rintro e w2 ⟨rfl, V2, R2⟩)
      | (go_at_call 58; (with_reducible refine HT.out.mono ?_); rintro e w1 ⟨rfl, n1⟩))
    go_ret
    exact R2.go
end
end Go.Proofs.YtnjampfhkojbnaaGreatDoor

namespace Go.Proofs.YtnjampfhkojbnaaGreatDoor
open Go Go.RowKit
set_option linter.unusedSimpArgs false
set_option linter.unusedVariables false

def atV (mem : List UInt8) (a : Nat) : Nat × Int := if a % 4 ≠ 0 ∨ mem.length < a + 4 then (0, 3) else (wordN mem a, 0)
set_option maxRecDepth 100000 in
set_option maxHeartbeats 4000000 in
theorem mat_any {m g mc : Nat} {PL : Value} {mem : List UInt8} (a : Nat) (w : World) (h : MM w m g mc PL mem) (hs : mem.length ≤ 1000000000) (ha : a < 4294967296) :
    Calls Tryz.prog 27 #[.pointer (some ⟨m, 0, none⟩), .int .u32 (a : Int)] w fun e w' => e = .returned (.tuple #[.int .u32 ((atV mem a).1 : Int), .int .i64 (atV mem a).2]) ∧ New w w' := by
  have f0 := h.mach.cell' 0 _ rfl
  by_cases h4 : a % 4 = 0
  · have k0 : ((a : Int) % 4 != 0) = false := by have : (a : Int) % 4 = 0 := by omega
                                                 rw [this]; rfl
    have k2 : IntKind.i64.wrap (a : Int) = (a : Int) := IntWalk.i64_in _ (by omega)
    have k1 : IntKind.i64.wrap ((a : Int) + 4) = (a : Int) + 4 := IntWalk.i64_in _ (by omega)
    by_cases hl : mem.length < a + 4
    · have e0 : atV mem a = (0, 3) := if_pos (Or.inr hl)
      rw [e0]
      have k3 : decide ((mem.length : Int) < (a : Int) + 4) = true := by rw [decide_eq_true_iff]; omega
      generalize mem.length = N at *
      clear h e0 hl
      go_enter Tryz.func27, Tryz.ntmps27
      go_wp2
      refine bodyPost_ret (v := .tuple #[.int .u32 ((0 : Nat) : Int), .int .i64 3]) (by simp [results, Tryz.results27, go_sem]) rfl ⟨rfl, New.refl _⟩
    · have e0 : atV mem a = (wordN mem a, 0) := if_neg (by omega)
      rw [e0]
      have k3 : decide ((mem.length : Int) < (a : Int) + 4) = false := by rw [decide_eq_false_iff_not]; omega
      have HW := Lib.hid (mword_any a w h (by omega) hs)
      generalize mem.length = N at *
      generalize wordN mem a = W at *
      clear h e0 hl
      go_enter Tryz.func27, Tryz.ntmps27
      go_wp2_with (go_at_call 53; (with_reducible refine HW.out.mono ?_); rintro e w1 ⟨rfl, n1⟩)
      refine bodyPost_ret (v := .tuple #[.int .u32 (W : Int), .int .i64 0]) (by simp [results, Tryz.results27, go_sem]) rfl ⟨rfl, n1⟩
  · have k0 : ((a : Int) % 4 != 0) = true := by rw [bne_iff_ne]; omega
    have e0 : atV mem a = (0, 3) := if_pos (Or.inl h4)
    rw [e0]
    generalize mem.length = N at *
    clear h e0
    go_enter Tryz.func27, Tryz.ntmps27
    go_wp2
    refine bodyPost_ret (v := .tuple #[.int .u32 ((0 : Nat) : Int), .int .i64 3]) (by simp [results, Tryz.results27, go_sem]) rfl ⟨rfl, New.refl _⟩
theorem RM.memTurned {w0 w w' : World} {m g mc r : Nat} {PL : Value} {s : Mc} {qs : List Nat} {q C : Nat} {VA V FV OV : Value} {n : Int} {val : Nat} (h : RM w0 w m g mc r PL s qs q C VA V FV OV n val) {mem : List UInt8} (hM : MM w' m g mc PL mem) (hg : w.grownBy w' (some g)) :
    RM w0 w' m g mc r PL { s with mem := mem } qs q C VA V FV OV n val := by
  obtain ⟨a1, a2, a3, a4, a5, a6, a7, a8, a9, a10⟩ := h.apart
  have hl := h.lo
  have hg0 := h.g0
  have far : ∀ {k l size : Nat} {e : TypeId} {v : Value} {xs : List Value}, w.ownsRow k e size v l xs → w0.heap.size ≤ k → ∀ j, v.ownBlock = some j → (some g : Option Nat) ≠ some j := fun hr hk j hj e => by
    have := (hr.lt j hj).1
    injection e with e
    omega
  have kp : ∀ B D, w0.heap.size ≤ B → D ≤ w.heap.size → Kp w w' B D := fun B D hB hD k _ _ h1 h2 _ _ => hg.block k (by omega) (fun e => by injection e with e; omega)
  refine ⟨⟨hg.os.trans h.gr.os, hg.tape.trans h.gr.tape, hg.output.trans h.gr.output, Nat.le_trans h.gr.size hg.size, fun k hk hr => (hg.block k (Nat.lt_of_lt_of_le hk h.gr.size) hr).trans (h.gr.block k hk hr)⟩, h.g0, h.m0, hM.mach, hM.row, h.r0, h.run.grown hg (fun e => a9 (by injection e with e; exact e.symm)), own_grown h.fr hg (far h.fr (Nat.le_refl _)), own_grown h.ou hg (far h.ou (Nat.le_refl _)), h.ly.keep (kp _ _ (Nat.le_refl _) (by omega)), ?_⟩
  exact (h.top.keep (kp _ _ hl.1 (Nat.le_refl _))).wide hg.size
end Go.Proofs.YtnjampfhkojbnaaGreatDoor

namespace Go.Proofs.YtnjampfhkojbnaaGreatDoor
open Go Go.RowKit
set_option linter.unusedSimpArgs false
set_option linter.unusedVariables false

theorem last_two {l : List Nat} (h : 2 ≤ l.length) : ∃ vs x y, l = (vs ++ [x]) ++ [y] ∧ vs.length = l.length - 2 ∧ l.getD (l.length - 1) 0 = y ∧ l.getD (l.length - 2) 0 = x ∧ l.take (l.length - 2) = vs := by
  obtain ⟨v1, y, rfl, h1, h2, _⟩ := last_val (k := 1) h
  rw [List.length_append, List.length_singleton] at h
  obtain ⟨vs, x, rfl, h3, h4, h5⟩ := last_val (k := 0) (l := v1) (by omega)
  refine ⟨vs, x, y, rfl, by simp, h2, ?_, ?_⟩
  · simp only [List.length_append, List.length_singleton, List.append_assoc, List.getD_eq_getElem?_getD]
    rw [show vs.length + (1 + 1) - 2 = vs.length by omega, List.getElem?_append_right (Nat.le_refl _), Nat.sub_self]; rfl
  · simp only [List.length_append, List.length_singleton, List.append_assoc]
    rw [show vs.length + (1 + 1) - 2 = vs.length by omega, List.take_left' rfl]
section
variable {w0 w : World} {m g mc r : Nat} {PL : Value} {s : Mc} {qs : List Nat} {q C : Nat} {VA V FV OV : Value} {n : Int} {val : Nat}
set_option maxRecDepth 100000 in
set_option maxHeartbeats 4000000 in
theorem store_any (z : Nat) (h : RM w0 w m g mc r PL s qs q C VA V FV OV n val) (hd : s.low.length ≤ 1000) (hs : stkN s ≤ 100000) (ht : 2 ≤ s.top.vals.length) (hb : ∀ x ∈ s.top.vals, x < 4294967296) (hm : s.mem.length ≤ 1000000000) :
    Calls Tryz.prog 92 #[.pointer (some ⟨r, 0, none⟩), .int .u32 (z : Int)] w (DoP w0 m g mc r PL n (execV 5 z s)) := by
  obtain ⟨vs, a, x, hv, hvl, e1, e2, e3⟩ := last_two ht
  have hq : qs.length ≤ 1000 := by rw [h.ly.len]; exact hd
  have hvs : vs.length + 1 ≤ 100000 := by have h9 := hs; unfold stkN at h9; omega
  have ha : a < 4294967296 := hb a (by rw [hv]; simp)
  have hx : x < 4294967296 := hb x (by rw [hv]; simp)
  have e0 : execV 5 z s = if a % 4 ≠ 0 ∨ s.mem.length < a + 4 then .err 3 s.mem else .go { s.put vs with mem := putN s.mem a x } := by
    simp only [execV, e1, e2, e3]
  rw [e0]
  have HT := Lib.hid (top_any h hq)
  have HO := Lib.hid (fun (W : World) (hn : New w W) => pop_any (h.new hn) hv (by simp; omega))
  have HT2 := Lib.hid (fun (W W' : World) (V2 : Value) (h : RM w0 W m g mc r PL (s.put (vs ++ [a])) qs q C VA V2 FV OV n val) => top_any h hq)
  have HO2 := Lib.hid (fun (W : World) (V2 : Value) (h : RM w0 W m g mc r PL (s.put (vs ++ [a])) qs q C VA V2 FV OV n val) => pop_any (vs := vs) (x := a) h rfl (by omega))
  have HA := Lib.hid (fun (W : World) (h : MM W m g mc PL s.mem) => mat_any a W h hm ha)
  by_cases hc : a % 4 ≠ 0 ∨ s.mem.length < a + 4
  · rw [if_pos hc]
    have e9 : atV s.mem a = (0, 3) := if_pos hc
    rw [e9] at HA
    clear h hv e1 e2 e3 e0 hb hc e9
    go_enter Tryz.func92, Tryz.ntmps92
    go_wp2_with (first
      | (go_at_call 27; have hq5 := f5; (with_reducible refine (HA.out _ R4.mm).mono ?_); rintro e w5 ⟨rfl, n5⟩; have R5 := R4.new n5)
      | (go_at_call 124; have hq4 := R3; (with_reducible refine (HO2.out _ _ R3).mono ?_); rintro e w4 ⟨rfl, V4, R4⟩; have f5 := R4.run.cell' 0 _ rfl)
      | (go_at_call 58; have hq3 := R2; (with_reducible refine (HT2.out _ w _ R2).mono ?_); rintro e w3 ⟨rfl, n3⟩; have R3 := R2.new n3)
      | (go_at_call 124; have hq2 := n1; (with_reducible refine (HO.out _ n1).mono ?_); rintro e w2 ⟨rfl, V2, R2⟩)
      | (go_at_call 58; (with_reducible refine HT.out.mono ?_); rintro e w1 ⟨rfl, n1⟩))
    go_ret
    exact R5.err 3
  · rw [if_neg hc]
    have e9 : atV s.mem a = (wordN s.mem a, 0) := if_neg hc
    rw [e9] at HA
    have k2 : IntKind.i64.wrap (a : Int) = (a : Int) := IntWalk.i64_in _ (by omega)
    have HP := Lib.hid (fun (W : World) (h : MM W m g mc PL s.mem) => put_any a x W h (by omega) hm hx)
    clear h hv e1 e2 e3 e0 hb hc e9
    go_enter Tryz.func92, Tryz.ntmps92
    go_wp2_with (first
      | (go_at_call 32; have hq6 := f6; (with_reducible refine (HP.out _ R5.mm).mono ?_); rintro e w6 ⟨rfl, M6, g6⟩; have R6 := R5.memTurned M6 g6)
      | (go_at_call 27; have hq5 := f5; (with_reducible refine (HA.out _ R4.mm).mono ?_); rintro e w5 ⟨rfl, n5⟩; have R5 := R4.new n5; have f6 := R5.run.cell' 0 _ rfl)
      | (go_at_call 124; have hq4 := R3; (with_reducible refine (HO2.out _ _ R3).mono ?_); rintro e w4 ⟨rfl, V4, R4⟩; have f5 := R4.run.cell' 0 _ rfl)
      | (go_at_call 58; have hq3 := R2; (with_reducible refine (HT2.out _ w _ R2).mono ?_); rintro e w3 ⟨rfl, n3⟩; have R3 := R2.new n3)
      | (go_at_call 124; have hq2 := n1; (with_reducible refine (HO.out _ n1).mono ?_); rintro e w2 ⟨rfl, V2, R2⟩)
      | (go_at_call 58; (with_reducible refine HT.out.mono ?_); rintro e w1 ⟨rfl, n1⟩))
    go_ret
    exact R6.go
set_option maxRecDepth 100000 in
set_option maxHeartbeats 4000000 in
theorem rin_any (z : Nat) (h : RM w0 w m g mc r PL s qs q C VA V FV OV n val) (hd : s.low.length ≤ 1000) (hs : stkN s ≤ 100000) (hi : s.inp.length ≤ 1000000) :
    Calls Tryz.prog 93 #[.pointer (some ⟨r, 0, none⟩), .int .u32 (z : Int)] w (DoP w0 m g mc r PL n (execV 6 z s)) := by
  have f2 := h.run.cell' 2 _ rfl
  cases hI : s.inp with
  | nil =>
    have e0 : execV 6 z s = pushV 4294967295 s := by simp only [execV, hI]
    rw [e0]
    have HP := Lib.hid (show Calls Tryz.prog 123 #[.pointer (some ⟨r, 0, none⟩), .int .u32 4294967295] w _ from push_any 4294967295 h hd hs)
    generalize pushV 4294967295 s = O at *
    rw [hI] at f2
    have k9 : (S []).toList.isEmpty = true := by rw [toList_eq]; rfl
    clear h hI e0
    go_enter Tryz.func93, Tryz.ntmps93
    go_wp2_with (go_at_call 123; (with_reducible refine HP.out.mono ?_); rintro e w1 hO; obtain ⟨c1, rfl, hO⟩ := hO.ret)
    go_ret
    exact hO
  | cons c l =>
    obtain ⟨str, hstr⟩ : ∃ str, S s.inp = str := ⟨_, rfl⟩
    have hl1 : str.data.toList = c :: l := by rw [← hstr, hI]; rfl
    have hsz : str.size = l.length + 1 := by rw [size_eq, hl1, List.length_cons]
    have k1 : 0 < str.size := by omega
    have hg0 : str[0]'k1 = c := by rw [get_eq str 0 (by omega)]; simp [hl1]
    have hne : str.toList.isEmpty = false := by rw [toList_eq, hl1]; rfl
    have hex : str.extract 1 str.size = S l := by rw [extract_S, hl1, List.drop_succ_cons, List.drop_zero, List.take_of_length_le (by omega)]
    have k2 : (1 : Int) ≤ (str.size : Int) := by omega
    rw [hstr] at f2
    have HSTR := Lib.hid hstr
    have HP := Lib.hid (push_any c.toNat h hd hs)
    have cb := UInt8.toNat_lt c
    have cm : (c.toNat : Int) % 4294967296 = (c.toNat : Int) := by omega
    by_cases hfull : 1024 ≤ stkN s
    · have e0 : execV 6 z s = .err 15 s.mem := by simp only [execV, hI, pushV, if_pos hfull]
      rw [pushV, if_pos hfull] at HP
      rw [e0]
      clear h hI e0 hl1 hstr hsz hex
      go_enter Tryz.func93, Tryz.ntmps93
      go_wp2_with (go_at_call 123; (with_reducible refine HP.out.mono ?_); rintro e w1 ⟨rfl, hO⟩)
      go_ret
      exact ⟨rfl, hO⟩
    · have e0 : execV 6 z s = .go { s.put (s.top.vals ++ [c.toNat]) with inp := l } := by simp only [execV, hI, pushV, if_neg hfull]
      rw [pushV, if_neg hfull] at HP
      rw [e0]
      clear h hI e0 hl1 hstr hsz
      go_enter Tryz.func93, Tryz.ntmps93
      go_wp2_with (go_at_call 123; (with_reducible refine HP.out.mono ?_); rintro e w1 ⟨rfl, qs1, q1, C1, VA1, V1, FV1, OV1, val1, R1⟩; have f3 : w1.cell? ⟨r, 2, none⟩ = some (.string str) := (by rw [← HSTR.out]; exact R1.run.cell' 2 _ rfl); have z3 := R1.run.free 2)
      go_ret
      exact (R1.setInp l).go
end
end Go.Proofs.YtnjampfhkojbnaaGreatDoor

namespace Go.Proofs.YtnjampfhkojbnaaGreatDoor
open Go Go.RowKit
set_option linter.unusedSimpArgs false
set_option linter.unusedVariables false

section
variable {w0 w : World} {m g mc r : Nat} {PL : Value} {s : Mc} {qs : List Nat} {q C : Nat} {VA V FV OV : Value} {n : Int} {val : Nat}
set_option maxRecDepth 100000 in
set_option maxHeartbeats 4000000 in
theorem leave_any (z : Nat) (h : RM w0 w m g mc r PL s qs q C VA V FV OV n val) (hd : s.low.length ≤ 1000) (hs : stkN s ≤ 100000) (ht : 1 ≤ s.top.vals.length) :
    Calls Tryz.prog 100 #[.pointer (some ⟨r, 0, none⟩), .int .u32 (z : Int)] w (DoP w0 m g mc r PL n (execV 13 z s)) := by
  obtain ⟨vs, y, hv, hvl, e1, e2⟩ := last_val (k := 0) (l := s.top.vals) (by omega)
  have hq : qs.length ≤ 1000 := by rw [h.ly.len]; exact hd
  have hvs : vs.length ≤ 100000 := by have h9 := hs; unfold stkN at h9; omega
  have HT := Lib.hid (top_any h hq)
  have HO := Lib.hid (fun (W : World) (hn : New w W) => pop_any (h.new hn) hv hvs)
  obtain ⟨k, cap, rfl, hc, hk1, hk2, hat⟩ := h.frow_at
  have hl := h.ly.len
  rcases List.eq_nil_or_concat s.low with hlow | ⟨low, f, hlow⟩
  · rw [hlow] at hl
    obtain rfl : qs = [] := List.length_eq_zero_iff.1 hl
    have e0 : execV 13 z s = .fin y s.mem s.out := by simp only [execV, e1, hlow, List.getLast?_nil]
    rw [e0]
    have HLOW := Lib.hid hlow
    have k0 : IntKind.i64.wrap 0 = 0 := rfl
    have k1 : (0 : Int) ≤ (cap : Int) := by omega
    clear h hv e1 e2 e0 hat hl hlow
    go_enter Tryz.func100, Tryz.ntmps100
    go_wp2_with (first
      | (go_at_call 124; (with_reducible refine (HO.out _ n1).mono ?_); rintro e w2 ⟨rfl, V2, R2⟩; have f1 : w2.cell? ⟨r, 1, none⟩ = some (.slice (some ⟨k, 0, none⟩) 1 cap) := R2.run.cell' 1 _ rfl; have z1 := R2.run.free 1)
      | (go_at_call 58; (with_reducible refine HT.out.mono ?_); rintro e w1 ⟨rfl, n1⟩))
    go_still_tail 14, (by kernel_rfl)
    have H3 := Lib.hid (R2.new (New.refl w2).drew)
    have z5 := R2.run.free 5
    have f5 := R2.run.cell' 5 _ rfl
    go_wp2
    go_ret
    exact ⟨rfl, _, _, H3.out.ended (A := some ⟨k, 0, none⟩) (c := cap) y⟩
  · rw [List.concat_eq_append] at hlow
    rcases List.eq_nil_or_concat qs with hqs | ⟨qs', q', hqs⟩
    · rw [hqs, hlow] at hl; simp at hl
    rw [List.concat_eq_append] at hqs
    subst hqs
    have e0 : execV 13 z s = .go { s with low := low, top := { f with vals := f.vals ++ [y] } } := by
      simp only [execV, e1, hlow, List.getLast?_append, List.getLast?_singleton, Option.some_or, List.dropLast_append_of_ne_nil (l := [f]) (l' := low) (by simp), List.dropLast_singleton, List.append_nil]
    rw [e0]
    obtain ⟨i0, hi, hz0, hz1, hz2⟩ := info_parts Tryz.info36w
    have hfv : f.vals.length ≤ 100000 := by
      have h9 := hs
      unfold stkN at h9
      rw [hlow, List.map_append, List.sum_append] at h9
      simp only [List.map_cons, List.map_nil, List.sum_cons, List.sum_nil] at h9
      omega
    have HFV := Lib.hid hfv
    have hql : qs'.length ≤ 1000 := by rw [List.length_append, List.length_singleton] at hq; omega
    obtain ⟨L, hL⟩ : ∃ L, qs'.length = L := ⟨_, rfl⟩
    have HLL := Lib.hid hL
    have k0 : IntKind.i64.wrap (((L + 1 : Nat) : Int)) = ((L + 1 : Nat) : Int) := IntWalk.i64_in _ (by omega)
    have kb : IntKind.i64.wrap ((L : Int) + 1) = (L : Int) + 1 := IntWalk.i64_in _ (by omega)
    have kd : IntKind.i64.wrap ((L : Int) + 1 + 1 - 1) = (L : Int) + 1 := by rw [IntWalk.i64_in _ (by omega)]; omega
    have k1 : (0 : Int) ≤ (L : Int) + 1 := by omega
    rw [List.length_append, List.length_singleton, hL] at hc
    have k2 : (L : Int) + 1 ≤ (cap : Int) := by omega
    have k3 : ((L : Int) + 1 == 0) = false := by simp; omega
    have k4 : ((L : Int) + 1).toNat = L + 1 := by omega
    have HLOW := Lib.hid hlow
    have HQ := Lib.hid hql
    clear h hv e1 e2 e0 hat hl hlow hfv hL hq hql
    go_enter Tryz.func100, Tryz.ntmps100
    go_wp2_with (first
      | (go_at_call 124; (with_reducible refine (HO.out _ n1).mono ?_); rintro e w2 ⟨rfl, V2, R2⟩; have f1 : w2.cell? ⟨r, 1, none⟩ = some (.slice (some ⟨k, 0, none⟩) (L + 1 + 1) cap) := (by rw [← HLL.out]; have q9 := R2.run.cell' 1 _ rfl; rw [List.length_append, List.length_singleton] at q9; exact q9); have z1 := R2.run.free 1)
      | (go_at_call 58; (with_reducible refine HT.out.mono ?_); rintro e w1 ⟨rfl, n1⟩))
    go_still_tail 14, (by kernel_rfl)
    have H3 := Lib.hid (R2.new (New.refl w2).drew)
    have HV3 : Hid (w2.drew.ownsRow w0.heap.size tPtr 1 (.slice (some ⟨k, 0, none⟩) (qs'.length + 1) cap) (qs'.length + 1) (pC (qs' ++ [q']))) := Lib.hid (by
      have q9 := own_take H3.out.fr (m := qs'.length + 1) (by simp)
      have e9 : (pC (qs' ++ [q'] ++ [q])).take ((qs'.length + 1) * 1) = pC (qs' ++ [q']) := by rw [pC, List.map_append, List.take_left' (by simp)]; rfl
      rw [e9] at q9
      exact q9)
    obtain ⟨C4, VA4, V4, R4⟩ := H3.out.left HLOW.out HV3.out
    rw [HLL.out] at R4
    have R4 : RM w0 (w2.setCell ⟨r, 1, none⟩ (.slice (some ⟨k, 0, none⟩) (L + 1) cap)).drew m g mc r PL { (s.put vs) with low := low, top := f } qs' q' C4 VA4 V4 (.slice (some ⟨k, 0, none⟩) (L + 1) cap) OV n val := R4
    have HT4 := Lib.hid (fun (W : World) (hn : New (w2.setCell ⟨r, 1, none⟩ (.slice (some ⟨k, 0, none⟩) (L + 1) cap)).drew W) => top_any (R4.new hn) HQ.out)
    have HR4 := Lib.hid R4
    clear R4 HV3 H3
    obtain ⟨A4, c4, rfl, _⟩ := own_form HR4.out.top.vs
    have f4 : (w2.setCell ⟨r, 1, none⟩ (.slice (some ⟨k, 0, none⟩) (L + 1) cap)).drew.cell? ⟨q', 1, none⟩ = some (.slice A4 f.vals.length c4) := HR4.out.top.blk.cell' 1 _ rfl
    go_wp2_with (first
      | (go_at_call 58; have hq6 := n5; (with_reducible refine (HT4.out _ n5).mono ?_); rintro e w6 ⟨rfl, n6⟩; have R6 := Lib.hid (HR4.out.new (n5.trans n6)); have f6 : w6.cell? ⟨q', 1, none⟩ = some (.slice A4 f.vals.length c4) := R6.out.top.blk.cell' 1 _ rfl; have R7 := Lib.hid (R6.out.new ((New.refl w6).alloc (.cells #[.int .u32 (y : Int)] 36))))
      | (go_at_call 58; (with_reducible refine (HT4.out _ (New.refl _)).mono ?_); rintro e w5 ⟨rfl, n5⟩)
      | (at_builtin; refine wpList_append_own_at _ rfl _ _ 30 rfl C4 36 i0 (.int .u32 0) 1 4 Tryz.underlying30 hi hz0 hz1 hz2 rfl (by decide) _ _ _ rfl R7.out.top.vs ⟨w6.heap.size, 0, none⟩ 1 1 [.int .u32 (y : Int)] rfl rfl ?c1 ?c2 ?c3 ?c4 ?c5 ?_))
    case c1 => exact cell_one_new _ _ _
    case c2 => intro u hu; simp at hu; subst hu; rfl
    case c3 => have := HFV.out; simp only [maxLen]; omega
    case c4 => have := HFV.out; omega
    case c5 => have := R7.out.lo; omega
    intro v' w8 own8 hg8 _ hb8
    have P8 := Lib.hid (R7.out.pushed (vs := f.vals ++ [y]) hg8 (V' := v') (by rw [List.length_append, uC, List.map_append]; exact own8) (by
      rcases hb8 with q5 | q5
      · exact Or.inl q5
      · exact Or.inr fun k hk => by rw [q5] at hk; injection hk with hk; rw [World.size_alloc]; exact Nat.le_of_eq hk))
    obtain ⟨A8, c8, rfl, _⟩ := own_form own8
    have B8 := R7.out.top.blk.grown hg8 (Ne.symm R7.out.top.apart.2)
    have f8 := B8.cell' 1 _ rfl
    have z8 := B8.free 1
    clear f6 f4
    go_wp2
    go_ret
    exact P8.out.go
end
end Go.Proofs.YtnjampfhkojbnaaGreatDoor

