/- The run's call: a frame is opened. Conditions: sizes. The step function invoke. Conditions: sizes. -/
import Derived.Test.YtnjampfhkojbnaaGreatDoorGT2
import Derived.Laws.CopyOwn
import Derived.Deep.OwnRows
import Derived.Test.YtnjampfhkojbnaaGreatDoorGBase

namespace Go.Proofs.YtnjampfhkojbnaaGreatDoor
open Go Go.RowKit
set_option linter.unusedSimpArgs false
set_option linter.unusedVariables false

theorem wpList_copy_head {P : Program} {w : World} {ops : Array Oper} {rest : List Oper} {o : Oper} {a : Act} {Q : Exit → Act → World → Prop} (hgd : o.guard = none) (d s : Operand) (dT sT : TypeId)
    (ho : o.op = .call { callee := .builtin .copy, args := #[d, s], argTypes := #[dT, sT] }) (elem : TypeId) (hu : P.underlying dT = some (.slice elem)) (hsz : (P.info? elem).map (·.size) = some 1)
    (dp sp : Option Addr) (dLen dCap sLen sCap : Nat) (hd : a.eval d = .slice dp dLen dCap) (hs : a.eval s = .slice sp sLen sCap)
    (g off : Nat) (cur : List Value) (t : TypeId) (hg : w.heap[g]? = some (.cells cur.toArray t (0, 0))) (cs : List Value) (hn : cs.length = Nat.min sLen dLen)
    (hpos : 0 < cs.length → dp = some ⟨g, off, none⟩ ∧ ∃ ad, sp = some ad ∧ ∀ j v, cs[j]? = some v → w.cell? (ad.add j) = some v)
    (hfit : off + cs.length ≤ cur.length) (h1 : ∀ v ∈ cs, v.oneCell' = true)
    (h : ∀ w', Hid (w'.heap[g]? = some (.cells (splice cur off cs).toArray t (0, 0))) → w.grownBy w' (some g) → wpList P ops Q rest (a.put o.dst (goInt cs.length)) w') :
    wpList P ops Q (o :: rest) a w := by
  by_cases h0 : cs.length = 0
  · obtain rfl : cs = [] := List.eq_nil_of_length_eq_zero h0
    refine wpList_copy_nothing hgd d s dT sT ho elem hu hsz dp sp dLen dCap sLen sCap hd hs (by simpa using hn.symm) ?_
    exact h w (show _ = _ by simpa [splice] using hg) ⟨rfl, rfl, rfl, Nat.le_refl _, fun _ _ _ => rfl⟩
  · obtain ⟨rfl, ad, rfl, hsrc⟩ := hpos (by omega)
    refine wpList_copy_own hgd d s dT sT ho elem hu hsz g off dLen dCap ad sLen sCap hd hs cur.toArray t hg cs hn hsrc (by simpa using hfit) h1 ?_
    exact h _ (show _ = _ by simpa [splice] using setRow_heap w g _ _ t _ hg) ⟨rfl, rfl, rfl, by simp [World.setRow], fun k hk hr => setRow_other w g k _ (fun e => hr (by rw [e]))⟩
theorem splice_vars (l : List Nat) (N : Nat) (h : l.length ≤ N) : splice (List.replicate N (Value.int .u32 0)) 0 (uC l) = uC (l ++ List.replicate (N - l.length) 0) := by
  unfold splice uC
  rw [List.take_zero, List.nil_append, List.length_map, Nat.zero_add, List.drop_replicate, List.map_append, List.map_replicate]
  rfl
theorem bne_t {p q : Nat} (h : p ≠ q) : ((p : Int) != (q : Int)) = true := by rw [bne_iff_ne]; omega
theorem bne_f {p q : Nat} (h : p = q) : ((p : Int) != (q : Int)) = false := by rw [bne_eq_false_iff_eq]; omega
theorem lt_t {p q : Nat} (h : p < q) : decide (p < q) = true := decide_eq_true h
theorem lt_f {p q : Nat} (h : ¬ p < q) : decide (p < q) = false := decide_eq_false h
theorem ltk_t {q : Nat} (h : 64 < q) : decide ((64 : Int) < (q : Int)) = true := by rw [decide_eq_true_iff]; omega
theorem ltk_f {q : Nat} (h : ¬ 64 < q) : decide ((64 : Int) < (q : Int)) = false := by rw [decide_eq_false_iff_not]; omega
theorem eqk_t {q : Nat} (h : q = 64) : ((q : Int) == 64) = true := by rw [beq_iff_eq]; omega
theorem eqk_f {q : Nat} (h : ¬ q = 64) : ((q : Int) == 64) = false := by rw [beq_eq_false_iff_ne]; omega
theorem uC_one (l : List Nat) : ∀ u ∈ uC l, u.oneCell' = true := by intro u hu; obtain ⟨x, _, rfl⟩ := List.mem_map.1 hu; rfl
theorem copy_len {args : List Nat} {p v : Nat} (h : args.length = p) (h2 : p ≤ v) : (uC args).length = Nat.min p v := by rw [uC_len, h]; exact (Nat.min_eq_left h2).symm
theorem copy_fit {args : List Nat} {p v : Nat} (h : args.length = p) (h2 : p ≤ v) : 0 + (uC args).length ≤ (List.replicate v (Value.int .u32 0)).length := by rw [uC_len, h, List.length_replicate]; omega
theorem copy_le {args : List Nat} {p v : Nat} (h : args.length = p) (h2 : p ≤ v) : args.length ≤ v := by omega
theorem small_max {v : Nat} (h : v ≤ 9223372036854775807) : v ≤ maxLen := by simp only [maxLen]; omega
theorem row_max {L : Nat} (h : L ≤ 64) : L + 1 ≤ maxLen := by simp only [maxLen]; omega
theorem row_bytes {L : Nat} (h : L ≤ 64) : (L + 1) * 8 ≤ 140737488355328 := by omega
theorem base_le {B : Nat} {w W w3 : World} {o : Obj} (h : B ≤ w.heap.size) (h1 : New w W) (h2 : New W w3) : B ≤ (w3.alloc o).heap.size := by rw [World.size_alloc]; have := h1.size; have := h2.size; omega
theorem copy_src {w W : World} {A : Option Addr} {args : List Nat} (hA : Rd w 1 A args.length (uC args)) (hc : ∀ (b o : Nat) (u : Value), w.cell? ⟨b, o, none⟩ = some u → W.cell? ⟨b, o, none⟩ = some u) (h : 0 < (uC args).length) : ∃ ad, A = some ad ∧ ∀ j v, (uC args)[j]? = some v → W.cell? (ad.add j) = some v := by
  obtain ⟨b, o, rfl, _, hcell⟩ := hA.2 (by rw [← uC_len]; exact h)
  exact ⟨_, rfl, fun j u hu => by rw [show (⟨b, o, none⟩ : Addr).add j = ⟨b, o + j, none⟩ from by unfold Addr.add; split <;> simp_all]; exact hc _ _ _ (hcell j u hu)⟩
theorem FM.made {W w3 : World} {v : Nat} {x : Int} {args : List Nat} {o : Obj} (HG3 : w3.heap[W.heap.size]? = some (.cells (splice (List.replicate v (Value.int .u32 0)) 0 (uC args)).toArray 36 (0, 0))) (g3 : ((W.alloc o).alloc (.cells #[.slice (some ⟨W.heap.size, 0, none⟩) v v, .slice none 0 0, .int .i64 x] 129)).grownBy w3 (some W.heap.size)) (hle : args.length ≤ v) (hv : v ≤ maxLen) :
    FM w3 W.heap.size w3.heap.size (W.heap.size + 1) (.slice (some ⟨W.heap.size, 0, none⟩) v v) (.slice none 0 0) ⟨args ++ List.replicate (v - args.length) 0, [], x⟩ ∧ New W w3 := by
  have hs := g3.size
  rw [World.size_alloc, World.size_alloc] at hs
  have hn : New W ((W.alloc o).alloc (.cells #[.slice (some ⟨W.heap.size, 0, none⟩) v v, .slice none 0 0, .int .i64 x] 129)) := ((New.refl W).alloc _).alloc _
  have hb := Blk.made (W.alloc o) 129 #[.slice (some ⟨W.heap.size, 0, none⟩) v v, .slice none 0 0, .int .i64 x]
  rw [World.size_alloc] at hb
  refine ⟨⟨hb.grown g3 (fun e => by injection e with e; omega), by omega, by omega, ?_, World.ownsRow_nil _ _ _ _, fun k e => by injection e with e; simp only at e; omega, fun k e => (by cases e), fun k _ e => (by cases e)⟩, ⟨g3.os.trans hn.os, g3.tape.trans hn.tape, g3.output.trans hn.output, by omega, fun k hk => (g3.block k (by rw [World.size_alloc, World.size_alloc]; omega) (fun e => by injection e with e; omega)).trans (hn.block k hk)⟩⟩
  rw [splice_vars args v hle] at HG3
  have hl : (args ++ List.replicate (v - args.length) 0).length = v := by simp; omega
  refine ⟨by rw [uC_len, Nat.mul_one], Or.inr ⟨W.heap.size, v, _, by rw [hl], Nat.le_refl _, HG3, by rw [hl]; exact Nat.le_refl _, hv, by simp [uC_len, hl], ?_⟩⟩
  rw [Nat.mul_one, List.take_of_length_le (by simp [uC_len])]
def CallP (w : World) (B r L : Nat) (FV : Value) (qs : List Nat) (o : Except Int Fr) (e : Ending) (w' : World) : Prop := match o with
  | .error c => e = .returned (.int .i64 c) ∧ New w w'
  | .ok f => e = .returned (.int .i64 0) ∧ ∃ w0 w1 w2 q' VA' FV', New w w0 ∧ New w0 w1 ∧ FM w1 w0.heap.size w1.heap.size q' VA' (.slice none 0 0) f ∧ w1.grownBy w2 FV.ownBlock ∧ w2.ownsRow B tPtr 1 FV' (L + 1) (pC (qs ++ [q'])) ∧ w' = w2.setCell ⟨r, 1, none⟩ FV'
theorem Tryz.info127w : (Tryz.prog.info? 127).map (fun i => (i.zero, i.size, i.bytes)) = some (some (.pointer none), 1, 8) := by kernel_rfl
set_option maxRecDepth 100000 in
set_option maxHeartbeats 8000000 in
theorem call_any {w : World} {B r m g mc L a c : Nat} {PL FV a2 a3 a4 a5 : Value} {mem : List UInt8} {qs args : List Nat} {A : Option Addr} (hr : Blk w r tRun #[.pointer (some ⟨m, 0, none⟩), FV, a2, a3, a4, a5]) (hM : MM w m g mc PL mem) (hF : w.ownsRow B tPtr 1 FV L (pC qs)) (hA : Rd w 1 A args.length (uC args))
    (hB : B ≤ w.heap.size) (hL : L ≤ 64) (ha : a < 4294967296) (hm : mem.length ≤ 1000000000) (hl : args.length ≤ 100000) :
    Calls Tryz.prog 37 #[.pointer (some ⟨r, 0, none⟩), .int .u32 (a : Int), .slice A args.length c] w (CallP w B r L FV qs (openV mem L a args)) := by
  obtain ⟨FA, fc, rfl, hfc, _⟩ := own_form hF
  have f0 := hr.cell' 0 _ rfl
  have f1 := hr.cell' 1 _ rfl
  have f2 := hM.mach.cell' 0 _ rfl
  have k1 : IntKind.i64.wrap (a : Int) = (a : Int) := IntWalk.i64_in _ (by omega)
  have k2 : IntKind.i64.wrap ((a : Int) + 2) = (a : Int) + 2 := IntWalk.i64_in _ (by omega)
  have k3 : IntKind.i64.wrap ((a : Int) + 1) = (a : Int) + 1 := IntWalk.i64_in _ (by omega)
  obtain ⟨M, hMl⟩ : ∃ M, mem.length = M := ⟨_, rfl⟩
  obtain ⟨al, hal⟩ : ∃ al, args.length = al := ⟨_, rfl⟩
  rw [hMl] at f2 hm
  by_cases c1 : M < a + 2
  · have e0 : openV mem L a args = .error 3 := if_pos (by omega)
    rw [e0]
    rw [hal]
    have t1 : decide ((M : Int) < (a : Int) + 2) = true := by rw [decide_eq_true_iff]; omega
    clear e0 hr hM hF hA hMl hal
    go_enter Tryz.func37, Tryz.ntmps37
    go_wp2
    go_ret
    exact ⟨rfl, New.refl _⟩
  have t1 : decide ((M : Int) < (a : Int) + 2) = false := by rw [decide_eq_false_iff_not]; omega
  have g0 := hM.cell (i := a) (by omega)
  have g1 := hM.cell (i := a + 1) (by omega)
  have b0 := byteN_lt mem a
  have b1 := byteN_lt mem (a + 1)
  have i0 : (a : Int) < (M : Int) := by omega
  have i1 : (a : Int) + 1 < (M : Int) := by omega
  have i2 : (0 : Int) ≤ (a : Int) := by omega
  have i3 : (0 : Int) ≤ (a : Int) + 1 := by omega
  have i4 : ((a : Int) + 1).toNat = a + 1 := by omega
  have e1 : openV mem L a args = if byteN mem a ≠ al then .error 9 else if byteN mem (a + 1) < byteN mem a ∨ 64 < byteN mem (a + 1) then .error 17 else if L = 64 then .error 11 else .ok ⟨args ++ List.replicate (byteN mem (a + 1) - byteN mem a) 0, [], (a : Int) + 2⟩ := by
    rw [← hal]; exact if_neg (by omega)
  obtain ⟨O, hO⟩ : ∃ O, O = openV mem L a args := ⟨_, rfl⟩
  rw [← hO]
  rw [e1] at hO
  have HALV := Lib.hid hal
  obtain ⟨p, hp⟩ : ∃ p, byteN mem a = p := ⟨_, rfl⟩
  obtain ⟨v, hv⟩ : ∃ v, byteN mem (a + 1) = v := ⟨_, rfl⟩
  rw [hp] at g0 b0
  rw [hv] at g1 b1
  rw [hp, hv] at hO
  have HO := Lib.hid hO
  clear hO e1 hp hv hMl
  have hv1 : 4 * v ≤ 281474976710656 := by omega
  have hv2 : v ≤ 9223372036854775807 := by omega
  have j0 : IntKind.i64.wrap (p : Int) = (p : Int) := IntWalk.i64_in _ (by omega)
  have j1 : IntKind.i64.wrap (v : Int) = (v : Int) := IntWalk.i64_in _ (by omega)
  have j2 : wrap64 (p : Int) = (p : Int) := IntWalk.wrap64_in _ (by omega)
  have j3 : wrap64 (v : Int) = (v : Int) := IntWalk.wrap64_in _ (by omega)
  rw [hal]
  have HF := Lib.hid hF
  have HR := Lib.hid hr
  have HA := Lib.hid hA
  have HM := Lib.hid hM
  clear hr hM hF hA hal
  go_enter Tryz.func37, Tryz.ntmps37
  go_wp2
  go_quiet (fail)
  clear g0 g1 i0 i1 i2 i3 i4 k3 f2 f0
  by_cases c2 : p ≠ al
  · obtain rfl : O = .error 9 := by rw [HO.out, if_pos c2]
    have t2 := bne_t c2
    clear c2 HO
    (repeat go_step)
    go_ret
    exact ⟨rfl, (New.refl _).drewN _⟩
  have hO := HO.out
  rw [if_neg c2] at hO
  have HO2 := Lib.hid hO
  clear HO hO
  have t2 := bne_f (Classical.not_not.1 c2)
  by_cases c3 : v < p
  · obtain rfl : O = .error 17 := by rw [HO2.out, if_pos (Or.inl c3)]
    have t3 := lt_t c3
    clear c2 c3 HO2
    (repeat go_step)
    go_ret
    exact ⟨rfl, (New.refl _).drewN _⟩
  have t3 := lt_f c3
  by_cases c4 : 64 < v
  · obtain rfl : O = .error 17 := by rw [HO2.out, if_pos (Or.inr c4)]
    have t4 := lt_t c4
    have t5 := ltk_t c4
    clear c2 c3 c4 HO2
    (repeat go_step)
    go_ret
    exact ⟨rfl, (New.refl _).drewN _⟩
  have t4 := lt_f c4
  have t5 := ltk_f c4
  have hO := HO2.out
  rw [if_neg (fun h => h.elim c3 c4)] at hO
  have HO3 := Lib.hid hO
  clear HO2 hO
  by_cases c5 : L = 64
  · obtain rfl : O = .error 11 := by rw [HO3.out, if_pos c5]
    have t6 := eqk_t c5
    clear c2 c3 c4 c5 HO3
    (repeat go_step)
    go_ret
    exact ⟨rfl, (New.refl _).drewN _⟩
  obtain rfl : O = .ok ⟨args ++ List.replicate (v - p) 0, [], (a : Int) + 2⟩ := by rw [HO3.out, if_neg c5]
  have t6 := eqk_f c5
  obtain rfl : p = al := Classical.not_not.1 c2
  clear HO3
  have hmk := fun (w : World) => run_make_row' (P := Tryz.prog) 30 36 (.int .u32 0) 4 Tryz.underlying30 Tryz.info36w rfl .i64 .i64 v hv1 hv2 w
  have n0 := Lib.hid ((New.refl w).drewN nq)
  clear f1
  generalize w.drewN nq = W at *
  have R0 := Lib.hid (HR.out.new n0.out)
  have f1 := R0.out.cell' 1 _ rfl
  clear t1 j0 j1 j2 j3 b0 b1 k1 hfc
  have HGV : ((W.alloc (.cells (madeCells #[.int .u32 0] v) 36)).alloc (.cells #[.slice (some ⟨W.heap.size, 0, none⟩) v v, .slice none 0 0, .int .i64 ((a : Int) + 2)] 129)).heap[W.heap.size]? = some (.cells (List.replicate v (Value.int .u32 0)).toArray 36 (0, 0)) := by
    have q := (Blk.made W 36 (madeCells #[.int .u32 0] v)).alloc (.cells #[.slice (some ⟨W.heap.size, 0, none⟩) v v, .slice none 0 0, .int .i64 ((a : Int) + 2)] 129)
    rw [show madeCells #[Value.int .u32 0] v = (List.replicate v (Value.int .u32 0)).toArray from Array.toList_inj.1 (by rw [toList_madeCells_one])] at q ⊢
    exact q
  have HG := Lib.hid HGV
  clear HGV
  have HOLD := Lib.hid (fun (b o : Nat) (u : Value) (h : w.cell? ⟨b, o, none⟩ = some u) => cellN ((n0.out.alloc (.cells (madeCells #[.int .u32 0] v) 36)).alloc (.cells #[.slice (some ⟨W.heap.size, 0, none⟩) v v, .slice none 0 0, .int .i64 ((a : Int) + 2)] 129)) h)
  have HPV := Lib.hid (Nat.le_of_not_lt c3)
  have HB := Lib.hid hB
  have HV2 := Lib.hid hv2
  clear hB hv2 hv1 c3 c4 c5 c1 hl
  go_wp2_with (refine wpList_copy_head rfl (.tmp 76) (.tmp 77) 30 30 rfl 36 Tryz.underlying30 (by kernel_rfl) (some ⟨W.heap.size, 0, none⟩) A v v p c rfl rfl W.heap.size 0 (List.replicate v (Value.int .u32 0)) 36 HG.out (uC args) ?c1 ?c2 ?c3 ?c4 ?_)
  case c1 => exact copy_len HALV.out HPV.out
  case c2 => first | exact fun h9 => ⟨rfl, copy_src HA.out HOLD.out h9⟩ | exact fun h9 => copy_src HA.out HOLD.out h9
  case c3 => exact copy_fit HALV.out HPV.out
  case c4 => exact uC_one args
  intro w3 HG3 g3
  have F9 := FM.made HG3.out g3 (copy_le HALV.out HPV.out) (small_max HV2.out)
  rw [HALV.out] at F9
  have F3 := Lib.hid F9
  clear F9
  have HF3 := Lib.hid (own_at HF.out fun k _ e _ => F3.out.2.block k (Nat.lt_of_lt_of_le (HF.out.lt k e).2 n0.out.size) |>.trans (n0.out.block k (HF.out.lt k e).2))
  have R3 := Lib.hid ((HR.out.new n0.out).new F3.out.2)
  clear f1
  have f1 := R3.out.cell' 1 _ rfl
  obtain ⟨i0, hi, hz0, hz1, hz2⟩ := info_parts Tryz.info127w
  have HF4 := Lib.hid (own_at HF3.out fun k _ e _ => ((New.refl w3).alloc (.cells #[.pointer (some ⟨W.heap.size + 1, 0, none⟩)] 127)).block k (HF3.out.lt k e).2)
  have R4 := Lib.hid (R3.out.alloc (.cells #[.pointer (some ⟨W.heap.size + 1, 0, none⟩)] 127))
  have HL := Lib.hid hL
  clear hL
  go_wp2_with (at_builtin; refine wpList_append_own_at _ rfl _ _ 92 rfl B 127 i0 (.pointer none) 1 8 Tryz.underlying92 hi hz0 hz1 hz2 rfl (by decide) _ _ _ rfl HF4.out ⟨w3.heap.size, 0, none⟩ 1 1 [.pointer (some ⟨W.heap.size + 1, 0, none⟩)] rfl rfl ?d1 ?d2 ?d3 ?d4 ?d5 ?_)
  case d1 => exact cell_one_new _ _ _
  case d2 => intro u hu; simp at hu; subst hu; rfl
  case d3 => exact row_max HL.out
  case d4 => exact row_bytes HL.out
  case d5 => exact base_le HB.out n0.out F3.out.2
  intro v' w5 own5 hg5 _ _
  have B5 := R4.out.grown hg5 (Ne.symm (own_apart HF4.out R4.out (by decide)))
  obtain ⟨A5, c5, rfl, _⟩ := own_form own5
  have f5 := B5.cell' 1 _ rfl
  have z5 := B5.free 1
  clear f1
  (repeat go_step)
  go_ret
  exact ⟨rfl, W, _, w5, _, _, _, n0.out, F3.out.2.alloc _, (F3.out.1.keep (Kp.new ((New.refl w3).alloc _) _)).wide ((New.refl w3).alloc _).size, hg5, by rw [pC, List.map_append]; exact own5, rfl⟩
end Go.Proofs.YtnjampfhkojbnaaGreatDoor

namespace Go.Proofs.YtnjampfhkojbnaaGreatDoor
open Go Go.RowKit
set_option linter.unusedSimpArgs false
set_option linter.unusedVariables false

theorem own_eq {w : World} {B n n' size : Nat} {e : TypeId} {v : Value} {xs xs' : List Value} (h : w.ownsRow B e size v n xs) (hn : n = n') (hx : xs = xs') : w.ownsRow B e size v n' xs' := by subst hn hx; exact h
theorem Tryz.wordT : EType Tryz.prog 30 36 (.int .u32 0) 1 4 := ⟨Tryz.underlying30, Tryz.info36w, rfl, by decide⟩
def openO (s : Mc) : Except Int Fr → Ot
  | .error c => .err c s.mem
  | .ok f => .go { s with low := s.low ++ [s.top], top := f }
theorem inv_src {w : World} {A A' : Option Addr} {c d N : Nat} {vs ar : List Nat} (h : Rd w 1 A (vs ++ ar).length (uC (vs ++ ar))) (hc : (vs ++ ar).length ≤ c) (hd : vs.length = d) (hN : (vs ++ ar).length = N) (hA : A' = if c = d then A else A.map (·.add (d * 1))) : Rd w 1 A' (N - d) (uC ar) := by
  have := h.cut (k := d) (cap := c) (by rw [List.length_append]; omega) hc
  rw [hN] at this
  have e : (uC (vs ++ ar)).drop (d * 1) = uC ar := by rw [Nat.mul_one, uC, List.map_append, List.drop_left' (by simp [hd])]; rfl
  rw [e] at this
  rw [hA]; exact this
theorem inv_len {N d k : Nat} {ar : List Nat} (h : N = d + k) (h2 : ar.length = k) : 0 + (N - d) = ar.length := by omega
theorem inv_max {N d : Nat} (h : N ≤ 100000) : 0 + (N - d) ≤ 1000000000 := by omega
theorem New.of_none {w w' : World} (h : w.grownBy w' (Value.slice none 0 0).ownBlock) : New w w' := ⟨h.os, h.tape, h.output, h.size, fun k hk => h.block k hk (by simp [Value.ownBlock])⟩
theorem cap_le {vs ar : List Nat} {N c d k : Nat} (hN : (vs ++ ar).length = N) (hc : (vs ++ ar).length ≤ c) (h : N = d + k) : (d : Int) ≤ (c : Int) := by omega
theorem inv_row {w : World} {C c d : Nat} {A : Option Addr} {vs ar : List Nat} (hd : vs.length = d) (h : w.ownsRow C tWrd 1 (.slice A (vs ++ ar).length c) (vs ++ ar).length (uC (vs ++ ar))) : w.ownsRow C tWrd 1 (.slice A d c) vs.length (uC vs) := by
  subst hd
  cases A with
  | none =>
    rcases h.2 with ⟨e, h0⟩ | ⟨g, cap, cur, e, _⟩
    · injection e with _ e1 e2
      have h0 : vs.length = 0 := by rw [List.length_append] at h0; omega
      subst e2
      rw [h0, List.eq_nil_of_length_eq_zero h0]
      exact World.ownsRow_nil _ _ _ _
    · injection e with e; cases e
  | some a =>
    have q := own_take h (m := vs.length) (by simp)
    rw [Nat.mul_one] at q
    have e9 : (uC (vs ++ ar)).take vs.length = uC vs := by rw [uC, List.map_append, List.take_left' (by simp)]; rfl
    rw [e9] at q
    exact q
section
variable {w0 w : World} {m g mc r : Nat} {PL : Value} {s : Mc} {qs : List Nat} {q C : Nat} {VA V FV OV : Value} {n : Int} {val : Nat}
theorem call_do (h : RM w0 w m g mc r PL s qs q C VA V FV OV n val) {o : Except Int Fr} {e : Ending} {w' : World} (hp : CallP w w0.heap.size r (qs.length + 1) FV (qs ++ [q]) o e w') :
    DoP w0 m g mc r PL n (openO s o) e w' := by
  cases o with
  | error c => obtain ⟨rfl, hn⟩ := hp; exact (h.new hn).err c
  | ok f =>
    obtain ⟨rfl, W, w1, w2, q', VA', FV', hn0, hn1, htop, hg, hv, rfl⟩ := hp
    exact ((h.new hn0).opened hn1 htop hg hv).go
theorem Rd.keepSet {A : Option Addr} {l c B : Nat} {xs : List Value} {u : Value} (hr : Rd w 1 A l xs) (h : RM w0 w m g mc r PL s qs q C VA V FV OV n val) (ho : w.ownsRow B 36 1 (.slice A l c) l xs) : Rd (w.setCell ⟨q, 1, none⟩ u) 1 A l xs :=
  Rd.of_own (own_far u ho (own_apart ho h.top.blk (by decide)))
theorem inv_data {l : List Nat} {k : Nat} (h : 1 + k ≤ l.length) : ∃ vs ar x, l = (vs ++ ar) ++ [x] ∧ ar.length = k ∧ vs.length = l.length - 1 - k ∧ l.getD (l.length - 1) 0 = x ∧ l.take (l.length - 1 - k) = vs ∧ (l.drop (l.length - 1 - k)).take k = ar := by
  obtain ⟨v1, x, rfl, h1, h2, _⟩ := last_val (k := 0) (l := l) (by omega)
  rw [List.length_append, List.length_singleton] at *
  refine ⟨v1.take (v1.length - k), v1.drop (v1.length - k), x, by rw [List.take_append_drop], by simp; omega, by simp, h2, ?_, ?_⟩
  · rw [show v1.length + 1 - 1 - k = v1.length - k by omega, List.take_append_of_le_length (by omega)]
  · rw [show v1.length + 1 - 1 - k = v1.length - k by omega, List.drop_append_of_le_length (by omega), List.take_append_of_le_length (by simp; omega), List.take_of_length_le (by simp; omega)]
set_option maxRecDepth 100000 in
set_option maxHeartbeats 8000000 in
theorem invoke_any (k : Nat) (h : RM w0 w m g mc r PL s qs q C VA V FV OV n val) (hd : s.low.length ≤ 63) (hs : stkN s ≤ 100000) (ht : 1 + k ≤ s.top.vals.length) (hb : ∀ x ∈ s.top.vals, x < 4294967296) (hm : s.mem.length ≤ 1000000000) (hk : k < 4294967296) :
    Calls Tryz.prog 99 #[.pointer (some ⟨r, 0, none⟩), .int .u32 (k : Int)] w (DoP w0 m g mc r PL n (execV 12 k s)) := by
  obtain ⟨vs, ar, x, hv, hal, hvl, e1, e2, e3⟩ := inv_data ht
  have hx : x < 4294967296 := hb x (by rw [hv]; simp)
  have hq : qs.length ≤ 1000 := by rw [h.ly.len]; omega
  have hvs : (vs ++ ar).length ≤ 100000 := by have h9 := hs; unfold stkN at h9; rw [hv, List.length_append] at h9; omega
  have hlen : s.top.vals.length = vs.length + k + 1 := by rw [hv]; simp; omega
  have e0 : execV 12 k s = openO (s.put vs) (openV s.mem (s.low.length + 1) x ar) := by
    simp only [execV, e1, e2, e3]
    cases openV s.mem (s.low.length + 1) x ar <;> rfl
  rw [e0]
  have HT := Lib.hid (top_any h hq)
  have HO := Lib.hid (fun (W : World) (hn : New w W) => pop_any (h.new hn) hv hvs)
  have HC := Lib.hid (fun (W : World) (V2 : Value) (hR : RM w0 W m g mc r PL (s.put vs) qs q C VA V2 FV OV n val) (A : Option Addr) (c : Nat) (hA : Rd W 1 A ar.length (uC ar)) =>
    (call_any (c := c) hR.run hR.mm hR.fr hA hR.gr.size (by rw [h.ly.len]; omega) hx hm (by simp at hvs; omega)).mono fun e w' hp => show DoP w0 m g mc r PL n (openO (s.put vs) (openV s.mem (s.low.length + 1) x ar)) e w' from by rw [← h.ly.len]; exact call_do hR hp)
  generalize openO (s.put vs) (openV s.mem (s.low.length + 1) x ar) = O at *
  have HL := Lib.hid hlen
  obtain ⟨d, hd1⟩ : ∃ d, vs.length = d := ⟨_, rfl⟩
  have HD := Lib.hid hd1
  have HAL := Lib.hid hal
  obtain ⟨N, hN⟩ : ∃ N, (vs ++ ar).length = N := ⟨_, rfl⟩
  have HN := Lib.hid hN
  have hNd : N = d + k := by rw [← hN, List.length_append, hd1, hal]
  have k1 : IntKind.i64.wrap (k : Int) = (k : Int) := IntWalk.i64_in _ (by omega)
  have k2 : IntKind.i64.wrap ((N : Int) - (k : Int)) = (d : Int) := by rw [IntWalk.i64_in _ (by omega)]; omega
  have k3 : (0 : Int) ≤ (d : Int) := by omega
  have k4 : (d : Int) ≤ (N : Int) := by omega
  have HND := Lib.hid hNd
  have HN1 := Lib.hid (show N ≤ 100000 by omega)
  clear h hv e1 e2 e3 e0 hlen hd1 hal hN hNd hvs hvl hb hs ht hd hq
  go_enter Tryz.func99, Tryz.ntmps99
  go_wp2_with (first
    | (go_at_call 124; (with_reducible refine (HO.out _ n1).mono ?_); rintro e w2 ⟨rfl, V2, R2'⟩; obtain ⟨A2, c2, rfl, hc2, _, hrd2⟩ := own_form R2'.top.vs; have R2 := Lib.hid R2'; have f2 : w2.cell? ⟨q, 1, none⟩ = some (.slice A2 N c2) := (by rw [← HN.out]; exact R2'.top.blk.cell' 1 _ rfl))
    | (go_at_call 58; (with_reducible refine HT.out.mono ?_); rintro e w1 ⟨rfl, n1⟩)
    | (at_builtin; refine wpList_append_rdG Tryz.wordT rfl (.const (.slice none 0 0)) (.tmp 26) rfl w2.heap.size (.slice none 0 0) 0 [] rfl (World.ownsRow_nil _ _ _ _) _ _ _ (uC ar) rfl ?c1 (uC_one ar) (inv_max HN1.out) (by decide) (Nat.le_refl _) ?_))
  case c1.inl => exact inv_src hrd2 hc2 HD.out HN.out (if_pos (by assumption)).symm
  case c1.inr => exact inv_src hrd2 hc2 HD.out HN.out (by rw [if_neg (by assumption), Nat.mul_one])
  all_goals
    clear h
    intro v' w3 own3 g3 _
    have N3 := Lib.hid (New.of_none g3)
    have own4 := own_eq own3 (n' := ar.length) (xs' := uC ar) (by have e := inv_len HND.out HAL.out; rw [Nat.zero_add] at e; exact e) (by simp)
    obtain ⟨A3, c3, rfl, _, _, hrd3⟩ := own_form own4
    have R3 := Lib.hid (R2.out.new N3.out)
    have T3 := Lib.hid (inv_row HD.out R3.out.top.vs)
    clear f2
    have f3 : w3.cell? ⟨q, 1, none⟩ = some (.slice A2 N c2) := by rw [← HN.out]; exact R3.out.top.blk.cell' 1 _ rfl
    have z3 := R3.out.top.blk.free 1
    have R4 := Lib.hid (R3.out.setVals (V' := .slice A2 d c2) (vs := vs) T3.out (by cases A2 <;> rfl))
    have k9 := cap_le HN.out hc2 HND.out
    have D4 := Lib.hid (Rd.keepSet (u := .slice A2 d c2) hrd3 R3.out own4)
    go_wp2_with (go_at_call 37; (with_reducible refine (HC.out _ _ R4.out _ _ D4.out).mono ?_); rintro e w5 hO; obtain ⟨cc, rfl, hO⟩ := hO.ret)
    go_ret
    exact hO
end
end Go.Proofs.YtnjampfhkojbnaaGreatDoor

