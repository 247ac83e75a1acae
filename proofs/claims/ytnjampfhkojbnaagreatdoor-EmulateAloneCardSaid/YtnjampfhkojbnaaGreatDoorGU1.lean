/- The machine's load: an image behind the memory. Conditions: sizes; the fixups lie in the image. (Printed by mk-u1.py.) emulate.valid: which programs and libraries are right. Conditions: sizes. What Load needs: the keys of its map, a binary as an image. Conditions: the strings' lengths. -/
import Derived.Test.YtnjampfhkojbnaaGreatDoorGBase
import Derived.Test.YtnjampfhkojbnaaGreatDoorGT17
import Derived.Test.YtnjampfhkojbnaaGreatDoorGH
import Derived.Test.YtnjampfhkojbnaaGreatDoorGBase
import Derived.Lib.AppendStr
import Derived.Lib.OthersKept
import Derived.Test.YtnjampfhkojbnaaGreatDoorGC1
import Derived.Test.YtnjampfhkojbnaaGreatDoorGP

namespace Go.Proofs.YtnjampfhkojbnaaGreatDoor
open Go Go.RowKit Go.Shelf
set_option linter.unusedSimpArgs false
set_option linter.unusedVariables false

structure ML (w0 w : World) (m : Nat) (MV PL : Value) (mem : List UInt8) : Prop where
  nw : New w0 w
  m0 : w0.heap.size ≤ m
  mach : Blk w m tMach #[MV, PL]
  row : w.ownsRow w0.heap.size 5 1 MV mem.length (u8C mem)
section
variable {w0 w w' : World} {m : Nat} {MV PL : Value} {mem : List UInt8}
theorem ML.new (h : ML w0 w m MV PL mem) (hn : New w w') : ML w0 w' m MV PL mem := ⟨h.nw.trans hn, h.m0, h.mach.new hn, own_at h.row fun j _ e _ => hn.block j (h.row.lt j e).2⟩
theorem ML.mm (h : ML w0 w m MV PL mem) (hl : 0 < mem.length) : ∃ g mc, MV = .slice (some ⟨g, 0, none⟩) mem.length mc ∧ w0.heap.size ≤ g ∧ MM w m g mc PL mem := by
  obtain ⟨g, mc, rfl, h1, h2⟩ := own_some h.row hl
  exact ⟨g, mc, rfl, h1, h.mach, own_lower h.row fun _ _ => Nat.zero_le _⟩
theorem New.grown_row {w w' : World} {v : Value} (h : New w0 w) (hg : w.grownBy w' v.ownBlock) (hv : ∀ k, v.ownBlock = some k → w0.heap.size ≤ k) : New w0 w' :=
  ⟨hg.os.trans h.os, hg.tape.trans h.tape, hg.output.trans h.output, Nat.le_trans h.size hg.size, fun k hk => (hg.block k (Nat.lt_of_lt_of_le hk h.size) (fun e => by have := hv k e.symm; omega)).trans (h.block k hk)⟩
theorem ML.grown (h : ML w0 w m MV PL mem) (hg : w.grownBy w' MV.ownBlock) {MV' : Value} {mem' : List UInt8} (hv : w'.ownsRow w0.heap.size 5 1 MV' mem'.length (u8C mem')) : Blk w' m tMach #[MV, PL] ∧ ML w0 (w'.setCell ⟨m, 0, none⟩ MV') m MV' PL mem' := by
  have hm : w.heap[m]? = some (.cells #[MV, PL] tMach (0, 0)) := h.mach
  have hb : Blk w' m tMach #[MV, PL] := h.mach.grown hg (Ne.symm (own_apart h.row hm (by decide)))
  have hb' : w'.heap[m]? = some (.cells #[MV, PL] tMach (0, 0)) := hb
  exact ⟨hb, (New.grown_row h.nw hg fun k e => (h.row.lt k e).1).setCell (p := ⟨m, 0, none⟩) h.m0 _, h.m0, hb.put 0 MV', own_far _ hv (own_apart hv hb' (by decide))⟩
theorem ML.turned {g mc : Nat} {mem' : List UInt8} (h : ML w0 w m (.slice (some ⟨g, 0, none⟩) mem.length mc) PL mem) (hM : MM w' m g mc PL mem') (hg : w.grownBy w' (some g)) (hl : mem'.length = mem.length) (h0 : w0.heap.size ≤ g) : ML w0 w' m (.slice (some ⟨g, 0, none⟩) mem.length mc) PL mem' := by
  refine ⟨New.grown_row (v := .slice (some ⟨g, 0, none⟩) mem.length mc) h.nw hg (fun k e => by injection e with e; simp only at e; omega), h.m0, by rw [← hl]; exact hM.mach, ?_⟩
  have := hM.row
  rw [hl] at this
  rw [hl]
  exact own_lower this fun k e => by injection e with e; simp only at e; omega
end
theorem own_kindT {w : World} {B n : Nat} {v : Value} {xs : List Value} (h : w.ownsRow B 5 1 v n xs) : ∀ g, v.ownBlock = some g → ∃ c fz, w.heap[g]? = some (.cells c 5 fz) := fun g e => by
  obtain ⟨cs, hc⟩ := own_type h e
  exact ⟨cs, (0, 0), hc⟩
theorem others_new {m : Nat} {a w w' : World} (h : Lib.OthersKept 5 (some m) a w) (hn : New w w') : Lib.OthersKept 5 (some m) a w' := fun k x hk hb hx => by
  have h1 := h k x hk hb hx
  exact (hn.block k (Array.getElem?_eq_some_iff.1 h1).1).trans h1
theorem step_append_str {P : Program} {w : World} {ops : Array Oper} {o : Oper} {a : Act} {K : Act → World → Prop} {Q : Exit → Act → World → Prop} {E : Prop} (hgd : o.guard = none) (sl x : Operand) (t u : TypeId)
    (ho : o.op = .call { callee := .builtin .append, args := #[sl, x], argTypes := #[t, u] })
    (base : Nat) (e : TypeId) (i : TypeInfo) (ht : P.underlying t = some (.slice e)) (hu : P.underlying u = some .string) (hi : P.info? e = some i) (hz : i.zero = some (.int .u8 0))
    (hsize : i.size = 1) (hby : i.bytes = 1)
    (v : Value) (n : Nat) (xs : List Value) (hs : a.eval sl = v) (hown : w.ownsRow base e 1 v n xs) (s : ByteArray) (hx : a.eval x = .string s)
    (h63 : n + s.size ≤ maxLen) (hbytes : n + s.size ≤ 140737488355328) (hbase : base ≤ w.heap.size)
    (h : ∀ v' w', w'.ownsRow base e 1 v' (n + s.size) (xs ++ Lib.strCells s) → w.grownBy w' v.ownBlock → K (a.put o.dst v') w') : if Region.wanted o (yielded ops a.tmps) = true then Oper.wp P o a w K Q else E := by
  have hw : Region.wanted o (yielded ops a.tmps) = true := by simp [Region.wanted, hgd]
  rw [if_pos hw]
  obtain ⟨v', w', hr, h2, h3, h4⟩ := Lib.run_append_own_string (P := P) w base t u o.type e i ht hu hi hz hsize hby v n xs hown s h63 hbytes hbase
  unfold Oper.wp execOp
  simp only [ho, resolve, invoke, builtin, Sem.run_bind, Sem.run_pure, Result.andThen_ok, List.map_toArray, List.map_cons, List.map_nil, hs, hx, hr]
  exact h v' w' h2 h3
theorem Tryz.info5w : (Tryz.prog.info? 5).map (fun i => (i.zero, i.size, i.bytes)) = some (some (.int .u8 0), 1, 1) := by kernel_rfl
theorem u8C_str (l : List UInt8) (s : ByteArray) : u8C (l ++ s.data.toList) = u8C l ++ Lib.strCells s := by
  rw [Lib.strCells_eq, u8C, List.map_append]
  rfl
def lenAt (w : World) (m : Nat) : Nat := match w.cell? ⟨m, 0, none⟩ with | some (.slice _ n _) => n | _ => 0
theorem str_max {n : Nat} (h : n ≤ 200000000) : n ≤ maxLen := by simp only [maxLen]; omega
theorem str_bytes {n : Nat} (h : n ≤ 200000000) : n ≤ 140737488355328 := by omega
theorem bx_ne {a b : Nat} (h : a < b) : b ≠ a := by omega
theorem lenAt_at {w : World} {m n c : Nat} {X : Option Addr} (h : w.cell? ⟨m, 0, none⟩ = some (.slice X n c)) : lenAt w m = n := by unfold lenAt; rw [h]
theorem base_mod {n : Nat} (h : n < 4294967296) : (n : Int) % 4294967296 = (n : Int) := by omega
theorem sum_mod (a b : Nat) : ((a : Int) + (b : Int)) % 4294967296 = (((a + b) % 4294967296 : Nat) : Int) := by omega
theorem rep_next (l : List UInt8) (j : Nat) : l ++ List.replicate (j + 1) 0 = (l ++ List.replicate j 0) ++ [0] := by rw [List.replicate_succ', List.append_assoc]
theorem rem4_t {n : Nat} (h : n % 4 ≠ 0) : ((n : Int) % 4 != 0) = true := by rw [bne_iff_ne]; omega
theorem rem4_f {n : Nat} (h : n % 4 = 0) : ((n : Int) % 4 != 0) = false := by rw [bne_eq_false_iff_eq]; omega
theorem pad_next {l : List UInt8} {j : Nat} (h : (l ++ List.replicate j 0).length % 4 ≠ 0) (hj : j ≤ (4 - l.length % 4) % 4) : j + 1 ≤ (4 - l.length % 4) % 4 ∧ (4 - ((l ++ List.replicate j (0 : UInt8)).length + 1) % 4) % 4 < (4 - (l ++ List.replicate j (0 : UInt8)).length % 4) % 4 := by
  rw [List.length_append, List.length_replicate] at *
  omega
theorem pad_end {l : List UInt8} {j : Nat} (h : (l ++ List.replicate j 0).length % 4 = 0) (hj : j ≤ (4 - l.length % 4) % 4) : l ++ List.replicate j 0 = padN l := by
  rw [List.length_append, List.length_replicate] at h
  rw [padN, show j = (4 - l.length % 4) % 4 by omega]
theorem padN_len (l : List UInt8) : l.length ≤ (padN l).length ∧ (padN l).length ≤ l.length + 3 := by
  unfold padN
  rw [List.length_append, List.length_replicate]
  omega
theorem fixP_len (base : Nat) : ∀ (F : List Nat) (m : List UInt8), (fixP base F m).length = m.length
  | [], _ => rfl
  | a :: F, m => by
    show (fixP base F (putN m (base + a) _)).length = m.length
    rw [fixP_len base F, putN_len]
theorem fixP_snoc (base : Nat) (F : List Nat) (m : List UInt8) (a : Nat) : fixP base (F ++ [a]) m = putN (fixP base F m) (base + a) ((wordN (fixP base F m) (base + a) + base) % 4294967296) := by
  unfold fixP
  rw [List.foldl_append]
  rfl
set_option maxRecDepth 100000 in
set_option maxHeartbeats 16000000 in
theorem load_any (b : Bn) (h : BH) {w0 w : World} {m : Nat} {MV PL : Value} {mem : List UInt8} (hL : ML w0 w m MV PL mem) (hl0 : 0 < mem.length) (hr : BRd w0 b h) (hF : ∀ a ∈ b.fix, 0 ≤ a ∧ a.toNat + 4 ≤ b.image.size) (hs1 : mem.length ≤ 100000000) (hs2 : b.image.size ≤ 100000000) (hs3 : b.fix.length ≤ 1000000) :
    Calls Tryz.prog 31 #[.pointer (some ⟨m, 0, none⟩), .agg (bcells b h)] w fun e w' => e = .returned (.int .i64 (mem.length : Int)) ∧ (∃ MV', ML w0 w' m MV' PL (loadP mem b.image.data.toList (b.fix.map Int.toNat))) ∧ Lib.OthersKept 5 (some m) w w' := by
  obtain ⟨kind, entry, image, places, fix, imps, exps, notes⟩ := b
  obtain ⟨a1, c1, a2, c2, a3, c3, a4, c4, a5, c5⟩ := h
  have hr2 := hr.r2
  simp only [bcells] at *
  obtain ⟨n2, hn2⟩ : ∃ n, fix.length = n := ⟨_, rfl⟩
  have HN2 := Lib.hid hn2
  rw [hn2] at hr2 hs3 ⊢
  generalize places.length = n1 at *
  generalize imps.length = n3 at *
  generalize exps.length = n4 at *
  generalize notes.length = n5 at *
  have HR2 := Lib.hid hr2
  have HF := Lib.hid hF
  obtain ⟨cs, hcs⟩ : ∃ cs : Array Value, #[.int .i64 kind, .int .i64 entry, .string image, .slice a1 n1 c1, .slice a2 n2 c2, .slice a3 n3 c3, .slice a4 n4 c4, .slice a5 n5 c5] = cs := ⟨_, rfl⟩
  have BX := Blk.made w 28 #[.int .i64 kind, .int .i64 entry, .string image, .slice a1 n1 c1, .slice a2 n2 c2, .slice a3 n3 c3, .slice a4 n4 c4, .slice a5 n5 c5]
  have RC := Lib.hid (hL.new ((New.refl w).alloc (.cells #[.int .i64 kind, .int .i64 entry, .string image, .slice a1 n1 c1, .slice a2 n2 c2, .slice a3 n3 c3, .slice a4 n4 c4, .slice a5 n5 c5] 28)))
  have hbm : m < w.heap.size := hL.mach.lt
  have hbx : w0.heap.size ≤ w.heap.size := hL.nw.size
  obtain ⟨i0, hi, hz0, hz1, hz2⟩ := info_parts Tryz.info5w
  obtain ⟨MA, mcap, rfl, _⟩ := own_form hL.row
  have f0 := RC.out.mach.cell' 0 _ rfl
  obtain ⟨M1, hM1⟩ : ∃ M1, mem ++ image.data.toList = M1 := ⟨_, rfl⟩
  have HM1 := Lib.hid hM1
  have HL1 := Lib.hid (show mem.length + image.size = M1.length by rw [← hM1, List.length_append, size_eq])
  have HU1 := Lib.hid (show u8C M1 = u8C mem ++ Lib.strCells image by rw [← hM1]; exact u8C_str mem image)
  have HS1 := Lib.hid (show mem.length + image.size ≤ 200000000 by omega)
  have e0 : loadP mem image.data.toList (fix.map Int.toNat) = fixP mem.length (fix.map Int.toNat) (padN M1) := by rw [← hM1]; rfl
  rw [e0]
  have OK := (Lib.OthersKept.refl 5 (some m) w).alloc (.cells #[.int .i64 kind, .int .i64 entry, .string image, .slice a1 n1 c1, .slice a2 n2 c2, .slice a3 n3 c3, .slice a4 n4 c4, .slice a5 n5 c5] 28)
  clear hL hr hr2 hF hn2 hcs hM1 e0
  go_enter Tryz.func31, Tryz.ntmps31
  go_wp2_with (fail)
  generalize w.alloc (.cells #[.int .i64 kind, .int .i64 entry, .string image, .slice a1 n1 c1, .slice a2 n2 c2, .slice a3 n3 c3, .slice a4 n4 c4, .slice a5 n5 c5] 28) = wA at *
  generalize w.heap.size = bx at *
  refine wp_region_held_drew (S := fun W => W.cell? ⟨bx, 2, none⟩ = some (.string image)) (by kernel_rfl) (BX.drew.cell' 2 _ rfl) (fun hS => ?_)
  have RC := Lib.hid (RC.out.new (New.refl wA).drew)
  have BX := BX.drew
  have OK := Lib.OthersKept.drew OK
  clear f0
  generalize wA.drew = wC at *
  refine tkT 0 (v := ?v1) hS (fun wq hSq => ?y1) ?_; (case y1 => clear hSq; go_simp; (try with_reducible rfl)); simp only [Act.put, gqD, gqE, gqF]
  refine tkT 1 (v := ?v2) hS (fun wq hSq => ?y2) ?_; (case y2 => clear hSq; go_simp; (try with_reducible rfl)); simp only [Act.put, gqD, gqE, gqF]
  refine tkT 5 (v := ?v3) hS (fun wq hSq => ?y3) ?_; (case y3 => clear hSq; go_simp; (try with_reducible rfl)); simp only [Act.put, gqD, gqE, gqF]
  refine tkT 2 (v := ?v4) hS (fun wq hSq => ?y4) ?_; (case y4 => clear hSq; go_simp; (try with_reducible rfl)); simp only [Act.put, gqD, gqE, gqF]
  refine tkT 6 (v := ?v5) hS (fun wq hSq => ?y5) ?_; (case y5 => have hf0 := hSq; clear hSq; go_simp; (try with_reducible rfl)); simp only [Act.put, gqD, gqE, gqF]
  refine tkT 3 (v := ?v6) hS (fun wq hSq => ?y6) ?_; (case y6 => clear hSq; go_simp; (try with_reducible rfl)); simp only [Act.put, gqD, gqE, gqF]
  refine wpAnyH_ready (rs := [4]) (by kernel_rfl) (by simp) ?_
  refine AllReadyH.cons (o := ?oi7) ?hi7 (fun K hK => ?_) AllReadyH.nil
  case hi7 => (simp only [gqA, gqB, gqC]; rfl)
  have c4 := RC.out.mach.cell' 0 _ rfl
  go_simp
  clear c4
  refine hK.out _ _ (BX.cell' 2 _ rfl) (fun hS => ?_)
  clear hK K
  refine wpAnyH_ready (rs := [7]) (by kernel_rfl) (by simp) ?_
  refine AllReadyH.cons (o := ?oi8) ?hi8 (fun K hK => ?_) AllReadyH.nil
  case hi8 => (simp only [gqA, gqB, gqC]; rfl)
  refine step_append_str (by rfl) _ _ 73 9 (by rfl) w0.heap.size 5 i0 Tryz.underlying73 Tryz.underlying9 hi hz0 hz1 hz2 (.slice MA mem.length mcap) mem.length (u8C mem) (by rfl) RC.out.row image (by rfl) (str_max HS1.out) (str_bytes HS1.out) RC.out.nw.size ?_
  intro v9 w9 own9 g9
  have q9 := ML.grown RC.out g9 (MV' := v9) (mem' := M1) (own_eq own9 HL1.out HU1.out.symm)
  have BX := BX.grown g9 (Ne.symm (own_apart RC.out.row BX (by decide)))
  have OK := Lib.hid (Lib.OthersKept.grown OK g9 (own_kindT RC.out.row))
  obtain ⟨A9, c9, rfl, _⟩ := own_form own9
  have y9 := q9.1.cell' 0 _ rfl
  have z9 := q9.1.free 0
  have RC := Lib.hid q9.2
  have BX9 := BX.far (p := ⟨m, 0, none⟩) (bx_ne hbm) (.slice A9 (mem.length + image.size) c9)
  have OK9 := OK.out.setCell ⟨m, 0, none⟩ rfl (.slice A9 (mem.length + image.size) c9)
  clear OK
  simp only [Act.put, gqD, gqE, gqF]
  refine hK.out _ _ (BX.cell' 2 _ rfl) (fun hS => ?_)
  clear hK K
  refine tkT 8 (v := ?v9) hS (fun wq hSq => ?y9) ?_; (case y9 => clear hSq; go_simp; (try with_reducible rfl)); simp only [Act.put, gqD, gqE, gqF]
  refine tkT 9 (v := ?v10) hS (fun wq hSq => ?y10) ?_; (case y10 => clear hSq; go_simp; (try with_reducible rfl)); simp only [Act.put, gqD, gqE, gqF]
  refine wpAnyH_ready (rs := [10]) (by kernel_rfl) (by simp) ?_
  refine AllReadyH.cons (o := ?oi11) ?hi11 (fun K hK => ?_) AllReadyH.nil
  case hi11 => (simp only [gqA, gqB, gqC]; rfl)
  go_simp
  clear y9 z9 own9 g9 q9
  refine hK.out _ _ (BX9.cell' 2 _ rfl) (fun hS => ?_)
  clear hK K
  refine wpAnyH_done (by kernel_rfl) ?_ _
  clear BX
  have BX := BX9
  clear BX9
  have HE2 := Lib.hid hi
  have HZ0 := Lib.hid hz0
  have HZ1 := Lib.hid hz1
  have HZ2 := Lib.hid hz2
  clear hi hz0 hz1 hz2
  generalize w9.setCell ⟨m, 0, none⟩ (.slice A9 (mem.length + image.size) c9) = w3 at *
  have HRC := Lib.hid (show ∃ MV', ML w0 w3 m MV' PL (M1 ++ List.replicate 0 0) from ⟨_, by rw [List.replicate_zero, List.append_nil]; exact RC.out⟩)
  have HBX := Lib.hid BX
  have HOK := Lib.hid OK9
  clear RC BX OK9
  go_wp2
  go_loopw [] (fun wr => ∃ (j : Nat) (MV' : Value), j ≤ (4 - M1.length % 4) % 4 ∧ ML w0 wr m MV' PL (M1 ++ List.replicate j 0) ∧ Blk wr bx 28 #[.int .i64 kind, .int .i64 entry, .string image, .slice a1 n1 c1, .slice a2 n2 c2, .slice a3 n3 c3, .slice a4 n4 c4, .slice a5 n5 c5] ∧ Hid (Lib.OthersKept 5 (some m) w wr)) (fun wr => (4 - lenAt wr m % 4) % 4)
  case atStart => obtain ⟨MV', h⟩ := HRC.out; exact ⟨0, MV', Nat.zero_le _, h, HBX.out, HOK⟩
  case round =>
    obtain ⟨j, MV', hj, hR, hB, HOKr⟩ := hrel
    obtain ⟨XA, xc, rfl, _⟩ := own_form hR.row
    have HJ := Lib.hid hj
    obtain ⟨L, hL⟩ : ∃ L, M1 ++ List.replicate j 0 = L := ⟨_, rfl⟩
    have HLL := Lib.hid hL
    rw [hL] at hR
    have g0 := hR.mach.cell' 0 _ rfl
    have HLA := Lib.hid (lenAt_at g0)
    have HR9 := Lib.hid hR
    have HB9 := Lib.hid hB
    clear hj hL hR hB
    by_cases h4 : L.length % 4 = 0
    · have t4 := rem4_f h4
      have f4 := HB9.out.cell' 4 _ rfl
      have hPD : L = padN M1 := by rw [← HLL.out]; rw [← HLL.out] at h4; exact pad_end h4 HJ.out
      have hLm : mem.length + image.size ≤ L.length := by rw [hPD, HL1.out]; exact (padN_len M1).1
      have hLs : L.length ≤ 300000000 := by rw [hPD]; have := (padN_len M1).2; have := HS1.out; have := HL1.out; omega
      obtain ⟨gg, gc, hge, hg0, hMM⟩ := HR9.out.mm (by omega)
      obtain ⟨rfl, rfl⟩ : XA = some ⟨gg, 0, none⟩ ∧ xc = gc := by injection hge with q1 _ q3; exact ⟨q1, q3⟩
      obtain ⟨M0, hM0⟩ : ∃ M0, mem.length = M0 := ⟨_, rfl⟩
      have HM0 := Lib.hid hM0
      rw [hM0] at hLm ⊢
      have HLm := Lib.hid hLm
      have HLs := Lib.hid hLs
      have HG0 := Lib.hid hg0
      have hb1 : (M0 : Int) % 4294967296 = (M0 : Int) := base_mod (by omega)
      have HPD := Lib.hid hPD
      obtain ⟨wo, rfl⟩ : ∃ wo : World, wo = wr := ⟨_, rfl⟩
      clear h4 hge hMM hLm hLs hM0 hPD hg0 hl0 hs1
      go_wp2
      clear f4 t4 g0
      go_loopw [42] (fun v42 wr => ∃ i : Nat, v42 = .int .i64 (i : Int) ∧ i ≤ n2 ∧ ML w0 wr m (.slice (some ⟨gg, 0, none⟩) L.length xc) PL (fixP M0 ((fix.take i).map Int.toNat) L) ∧ Hid (Lib.OthersKept 5 (some m) w wr)) (fun v42 _ => n2 - (intOf v42).toNat)
      case atStart => exact ⟨0, rfl, Nat.zero_le _, HR9.out, HOKr⟩
      case round =>
        obtain ⟨i, rfl, hi9, hR, HOKi⟩ := hrel
        obtain ⟨Mi, hMi⟩ : ∃ Mi, fixP M0 ((fix.take i).map Int.toNat) L = Mi := ⟨_, rfl⟩
        have hMl : Mi.length = L.length := by rw [← hMi]; exact fixP_len _ _ _
        have HMI := Lib.hid hMi
        rw [hMi] at hR
        by_cases hlt : i < n2
        · obtain ⟨bk, oo, rfl, hbk, z, hz, hcell⟩ := rd_row (f := fxC) (k := 1) (fun _ => rfl) HN2.out (HR2.out.below hR.nw) hlt
          obtain ⟨hz1', hz2'⟩ := HF.out z (List.mem_of_getElem? hz)
          obtain ⟨zn, rfl⟩ : ∃ zn : Nat, z = (zn : Int) := ⟨z.toNat, by omega⟩
          rw [Int.toNat_natCast] at hz2'
          have q0 := hcell 0 (.int .i64 (zn : Int)) (by omega) rfl
          simp only [Nat.add_zero, Nat.mul_one] at q0
          have hMM : MM wr m gg xc PL Mi := ⟨by rw [hMl]; exact hR.mach, by rw [hMl]; exact own_lower (by have := hR.row; rw [hMl] at this; exact this) fun _ _ => Nat.zero_le _⟩
          have hin : M0 + zn + 4 ≤ Mi.length := by rw [hMl]; have := HLm.out; omega
          have hM9 : Mi.length ≤ 1000000000 := by rw [hMl]; have := HLs.out; omega
          have HW := Lib.hid (show Calls Tryz.prog 53 #[.pointer (some ⟨m, 0, none⟩), .int .i64 ((M0 : Int) + (zn : Int))] wr _ from mword_any (M0 + zn) wr hMM hin hM9)
          have HP := Lib.hid (fun (W : World) (hn : New wr W) => (show Calls Tryz.prog 32 #[.pointer (some ⟨m, 0, none⟩), .int .i64 ((M0 : Int) + (zn : Int)), .int .u32 (((wordN Mi (M0 + zn) + M0) % 4294967296 : Nat) : Int)] W _ from put_any (M0 + zn) ((wordN Mi (M0 + zn) + M0) % 4294967296) W (hMM.new hn) hin hM9 (Nat.mod_lt _ (by decide))))
          have k1 : IntKind.i64.wrap ((M0 : Int) + (zn : Int)) = (M0 : Int) + (zn : Int) := IntWalk.i64_in _ (by omega)
          have k2 : IntKind.i64.wrap ((i : Int) + 1) = (i : Int) + 1 := IntWalk.i64_in _ (by omega)
          have k3 := sum_mod (wordN Mi (M0 + zn)) M0
          have HNX := Lib.hid (show putN Mi (M0 + zn) ((wordN Mi (M0 + zn) + M0) % 4294967296) = fixP M0 ((fix.take (i + 1)).map Int.toNat) L by
            rw [List.take_add_one, hz, List.map_append, show ((some (zn : Int)).toList.map Int.toNat) = [zn] from rfl, fixP_snoc, HMI.out])
          have HRR := Lib.hid hR
          have HML := Lib.hid hMl
          generalize wordN Mi (M0 + zn) = wd at *
          generalize (wd + M0) % 4294967296 = sv at *
          clear hcell hz hMM hin hM9 hR hMl hMi hz1' hz2'
          go_wp2_with (first
            | (go_at_call 32; have hq := nw1; (with_reducible refine (HP.out _ nw1).mono ?_); rintro e w2 ⟨rfl, M2, g2⟩)
            | (go_at_call 53; (with_reducible refine HW.out.mono ?_); rintro e w1 ⟨rfl, nw1⟩))
          go_roundw
          case rel => exact ⟨i + 1, by go_num, by omega, by
            rw [← HNX.out]
            have q9 := HRR.out.new nw1
            have q8 : ML w0 w1 m (.slice (some ⟨gg, 0, none⟩) Mi.length xc) PL Mi := by rw [HML.out]; exact q9
            have := q8.turned M2 g2 (putN_len _ _ _) HG0.out
            rw [HML.out] at this
            exact this, Lib.hid ((others_new HOKi.out nw1).grown g2 (fun k e => by injection e with e; subst e; exact own_kindT (HRR.out.new nw1).row _ rfl))⟩
          case measure => (simp [intOf]; omega)
        · obtain rfl : i = n2 := by omega
          have hfin : Mi = fixP M0 (fix.map Int.toNat) (padN M1) := by rw [← HMI.out, List.take_of_length_le (by rw [HN2.out]; exact Nat.le_refl _), HPD.out]
          have HFIN := Lib.hid hfin
          clear hfin
          go_wp2
          go_ret
          exact ⟨retI (by rw [HM0.out]), ⟨_, by rw [HM0.out, ← HFIN.out]; exact hR⟩, HOKi.out⟩
    · have t4 := rem4_t h4
      have RA := Lib.hid (HR9.out.new ((New.refl wr).alloc (.cells #[.int .u8 0] 5)))
      have hLs : L.length + 1 ≤ 1000000000 := by rw [← HLL.out, List.length_append, List.length_replicate]; have := HJ.out; have := HS1.out; have := HL1.out; omega
      have HLs := Lib.hid hLs
      have hpn := pad_next (l := M1) (j := j) (by rw [HLL.out]; exact h4) HJ.out
      rw [HLL.out] at hpn
      have HPN := Lib.hid hpn
      have HB8 := Lib.hid (HB9.out.alloc (.cells #[.int .u8 0] 5))
      clear hLs hpn h4
      go_wp2_with (at_builtin; refine wpList_append_rdG Tryz.byteT rfl (.tmp 34) (.tmp 35) rfl w0.heap.size (.slice XA L.length xc) L.length (u8C L) rfl RA.out.row (some ⟨wr.heap.size, 0, none⟩) 1 1 [.int .u8 0] rfl (rd_one wr (.int .u8 0) 5) (fun u hu => by simp at hu; subst hu; rfl) HLs.out (by decide) RA.out.nw.size ?_)
      intro v9 w9 own9 g9 _
      have q9 := ML.grown RA.out g9 (MV' := v9) (mem' := L ++ [0]) (own_eq own9 (by simp) (by simp [u8C]))
      have BX := HB8.out.grown g9 (Ne.symm (own_apart RA.out.row HB8.out (by decide)))
      obtain ⟨A9', c9', rfl, _⟩ := own_form own9
      have y9 := q9.1.cell' 0 _ rfl
      have z9 := q9.1.free 0
      have RC := Lib.hid q9.2
      have BX9 := Lib.hid (BX.far (p := ⟨m, 0, none⟩) (bx_ne hbm) (.slice A9' (L.length + 1) c9'))
      have HLA9 := Lib.hid (lenAt_at (q9.2.mach.cell' 0 _ rfl))
      have HOK2 := Lib.hid (Lib.OthersKept.setCell ((Lib.OthersKept.alloc HOKr.out (.cells #[.int .u8 0] 5)).grown g9 (own_kindT RA.out.row)) ⟨m, 0, none⟩ rfl (.slice A9' (L.length + 1) c9'))
      clear g0 own9 g9 q9 BX
      go_wp2
      go_roundw
      case rel => exact ⟨j + 1, _, HPN.out.1, by rw [rep_next, HLL.out]; exact RC.out, BX9.out, HOK2⟩
      case measure => rw [HLA9.out, HLA.out]; exact HPN.out.2
end Go.Proofs.YtnjampfhkojbnaaGreatDoor

namespace Go.Proofs.YtnjampfhkojbnaaGreatDoor
open Go Go.RowKit Go.Joins
set_option linter.unusedSimpArgs false
set_option linter.unusedVariables false

structure LbD where
  path : ByteArray
  bin : Bn
  at' : BH
def lbC (x : LbD) : List Value := .string x.path :: (bcells x.bin x.at').toList
def LsRd (w : World) (A : Option Addr) (n : Nat) (l : List LbD) : Prop := l.length = n ∧ Rd w 9 A n (l.flatMap lbC) ∧ ∀ x ∈ l, BRd w x.bin x.at'
theorem LsRd.new {w w' : World} {A : Option Addr} {n : Nat} {l : List LbD} (h : LsRd w A n l) (hn : New w w') : LsRd w' A n l := ⟨h.1, h.2.1.below hn, fun x hx => (h.2.2 x hx).new hn⟩
def libOK (x : LbD) : Bool := decide (pathE x.path = 0) && decide (x.bin.kind = 2) && decide (chkE x.bin = 0)
def libsGo : List LbD → List ByteArray → Bool
  | [], _ => true
  | x :: r, seen => if seenN seen x.path = false ∧ libOK x = true then libsGo r (x.path :: seen) else false
def validP (p : Bn) (l : List LbD) : Bool := decide (chkE p = 0) && decide (p.kind = 1) && decide (l.length ≤ 64) && libsGo l []
theorem libsGo_at {l : List LbD} {i : Nat} {seen : List ByteArray} {p : LbD} (h : l[i]? = some p) :
    libsGo (l.drop i) seen = if seenN seen p.path = false ∧ libOK p = true then libsGo (l.drop (i + 1)) (p.path :: seen) else false := by
  obtain ⟨hi, he⟩ := List.getElem?_eq_some_iff.1 h
  rw [List.drop_eq_getElem_cons hi, libsGo, he]
theorem vne_t {c : Int} (h : ¬ c = 0) : (c != 0) = true := by rw [bne_iff_ne]; exact h
theorem vne_f {c : Int} (h : c = 0) : (c != 0) = false := by rw [bne_eq_false_iff_eq]; exact h
theorem vnk_t {c k : Int} (h : ¬ c = k) : (c != k) = true := by rw [bne_iff_ne]; exact h
theorem vnk_f {c k : Int} (h : c = k) : (c != k) = false := by rw [bne_eq_false_iff_eq]; exact h
theorem kput_max {i n : Nat} (h : i < n) (hn : n ≤ 64) : i < maxLen := by simp only [maxLen]; omega
theorem le_gm {w wr a b c : World} {gm : Nat} (h : w.heap.size ≤ gm) (h1 : New w wr) (h2 : New wr a) (h3 : New a b) (h4 : New b c) : w.heap.size ≤ c.heap.size := by have := h1.size; have := h2.size; have := h3.size; have := h4.size; omega
theorem gm_le {w : World} {gm : Nat} (h : w.heap.size ≤ gm) : ∀ q, some gm = some q → w.heap.size ≤ q := fun q hq => by have := Option.some.inj hq; omega
theorem lbC_len (x : LbD) : (lbC x).length = 9 := rfl
set_option maxRecDepth 100000 in
set_option maxHeartbeats 16000000 in
theorem valid_no {K : World → Prop} {CE KD : Int} {kind entry : Int} {image : ByteArray} {a1 a2 a3 a4 a5 A : Option Addr} {n1 n2 n3 n4 n5 c1 c2 c3 c4 c5 n c : Nat} {w : World}
    (HC : ∀ W, New w W → Calls Tryz.prog 54 #[.agg #[.int .i64 kind, .int .i64 entry, .string image, .slice a1 n1 c1, .slice a2 n2 c2, .slice a3 n3 c3, .slice a4 n4 c4, .slice a5 n5 c5]] W fun e w' => e = .returned (.int .i64 CE) ∧ New W w')
    (hbad : ¬ CE = 0 ∨ (CE = 0 ∧ ¬ kind = 1) ∨ (CE = 0 ∧ kind = 1 ∧ ¬ n ≤ 64)) :
    Calls Tryz.prog 30 #[.agg #[.int .i64 kind, .int .i64 entry, .string image, .slice a1 n1 c1, .slice a2 n2 c2, .slice a3 n3 c3, .slice a4 n4 c4, .slice a5 n5 c5], .slice A n c] w fun e w' => e = .returned (.bool false) ∧ New w w' := by
  have BX := Blk.made w 28 #[.int .i64 kind, .int .i64 entry, .string image, .slice a1 n1 c1, .slice a2 n2 c2, .slice a3 n3 c3, .slice a4 n4 c4, .slice a5 n5 c5]
  have nA := (New.refl w).alloc (.cells #[.int .i64 kind, .int .i64 entry, .string image, .slice a1 n1 c1, .slice a2 n2 c2, .slice a3 n3 c3, .slice a4 n4 c4, .slice a5 n5 c5] 28)
  have HCC := Lib.hid (HC _ nA)
  clear HC
  rcases hbad with h1 | ⟨h1, h2⟩ | ⟨h1, h2, h3⟩
  · have t1 := vne_t h1
    clear h1
    go_enter Tryz.func30, Tryz.ntmps30
    go_wp2_with (go_at_call 54; (with_reducible refine HCC.out.mono ?_); rintro e w1 ⟨rfl, n1⟩; have f0 := (BX.new n1).cell' 0 _ rfl)
    go_ret
    exact ⟨rfl, nA.trans n1⟩
  · subst h1
    have t2 := vnk_t h2
    clear h2
    go_enter Tryz.func30, Tryz.ntmps30
    go_wp2_with (go_at_call 54; (with_reducible refine HCC.out.mono ?_); rintro e w1 ⟨rfl, n1⟩; have f0 := (BX.new n1).cell' 0 _ rfl)
    go_ret
    exact ⟨rfl, nA.trans n1⟩
  · subst h1 h2
    have t3 : (64 : Int) < (n : Int) := by omega
    clear h3
    go_enter Tryz.func30, Tryz.ntmps30
    go_wp2_with (go_at_call 54; (with_reducible refine HCC.out.mono ?_); rintro e w1 ⟨rfl, n1⟩; have f0 := (BX.new n1).cell' 0 _ rfl)
    go_ret
    exact ⟨rfl, nA.trans n1⟩
set_option maxRecDepth 100000 in
set_option maxHeartbeats 32000000 in
theorem valid_yes {kind entry : Int} {image : ByteArray} {a1 a2 a3 a4 a5 A : Option Addr} {n1 n2 n3 n4 n5 c1 c2 c3 c4 c5 n c : Nat} {w : World} {l : List LbD}
    (HC : ∀ W, New w W → Calls Tryz.prog 54 #[.agg #[.int .i64 kind, .int .i64 entry, .string image, .slice a1 n1 c1, .slice a2 n2 c2, .slice a3 n3 c3, .slice a4 n4 c4, .slice a5 n5 c5]] W fun e w' => e = .returned (.int .i64 0) ∧ New W w')
    (hk : kind = 1) (hn : n ≤ 64) (hr : LsRd w A n l) (hz : ∀ x ∈ l, SzB x.bin ∧ x.path.size ≤ 1000000) (hE : Env w) :
    Calls Tryz.prog 30 #[.agg #[.int .i64 kind, .int .i64 entry, .string image, .slice a1 n1 c1, .slice a2 n2 c2, .slice a3 n3 c3, .slice a4 n4 c4, .slice a5 n5 c5], .slice A n c] w fun e w' => e = .returned (.bool (libsGo l [])) ∧ New w w' := by
  subst hk
  have BX := Blk.made w 28 #[.int .i64 1, .int .i64 entry, .string image, .slice a1 n1 c1, .slice a2 n2 c2, .slice a3 n3 c3, .slice a4 n4 c4, .slice a5 n5 c5]
  have nA := (New.refl w).alloc (.cells #[.int .i64 1, .int .i64 entry, .string image, .slice a1 n1 c1, .slice a2 n2 c2, .slice a3 n3 c3, .slice a4 n4 c4, .slice a5 n5 c5] 28)
  have HCC := Lib.hid (HC _ nA)
  have HR := Lib.hid hr
  have HZ := Lib.hid hz
  have HE := Lib.hid hE
  have t3 : ¬ (64 : Int) < (n : Int) := by omega
  obtain ⟨R, hR⟩ : ∃ R, libsGo l [] = R := ⟨_, rfl⟩
  rw [hR]
  have HRR := Lib.hid hR
  have hmm := @run_makeMap Tryz.prog
  clear HC hr hz hE hR
  go_enter Tryz.func30, Tryz.ntmps30
  go_wp2_with (go_at_call 54; (with_reducible refine HCC.out.mono ?_); rintro e w1 ⟨rfl, n1⟩; have f0 := (BX.new n1).cell' 0 _ rfl; have K1 : KSet Tryz.prog 9 4 (w1.alloc (.map #[] 0)) w1.heap.size 0 ([].map fun q : ByteArray => Lit.string q.data.toList) := KSet.made w1; have hn1 := (nA.trans n1).alloc (.map #[] 0); have hgm := (nA.trans n1).size)
  clear f0 BX HCC
  generalize w1.alloc (.map #[] 0) = w2 at *
  generalize w1.heap.size = gm at *
  have HGM := Lib.hid hgm
  clear hgm n1
  go_loopw [24] (fun v24 wr => ∃ (i : Nat) (seen : List ByteArray), v24 = .int .i64 i ∧ i ≤ n ∧ KSet Tryz.prog 9 4 wr gm i (seen.map fun q => Lit.string q.data.toList) ∧ New w wr ∧ Hid (libsGo (l.drop i) seen = R)) (fun v24 _ => n - (intOf v24).toNat)
  case atStart => exact ⟨0, [], rfl, by omega, K1, hn1, Lib.hid HRR.out⟩
  case round =>
    clear K1 hn1
    obtain ⟨i, seen, rfl, hi9, KS, hnr, HGo⟩ := hrel
    by_cases hlt : i < n
    · obtain ⟨bk, o, rfl, hbk, p, hp, hcell⟩ := rd_row (f := lbC) (k := 9) lbC_len HR.out.1 (HR.out.2.1.below hnr) hlt
      obtain ⟨hsz, hps⟩ := HZ.out p (List.mem_of_getElem? hp)
      have hbr := (HR.out.2.2 p (List.mem_of_getElem? hp)).new hnr
      have hgo := libsGo_at (seen := seen) hp
      rw [HGo.out] at hgo
      obtain ⟨pa, ⟨bk', be, bi, bp, bf, bm, bx, bn⟩, ⟨d1, e1, d2, e2, d3, e3, d4, e4, d5, e5⟩⟩ := p
      have HA3 := Lib.hid (fun W (hn : New wr W) => (show Calls Tryz.prog 54 #[.agg #[.int .i64 bk', .int .i64 be, .string bi, .slice d1 bp.length e1, .slice d2 bf.length e2, .slice d3 bm.length e3, .slice d4 bx.length e4, .slice d5 bn.length e5]] W _ from check_any ⟨bk', be, bi, bp, bf, bm, bx, bn⟩ ⟨d1, e1, d2, e2, d3, e3, d4, e4, d5, e5⟩ W (hbr.new hn) hsz (HE.out.new (hnr.trans hn))))
      have HA2 := Lib.hid (fun W (hn : New wr W) => path_any pa W (Nat.lt_of_le_of_lt hps (by decide)) (HE.out.new (hnr.trans hn)))
      have q0 := hcell 0 (.string pa) (by omega) rfl
      have q1 := hcell 1 (.int .i64 bk') (by omega) rfl
      have q2 := hcell 2 (.int .i64 be) (by omega) rfl
      have q3 := hcell 3 (.string bi) (by omega) rfl
      have q4 := hcell 4 (.slice d1 bp.length e1) (by omega) rfl
      have q5 := hcell 5 (.slice d2 bf.length e2) (by omega) rfl
      have q6 := hcell 6 (.slice d3 bm.length e3) (by omega) rfl
      have q7 := hcell 7 (.slice d4 bx.length e4) (by omega) rfl
      have q8 := hcell 8 (.slice d5 bn.length e5) (by omega) rfl
      simp only [Nat.add_zero] at q0
      rw [← Nat.add_assoc] at q1 q2 q3 q4 q5 q6 q7 q8
      generalize bp.length = l1 at *
      generalize bf.length = l2 at *
      generalize bm.length = l3 at *
      generalize bx.length = l4 at *
      generalize bn.length = l5 at *
      have kN : keyOf Tryz.prog 9 (.string pa) = some (.string pa.data.toList) := Go.WideMaps.keyOf_string_mk Tryz.underlying9 (by simp only [maxLen]; simp only at hps; omega)
      have nB := (New.refl wr).alloc (.cells #[.string pa, .int .i64 bk', .int .i64 be, .string bi, .slice d1 l1 e1, .slice d2 l2 e2, .slice d3 l3 e3, .slice d4 l4 e4, .slice d5 l5 e5] 79)
      have KA := KS.new nB
      have BP := Blk.made wr 79 #[.string pa, .int .i64 bk', .int .i64 be, .string bi, .slice d1 l1 e1, .slice d2 l2 e2, .slice d3 l3 e3, .slice d4 l4 e4, .slice d5 l5 e5]
      have HK := Lib.hid (seenN_iff (seen := seen) (s := pa))
      have klt := KS.lt
      have HG := Lib.hid hgo
      clear hcell hgo hp hsz hps hbr
      unfold libOK at HG
      simp only at HG
      obtain ⟨PE, hPE⟩ : ∃ PE, pathE pa = PE := ⟨_, rfl⟩
      rw [hPE] at HA2 HG
      obtain ⟨CE, hCE⟩ : ∃ CE, chkE ⟨bk', be, bi, bp, bf, bm, bx, bn⟩ = CE := ⟨_, rfl⟩
      rw [hCE] at HA3 HG
      clear hPE hCE
      cases hs : seenN seen pa
      · have hG := HG.out
        rw [hs] at hG HK
        by_cases h1 : PE = 0
        · by_cases h2 : bk' = 2
          · by_cases h3 : CE = 0
            · have HG2 := Lib.hid (show R = libsGo (l.drop (i + 1)) (pa :: seen) by rw [hG]; simp [h1, h2, h3])
              subst h1 h2 h3
              clear hG hs HG
              go_wp2_with (first
                | (at_mapUpdate; refine wpList_kput _ ktS rfl (.tmp 50) (.tmp 52) (.const (.bool true)) (Or.inr rfl) gm i _ rfl (KS.new ((nB.trans n2).trans n3)) (kput_max hlt hn) (.string pa) (.string pa.data.toList) kN rfl rfl ?_; intro wz KZ hgz)
                | (go_at_call 54; have hq := n2; (with_reducible refine (HA3.out _ (nB.trans n2)).mono ?_); rintro e w3 ⟨rfl, n3⟩; have y0 := ((BP.new n2).new n3).cell' 0 _ rfl)
                | (go_at_call 55; (with_reducible refine (HA2.out _ nB).mono ?_); rintro e w2 ⟨rfl, n2⟩; have g0 := (BP.new n2).cell' 0 _ rfl; have g1 := (BP.new n2).cell' 1 _ rfl; have g2 := (BP.new n2).cell' 2 _ rfl; have g3 := (BP.new n2).cell' 3 _ rfl; have g4 := (BP.new n2).cell' 4 _ rfl; have g5 := (BP.new n2).cell' 5 _ rfl; have g6 := (BP.new n2).cell' 6 _ rfl; have g7 := (BP.new n2).cell' 7 _ rfl; have g8 := (BP.new n2).cell' 8 _ rfl)
                | (at_lookup; refine wpList_klook _ ktS rfl (.tmp 28) (.tmp 30) rfl gm i _ rfl KA (.string pa) (.string pa.data.toList) kN false HK.out rfl ?_))
              have hnz : New w wz := Below.grown ((hnr.trans nB).trans n2 |>.trans n3) hgz (le_gm HGM.out hnr nB n2 n3) (gm_le HGM.out)
              go_roundw
              case rel => exact ⟨i + 1, pa :: seen, by go_num, by omega, KZ, hnz, Lib.hid HG2.out.symm⟩
              case measure => simp [intOf]; omega
            · have hRf : R = false := by rw [hG]; simp [h3]
              have t7 := vne_t h3
              subst hRf h1 h2
              clear hG hs HG h3
              go_wp2_with (first
                | (go_at_call 54; have hq := n2; (with_reducible refine (HA3.out _ (nB.trans n2)).mono ?_); rintro e w3 ⟨rfl, n3⟩; have y0 := ((BP.new n2).new n3).cell' 0 _ rfl)
                | (go_at_call 55; (with_reducible refine (HA2.out _ nB).mono ?_); rintro e w2 ⟨rfl, n2⟩; have g0 := (BP.new n2).cell' 0 _ rfl; have g1 := (BP.new n2).cell' 1 _ rfl; have g2 := (BP.new n2).cell' 2 _ rfl; have g3 := (BP.new n2).cell' 3 _ rfl; have g4 := (BP.new n2).cell' 4 _ rfl; have g5 := (BP.new n2).cell' 5 _ rfl; have g6 := (BP.new n2).cell' 6 _ rfl; have g7 := (BP.new n2).cell' 7 _ rfl; have g8 := (BP.new n2).cell' 8 _ rfl)
                | (at_lookup; refine wpList_klook _ ktS rfl (.tmp 28) (.tmp 30) rfl gm i _ rfl KA (.string pa) (.string pa.data.toList) kN false HK.out rfl ?_))
              go_ret
              exact ⟨rfl, ((hnr.trans nB).trans n2).trans n3⟩
          · have hRf : R = false := by rw [hG]; simp [h2]
            have t7 := vnk_t h2
            subst hRf h1
            clear hG hs HG h2
            go_wp2_with (first
              | (go_at_call 55; (with_reducible refine (HA2.out _ nB).mono ?_); rintro e w2 ⟨rfl, n2⟩; have g0 := (BP.new n2).cell' 0 _ rfl; have g1 := (BP.new n2).cell' 1 _ rfl; have g2 := (BP.new n2).cell' 2 _ rfl; have g3 := (BP.new n2).cell' 3 _ rfl; have g4 := (BP.new n2).cell' 4 _ rfl; have g5 := (BP.new n2).cell' 5 _ rfl; have g6 := (BP.new n2).cell' 6 _ rfl; have g7 := (BP.new n2).cell' 7 _ rfl; have g8 := (BP.new n2).cell' 8 _ rfl)
              | (at_lookup; refine wpList_klook _ ktS rfl (.tmp 28) (.tmp 30) rfl gm i _ rfl KA (.string pa) (.string pa.data.toList) kN false HK.out rfl ?_))
            go_ret
            exact ⟨rfl, (hnr.trans nB).trans n2⟩
        · have hRf : R = false := by rw [hG]; simp [h1]
          have t7 := vne_t h1
          subst hRf
          clear hG hs HG h1
          go_wp2_with (first
            | (go_at_call 55; (with_reducible refine (HA2.out _ nB).mono ?_); rintro e w2 ⟨rfl, n2⟩; have g0 := (BP.new n2).cell' 0 _ rfl; have g1 := (BP.new n2).cell' 1 _ rfl; have g2 := (BP.new n2).cell' 2 _ rfl; have g3 := (BP.new n2).cell' 3 _ rfl; have g4 := (BP.new n2).cell' 4 _ rfl; have g5 := (BP.new n2).cell' 5 _ rfl; have g6 := (BP.new n2).cell' 6 _ rfl; have g7 := (BP.new n2).cell' 7 _ rfl; have g8 := (BP.new n2).cell' 8 _ rfl)
            | (at_lookup; refine wpList_klook _ ktS rfl (.tmp 28) (.tmp 30) rfl gm i _ rfl KA (.string pa) (.string pa.data.toList) kN false HK.out rfl ?_))
          go_ret
          exact ⟨rfl, (hnr.trans nB).trans n2⟩
      · have hG := HG.out
        rw [hs] at hG HK
        have hRf : R = false := by rw [hG]; simp
        subst hRf
        clear hG hs HG
        go_wp2_with (at_lookup; refine wpList_klook _ ktS rfl (.tmp 28) (.tmp 30) rfl gm i _ rfl KA (.string pa) (.string pa.data.toList) kN true HK.out rfl ?_)
        go_ret
        exact ⟨rfl, hnr.trans nB⟩
    · obtain rfl : i = n := by omega
      have hG := HGo.out
      rw [List.drop_of_length_le (by rw [HR.out.1]; exact Nat.le_refl _), libsGo] at hG
      subst hG
      go_wp2
      go_ret
      exact ⟨rfl, hnr⟩
theorem lvalid_any (p : Bn) (h : BH) (A : Option Addr) (n c : Nat) (l : List LbD) (w : World) (hr : BRd w p h) (hz : SzB p) (hl : LsRd w A n l) (hzl : ∀ x ∈ l, SzB x.bin ∧ x.path.size ≤ 1000000) (hE : Env w) :
    Calls Tryz.prog 30 #[.agg (bcells p h), .slice A n c] w fun e w' => e = .returned (.bool (validP p l)) ∧ New w w' := by
  obtain ⟨kind, entry, image, places, fix, imps, exps, notes⟩ := p
  obtain ⟨a1, c1, a2, c2, a3, c3, a4, c4, a5, c5⟩ := h
  have HC : ∀ W, New w W → Calls Tryz.prog 54 #[.agg #[.int .i64 kind, .int .i64 entry, .string image, .slice a1 places.length c1, .slice a2 fix.length c2, .slice a3 imps.length c3, .slice a4 exps.length c4, .slice a5 notes.length c5]] W fun e w' => e = .returned (.int .i64 (chkE ⟨kind, entry, image, places, fix, imps, exps, notes⟩)) ∧ New W w' := fun W hn => check_any ⟨kind, entry, image, places, fix, imps, exps, notes⟩ ⟨a1, c1, a2, c2, a3, c3, a4, c4, a5, c5⟩ W (hr.new hn) hz (hE.new hn)
  have hln := hl.1
  by_cases h1 : chkE ⟨kind, entry, image, places, fix, imps, exps, notes⟩ = 0
  · by_cases h2 : kind = 1
    · by_cases h3 : n ≤ 64
      · have e : validP ⟨kind, entry, image, places, fix, imps, exps, notes⟩ l = libsGo l [] := by
          show (decide (chkE _ = 0) && decide (kind = 1) && decide (l.length ≤ 64) && libsGo l []) = _
          rw [decide_eq_true h1, decide_eq_true h2, decide_eq_true (show l.length ≤ 64 by rw [hln]; exact h3)]
          rfl
        rw [e]
        rw [h1] at HC
        exact valid_yes HC h2 h3 hl hzl hE
      · have e : validP ⟨kind, entry, image, places, fix, imps, exps, notes⟩ l = false := by unfold validP; simp [hln, h3]
        rw [e]
        exact valid_no (K := fun _ => True) (KD := 0) HC (Or.inr (Or.inr ⟨h1, h2, h3⟩))
    · have e : validP ⟨kind, entry, image, places, fix, imps, exps, notes⟩ l = false := by unfold validP; simp [h2]
      rw [e]
      exact valid_no (K := fun _ => True) (KD := 0) HC (Or.inr (Or.inl ⟨h1, h2⟩))
  · have e : validP ⟨kind, entry, image, places, fix, imps, exps, notes⟩ l = false := by unfold validP; simp [h1]
    rw [e]
    exact valid_no (K := fun _ => True) (KD := 0) HC (Or.inl h1)
end Go.Proofs.YtnjampfhkojbnaaGreatDoor

namespace Go.Proofs.YtnjampfhkojbnaaGreatDoor
open Go Go.RowKit Go.Shelf Go.Joins Go.WideShapes Go.ChangeShapes Go.ChangeMaps Go.Deep
set_option linter.unusedSimpArgs false
set_option linter.unusedVariables false

theorem key83 : Maps.Keyed Tryz.prog 83 := Maps.Keyed.of_law (deep_law_laid laidOut_ (m := 3) (by omega) (of_decide_eq_true (by kernel_rfl)) (by kernel_rfl) (by kernel_rfl))
theorem mtN : MType Tryz.prog 77 83 36 := ⟨key83, by kernel_rfl, Tryz.underlying36, fun w => by kernel_rfl⟩
theorem formed83 (o s : ByteArray) : (Value.agg #[.string o, .string s]).formed Tryz.prog 83 = true := by kernel_rfl
theorem one83 : ∃ f0 f1, Tryz.prog.underlying 83 = some (.struct #[f0, f1]) ∧ oneCellFields Tryz.prog #[f0, f1] = true ∧ f0.type = 9 ∧ f1.type = 9 := ⟨_, _, Tryz.underlying83, by kernel_rfl, rfl, rfl⟩
theorem cells83 : Tryz.prog.cellsOf 83 = 2 := by kernel_rfl
theorem key83N (o s : ByteArray) (ho : o.size ≤ maxLen) (hs : s.size ≤ maxLen) : keyOf Tryz.prog 83 (.agg #[.string o, .string s]) = some (keyD o s) := by
  obtain ⟨f0, f1, hu, hone, t0, t1⟩ := one83
  have h := shut_agg2 (H := Unit) (enc := fun _ => ()) (w := default) (base := 0) (spare := fun _ => true) (held := true) hu hone cells83
    (by rw [t0]; exact shut_string_cell Tryz.underlying9 ho) (by rw [t1]; exact shut_string_cell Tryz.underlying9 hs)
  exact (keyOf_asKey (by kernel_rfl) (by kernel_rfl) (formed83 o s) h).1
theorem snoc_ind {α : Type} {P : List α → Prop} (nil : P []) (snoc : ∀ l x, P l → P (l ++ [x])) : ∀ l, P l := fun l => by
  have : ∀ n (l : List α), l.length = n → P l := fun n => by
    induction n with
    | zero => intro l hl; rw [List.length_eq_zero_iff.1 hl]; exact nil
    | succ n ih =>
      intro l hl
      rcases List.eq_nil_or_concat l with rfl | ⟨i, y, rfl⟩
      · simp at hl
      · rw [List.concat_eq_append] at hl ⊢
        exact snoc i y (ih i (by simpa using hl))
  exact this _ l rfl
def imB (b : Bn) : Im := ⟨b.image.data.toList, b.fix.map Int.toNat, b.exps.map fun x => (x.sym.data.toList, x.pos.toNat)⟩
def lbI (x : LbD) : List UInt8 × Im := (x.path.data.toList, imB x.bin)
def imI (x : ImD) : (List UInt8 × List UInt8) × Nat := ((x.lib.data.toList, x.sym.data.toList), x.pos.toNat)
def mapM (L : List ((List UInt8 × List UInt8) × Nat)) : List (Lit × Nat) := L.reverse.map fun x => (keyD (S x.1.1) (S x.1.2), x.2)
theorem mapM_nil : mapM [] = [] := rfl
theorem mapM_snoc (L : List ((List UInt8 × List UInt8) × Nat)) (x : (List UInt8 × List UInt8) × Nat) : mapM (L ++ [x]) = (keyD (S x.1.1) (S x.1.2), x.2) :: mapM L := by
  unfold mapM
  rw [List.reverse_append, List.map_append]
  rfl
def SmK (k : List UInt8 × List UInt8) : Prop := k.1.length ≤ maxLen ∧ k.2.length ≤ maxLen
theorem keyD_S {k k' : List UInt8 × List UInt8} (h : SmK k) (h' : SmK k') (e : keyD (S k.1) (S k.2) = keyD (S k'.1) (S k'.2)) : k = k' := by
  obtain ⟨e1, e2⟩ := keyD_inj (by rw [size_S]; exact h.1) (by rw [size_S]; exact h.2) (by rw [size_S]; exact h'.1) (by rw [size_S]; exact h'.2) e
  exact Prod.ext (S_inj e1) (S_inj e2)
theorem lookM_map : ∀ (L : List ((List UInt8 × List UInt8) × Nat)) (k : List UInt8 × List UInt8), (∀ x ∈ L, SmK x.1) → SmK k → lookM (mapM L) (keyD (S k.1) (S k.2)) = lookL L k := fun L => by
  refine snoc_ind (P := fun L => ∀ (k : List UInt8 × List UInt8), (∀ x ∈ L, SmK x.1) → SmK k → lookM (mapM L) (keyD (S k.1) (S k.2)) = lookL L k) (fun k _ _ => rfl) (fun L x ih => ?_) L
  · intro k hL hk
    rw [mapM_snoc, lookM, lookL_snoc]
    have hx := hL x (by simp)
    by_cases e : x.1 = k
    · rw [if_pos e, if_pos (by rw [e])]
    · rw [if_neg e, if_neg (fun h => e (keyD_S hx hk h))]
      exact ih k (fun y hy => hL y (List.mem_append_left _ hy)) hk
end Go.Proofs.YtnjampfhkojbnaaGreatDoor

