/- licitlaw13.awake: it answers true. Conditions: none but Env. Plain: runs of a program with other limits and inputs. No program in sight, no conditions. -/
import Derived.Test.YtnjampfhkojbnaaGreatDoorGU7
import Derived.Test.YtnjampfhkojbnaaGreatDoorGU4
import Derived.LaidEqlPtr
import Derived.Test.YtnjampfhkojbnaaGreatDoorGP

namespace Go.Proofs.YtnjampfhkojbnaaGreatDoor
open Go Go.RowKit Go.Shelf
set_option linter.unusedSimpArgs false
set_option linter.unusedVariables false

theorem lsrd_nil (w : World) : LsRd w none 0 [] := ⟨rfl, Rd.none_ _, fun x hx => by cases hx⟩
def o1 : ByteArray := ⟨#[97, 47, 111]⟩
def s1 : ByteArray := ⟨#[102]⟩
theorem addr1 : addrV (progB pr1).places o1 s1 = (64, true) := by decide +kernel
theorem addr_pr1 {w0 w : World} {m : Nat} {MV PV : Value} {mem : List UInt8} (hml : ML w0 w m MV PV mem) (hpr : w.ownsRow w0.heap.size 52 5 PV 1 ((progB pr1).places.flatMap plC)) :
    Calls Tryz.prog 16 #[.pointer (some ⟨m, 0, none⟩), .string ⟨#[97, 47, 111]⟩, .string ⟨#[102]⟩] w fun e w' => e = .returned (.tuple #[.int .u32 64, .bool true]) ∧ New w w' := by
  obtain ⟨PA, pc, rfl, _⟩ := own_form hpr
  have q := addr_any (progB pr1).places o1 s1 w (hml.mach.cell' 1 _ rfl) rfl (Rd.of_own hpr) (fun p hp => by rw [show p = _ from List.mem_singleton.1 hp]; exact ⟨by decide, by decide⟩) (by decide)
  rw [addr1] at q
  exact q
theorem len1 : (memC code1).length = 76 := by rw [memC_len]; rfl
theorem call_pr1 {w : World} {m g mc : Nat} {PL : Value} (hM : MM w m g mc PL (memC code1)) :
    Calls Tryz.prog 19 #[.pointer (some ⟨m, 0, none⟩), .int .u32 64, .string ⟨#[]⟩, .int .i64 9, .slice (some ⟨w.heap.size, 0, none⟩) 1 1] (w.alloc (.cells #[.int .u32 21] 36)) (RetP (w.alloc (.cells #[.int .u32 21] 36)) m g mc PL ⟨42, [], 4, 0, memC code1⟩) := by
  have nB := (New.refl w).alloc (.cells #[.int .u32 21] 36)
  have q := mcall_any (a := 64) (inp := []) (args := [21]) (c := 1) (L := 9) (hM.new nB) (rd_one w (.int .u32 21) 36) ((hM.new nB).row.lt g rfl).2 (by decide) (fun x hx => by rw [List.mem_singleton.1 hx]; decide) (by rw [len1]; decide)
  rw [ex1] at q
  exact q
theorem places4 {B n m g mc : Nat} {w2 w3 w4 : World} {v PL : Value} {ys : List Value} {mem : List UInt8} (hpr : w2.ownsRow B 52 5 v n ys) (hM : MM w2 m g mc PL mem) (hn : New w2 w3) (g4 : w3.grownBy w4 (some g)) : w4.ownsRow B 52 5 v n ys := by
  have h3 := own_at hpr fun j _ e _ => hn.block j (hpr.lt j e).2
  obtain ⟨cs, hcs⟩ := own_type (hM.new hn).row (k := g) rfl
  exact own_grown h3 g4 (fun j e e2 => own_apart h3 hcs (by decide) (e.trans e2.symm))
theorem at1 : atV (memC code1) 64 = (131329, 0) := by decide +kernel
theorem word_pr1 {w : World} {m g mc : Nat} {PL : Value} (hM : MM w m g mc PL (memC code1)) (W : World) (hn : New w W) :
    Calls Tryz.prog 27 #[.pointer (some ⟨m, 0, none⟩), .int .u32 64] W fun e w' => e = .returned (.tuple #[.int .u32 131329, .int .i64 0]) ∧ New W w' := by
  have q := mat_any 64 W (hM.new hn) (by rw [len1]; decide) (by decide)
  rw [at1] at q
  exact q
def cells2 (h : BH) : Array Value := #[.int .i64 1, .int .i64 0, .string ⟨#[0, 0, 6, 7, 1, 5, 0, 0, 0, 13]⟩, .slice h.a1 1 h.c1, .slice h.a2 0 h.c2, .slice h.a3 0 h.c3, .slice h.a4 0 h.c4, .slice h.a5 0 h.c5]
theorem prog2 (W : World) : Calls Tryz.prog 22 #[.string ⟨#[0, 0, 6, 7, 1, 5, 0, 0, 0, 13]⟩] W fun e w' => ∃ a1 c1 a2 c2 a3 c3 a4 c4 a5 c5, e = .returned (.agg #[.int .i64 1, .int .i64 0, .string ⟨#[0, 0, 6, 7, 1, 5, 0, 0, 0, 13]⟩, .slice a1 1 c1, .slice a2 0 c2, .slice a3 0 c3, .slice a4 0 c4, .slice a5 0 c5]) ∧ New W w' ∧ BRd w' (progB pr2) ⟨a1, c1, a2, c2, a3, c3, a4, c4, a5, c5⟩ :=
  (program_any pr2 W).mono fun e w' ⟨⟨a1, c1, a2, c2, a3, c3, a4, c4, a5, c5⟩, he, hn, hb⟩ => ⟨a1, c1, a2, c2, a3, c3, a4, c4, a5, c5, he, hn, hb⟩
theorem run4 {a1 a2 a3 a4 a5 : Option Addr} {c1 c2 c3 c4 c5 : Nat} (W : World) (hb : BRd W (progB pr2) ⟨a1, c1, a2, c2, a3, c3, a4, c4, a5, c5⟩) (hE : Env W) : Calls Tryz.prog 12 #[.agg #[.int .i64 1, .int .i64 0, .string ⟨#[0, 0, 6, 7, 1, 5, 0, 0, 0, 13]⟩, .slice a1 1 c1, .slice a2 0 c2, .slice a3 0 c3, .slice a4 0 c4, .slice a5 0 c5], .slice none 0 0, .string ⟨#[120, 121]⟩, .int .i64 4] W fun e w' => e = .returned (.tuple #[.agg #[.int .u32 5, .string ⟨#[120]⟩, .int .i64 4], .int .i64 0]) ∧ New W w' := by
  have q := frun_any (progB pr2) ⟨a1, c1, a2, c2, a3, c3, a4, c4, a5, c5⟩ none 0 0 [] [120, 121] 4 W hb (sz_prog _ (by decide)) (lsrd_nil W) (fun x hx => by cases hx) hE
  rw [run2] at q
  exact q
theorem run5 {a1 a2 a3 a4 a5 : Option Addr} {c1 c2 c3 c4 c5 : Nat} (W : World) (hb : BRd W (progB pr2) ⟨a1, c1, a2, c2, a3, c3, a4, c4, a5, c5⟩) (hE : Env W) : Calls Tryz.prog 12 #[.agg #[.int .i64 1, .int .i64 0, .string ⟨#[0, 0, 6, 7, 1, 5, 0, 0, 0, 13]⟩, .slice a1 1 c1, .slice a2 0 c2, .slice a3 0 c3, .slice a4 0 c4, .slice a5 0 c5], .slice none 0 0, .string ⟨#[120, 121]⟩, .int .i64 3] W fun e w' => ∃ (v : Int) (o : ByteArray) (k : Int), e = .returned (.tuple #[.agg #[.int .u32 v, .string o, .int .i64 k], .int .i64 16]) ∧ New W w' := by
  have q := frun_any (progB pr2) ⟨a1, c1, a2, c2, a3, c3, a4, c4, a5, c5⟩ none 0 0 [] [120, 121] 3 W hb (sz_prog _ (by decide)) (lsrd_nil W) (fun x hx => by cases hx) hE
  rw [run3] at q
  exact q.mono fun e w' ⟨he, hn⟩ => ⟨_, _, _, he, hn⟩
theorem neq_ptr {P : Program} (w : World) {tp te : TypeId} {j : TypeInfo} {a b : Addr} {ca cb : Array Value} {ta tb : TypeId} (hp : P.underlying tp = some (.pointer te)) (hte : P.info? te = some j) (hsz : j.size ≠ 0)
    (hne : a ≠ b) (ha : w.heap[a.block]? = some (.cells ca ta (0, 0))) (hb : w.heap[b.block]? = some (.cells cb tb (0, 0))) :
    (binOp .neq tp (.pointer (some a)) (.pointer (some b))).run P w = .ok (.bool true) w := by
  have h : ∀ d : Nat, (Op.equalIn (d + 1) tp (.pointer (some a)) (.pointer (some b))).run P w = .ok false w := fun d => by
    simp [Op.equalIn, run_underlying hp, sizeOf, typeInfo, hte, hsz, run_sameAddr_other w hne ha hb]
  simp only [binOp]
  simp [Op.equal, Op.maxDepth, h 9999]
theorem Tryz.info75s : ∃ j, Tryz.prog.info? 75 = some j ∧ j.size ≠ 0 := by
  have h : (Tryz.prog.info? 75).map (fun j => j.size) = some 2 := by kernel_rfl
  cases hj : Tryz.prog.info? 75 with
  | none => rw [hj] at h; cases h
  | some j => rw [hj] at h; injection h with h; exact ⟨j, rfl, fun e => by have h2 : j.size = 2 := h; omega⟩
set_option maxRecDepth 100000 in
set_option maxHeartbeats 16000000 in
theorem awake_any (w : World) (hE : Env w) : Calls Tryz.prog 10 #[] w fun e w' => e = .returned (.bool true) ∧ New w w' := by
  obtain ⟨j75, hj1, hj2⟩ := Tryz.info75s
  have HP1 := Lib.hid (fun W => program_any pr1 W)
  have HP2 := Lib.hid (fun W => program_any pr2 W)
  unfold pr1 at HP1
  have HL1 := Lib.hid (fun (h : BH) W (hn : New w W) (hr : BRd W (progB pr1) h) => (show Calls Tryz.prog 14 #[.agg (bcells (progB pr1) h), .slice none 0 0] W (LoadP W 1 ((progB pr1).places.flatMap plC) (.ok (memC code1))) from load1 ▸ fload_any (progB pr1) h none 0 0 [] W hr (sz_prog _ (by decide)) (lsrd_nil W) (fun x hx => by cases hx) (hE.new hn)))
  unfold pr1 at HL1
  go_enter Tryz.func10, Tryz.ntmps10
  go_wp2_with (first
    | (go_at_call 23; have hq8 := n8; have nAll := ((((((((New.refl w4).alloc (.cells #[.int .u32 42, .string (S []), .int .i64 4] 38)).trans n5).trans n6).alloc _).trans n7).alloc _).trans n8).alloc (.cells #[.int .u32 rv, .string ro, .int .i64 rk] 38); (with_reducible refine (clone_any (hM4.new nAll) ((Rd.of_own hpr4).below nAll) (plC_one _) (by rw [len1]; decide) (by decide)).mono ?_); intro e w9 hq; obtain ⟨m', MV', PV', rfl, hml', hpr'⟩ := hq; have hmne : ¬ m' = m := (fun e => by have q1 := hml'.m0; have q2 := (hM4.new nAll).mach.lt; omega); have hmq : (m' == m) = false := beq_eq_false_iff_ne.2 hmne; have hma : ¬ (⟨m', 0, none⟩ : Addr) = ⟨m, 0, none⟩ := (fun e => hmne (congrArg Addr.block e)); have hmb : ((⟨m', 0, none⟩ : Addr) == ⟨m, 0, none⟩) = false := beq_eq_false_iff_ne.2 hma; have hsa := neq_ptr (P := Tryz.prog) w9 Tryz.underlying45 hj1 hj2 hma hml'.mach ((hM4.new nAll).mach.new hml'.nw); have n9 := (n4.trans nAll).trans hml'.nw; have R5 := (Blk.made w4 38 #[.int .u32 42, .string (S []), .int .i64 4]).new (((((n5.trans n6).alloc (.cells #[.int .i64 1, .int .i64 0, .string ⟨#[0, 0, 6, 7, 1, 5, 0, 0, 0, 13]⟩, .slice a1 1 c1, .slice a2 0 c2, .slice a3 0 c3, .slice a4 0 c4, .slice a5 0 c5] 28)).trans n7).alloc (.cells #[.int .u32 5, .string ⟨#[120]⟩, .int .i64 4] 38)).trans n8 |>.alloc (.cells #[.int .u32 rv, .string ro, .int .i64 rk] 38) |>.trans hml'.nw); have R10 := (Blk.made w7 38 #[.int .u32 5, .string ⟨#[120]⟩, .int .i64 4]).new ((n8.alloc (.cells #[.int .u32 rv, .string ro, .int .i64 rk] 38)).trans hml'.nw); have x0 := R5.cell' 0 _ rfl; have x1 := R5.cell' 1 _ rfl; have x2 := R5.cell' 2 _ rfl; have y0 := R10.cell' 0 _ rfl; have y1 := R10.cell' 1 _ rfl; have y2 := R10.cell' 2 _ rfl; have hs0 : S [] = (⟨#[]⟩ : ByteArray) := rfl)
    | (go_at_call 12; have hq7 := n7; (with_reducible refine (run5 _ b7 (hE.new n7c)).mono ?_); intro e w8 hq; obtain ⟨rv, ro, rk, rfl, n8⟩ := hq)
    | (go_at_call 22; have hq5 := n5; (with_reducible refine (prog2 _).mono ?_); intro e w6 hq; obtain ⟨a1, c1, a2, c2, a3, c3, a4, c4, a5, c5, rfl, n6, b6⟩ := hq; have n6' := ((n5'.trans n6).alloc (.cells #[.int .i64 1, .int .i64 0, .string ⟨#[0, 0, 6, 7, 1, 5, 0, 0, 0, 13]⟩, .slice a1 1 c1, .slice a2 0 c2, .slice a3 0 c3, .slice a4 0 c4, .slice a5 0 c5] 28)); have b6' := b6.new ((New.refl w6).alloc (.cells #[.int .i64 1, .int .i64 0, .string ⟨#[0, 0, 6, 7, 1, 5, 0, 0, 0, 13]⟩, .slice a1 1 c1, .slice a2 0 c2, .slice a3 0 c3, .slice a4 0 c4, .slice a5 0 c5] 28)); have BB := Blk.made w6 28 #[.int .i64 1, .int .i64 0, .string ⟨#[0, 0, 6, 7, 1, 5, 0, 0, 0, 13]⟩, .slice a1 1 c1, .slice a2 0 c2, .slice a3 0 c3, .slice a4 0 c4, .slice a5 0 c5]; have g0 := BB.cell' 0 _ rfl; have g1 := BB.cell' 1 _ rfl; have g2 := BB.cell' 2 _ rfl; have g3 := BB.cell' 3 _ rfl; have g4' := BB.cell' 4 _ rfl; have g5 := BB.cell' 5 _ rfl; have g6 := BB.cell' 6 _ rfl; have g7 := BB.cell' 7 _ rfl)
    | (go_at_call 12; (with_reducible refine (run4 _ b6' (hE.new n6')).mono ?_); rintro e w7 ⟨rfl, n7⟩; have n7' := n6'.trans n7; have BB7 := (BB.new n7).alloc (.cells #[.int .u32 5, .string ⟨#[120]⟩, .int .i64 4] 38); have n7c := n7'.alloc (.cells #[.int .u32 5, .string ⟨#[120]⟩, .int .i64 4] 38); have b7 := (b6'.new n7).new ((New.refl w7).alloc (.cells #[.int .u32 5, .string ⟨#[120]⟩, .int .i64 4] 38)); have k0 := BB7.cell' 0 _ rfl; have k1 := BB7.cell' 1 _ rfl; have k2 := BB7.cell' 2 _ rfl; have k3 := BB7.cell' 3 _ rfl; have k4 := BB7.cell' 4 _ rfl; have k5 := BB7.cell' 5 _ rfl; have k6 := BB7.cell' 6 _ rfl; have k7 := BB7.cell' 7 _ rfl)
    | (go_at_call 14; (with_reducible refine (HL1.out h1 _ n1 b1).mono ?_); intro e w2 hq; obtain ⟨m, PV, rfl, ⟨MV, hml⟩, hpr⟩ := hq; obtain ⟨PA, pcp, rfl, _⟩ := own_form hpr; have HAD := Lib.hid (addr_pr1 hml hpr); have n2 := n1.trans hml.nw)
    | (go_at_call 16; (with_reducible refine HAD.out.mono ?_); rintro e w3 ⟨rfl, n3⟩; obtain ⟨g, mc, rfl, hg0, hM⟩ := hml.mm (by rw [len1]; decide); have HC := Lib.hid (call_pr1 (hM.new n3)); have nW := (n2.trans n3).alloc (.cells #[.int .u32 21] 36))
    | (go_at_call 19; (with_reducible refine HC.out.mono ?_); intro e w4 hq; obtain ⟨rfl, hM4, g4⟩ := hq; have n4 : New w w4 := Below.grown nW g4 nW.size (fun k e => by have := Option.some.inj e; have := n1.size; omega); have HW := Lib.hid (word_pr1 hM4); have hpr4 := places4 hpr hM (n3.alloc _) g4)
    | (go_at_call 27; (with_reducible refine (HW.out _ ((New.refl _).alloc _)).mono ?_); rintro e w5 ⟨rfl, n5⟩; have n5' := (n4.alloc _).trans n5)
    | (go_at_call 22; (with_reducible refine (HP1.out _).mono ?_); intro e w1 hq; obtain ⟨h1, rfl, n1, b1⟩ := hq))
  go_ret
  exact ⟨rfl, n9⟩
end Go.Proofs.YtnjampfhkojbnaaGreatDoor

namespace Go.Proofs.YtnjampfhkojbnaaGreatDoor
open Go Go.RowKit

theorem runP_zero {p : Bn} {l : List LbD} {inp : List UInt8} {L : Int} (h : (runP p l inp L).e ≠ 0) : (runP p l inp L).value = 0 ∧ (runP p l inp L).out = [] ∧ (runP p l inp L).steps = 0 := by
  unfold runP runE at h ⊢
  split
  · exact ⟨rfl, rfl, rfl⟩
  · rename_i mm hm
    rw [hm] at h
    exact callV_zero h
theorem runP_ok {p : Bn} {l : List LbD} {inp : List UInt8} {L : Int} (h : (runP p l inp L).e = 0) : ∃ mm, loadV p l = .ok mm := by
  unfold runP runE at h
  split at h
  · rename_i cc hc
    exact absurd h (code_ne hc)
  · rename_i mm hm
    exact ⟨mm, hm⟩
theorem runP_of {p : Bn} {l : List LbD} {mm : List UInt8} (h : loadV p l = .ok mm) (inp : List UInt8) (L : Int) : runP p l inp L = callV mm 64 inp L [] := by
  unfold runP runE; rw [h]
theorem runP_longer {p : Bn} {l : List LbD} {inp : List UInt8} {L : Int} (h : (runP p l inp L).e = 0) :
    1 ≤ (runP p l inp L).steps ∧ ((runP p l inp L).steps : Int) ≤ L ∧ runP p l inp 65536 = runP p l inp L ∧ runP p l inp (runP p l inp L).steps = runP p l inp L ∧
    (1 < (runP p l inp L).steps → (runP p l inp ((runP p l inp L).steps - 1 : Int)).e = 16) := by
  obtain ⟨mm, hm⟩ := runP_ok h
  simp only [runP_of hm] at h ⊢
  exact callV_longer h
theorem runP_inputs {p : Bn} {l : List LbD} {inp : List UInt8} {L : Int} (h : (runP p l inp L).e = 0) (hn : (runP p l inp L).steps ≤ inp.length) (r : List UInt8) (hr : (runP p l inp L).steps + r.length ≤ 65536) :
    runP p l (inp.take (runP p l inp L).steps ++ r) L = runP p l inp L := by
  obtain ⟨mm, hm⟩ := runP_ok h
  simp only [runP_of hm] at h hn hr ⊢
  refine callV_inputs h ?_ (agr_take _ _ _ hn)
  rw [List.length_append, List.length_take]
  omega
theorem rs_e_le {p : Bn} {l : List LbD} {inp : List UInt8} {L : Int} (h : (runP p l inp L).e = 0) : (runP p l inp L).steps ≤ 65536 := by
  obtain ⟨h1, h2, h3, h4, h5⟩ := runP_longer h
  have h6 : (runP p l inp 65536).e = 0 := by rw [h3]; exact h
  have := (runP_longer h6).2.1
  rw [h3] at this
  omega
end Go.Proofs.YtnjampfhkojbnaaGreatDoor

