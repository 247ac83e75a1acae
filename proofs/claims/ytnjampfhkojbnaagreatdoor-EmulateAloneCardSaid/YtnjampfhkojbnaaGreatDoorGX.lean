/- The law's address: some 32-bit number. Conditions: the count of places. Plain: a binary with one right note in place of its own loads as it does. The law EmulateAlone: it answers true. Conditions: none but the world's. (Printed by mk-xc.py.) -/
import Derived.Test.YtnjampfhkojbnaaGreatDoorGU4
import Derived.Test.YtnjampfhkojbnaaGreatDoorGU7
import Derived.BigQuiet
import Derived.Test.YtnjampfhkojbnaaGreatDoorGY1
import Derived.Test.YtnjampfhkojbnaaGreatDoorGR4

namespace Go.Proofs.YtnjampfhkojbnaaGreatDoor
open Go Go.RowKit Go.Shelf
set_option linter.unusedSimpArgs false
set_option linter.unusedVariables false

theorem uwrap_mod (i : Int) : IntKind.u64.wrap i = i % 18446744073709551616 := by
  simp [IntKind.wrap, IntKind.signed, IntKind.bits]
theorem uwrap_in (i : Int) : 0 ≤ IntKind.u64.wrap i ∧ IntKind.u64.wrap i < 18446744073709551616 := by rw [uwrap_mod]; omega
theorem uwrap_eq {n : Nat} (h : n < 18446744073709551616) : IntKind.u64.wrap (n : Int) = (n : Int) := by rw [uwrap_mod]; omega
set_option maxRecDepth 100000 in
set_option maxHeartbeats 4000000 in
theorem address_any (b : Bn) (h : BH) (x : CaD) (w : World) (hr : BRd w b h) (hn : b.places.length ≤ 1000000) :
    Calls Tryz.prog 20 #[.agg (bcells b h), .agg #[.int .i64 x.place, .int .i64 x.off, .string x.inp, .int .i64 x.lim, .slice x.at' x.n x.cap]] w fun e w' => (∃ a : Nat, a < 4294967296 ∧ e = .returned (.int .u32 (a : Int))) ∧ New w w' := by
  have HR := Lib.hid hr.r1
  clear hr
  obtain ⟨kind, entry, image, places, fix, imps, exps, notes⟩ := b
  obtain ⟨a1, c1, a2, c2, a3, c3, a4, c4, a5, c5⟩ := h
  obtain ⟨pp, po, pi, pl, pa, pn, pc⟩ := x
  simp only [bcells] at *
  generalize hN : places.length = n1 at *
  generalize fix.length = n2 at *
  generalize imps.length = n3 at *
  generalize exps.length = n4 at *
  generalize notes.length = n5 at *
  have n0 := ((New.refl w).alloc (.cells #[.int .i64 kind, .int .i64 entry, .string image, .slice a1 n1 c1, .slice a2 n2 c2, .slice a3 n3 c3, .slice a4 n4 c4, .slice a5 n5 c5] 28)).alloc (.cells #[.int .i64 pp, .int .i64 po, .string pi, .int .i64 pl, .slice pa pn pc] 32)
  have B0 := (Blk.made w 28 #[.int .i64 kind, .int .i64 entry, .string image, .slice a1 n1 c1, .slice a2 n2 c2, .slice a3 n3 c3, .slice a4 n4 c4, .slice a5 n5 c5]).alloc (.cells #[.int .i64 pp, .int .i64 po, .string pi, .int .i64 pl, .slice pa pn pc] 32)
  have B1 : Blk ((w.alloc (.cells #[.int .i64 kind, .int .i64 entry, .string image, .slice a1 n1 c1, .slice a2 n2 c2, .slice a3 n3 c3, .slice a4 n4 c4, .slice a5 n5 c5] 28)).alloc (.cells #[.int .i64 pp, .int .i64 po, .string pi, .int .i64 pl, .slice pa pn pc] 32)) (w.heap.size + 1) 32 #[.int .i64 pp, .int .i64 po, .string pi, .int .i64 pl, .slice pa pn pc] := by
    have q := Blk.made (w.alloc (.cells #[.int .i64 kind, .int .i64 entry, .string image, .slice a1 n1 c1, .slice a2 n2 c2, .slice a3 n3 c3, .slice a4 n4 c4, .slice a5 n5 c5] 28)) 32 #[.int .i64 pp, .int .i64 po, .string pi, .int .i64 pl, .slice pa pn pc]
    rwa [show (w.alloc (.cells #[.int .i64 kind, .int .i64 entry, .string image, .slice a1 n1 c1, .slice a2 n2 c2, .slice a3 n3 c3, .slice a4 n4 c4, .slice a5 n5 c5] 28)).heap.size = w.heap.size + 1 from Array.size_push ..] at q
  by_cases h0 : 0 < n1
  · obtain ⟨u, e1⟩ : ∃ u : Nat, IntKind.u64.wrap pp = (u : Int) := ⟨(IntKind.u64.wrap pp).toNat, by have := uwrap_in pp; omega⟩
    have hu : u < 18446744073709551616 := by have := uwrap_in pp; omega
    obtain ⟨k, hk⟩ : ∃ k, u % n1 = k := ⟨_, rfl⟩
    have hkn : k < n1 := hk ▸ Nat.mod_lt _ h0
    have e2 : IntKind.u64.wrap (n1 : Int) = (n1 : Int) := uwrap_eq (by omega)
    have e3 : Int.tmod (u : Int) (n1 : Int) = (k : Int) := by rw [← hk]; rfl
    have e4 : IntKind.u64.wrap (k : Int) = (k : Int) := uwrap_eq (by omega)
    have e5 : IntKind.i64.wrap (k : Int) = (k : Int) := IntWalk.i64_in _ (by omega)
    have e6 : ¬ n1 = 0 := by omega
    have e7 : ((n1 : Int) == 0) = false := by rw [beq_eq_false_iff_ne]; omega
    obtain ⟨bk, oo, rfl, hbk, p, hp, hcell⟩ := rd_row (f := plC) (k := 5) (fun _ => rfl) hN (HR.out.below n0) hkn
    obtain ⟨qo, qs, qk, qp, qz⟩ := p
    have q3 := hcell 3 (.int .i64 qp) (by omega) rfl
    rw [← Nat.add_assoc] at q3
    clear hcell hp hk hu
    go_enter Tryz.func20, Tryz.ntmps20
    go_upto_region 3 with (fail)
    generalize (w.alloc (.cells #[.int .i64 kind, .int .i64 entry, .string image, .slice (some ⟨bk, oo, none⟩) n1 c1, .slice a2 n2 c2, .slice a3 n3 c3, .slice a4 n4 c4, .slice a5 n5 c5] 28)).alloc (.cells #[.int .i64 pp, .int .i64 po, .string pi, .int .i64 pl, .slice pa pn pc] 32) = w0 at *
    generalize w.heap.size = b0 at B0 B1 ⊢
    generalize b0 + 1 = b1 at *
    have x3 := B0.cell' 3 _ rfl
    have y0 := B1.cell' 0 _ rfl
    go_quiet (fail)
    go_wp2
    refine bodyPost_ret (v := .int .u32 (((64 + po % 4294967296) % 4294967296 + qp % 4294967296) % 4294967296)) (by simp [results, Tryz.results20, go_sem]) rfl ⟨⟨(((64 + po % 4294967296) % 4294967296 + qp % 4294967296) % 4294967296).toNat, by omega, by rw [Int.toNat_of_nonneg (by omega)]⟩, n0.trans ((New.refl w0).drewN nq)⟩
  · have h1 := h0
    go_enter Tryz.func20, Tryz.ntmps20
    go_wp2
    refine bodyPost_ret (v := .int .u32 ((64 + po % 4294967296) % 4294967296)) (by simp [results, Tryz.results20, go_sem]) rfl ⟨⟨((64 + po % 4294967296) % 4294967296).toNat, by omega, by rw [Int.toNat_of_nonneg (by omega)]⟩, n0⟩
end Go.Proofs.YtnjampfhkojbnaaGreatDoor

namespace Go.Proofs.YtnjampfhkojbnaaGreatDoor
open Go Go.RowKit
set_option linter.unusedSimpArgs false
set_option linter.unusedVariables false

def ntB : NtD := ⟨⟨#[111, 110, 108, 121]⟩, ⟨#[110, 110, 110, 110, 110, 110, 110, 110, 110]⟩⟩
def withN (b : Bn) : Bn := ⟨b.kind, b.entry, b.image, b.places, b.fix, b.imps, b.exps, [ntB]⟩
theorem noted_one : notedV [ntB] = true := by decide
theorem chk_withN {b : Bn} (h : chkE b = 0) : chkE (withN b) = 0 := by
  have h1 := chk_true h
  unfold checkV at h1
  simp only [Bool.and_eq_true] at h1
  obtain ⟨⟨⟨h1, h2⟩, h3⟩, h4⟩ := h1
  have h5 : checkV (withN b) = true := by
    unfold checkV
    rw [Bool.and_eq_true, Bool.and_eq_true, Bool.and_eq_true]
    exact ⟨⟨⟨h1, h2⟩, noted_one⟩, h4⟩
  unfold chkE
  rw [if_pos h5]
theorem load_chk {b : Bn} {l : List LbD} {mm : List UInt8} (h : loadV b l = .ok mm) : validP b l = true := by
  unfold loadV at h
  split at h
  · assumption
  · cases h
theorem valid_chk {b : Bn} {l : List LbD} (h : validP b l = true) : chkE b = 0 := by
  unfold validP at h
  simp only [Bool.and_eq_true, decide_eq_true_eq] at h
  exact h.1.1.1
theorem load_withN {b : Bn} {l : List LbD} {mm : List UInt8} (h : loadV b l = .ok mm) : loadV (withN b) l = .ok mm := by
  have hv := load_chk h
  have hc := valid_chk hv
  have hv2 : validP (withN b) l = true := by
    unfold validP at hv ⊢
    simp only [Bool.and_eq_true, decide_eq_true_eq] at hv ⊢
    exact ⟨⟨⟨chk_withN hc, hv.1.1.2⟩, hv.1.2⟩, hv.2⟩
  unfold loadV at h ⊢
  rw [if_pos hv] at h
  rw [if_pos hv2]
  exact h
theorem szb_withN {b : Bn} (h : SzB b) : SzB (withN b) := ⟨h.pl, fun p hp => by
  rcases List.mem_singleton.1 hp with rfl
  decide, h.im, h.fx, h.img, h.l1, h.l2, h.l3, h.l4, by show 1 ≤ 1000000; decide⟩
theorem rep_n : (Lib.repeatL (ByteArray.mk #[110]).data.toList 9).toArray = #[110, 110, 110, 110, 110, 110, 110, 110, 110] := by decide
end Go.Proofs.YtnjampfhkojbnaaGreatDoor

namespace Go.Proofs.YtnjampfhkojbnaaGreatDoor
open Go Go.RowKit Go.Shelf
set_option linter.unusedSimpArgs false
set_option linter.unusedVariables false

theorem Blk.by_mm {w w' : World} {B m g mc : Nat} {t : TypeId} {cs : Array Value} {PL : Value} {mem : List UInt8} (h : Blk w B t cs) (hM : MM w m g mc PL mem) (hg : w.grownBy w' (some g)) (ht : t ≠ 5) : Blk w' B t cs :=
  h.grown hg (fun e => own_apart hM.row h ht (by rw [← Option.some.inj e]; rfl))
theorem MM.far {w w' : World} {m g mc m1 g1 mc1 : Nat} {PL PL1 : Value} {mem mem1 : List UInt8} (h : MM w m g mc PL mem) (hM : MM w m1 g1 mc1 PL1 mem1) (hg : w.grownBy w' (some g1)) (hne : g ≠ g1) : MM w' m g mc PL mem :=
  ⟨h.mach.by_mm hM hg (by decide), own_grown h.row hg (fun k e e2 => hne (by injection e with e; injection e2 with e2; simp only at e; omega))⟩
theorem load_some {W w' : World} {n1 : Nat} {ys : List Value} {R : Except Int (List UInt8)} {e : Ending} (h : LoadP W n1 ys R e w') : ∃ V1 V2, e = .returned (.tuple #[.pointer V1, .int .i64 V2]) ∧ New W w' := by
  cases R with
  | error c => exact ⟨_, _, h.1, h.2⟩
  | ok mm =>
    obtain ⟨m, PV, rfl, ⟨MV, hml⟩, _⟩ := h
    exact ⟨_, _, rfl, hml.nw⟩
theorem rep9 (w : World) : Calls Tryz.prog 25 #[.string ⟨#[110]⟩, .int .i64 9] w fun e w' => e = .returned (.string ⟨#[110, 110, 110, 110, 110, 110, 110, 110, 110]⟩) ∧ New w w' := by
  have q := Tryz.strings_Repeat ⟨#[110]⟩ 9 w (by decide) (by decide)
  rw [rep_n] at q
  exact q
set_option maxRecDepth 100000 in
set_option maxHeartbeats 16000000 in
theorem law_alone (b : Bn) (h : BH) (A : Option Addr) (n c : Nat) (l : List LbD) (x : CaD) (args : List Nat) (w : World) (hr : BRd w b h) (hb : LensB b) (hw : W64B b) (hl : LsRd w A n l) (hn : n ≤ 9223372036854775807) (hlb : ∀ x ∈ l, LensB x.bin ∧ W64B x.bin) (hx : CaOK w x args) (hE : Env w) :
    Calls Tryz.prog 9 #[.agg (bcells b h), .slice A n c, .agg #[.int .i64 x.place, .int .i64 x.off, .string x.inp, .int .i64 x.lim, .slice x.at' x.n x.cap]] w fun e w' => e = .returned (.bool true) ∧ New w w' := by
  have HF := Lib.hid (fun W (hnw : New w W) B (hB : Blk W B 32 (caC x).toArray) => few_one (c := c) x hr hb hl hn hlb W hnw B hB)
  have HL1 := Lib.hid (fun (hf : FewAll b l [x]) W (hnw : New w W) => fload_any b h A n c l W (hr.new hnw) (hf.1.szb hw) (hl.new hnw) (fun x hx => few_lib (hf.2.1.2 x hx) (hlb x hx).2) (hE.new hnw))
  have HL2 := Lib.hid (fun (hf : FewAll b l [x]) W (hnw : New w W) B (hB : Blk W B 66 #[.string ⟨#[111, 110, 108, 121]⟩, .string ⟨#[110, 110, 110, 110, 110, 110, 110, 110, 110]⟩]) => fload_any (withN b) ⟨h.a1, h.c1, h.a2, h.c2, h.a3, h.c3, h.a4, h.c4, some ⟨B, 0, none⟩, 1⟩ A n c l W
    (⟨(hr.new hnw).r1, (hr.new hnw).r2, (hr.new hnw).r3, (hr.new hnw).r4, ⟨rfl, fun _ => ⟨B, 0, rfl, hB.lt, fun j v hv => by rw [Nat.zero_add]; exact hB.cell' j v (by rw [← Array.getElem?_toList]; exact hv)⟩⟩⟩)
    (szb_withN (hf.1.szb hw)) (hl.new hnw) (fun x hx => few_lib (hf.2.1.2 x hx) (hlb x hx).2) (hE.new hnw))
  have HCK := Lib.hid (fun (hf : FewAll b l [x]) W (hnw : New w W) => rcheck_any b h W (hr.new hnw) (hf.1.szb hw))
  have HAD := Lib.hid (fun (hf : FewAll b l [x]) W (hnw : New w W) => address_any b h ⟨x.place, 0, ⟨#[]⟩, 0, none, 0, 0⟩ W (hr.new hnw) (by have := hf.1.l1; omega))
  have HN1 := Lib.hid (fun hf : FewAll b l [x] => hf.1.l1)
  have HVL := Lib.hid (fun (hf : FewAll b l [x]) mm (hm : loadV b l = .ok mm) => loadV_len (fun x hx => (few_lib (hf.2.1.2 x hx) (hlb x hx).2).1.pl) hm)
  have HVE := Lib.hid (fun cc (hm : loadV b l = .error cc) => code_ne hm)
  have HVN := Lib.hid (fun mm (hm : loadV b l = .ok mm) => load_withN hm)
  have HVC := Lib.hid (fun mm (hm : loadV b l = .ok mm) => valid_chk (load_chk hm))
  have HE := Lib.hid hE
  have HY := Lib.hid (plC_one b.places)
  have HX := Lib.hid (fun (W : World) (hnw : New w W) (mm : List UInt8) (hmm : mm.length ≤ 100000000) (m g mc a : Nat) (PL : Value) (hM : MM W m g mc PL mm) (ha : a < 4294967296) => (show Calls Tryz.prog 19 #[.pointer (some ⟨m, 0, none⟩), .int .u32 (a : Int), .string x.inp, .int .i64 x.lim, .slice x.at' x.n x.cap] W (RetP W m g mc PL (callV mm a x.inp.data.toList x.lim args)) from by
    have q := mcall_any (a := a) (inp := x.inp.data.toList) (A := x.at') (args := args) (c := x.cap) (L := x.lim) hM (by rw [hx.len]; exact hx.rd.below hnw) (hM.row.lt g rfl).2 ha hx.w32 (by omega)
    rw [S_data, hx.len] at q
    exact q))
  unfold FewAR at HF
  generalize loadV b l = V1 at *
  generalize loadV (withN b) l = V2 at *
  generalize chkE b = CB at *
  generalize FewAll b l [x] = FS at *
  clear hr hb hw hl hn hlb hE hx
  obtain ⟨pp, po, pi, pl, pa, pn, pc⟩ := x
  simp only [caC] at *
  obtain ⟨kind, entry, image, places, fix, imps, exps, notes⟩ := b
  obtain ⟨a1, c1, a2, c2, a3, c3, a4, c4, a5, c5⟩ := h
  simp only [bcells, withN, List.length_singleton] at *
  generalize places.flatMap plC = ys at *
  generalize places.length = n1 at *
  generalize fix.length = n2 at *
  generalize imps.length = n3 at *
  generalize exps.length = n4 at *
  generalize notes.length = n5 at *
  have B0 := (Blk.made w 28 #[.int .i64 kind, .int .i64 entry, .string image, .slice a1 n1 c1, .slice a2 n2 c2, .slice a3 n3 c3, .slice a4 n4 c4, .slice a5 n5 c5]).alloc (.cells #[.int .i64 pp, .int .i64 po, .string pi, .int .i64 pl, .slice pa pn pc] 32)
  have B1 : Blk ((w.alloc (.cells #[.int .i64 kind, .int .i64 entry, .string image, .slice a1 n1 c1, .slice a2 n2 c2, .slice a3 n3 c3, .slice a4 n4 c4, .slice a5 n5 c5] 28)).alloc (.cells #[.int .i64 pp, .int .i64 po, .string pi, .int .i64 pl, .slice pa pn pc] 32)) (w.heap.size + 1) 32 #[.int .i64 pp, .int .i64 po, .string pi, .int .i64 pl, .slice pa pn pc] := by
    have q := Blk.made (w.alloc (.cells #[.int .i64 kind, .int .i64 entry, .string image, .slice a1 n1 c1, .slice a2 n2 c2, .slice a3 n3 c3, .slice a4 n4 c4, .slice a5 n5 c5] 28)) 32 #[.int .i64 pp, .int .i64 po, .string pi, .int .i64 pl, .slice pa pn pc]
    rwa [show (w.alloc (.cells #[.int .i64 kind, .int .i64 entry, .string image, .slice a1 n1 c1, .slice a2 n2 c2, .slice a3 n3 c3, .slice a4 n4 c4, .slice a5 n5 c5] 28)).heap.size = w.heap.size + 1 from Array.size_push ..] at q
  have m0 : New w ((w.alloc (.cells #[.int .i64 kind, .int .i64 entry, .string image, .slice a1 n1 c1, .slice a2 n2 c2, .slice a3 n3 c3, .slice a4 n4 c4, .slice a5 n5 c5] 28)).alloc (.cells #[.int .i64 pp, .int .i64 po, .string pi, .int .i64 pl, .slice pa pn pc] 32)) := ((New.refl w).alloc _).alloc _
  cases V1 with
  | error cc =>
    have hce := cne_t (HVE.out cc rfl)
    go_enter Tryz.func9, Tryz.ntmps9
    go_upto_region 1 with (fail)
    generalize (w.alloc (.cells #[.int .i64 kind, .int .i64 entry, .string image, .slice a1 n1 c1, .slice a2 n2 c2, .slice a3 n3 c3, .slice a4 n4 c4, .slice a5 n5 c5] 28)).alloc (.cells #[.int .i64 pp, .int .i64 po, .string pi, .int .i64 pl, .slice pa pn pc] 32) = w0 at *
    generalize w.heap.size = b0 at B0 B1 ⊢
    generalize b0 + 1 = b1 at *
    go_wp2_with (fail)
    with_reducible refine (awake_any _ (HE.out.new m0)).mono ?_
    rintro e w1 ⟨rfl, m1⟩
    have n1' := m0.trans m1
    have K0 := B0.new m1
    have K1 := B1.new m1
    have x0 := K0.cell' 0 _ rfl
    have x1 := K0.cell' 1 _ rfl
    have x2 := K0.cell' 2 _ rfl
    have x3 := K0.cell' 3 _ rfl
    have x4 := K0.cell' 4 _ rfl
    have x5 := K0.cell' 5 _ rfl
    have x6 := K0.cell' 6 _ rfl
    have x7 := K0.cell' 7 _ rfl
    have y0 := K1.cell' 0 _ rfl
    have y1 := K1.cell' 1 _ rfl
    have y2 := K1.cell' 2 _ rfl
    have y3 := K1.cell' 3 _ rfl
    have y4 := K1.cell' 4 _ rfl
    go_wp2_with (fail)
    with_reducible refine (HF.out _ (n1'.alloc _) _ (Blk.made w1 32 #[.int .i64 pp, .int .i64 po, .string pi, .int .i64 pl, .slice pa pn pc])).mono ?_
    rintro e w2 ⟨⟨v, rfl, hv⟩, m2⟩
    have n2' := (n1'.alloc (.cells #[.int .i64 pp, .int .i64 po, .string pi, .int .i64 pl, .slice pa pn pc] 32)).trans m2
    have L0 := (K0.alloc (.cells #[.int .i64 pp, .int .i64 po, .string pi, .int .i64 pl, .slice pa pn pc] 32)).new m2
    have L1 := (K1.alloc (.cells #[.int .i64 pp, .int .i64 po, .string pi, .int .i64 pl, .slice pa pn pc] 32)).new m2
    clear x0 x1 x2 x3 x4 x5 x6 x7
    clear y0 y1 y2 y3 y4
    have x0 := L0.cell' 0 _ rfl
    have x1 := L0.cell' 1 _ rfl
    have x2 := L0.cell' 2 _ rfl
    have x3 := L0.cell' 3 _ rfl
    have x4 := L0.cell' 4 _ rfl
    have x5 := L0.cell' 5 _ rfl
    have x6 := L0.cell' 6 _ rfl
    have x7 := L0.cell' 7 _ rfl
    have y0 := L1.cell' 0 _ rfl
    have y1 := L1.cell' 1 _ rfl
    have y2 := L1.cell' 2 _ rfl
    have y3 := L1.cell' 3 _ rfl
    have y4 := L1.cell' 4 _ rfl
    cases v
    · clear hv
      go_wp2
      go_ret
      exact ⟨rfl, n2'⟩
    have HFS := Lib.hid (hv rfl)
    clear hv
    by_cases hz : n1 = 0
    · have hz2 : ((n1 : Int) == 0) = true := by rw [hz]; rfl
      go_wp2
      go_ret
      exact ⟨rfl, n2'⟩
    have hz2 : ((n1 : Int) == 0) = false := by rw [beq_eq_false_iff_ne]; omega
    clear hz
    go_wp2_with (fail)
    with_reducible refine (HL1.out HFS.out _ n2').mono ?_
    intro e w3 hq
    obtain ⟨rfl, m3⟩ := hq
    have n3' := n2'.trans m3
    have P0 := L0.new m3
    have P1 := L1.new m3
    clear x0 x1 x2 x3 x4 x5 x6 x7
    clear y0 y1 y2 y3 y4
    have x0 := P0.cell' 0 _ rfl
    have x1 := P0.cell' 1 _ rfl
    have x2 := P0.cell' 2 _ rfl
    have x3 := P0.cell' 3 _ rfl
    have x4 := P0.cell' 4 _ rfl
    have x5 := P0.cell' 5 _ rfl
    have x6 := P0.cell' 6 _ rfl
    have x7 := P0.cell' 7 _ rfl
    have y0 := P1.cell' 0 _ rfl
    have y1 := P1.cell' 1 _ rfl
    have y2 := P1.cell' 2 _ rfl
    have y3 := P1.cell' 3 _ rfl
    have y4 := P1.cell' 4 _ rfl
    have BN3 := Blk.made w3 28 #[.int .i64 kind, .int .i64 entry, .string image, .slice a1 n1 c1, .slice a2 n2 c2, .slice a3 n3 c3, .slice a4 n4 c4, .slice a5 n5 c5]
    have HB3 := Lib.hid n3'.size
    go_wp2_with (fail)
    with_reducible refine (rep9 _).mono ?_
    rintro e w4 ⟨rfl, m4'⟩
    have n4' := (n3'.alloc (.cells #[.int .i64 kind, .int .i64 entry, .string image, .slice a1 n1 c1, .slice a2 n2 c2, .slice a3 n3 c3, .slice a4 n4 c4, .slice a5 n5 c5] 28)).trans m4'
    have m34 := ((New.refl w3).alloc (.cells #[.int .i64 kind, .int .i64 entry, .string image, .slice a1 n1 c1, .slice a2 n2 c2, .slice a3 n3 c3, .slice a4 n4 c4, .slice a5 n5 c5] 28)).trans m4'
    have BN4 := BN3.new m4'
    have f7 := (BN4.alloc (.cells #[.string ⟨#[111, 110, 108, 121]⟩, .string ⟨#[110, 110, 110, 110, 110, 110, 110, 110, 110]⟩] 66)).free 7
    have f7c := (BN4.alloc (.cells #[.string ⟨#[111, 110, 108, 121]⟩, .string ⟨#[110, 110, 110, 110, 110, 110, 110, 110, 110]⟩] 66)).cell' 7 _ rfl
    clear x0 x1 x2 x3 x4 x5 x6 x7
    clear y0 y1 y2 y3 y4
    have BX4 := (((BN4.alloc (.cells #[.string ⟨#[111, 110, 108, 121]⟩, .string ⟨#[110, 110, 110, 110, 110, 110, 110, 110, 110]⟩] 66)).put 7 (.slice (some ⟨w4.heap.size, 0, none⟩) 1 1)))
    have BT4 := (Blk.made w4 66 #[.string ⟨#[111, 110, 108, 121]⟩, .string ⟨#[110, 110, 110, 110, 110, 110, 110, 110, 110]⟩]).far (p := ⟨w3.heap.size, 7, none⟩) (show w4.heap.size ≠ w3.heap.size by have := BN4.lt; omega) (.slice (some ⟨w4.heap.size, 0, none⟩) 1 1)
    have nN := (n4'.alloc (.cells #[.string ⟨#[111, 110, 108, 121]⟩, .string ⟨#[110, 110, 110, 110, 110, 110, 110, 110, 110]⟩] 66)).setCell (p := ⟨w3.heap.size, 7, none⟩) HB3.out (.slice (some ⟨w4.heap.size, 0, none⟩) 1 1)
    have m3N := (m34.alloc (.cells #[.string ⟨#[111, 110, 108, 121]⟩, .string ⟨#[110, 110, 110, 110, 110, 110, 110, 110, 110]⟩] 66)).setCell (p := ⟨w3.heap.size, 7, none⟩) (Nat.le_refl _) (.slice (some ⟨w4.heap.size, 0, none⟩) 1 1)
    have x0 := BX4.cell' 0 _ rfl
    have x1 := BX4.cell' 1 _ rfl
    have x2 := BX4.cell' 2 _ rfl
    have x3 := BX4.cell' 3 _ rfl
    have x4 := BX4.cell' 4 _ rfl
    have x5 := BX4.cell' 5 _ rfl
    have x6 := BX4.cell' 6 _ rfl
    have x7 := BX4.cell' 7 _ rfl
    go_wp2_with (fail)
    with_reducible refine (HL2.out HFS.out _ nN _ BT4).mono ?_
    intro e w5 hq
    obtain ⟨W1, W2, rfl, m5⟩ := load_some hq
    go_wp2
    go_ret
    exact ⟨rfl, nN.trans m5⟩
  | ok mm =>
    have HMM := Lib.hid (fun hf => HVL.out hf mm rfl)
    have HV2 := HVN.out mm rfl
    have HC0 := HVC.out mm rfl
    rw [HC0] at HCK
    rw [HV2] at HL2
    clear HV2 HC0 HVN HVC HVE HVL
    go_enter Tryz.func9, Tryz.ntmps9
    go_upto_region 1 with (fail)
    generalize (w.alloc (.cells #[.int .i64 kind, .int .i64 entry, .string image, .slice a1 n1 c1, .slice a2 n2 c2, .slice a3 n3 c3, .slice a4 n4 c4, .slice a5 n5 c5] 28)).alloc (.cells #[.int .i64 pp, .int .i64 po, .string pi, .int .i64 pl, .slice pa pn pc] 32) = w0 at *
    generalize w.heap.size = b0 at B0 B1 ⊢
    generalize b0 + 1 = b1 at *
    go_wp2_with (fail)
    with_reducible refine (awake_any _ (HE.out.new m0)).mono ?_
    rintro e w1 ⟨rfl, m1⟩
    have n1' := m0.trans m1
    have K0 := B0.new m1
    have K1 := B1.new m1
    have x0 := K0.cell' 0 _ rfl
    have x1 := K0.cell' 1 _ rfl
    have x2 := K0.cell' 2 _ rfl
    have x3 := K0.cell' 3 _ rfl
    have x4 := K0.cell' 4 _ rfl
    have x5 := K0.cell' 5 _ rfl
    have x6 := K0.cell' 6 _ rfl
    have x7 := K0.cell' 7 _ rfl
    have y0 := K1.cell' 0 _ rfl
    have y1 := K1.cell' 1 _ rfl
    have y2 := K1.cell' 2 _ rfl
    have y3 := K1.cell' 3 _ rfl
    have y4 := K1.cell' 4 _ rfl
    go_wp2_with (fail)
    with_reducible refine (HF.out _ (n1'.alloc _) _ (Blk.made w1 32 #[.int .i64 pp, .int .i64 po, .string pi, .int .i64 pl, .slice pa pn pc])).mono ?_
    rintro e w2 ⟨⟨v, rfl, hv⟩, m2⟩
    have n2' := (n1'.alloc (.cells #[.int .i64 pp, .int .i64 po, .string pi, .int .i64 pl, .slice pa pn pc] 32)).trans m2
    have L0 := (K0.alloc (.cells #[.int .i64 pp, .int .i64 po, .string pi, .int .i64 pl, .slice pa pn pc] 32)).new m2
    have L1 := (K1.alloc (.cells #[.int .i64 pp, .int .i64 po, .string pi, .int .i64 pl, .slice pa pn pc] 32)).new m2
    clear x0 x1 x2 x3 x4 x5 x6 x7
    clear y0 y1 y2 y3 y4
    have x0 := L0.cell' 0 _ rfl
    have x1 := L0.cell' 1 _ rfl
    have x2 := L0.cell' 2 _ rfl
    have x3 := L0.cell' 3 _ rfl
    have x4 := L0.cell' 4 _ rfl
    have x5 := L0.cell' 5 _ rfl
    have x6 := L0.cell' 6 _ rfl
    have x7 := L0.cell' 7 _ rfl
    have y0 := L1.cell' 0 _ rfl
    have y1 := L1.cell' 1 _ rfl
    have y2 := L1.cell' 2 _ rfl
    have y3 := L1.cell' 3 _ rfl
    have y4 := L1.cell' 4 _ rfl
    cases v
    · clear hv
      go_wp2
      go_ret
      exact ⟨rfl, n2'⟩
    have HFS := Lib.hid (hv rfl)
    clear hv
    by_cases hz : n1 = 0
    · have hz2 : ((n1 : Int) == 0) = true := by rw [hz]; rfl
      go_wp2
      go_ret
      exact ⟨rfl, n2'⟩
    have hz2 : ((n1 : Int) == 0) = false := by rw [beq_eq_false_iff_ne]; omega
    clear hz
    go_wp2_with (fail)
    with_reducible refine (HL1.out HFS.out _ n2').mono ?_
    intro e w3 hq
    obtain ⟨m, PV, rfl, ⟨MV, hml⟩, hpr⟩ := hq
    obtain ⟨g, mc, rfl, hg0, hM⟩ := hml.mm (by have := (HMM.out HFS.out).1; omega)
    obtain ⟨PA, pcp, rfl, _⟩ := own_form hpr
    have m3 := hml.nw
    have HG0 := Lib.hid hg0
    clear hg0 hml
    have n3' := n2'.trans m3
    have P0 := L0.new m3
    have P1 := L1.new m3
    clear x0 x1 x2 x3 x4 x5 x6 x7
    clear y0 y1 y2 y3 y4
    have x0 := P0.cell' 0 _ rfl
    have x1 := P0.cell' 1 _ rfl
    have x2 := P0.cell' 2 _ rfl
    have x3 := P0.cell' 3 _ rfl
    have x4 := P0.cell' 4 _ rfl
    have x5 := P0.cell' 5 _ rfl
    have x6 := P0.cell' 6 _ rfl
    have x7 := P0.cell' 7 _ rfl
    have y0 := P1.cell' 0 _ rfl
    have y1 := P1.cell' 1 _ rfl
    have y2 := P1.cell' 2 _ rfl
    have y3 := P1.cell' 3 _ rfl
    have y4 := P1.cell' 4 _ rfl
    have BN3 := Blk.made w3 28 #[.int .i64 kind, .int .i64 entry, .string image, .slice a1 n1 c1, .slice a2 n2 c2, .slice a3 n3 c3, .slice a4 n4 c4, .slice a5 n5 c5]
    have HB3 := Lib.hid n3'.size
    go_wp2_with (fail)
    with_reducible refine (rep9 _).mono ?_
    rintro e w4 ⟨rfl, m4'⟩
    have n4' := (n3'.alloc (.cells #[.int .i64 kind, .int .i64 entry, .string image, .slice a1 n1 c1, .slice a2 n2 c2, .slice a3 n3 c3, .slice a4 n4 c4, .slice a5 n5 c5] 28)).trans m4'
    have m34 := ((New.refl w3).alloc (.cells #[.int .i64 kind, .int .i64 entry, .string image, .slice a1 n1 c1, .slice a2 n2 c2, .slice a3 n3 c3, .slice a4 n4 c4, .slice a5 n5 c5] 28)).trans m4'
    have BN4 := BN3.new m4'
    have f7 := (BN4.alloc (.cells #[.string ⟨#[111, 110, 108, 121]⟩, .string ⟨#[110, 110, 110, 110, 110, 110, 110, 110, 110]⟩] 66)).free 7
    have f7c := (BN4.alloc (.cells #[.string ⟨#[111, 110, 108, 121]⟩, .string ⟨#[110, 110, 110, 110, 110, 110, 110, 110, 110]⟩] 66)).cell' 7 _ rfl
    clear x0 x1 x2 x3 x4 x5 x6 x7
    clear y0 y1 y2 y3 y4
    have BX4 := (((BN4.alloc (.cells #[.string ⟨#[111, 110, 108, 121]⟩, .string ⟨#[110, 110, 110, 110, 110, 110, 110, 110, 110]⟩] 66)).put 7 (.slice (some ⟨w4.heap.size, 0, none⟩) 1 1)))
    have BT4 := (Blk.made w4 66 #[.string ⟨#[111, 110, 108, 121]⟩, .string ⟨#[110, 110, 110, 110, 110, 110, 110, 110, 110]⟩]).far (p := ⟨w3.heap.size, 7, none⟩) (show w4.heap.size ≠ w3.heap.size by have := BN4.lt; omega) (.slice (some ⟨w4.heap.size, 0, none⟩) 1 1)
    have nN := (n4'.alloc (.cells #[.string ⟨#[111, 110, 108, 121]⟩, .string ⟨#[110, 110, 110, 110, 110, 110, 110, 110, 110]⟩] 66)).setCell (p := ⟨w3.heap.size, 7, none⟩) HB3.out (.slice (some ⟨w4.heap.size, 0, none⟩) 1 1)
    have m3N := (m34.alloc (.cells #[.string ⟨#[111, 110, 108, 121]⟩, .string ⟨#[110, 110, 110, 110, 110, 110, 110, 110, 110]⟩] 66)).setCell (p := ⟨w3.heap.size, 7, none⟩) (Nat.le_refl _) (.slice (some ⟨w4.heap.size, 0, none⟩) 1 1)
    have x0 := BX4.cell' 0 _ rfl
    have x1 := BX4.cell' 1 _ rfl
    have x2 := BX4.cell' 2 _ rfl
    have x3 := BX4.cell' 3 _ rfl
    have x4 := BX4.cell' 4 _ rfl
    have x5 := BX4.cell' 5 _ rfl
    have x6 := BX4.cell' 6 _ rfl
    have x7 := BX4.cell' 7 _ rfl
    go_wp2_with (fail)
    with_reducible refine (HL2.out HFS.out _ nN _ BT4).mono ?_
    intro e w5 hq
    obtain ⟨m2, PV2, rfl, ⟨MV2, hml2⟩, hpr2⟩ := hq
    obtain ⟨g2, mc2, rfl, hg2, hM2⟩ := hml2.mm (by have := (HMM.out HFS.out).1; omega)
    have m5 := hml2.nw
    have HG2 := Lib.hid (show g ≠ g2 from fun e => by have := (hM.row.lt g rfl).2; have := m3N.size; omega)
    have HG2L := Lib.hid hg2
    clear hg2 hml2 hpr2
    have n5' := nN.trans m5
    have m35 := m3N.trans m5
    have S0 := P0.new m35
    have S1 := P1.new m35
    clear x0 x1 x2 x3 x4 x5 x6 x7
    clear f7 f7c
    have x0 := S0.cell' 0 _ rfl
    have x1 := S0.cell' 1 _ rfl
    have x2 := S0.cell' 2 _ rfl
    have x3 := S0.cell' 3 _ rfl
    have x4 := S0.cell' 4 _ rfl
    have x5 := S0.cell' 5 _ rfl
    have x6 := S0.cell' 6 _ rfl
    have x7 := S0.cell' 7 _ rfl
    go_wp2_with (fail)
    with_reducible refine (HCK.out HFS.out _ n5').mono ?_
    rintro e w6 ⟨rfl, m6⟩
    have n6' := n5'.trans m6
    have m36 := m35.trans m6
    clear x0 x1 x2 x3 x4 x5 x6 x7
    go_wp2_with (fail)
    with_reducible refine (clone_any (hM.new m36) ((Rd.of_own hpr).below m36) HY.out (by have := (HMM.out HFS.out).2; omega) (by have := HN1.out HFS.out; omega)).mono ?_
    intro e w7 hq
    obtain ⟨m3c, MV3, PV3, rfl, hml3, hpr3⟩ := hq
    obtain ⟨g3, mc3, rfl, hg3, hM3⟩ := hml3.mm (by have := (HMM.out HFS.out).1; omega)
    have m7 := hml3.nw
    have HG3 := Lib.hid (show g ≠ g3 from fun e => by have := (hM.row.lt g rfl).2; have := m36.size; omega)
    have HG4 := Lib.hid (show g2 ≠ g3 from fun e => by have := (hM2.row.lt g2 rfl).2; have := m6.size; omega)
    have HG3L := Lib.hid hg3
    clear hg3 hml3 hpr3
    have n7' := n6'.trans m7
    have U0 := S0.new (m6.trans m7)
    have U1 := S1.new (m6.trans m7)
    have x0 := U0.cell' 0 _ rfl
    have x1 := U0.cell' 1 _ rfl
    have x2 := U0.cell' 2 _ rfl
    have x3 := U0.cell' 3 _ rfl
    have x4 := U0.cell' 4 _ rfl
    have x5 := U0.cell' 5 _ rfl
    have x6 := U0.cell' 6 _ rfl
    have x7 := U0.cell' 7 _ rfl
    have y0 := U1.cell' 0 _ rfl
    have y1 := U1.cell' 1 _ rfl
    have y2 := U1.cell' 2 _ rfl
    have y3 := U1.cell' 3 _ rfl
    have y4 := U1.cell' 4 _ rfl
    go_wp2_with (fail)
    with_reducible refine (HAD.out HFS.out _ n7').mono ?_
    rintro e w8 ⟨⟨a, ha, rfl⟩, m8⟩
    have n8' := n7'.trans m8
    have V1 := U1.new m8
    clear x0 x1 x2 x3 x4 x5 x6 x7
    clear y0 y1 y2 y3 y4
    have y0 := V1.cell' 0 _ rfl
    have y1 := V1.cell' 1 _ rfl
    have y2 := V1.cell' 2 _ rfl
    have y3 := V1.cell' 3 _ rfl
    have y4 := V1.cell' 4 _ rfl
    have hM8 := hM.new ((m36.trans m7).trans m8)
    have hM28 := hM2.new ((m6.trans m7).trans m8)
    have hM38 := hM3.new m8
    obtain ⟨O, hO⟩ : ∃ O, callV mm a pi.data.toList pl args = O := ⟨_, rfl⟩
    have HO := Lib.hid hO
    go_wp2_with (fail)
    with_reducible refine (HX.out _ n8' mm (HMM.out HFS.out).2 m g mc a _ hM8 ha).mono ?_
    rw [HO.out]
    intro e w9 hq
    obtain ⟨rfl, hM9, g9⟩ := hq
    have n9' : New w w9 := Below.grown n8' g9 n8'.size (fun k e => by have := Option.some.inj e; have := HG0.out; have := n2'.size; omega)
    have n9c := n9'.alloc (.cells #[.int .u32 (O.value : Int), .string (S O.out), .int .i64 (O.steps : Int)] 38)
    have nn9 := (New.refl w9).alloc (.cells #[.int .u32 (O.value : Int), .string (S O.out), .int .i64 (O.steps : Int)] 38)
    have hM29 := (hM28.far hM8 g9 (Ne.symm HG2.out)).new nn9
    have hM39 := (hM38.far hM8 g9 (Ne.symm HG3.out)).new nn9
    have W1 := (V1.by_mm hM8 g9 (by decide)).alloc (.cells #[.int .u32 (O.value : Int), .string (S O.out), .int .i64 (O.steps : Int)] 38)
    have D14 := Blk.made w9 38 #[.int .u32 (O.value : Int), .string (S O.out), .int .i64 (O.steps : Int)]
    clear y0 y1 y2 y3 y4
    have y0 := W1.cell' 0 _ rfl
    have y1 := W1.cell' 1 _ rfl
    have y2 := W1.cell' 2 _ rfl
    have y3 := W1.cell' 3 _ rfl
    have y4 := W1.cell' 4 _ rfl
    go_wp2_with (fail)
    with_reducible refine (HX.out _ n9c mm (HMM.out HFS.out).2 m2 g2 mc2 a _ hM29 ha).mono ?_
    rw [HO.out]
    intro e w10 hq
    obtain ⟨rfl, hM10, g10⟩ := hq
    have n10' : New w w10 := Below.grown n9c g10 n9c.size (fun k e => by have := Option.some.inj e; have := HG2L.out; have := nN.size; omega)
    have n10c := n10'.alloc (.cells #[.int .u32 (O.value : Int), .string (S O.out), .int .i64 (O.steps : Int)] 38)
    have nn10 := (New.refl w10).alloc (.cells #[.int .u32 (O.value : Int), .string (S O.out), .int .i64 (O.steps : Int)] 38)
    have hM310 := (hM39.far hM29 g10 (Ne.symm HG4.out)).new nn10
    have X1 := (W1.by_mm hM29 g10 (by decide)).alloc (.cells #[.int .u32 (O.value : Int), .string (S O.out), .int .i64 (O.steps : Int)] 38)
    have E14 := (D14.by_mm hM29 g10 (by decide)).alloc (.cells #[.int .u32 (O.value : Int), .string (S O.out), .int .i64 (O.steps : Int)] 38)
    have D16 := Blk.made w10 38 #[.int .u32 (O.value : Int), .string (S O.out), .int .i64 (O.steps : Int)]
    clear y0 y1 y2 y3 y4
    have y0 := X1.cell' 0 _ rfl
    have y1 := X1.cell' 1 _ rfl
    have y2 := X1.cell' 2 _ rfl
    have y3 := X1.cell' 3 _ rfl
    have y4 := X1.cell' 4 _ rfl
    go_wp2_with (fail)
    with_reducible refine (HX.out _ n10c mm (HMM.out HFS.out).2 m3c g3 mc3 a _ hM310 ha).mono ?_
    rw [HO.out]
    intro e w11 hq
    obtain ⟨rfl, hM11, g11⟩ := hq
    have n11' : New w w11 := Below.grown n10c g11 n10c.size (fun k e => by have := Option.some.inj e; have := HG3L.out; have := n6'.size; omega)
    have n11c := n11'.alloc (.cells #[.int .u32 (O.value : Int), .string (S O.out), .int .i64 (O.steps : Int)] 38)
    have F14 := (E14.by_mm hM310 g11 (by decide)).alloc (.cells #[.int .u32 (O.value : Int), .string (S O.out), .int .i64 (O.steps : Int)] 38)
    have E16 := (D16.by_mm hM310 g11 (by decide)).alloc (.cells #[.int .u32 (O.value : Int), .string (S O.out), .int .i64 (O.steps : Int)] 38)
    have D18 := Blk.made w11 38 #[.int .u32 (O.value : Int), .string (S O.out), .int .i64 (O.steps : Int)]
    clear y0 y1 y2 y3 y4
    have z0 := F14.cell' 0 _ rfl
    have z1 := F14.cell' 1 _ rfl
    have z2 := F14.cell' 2 _ rfl
    have u0 := E16.cell' 0 _ rfl
    have u1 := E16.cell' 1 _ rfl
    have u2 := E16.cell' 2 _ rfl
    have s0 := D18.cell' 0 _ rfl
    have s1 := D18.cell' 1 _ rfl
    have s2 := D18.cell' 2 _ rfl
    go_wp2
    go_ret
    exact ⟨rfl, n11c⟩
end Go.Proofs.YtnjampfhkojbnaaGreatDoor

