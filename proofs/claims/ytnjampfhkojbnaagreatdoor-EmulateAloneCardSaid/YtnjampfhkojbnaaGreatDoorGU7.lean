/- Run: Load, then Call. Conditions: sizes. licitref13.FewLibs: where it answers true the libraries are small. Conditions: the lists' lengths are lengths. licitlaw13.few: where it answers true a program, its libraries and its calls are small. Conditions: the lists' lengths are lengths. licitlaw13.program: a program of one function. Conditions: the code's length is a length. Clone: a new machine with the same memory and places. Conditions: sizes. (Printed by mk-u11.py.) The chapter's two examples: what Load and Run answer on them. No program in sight, no conditions. -/
import Derived.Test.YtnjampfhkojbnaaGreatDoorGBase
import Derived.Test.YtnjampfhkojbnaaGreatDoorGU4
import Derived.Test.YtnjampfhkojbnaaGreatDoorGC1
import Derived.Test.YtnjampfhkojbnaaGreatDoorGU1
import Derived.Test.YtnjampfhkojbnaaGreatDoorGH
import Derived.Test.YtnjampfhkojbnaaGreatDoorGP

namespace Go.Proofs.YtnjampfhkojbnaaGreatDoor
open Go Go.RowKit Go.Shelf
set_option linter.unusedSimpArgs false
set_option linter.unusedVariables false

theorem libsP_len : ∀ (l : List LbD) (mem : List UInt8) (L : List ((List UInt8 × List UInt8) × Nat)), (∀ x ∈ l, x.bin.image.size ≤ 65536) →
    mem.length ≤ (libsP (l.map lbI) mem L).1.length ∧ (libsP (l.map lbI) mem L).1.length ≤ mem.length + l.length * 65539
  | [], mem, L, _ => ⟨Nat.le_refl _, Nat.le_add_right _ _⟩
  | x :: r, mem, L, h => by
    rw [List.map_cons, libsP]
    have q := libsP_len r (loadP mem (lbI x).2.img (lbI x).2.fix) (L ++ (lbI x).2.exps.map fun e => (((lbI x).1, e.1), (mem.length + e.2) % 4294967296)) (fun y hy => h y (List.mem_cons_of_mem _ hy))
    have q2 := loadP_size mem (lbI x).2.img (lbI x).2.fix
    have q3 := h x (List.mem_cons_self ..)
    rw [size_eq] at q3
    have e : (lbI x).2.img = x.bin.image.data.toList := rfl
    rw [e] at q2
    rw [e] at q
    rw [e]
    rw [List.length_cons]
    omega
theorem loadV_len {p : Bn} {l : List LbD} {mm : List UInt8} (hz : ∀ x ∈ l, SzP x.bin.places) (h : loadV p l = .ok mm) : 64 ≤ mm.length ∧ mm.length ≤ 100000000 := by
  unfold loadV at h
  split at h
  · rename_i hv
    obtain ⟨h1, h2, h3⟩ := valid_ld hz hv
    cases hm : memV (imB p) (l.map lbI) (p.imps.map imI) with
    | none => rw [hm] at h; cases h
    | some m =>
      rw [hm] at h
      injection h with h
      subst h
      unfold memV at hm
      simp only at hm
      rw [impV_len _ _ _ _ hm]
      have q := libsP_len l (loadP (List.replicate 64 0) (imB p).img (imB p).fix) [] (fun x hx => (h3 x hx).1.pl.le)
      have q2 := loadP_size (List.replicate 64 0) (imB p).img (imB p).fix
      have q3 := h1.pl.le
      rw [size_eq] at q3
      have e : (imB p).img = p.image.data.toList := rfl
      rw [e] at q2
      rw [e] at q
      rw [e]
      rw [List.length_replicate] at q2
      omega
  · cases h
def runE (V : Except Int (List UInt8)) (inp : List UInt8) (L : Int) : Rs := match V with
  | .error c => Rs.err c []
  | .ok mm => callV mm 64 inp L []
def runP (p : Bn) (l : List LbD) (inp : List UInt8) (L : Int) : Rs := runE (loadV p l) inp L
theorem code_ne {p : Bn} {l : List LbD} {c : Int} (h : loadV p l = .error c) : c ≠ 0 := by
  unfold loadV at h
  split at h
  · split at h
    · injection h with h; subst h; decide
    · cases h
  · injection h with h; subst h; decide
theorem cne_t {c : Int} (h : c ≠ 0) : (c != 0) = true := by rw [bne_iff_ne]; exact h
set_option maxRecDepth 100000 in
set_option maxHeartbeats 16000000 in
theorem frun_any (p : Bn) (h : BH) (A : Option Addr) (n c : Nat) (l : List LbD) (inp : List UInt8) (L : Int) (w : World) (hr : BRd w p h) (hz : SzB p) (hl : LsRd w A n l) (hzl : ∀ x ∈ l, SzB x.bin ∧ x.path.size ≤ 1000000) (hE : Env w) :
    Calls Tryz.prog 12 #[.agg (bcells p h), .slice A n c, .string (S inp), .int .i64 L] w fun e w' => e = .returned (.tuple #[.agg #[.int .u32 ((runP p l inp L).value : Int), .string (S (runP p l inp L).out), .int .i64 ((runP p l inp L).steps : Int)], .int .i64 (runP p l inp L).e]) ∧ New w w' := by
  have HF := Lib.hid (fun W (hn : New w W) => fload_any p h A n c l W (hr.new hn) hz (hl.new hn) hzl (hE.new hn))
  obtain ⟨V, hV⟩ : ∃ x, loadV p l = x := ⟨_, rfl⟩
  have HVL := Lib.hid (fun mm (hm : V = .ok mm) => loadV_len (fun x hx => (hzl x hx).1.pl) (hV.trans hm))
  have HVC := Lib.hid (fun cc (hm : V = .error cc) => code_ne (hV.trans hm))
  have hRP : runP p l inp L = runE V inp L := by unfold runP; rw [hV]
  rw [hV] at HF
  rw [hRP]
  clear hr hz hl hzl hE hRP hV
  obtain ⟨kind, entry, image, places, fix, imps, exps, notes⟩ := p
  obtain ⟨a1, c1, a2, c2, a3, c3, a4, c4, a5, c5⟩ := h
  simp only [bcells] at *
  generalize places.length = n1 at *
  generalize fix.length = n2 at *
  generalize imps.length = n3 at *
  generalize exps.length = n4 at *
  generalize notes.length = n5 at *
  obtain ⟨str, hstr⟩ : ∃ str, S inp = str := ⟨_, rfl⟩
  have HS := Lib.hid hstr
  have BX := Blk.made w 28 #[.int .i64 kind, .int .i64 entry, .string image, .slice a1 n1 c1, .slice a2 n2 c2, .slice a3 n3 c3, .slice a4 n4 c4, .slice a5 n5 c5]
  have nA := (New.refl w).alloc (.cells #[.int .i64 kind, .int .i64 entry, .string image, .slice a1 n1 c1, .slice a2 n2 c2, .slice a3 n3 c3, .slice a4 n4 c4, .slice a5 n5 c5] 28)
  cases V with
  | error cc =>
    have hc := cne_t (HVC.out cc rfl)
    rw [hstr]
    clear hstr
    have nR := nA.alloc (.cells #[.int .u32 0, .string ⟨#[]⟩, .int .i64 0] 38)
    have BR : Blk ((w.alloc (.cells #[.int .i64 kind, .int .i64 entry, .string image, .slice a1 n1 c1, .slice a2 n2 c2, .slice a3 n3 c3, .slice a4 n4 c4, .slice a5 n5 c5] 28)).alloc (.cells #[.int .u32 0, .string ⟨#[]⟩, .int .i64 0] 38)) (w.heap.size + 1) 38 #[.int .u32 0, .string ⟨#[]⟩, .int .i64 0] := by
      have q := Blk.made (w.alloc (.cells #[.int .i64 kind, .int .i64 entry, .string image, .slice a1 n1 c1, .slice a2 n2 c2, .slice a3 n3 c3, .slice a4 n4 c4, .slice a5 n5 c5] 28)) 38 #[.int .u32 0, .string ⟨#[]⟩, .int .i64 0]
      rwa [show (w.alloc (.cells #[.int .i64 kind, .int .i64 entry, .string image, .slice a1 n1 c1, .slice a2 n2 c2, .slice a3 n3 c3, .slice a4 n4 c4, .slice a5 n5 c5] 28)).heap.size = w.heap.size + 1 from Array.size_push ..] at q
    have BX := BX.alloc (.cells #[.int .u32 0, .string ⟨#[]⟩, .int .i64 0] 38)
    have hB : w.heap.size ≤ w.heap.size + 1 := Nat.le_succ _
    have HB := Lib.hid hB
    clear hB nA
    go_enter Tryz.func12, Tryz.ntmps12
    go_upto_region 1 with (fail)
    generalize (w.alloc (.cells #[.int .i64 kind, .int .i64 entry, .string image, .slice a1 n1 c1, .slice a2 n2 c2, .slice a3 n3 c3, .slice a4 n4 c4, .slice a5 n5 c5] 28)).alloc (.cells #[.int .u32 0, .string ⟨#[]⟩, .int .i64 0] 38) = wR at *
    generalize w.heap.size + 1 = rb at *
    have f0 := BX.cell' 0 _ rfl
    have f1 := BX.cell' 1 _ rfl
    have f2 := BX.cell' 2 _ rfl
    have f3 := BX.cell' 3 _ rfl
    have f4 := BX.cell' 4 _ rfl
    have f5 := BX.cell' 5 _ rfl
    have f6 := BX.cell' 6 _ rfl
    have f7 := BX.cell' 7 _ rfl
    go_wp2_with (go_at_call 14; (with_reducible refine (HF.out _ nR).mono ?_); intro e w2 hq; obtain ⟨rfl, n2'⟩ := hq; have BR2 := BR.new n2'; have z0 := BR2.free 0; have z1 := BR2.free 1; have z2 := BR2.free 2; have y0 := BR2.cell' 0 _ rfl; have y1 := BR2.cell' 1 _ rfl; have y2 := BR2.cell' 2 _ rfl)
    have BF := ((BR2.put 0 (.int .u32 0)).put 1 (.string ⟨#[]⟩)).put 2 (.int .i64 0)
    have e0 := BF.cell' 0 _ rfl
    have e1 := BF.cell' 1 _ rfl
    have e2 := BF.cell' 2 _ rfl
    have nF := (((nR.trans n2').setCell (p := ⟨rb, 0, none⟩) HB.out (.int .u32 0)).setCell (p := ⟨rb, 1, none⟩) HB.out (.string ⟨#[]⟩)).setCell (p := ⟨rb, 2, none⟩) HB.out (.int .i64 0)
    exact bodyPost_ret (v := .tuple #[.agg #[.int .u32 0, .string ⟨#[]⟩, .int .i64 0], .int .i64 cc]) (by simp [results, Tryz.results12, go_sem, e0, e1, e2]) rfl ⟨rfl, nF⟩
  | ok mm =>
    have hmm := HVL.out mm rfl
    obtain ⟨O, hO⟩ : ∃ O, runE (.ok mm) inp L = O := ⟨_, rfl⟩
    rw [hO]
    have HO := Lib.hid (show callV mm 64 inp L [] = O from hO)
    rw [hstr]
    clear hstr hO
    have nR := nA.alloc (.cells #[.int .u32 0, .string ⟨#[]⟩, .int .i64 0] 38)
    have BR : Blk ((w.alloc (.cells #[.int .i64 kind, .int .i64 entry, .string image, .slice a1 n1 c1, .slice a2 n2 c2, .slice a3 n3 c3, .slice a4 n4 c4, .slice a5 n5 c5] 28)).alloc (.cells #[.int .u32 0, .string ⟨#[]⟩, .int .i64 0] 38)) (w.heap.size + 1) 38 #[.int .u32 0, .string ⟨#[]⟩, .int .i64 0] := by
      have q := Blk.made (w.alloc (.cells #[.int .i64 kind, .int .i64 entry, .string image, .slice a1 n1 c1, .slice a2 n2 c2, .slice a3 n3 c3, .slice a4 n4 c4, .slice a5 n5 c5] 28)) 38 #[.int .u32 0, .string ⟨#[]⟩, .int .i64 0]
      rwa [show (w.alloc (.cells #[.int .i64 kind, .int .i64 entry, .string image, .slice a1 n1 c1, .slice a2 n2 c2, .slice a3 n3 c3, .slice a4 n4 c4, .slice a5 n5 c5] 28)).heap.size = w.heap.size + 1 from Array.size_push ..] at q
    have BX := BX.alloc (.cells #[.int .u32 0, .string ⟨#[]⟩, .int .i64 0] 38)
    have hB : w.heap.size ≤ w.heap.size + 1 := Nat.le_succ _
    have HB := Lib.hid hB
    clear hB nA
    go_enter Tryz.func12, Tryz.ntmps12
    go_upto_region 1 with (fail)
    generalize (w.alloc (.cells #[.int .i64 kind, .int .i64 entry, .string image, .slice a1 n1 c1, .slice a2 n2 c2, .slice a3 n3 c3, .slice a4 n4 c4, .slice a5 n5 c5] 28)).alloc (.cells #[.int .u32 0, .string ⟨#[]⟩, .int .i64 0] 38) = wR at *
    generalize w.heap.size + 1 = rb at *
    have f0 := BX.cell' 0 _ rfl
    have f1 := BX.cell' 1 _ rfl
    have f2 := BX.cell' 2 _ rfl
    have f3 := BX.cell' 3 _ rfl
    have f4 := BX.cell' 4 _ rfl
    have f5 := BX.cell' 5 _ rfl
    have f6 := BX.cell' 6 _ rfl
    have f7 := BX.cell' 7 _ rfl
    have HMM := Lib.hid hmm
    clear hmm
    go_wp2_with (first
      | (go_at_call 14; (with_reducible refine (HF.out _ nR).mono ?_); intro e w2 hq; obtain ⟨m, PV, rfl, ⟨MV, hml⟩, hpr⟩ := hq; obtain ⟨g, mc, rfl, hg0, hM⟩ := hml.mm (by have := HMM.out.1; omega); have HG0 := Lib.hid hg0; have NW := hml.nw; have HC := Lib.hid (show Calls Tryz.prog 19 #[.pointer (some ⟨m, 0, none⟩), .int .u32 64, .string (S inp), .int .i64 L, .slice none 0 0] w2 (RetP w2 m g mc PV (callV mm 64 inp L [])) from mcall_any (a := 64) (inp := inp) (A := none) (args := []) (c := 0) (L := L) hM (Rd.none_ _) (hM.row.lt g rfl).2 (by decide) (fun x hx => by cases hx) (by have := HMM.out.2; omega)); rw [HS.out, HO.out] at HC)
      | (go_at_call 19; (with_reducible refine HC.out.mono ?_); intro e w6 hq; obtain ⟨rfl, hM6, g6⟩ := hq; have BR2 := (BR.new NW).grown g6 (fun e => own_apart hM.row (BR.new NW) (by decide) (by rw [← Option.some.inj e]; rfl)); have z0 := BR2.free 0; have z1 := BR2.free 1; have z2 := BR2.free 2; have y0 := BR2.cell' 0 _ rfl; have y1 := BR2.cell' 1 _ rfl; have y2 := BR2.cell' 2 _ rfl))
    have BF := ((BR2.put 0 (.int .u32 (O.value : Int))).put 1 (.string (S O.out))).put 2 (.int .i64 (O.steps : Int))
    have e0 := BF.cell' 0 _ rfl
    have e1 := BF.cell' 1 _ rfl
    have e2 := BF.cell' 2 _ rfl
    have n6 : New w w6 := Below.grown (nR.trans NW) g6 (nR.trans NW).size (fun k e => by have := Option.some.inj e; have := HG0.out; have := nR.size; omega)
    have nF := ((n6.setCell (p := ⟨rb, 0, none⟩) HB.out (.int .u32 (O.value : Int))).setCell (p := ⟨rb, 1, none⟩) HB.out (.string (S O.out))).setCell (p := ⟨rb, 2, none⟩) HB.out (.int .i64 (O.steps : Int))
    exact bodyPost_ret (v := .tuple #[.agg #[.int .u32 (O.value : Int), .string (S O.out), .int .i64 (O.steps : Int)], .int .i64 O.e]) (by simp [results, Tryz.results12, go_sem, e0, e1, e2]) rfl ⟨rfl, nF⟩
end Go.Proofs.YtnjampfhkojbnaaGreatDoor

namespace Go.Proofs.YtnjampfhkojbnaaGreatDoor
open Go Go.RowKit Go.Joins
set_option linter.unusedSimpArgs false
set_option linter.unusedVariables false

def FewL (x : LbD) : Prop := x.path.size ≤ 300 ∧ FewS x.bin
def FewLR (l : List LbD) (w : World) (e : Ending) (w' : World) : Prop := (∃ v, e = .returned (.bool v) ∧ (v = true → l.length ≤ 5 ∧ ∀ x ∈ l, FewL x)) ∧ New w w'
theorem fewl_no {l : List LbD} {w w' : World} (hn : New w w') : FewLR l w (.returned (.bool false)) w' := ⟨⟨false, rfl, fun h => by cases h⟩, hn⟩
set_option maxRecDepth 100000 in
set_option maxHeartbeats 16000000 in
theorem fewlibs_any (A : Option Addr) (n c : Nat) (l : List LbD) (w : World) (hl : LsRd w A n l) (hz : ∀ x ∈ l, LensB x.bin) (hn : n ≤ 9223372036854775807) :
    Calls Tryz.prog 29 #[.slice A n c] w (FewLR l w) := by
  have HL := Lib.hid hl
  have HZ := Lib.hid hz
  have HNO := Lib.hid (fun w' (hn : New w w') => fewl_no (l := l) hn)
  have HYES := Lib.hid (fun w' v (hn : New w w') (h : v = true → l.length ≤ 5 ∧ ∀ x ∈ l, FewL x) => (show FewLR l w (.returned (.bool v)) w' from ⟨⟨v, rfl, h⟩, hn⟩))
  generalize FewLR l w = PP at *
  clear hl hz
  go_enter Tryz.func29, Tryz.ntmps29
  go_wp2
  go_loopw [7] (fun v7 wr => ∃ i : Nat, v7 = .int .i64 i ∧ i ≤ n ∧ New w wr ∧ Hid (∀ x ∈ l.take i, FewL x)) (fun v7 _ => n - (intOf v7).toNat)
  case atStart => exact ⟨0, rfl, Nat.zero_le _, New.refl w, Lib.hid (fun x hx => by simp at hx)⟩
  case round =>
    obtain ⟨i, rfl, hi9, hnr, HT⟩ := hrel
    by_cases hlt : i < n
    · obtain ⟨bk, o, rfl, hbk, p, hp, hcell⟩ := rd_row (f := lbC) (k := 9) lbC_len HL.out.1 (HL.out.2.1.below hnr) hlt
      have HZZ := Lib.hid (HZ.out p (List.mem_of_getElem? hp))
      have hbr := (HL.out.2.2 p (List.mem_of_getElem? hp)).new hnr
      have HNX := Lib.hid (fun (h : FewL p) => all_next (q := FewL) hp HT.out h)
      obtain ⟨pa, ⟨bk', be, bi, bp, bf, bm, bx, bn⟩, ⟨d1, e1, d2, e2, d3, e3, d4, e4, d5, e5⟩⟩ := p
      have HF := Lib.hid (fun W (hn : New wr W) => few_any ⟨bk', be, bi, bp, bf, bm, bx, bn⟩ ⟨d1, e1, d2, e2, d3, e3, d4, e4, d5, e5⟩ W (hbr.new hn) HZZ.out)
      have HNX2 := Lib.hid (fun (h1 : pa.size ≤ 300) (h2 : FewS ⟨bk', be, bi, bp, bf, bm, bx, bn⟩) => HNX.out ⟨h1, h2⟩)
      simp only [bcells, FewR] at HF
      have q0 := hcell 0 (.string pa) (by omega) rfl
      have q1 := hcell 1 (.int .i64 bk') (by omega) rfl
      have q2 := hcell 2 (.int .i64 be) (by omega) rfl
      have q3 := hcell 3 (.string bi) (by omega) rfl
      have q4 := hcell 4 (.slice d1 bp.length e1) (by omega) rfl
      have q5 := hcell 5 (.slice d2 bf.length e2) (by omega) rfl
      have q6 := hcell 6 (.slice d3 bm.length e3) (by omega) rfl
      have q7 := hcell 7 (.slice d4 bx.length e4) (by omega) rfl
      have q8 := hcell 8 (.slice d5 bn.length e5) (by omega) rfl
      simp only [Nat.add_zero] at q0
      rw [← Nat.add_assoc] at q1 q2 q3 q4 q5 q6 q7 q8
      clear HNX HZZ hbr hcell hp
      generalize bp.length = l1 at *
      generalize bf.length = l2 at *
      generalize bm.length = l3 at *
      generalize bx.length = l4 at *
      generalize bn.length = l5 at *
      have nB := (New.refl wr).alloc (.cells #[.string pa, .int .i64 bk', .int .i64 be, .string bi, .slice d1 l1 e1, .slice d2 l2 e2, .slice d3 l3 e3, .slice d4 l4 e4, .slice d5 l5 e5] 79)
      by_cases h1 : pa.size ≤ 300
      · have t1 : ¬ (300 : Int) < (pa.size : Int) := by omega
        have HNX3 := Lib.hid (HNX2.out h1)
        clear h1 HNX2
        go_wp2_with (go_at_call 28; (with_reducible refine (HF.out _ nB).mono ?_); intro e w1 hq; obtain ⟨⟨v, rfl, hv⟩, n1⟩ := hq; cases v)
        · exact HNO.out _ ((hnr.trans nB).trans n1)
        · exact ⟨⟨i + 1, by go_num, by omega, (hnr.trans nB).trans n1, Lib.hid (HNX3.out (hv trivial))⟩, by simp [intOf]; omega⟩
      · have t1 : (300 : Int) < (pa.size : Int) := by omega
        clear h1 HNX2
        go_wp2
        exact HNO.out _ (hnr.trans nB)
    · obtain rfl : i = n := by omega
      have HT2 := Lib.hid (show ∀ x ∈ l, FewL x by have q := HT.out; rwa [List.take_of_length_le (by rw [HL.out.1]; exact Nat.le_refl _)] at q)
      have HL5 := Lib.hid (show decide ((i : Int) ≤ 5) = true → l.length ≤ 5 from fun h => by have := of_decide_eq_true h; have := HL.out.1; omega)
      go_wp2
      exact HYES.out _ _ hnr (fun h => ⟨HL5.out h, HT2.out⟩)
end Go.Proofs.YtnjampfhkojbnaaGreatDoor

namespace Go.Proofs.YtnjampfhkojbnaaGreatDoor
open Go Go.RowKit Go.Joins
set_option linter.unusedSimpArgs false
set_option linter.unusedVariables false

structure CaD where
  place : Int
  off : Int
  inp : ByteArray
  lim : Int
  at' : Option Addr
  n : Nat
  cap : Nat
def caC (x : CaD) : List Value := [.int .i64 x.place, .int .i64 x.off, .string x.inp, .int .i64 x.lim, .slice x.at' x.n x.cap]
def FewC (x : CaD) : Prop := x.inp.size ≤ 300 ∧ x.n ≤ 12 ∧ (x.lim ≤ 2000 ∨ 65536 < x.lim)
def FewAll (b : Bn) (l : List LbD) (cs : List CaD) : Prop := FewS b ∧ (l.length ≤ 5 ∧ ∀ x ∈ l, FewL x) ∧ (∀ x ∈ cs, FewC x) ∧ cs.length ≤ 6
def FewAR (b : Bn) (l : List LbD) (cs : List CaD) (w : World) (e : Ending) (w' : World) : Prop := (∃ v, e = .returned (.bool v) ∧ (v = true → FewAll b l cs)) ∧ New w w'
set_option maxRecDepth 100000 in
set_option maxHeartbeats 16000000 in
theorem fewall_any (b : Bn) (h : BH) (A : Option Addr) (n c : Nat) (l : List LbD) (B : Option Addr) (k ck : Nat) (cs : List CaD) (w : World) (hr : BRd w b h) (hb : LensB b) (hl : LsRd w A n l) (hz : ∀ x ∈ l, LensB x.bin) (hn : n ≤ 9223372036854775807) (hk : cs.length = k) (hcs : Rd w 5 B k (cs.flatMap caC)) (hk2 : k ≤ 9223372036854775807) :
    Calls Tryz.prog 11 #[.agg (bcells b h), .slice A n c, .slice B k ck] w (FewAR b l cs w) := by
  have HF := Lib.hid (fun W (hn : New w W) => few_any b h W (hr.new hn) hb)
  have HFL := Lib.hid (fun W (hw : New w W) => fewlibs_any A n c l W (hl.new hw) hz hn)
  have HK := Lib.hid hk
  have HR := Lib.hid hcs
  have HNO := Lib.hid (fun w' (hn : New w w') => (show FewAR b l cs w (.returned (.bool false)) w' from ⟨⟨false, rfl, fun h => by cases h⟩, hn⟩))
  have HYES := Lib.hid (fun w' v (hn : New w w') (h : v = true → FewAll b l cs) => (show FewAR b l cs w (.returned (.bool v)) w' from ⟨⟨v, rfl, h⟩, hn⟩))
  have HALL := Lib.hid (fun (h1 : FewS b) (h2 : l.length ≤ 5 ∧ ∀ x ∈ l, FewL x) (h3 : ∀ x ∈ cs, FewC x) (h4 : cs.length ≤ 6) => (show FewAll b l cs from ⟨h1, h2, h3, h4⟩))
  unfold FewR at HF
  unfold FewLR at HFL
  generalize FewAll b l cs = FA at *
  generalize FewAR b l cs w = PP at *
  generalize FewS b = FB at *
  clear hr hb hl hz hk hcs
  obtain ⟨kind, entry, image, places, fix, imps, exps, notes⟩ := b
  obtain ⟨a1, c1, a2, c2, a3, c3, a4, c4, a5, c5⟩ := h
  simp only [bcells] at *
  generalize places.length = n1 at *
  generalize fix.length = n2 at *
  generalize imps.length = n3 at *
  generalize exps.length = n4 at *
  generalize notes.length = n5 at *
  have BX := Blk.made w 28 #[.int .i64 kind, .int .i64 entry, .string image, .slice a1 n1 c1, .slice a2 n2 c2, .slice a3 n3 c3, .slice a4 n4 c4, .slice a5 n5 c5]
  have nA := (New.refl w).alloc (.cells #[.int .i64 kind, .int .i64 entry, .string image, .slice a1 n1 c1, .slice a2 n2 c2, .slice a3 n3 c3, .slice a4 n4 c4, .slice a5 n5 c5] 28)
  go_enter Tryz.func11, Tryz.ntmps11
  go_upto_region 1 with (fail)
  generalize w.alloc (.cells #[.int .i64 kind, .int .i64 entry, .string image, .slice a1 n1 c1, .slice a2 n2 c2, .slice a3 n3 c3, .slice a4 n4 c4, .slice a5 n5 c5] 28) = wA at *
  generalize w.heap.size = bx at BX ⊢
  have HBX := Lib.hid BX
  have HA := Lib.hid nA
  clear BX nA
  go_wp2
  go_loopw [11] (fun v11 wr => ∃ i : Nat, v11 = .int .i64 i ∧ i ≤ k ∧ New wA wr ∧ Hid (∀ x ∈ cs.take i, FewC x)) (fun v11 _ => k - (intOf v11).toNat)
  case atStart => exact ⟨0, rfl, Nat.zero_le _, New.refl wA, Lib.hid (fun x hx => by simp at hx)⟩
  case round =>
    obtain ⟨i, rfl, hi9, hnr, HT⟩ := hrel
    by_cases hlt : i < k
    · obtain ⟨bk, o, rfl, hbk, p, hp, hcell⟩ := rd_row (f := caC) (k := 5) (fun _ => rfl) HK.out (HR.out.below (HA.out.trans hnr)) hlt
      have HNX := Lib.hid (fun (h : FewC p) => all_next (q := FewC) hp HT.out h)
      obtain ⟨pp, po, pi, pl, pa, pn, pc⟩ := p
      have HNX2 := Lib.hid (fun (h1 : pi.size ≤ 300) (h2 : pn ≤ 12) (h3 : pl ≤ 2000 ∨ 65536 < pl) => HNX.out ⟨h1, h2, h3⟩)
      have q0 := hcell 0 (.int .i64 pp) (by omega) rfl
      have q1 := hcell 1 (.int .i64 po) (by omega) rfl
      have q2 := hcell 2 (.string pi) (by omega) rfl
      have q3 := hcell 3 (.int .i64 pl) (by omega) rfl
      have q4 := hcell 4 (.slice pa pn pc) (by omega) rfl
      simp only [Nat.add_zero] at q0
      rw [← Nat.add_assoc] at q1 q2 q3 q4
      clear HNX hcell hp
      have nB := (New.refl wr).alloc (.cells #[.int .i64 pp, .int .i64 po, .string pi, .int .i64 pl, .slice pa pn pc] 32)
      by_cases h1 : pi.size ≤ 300
      · have t1 : ¬ (300 : Int) < (pi.size : Int) := by omega
        have H1 := Lib.hid h1
        clear h1
        by_cases h2 : pn ≤ 12
        · have t2 : ¬ (12 : Int) < (pn : Int) := by omega
          have H2 := Lib.hid h2
          clear h2
          by_cases h3 : pl ≤ 2000
          · have t3 : ¬ 2000 < pl := by omega
            have H3 := Lib.hid (HNX2.out H1.out H2.out (Or.inl h3))
            clear h3
            go_wp2
            go_roundw
            case rel => exact ⟨i + 1, by go_num, by omega, hnr.trans nB, H3⟩
            case measure => (simp [intOf]; omega)
          · have t3 : 2000 < pl := by omega
            by_cases h4 : pl ≤ 65536
            · clear h3
              go_wp2
              exact HNO.out _ (HA.out.trans (hnr.trans nB))
            · have H3 := Lib.hid (HNX2.out H1.out H2.out (Or.inr (by omega)))
              clear h3
              go_wp2
              go_roundw
              case rel => exact ⟨i + 1, by go_num, by omega, hnr.trans nB, H3⟩
              case measure => (simp [intOf]; omega)
        · have t2 : (12 : Int) < (pn : Int) := by omega
          clear h2
          go_wp2
          exact HNO.out _ (HA.out.trans (hnr.trans nB))
      · have t1 : (300 : Int) < (pi.size : Int) := by omega
        clear h1
        go_wp2
        exact HNO.out _ (HA.out.trans (hnr.trans nB))
    · obtain rfl : i = k := by omega
      have HT2 := Lib.hid (show ∀ x ∈ cs, FewC x by have q := HT.out; rwa [List.take_of_length_le (by rw [HK.out]; exact Nat.le_refl _)] at q)
      have HL6 := Lib.hid (show decide ((i : Int) ≤ 6) = true → cs.length ≤ 6 from fun h => by have := of_decide_eq_true h; have := HK.out; omega)
      have BR := HBX.out.new hnr
      have f0 := BR.cell' 0 _ rfl
      have f1 := BR.cell' 1 _ rfl
      have f2 := BR.cell' 2 _ rfl
      have f3 := BR.cell' 3 _ rfl
      have f4 := BR.cell' 4 _ rfl
      have f5 := BR.cell' 5 _ rfl
      have f6 := BR.cell' 6 _ rfl
      have f7 := BR.cell' 7 _ rfl
      have nW := HA.out.trans hnr
      go_wp2_with (first
        | (go_at_call 28; (with_reducible refine (HF.out _ nW).mono ?_); intro e w1 hq; obtain ⟨⟨v, rfl, hv⟩, n1⟩ := hq; cases v)
        | (go_at_call 29; (with_reducible refine (HFL.out _ (nW.trans n1)).mono ?_); intro e w2 hq; obtain ⟨⟨v2, rfl, hv2⟩, n2⟩ := hq; cases v2))
      · exact HNO.out _ (nW.trans n1)
      · exact HNO.out _ ((nW.trans n1).trans n2)
      · exact HYES.out _ _ ((nW.trans n1).trans n2) (fun h => HALL.out (hv trivial) (hv2 trivial) HT2.out (HL6.out h))
end Go.Proofs.YtnjampfhkojbnaaGreatDoor

namespace Go.Proofs.YtnjampfhkojbnaaGreatDoor
open Go Go.RowKit
set_option linter.unusedSimpArgs false
set_option linter.unusedVariables false

def progB (s : ByteArray) : Bn := ⟨1, 0, s, [⟨⟨#[97, 47, 111]⟩, ⟨#[102]⟩, 1, 0, (s.size : Int)⟩], [], [], [], []⟩
set_option maxRecDepth 100000 in
set_option maxHeartbeats 16000000 in
theorem program_any (s : ByteArray) (w : World) :
    Calls Tryz.prog 22 #[.string s] w fun e w' => ∃ h, e = .returned (.agg (bcells (progB s) h)) ∧ New w w' ∧ BRd w' (progB s) h := by
  go_enter Tryz.func22, Tryz.ntmps22
  go_wp2
  have nF := ((New.refl w).alloc (.cells #[.int .i64 1, .int .i64 0, .string s, .slice (some ⟨w.heap.size + 1, 0, none⟩) 1 1, .slice none 0 0, .slice none 0 0, .slice none 0 0, .slice none 0 0] 28)).alloc (.cells #[.string ⟨#[97, 47, 111]⟩, .string ⟨#[102]⟩, .int .i64 1, .int .i64 0, .int .i64 (s.size : Int)] 52)
  have BX := (Blk.made w 28 #[.int .i64 1, .int .i64 0, .string s, .slice (some ⟨w.heap.size + 1, 0, none⟩) 1 1, .slice none 0 0, .slice none 0 0, .slice none 0 0, .slice none 0 0]).alloc (.cells #[.string ⟨#[97, 47, 111]⟩, .string ⟨#[102]⟩, .int .i64 1, .int .i64 0, .int .i64 (s.size : Int)] 52)
  have BL : Blk ((w.alloc (.cells #[.int .i64 1, .int .i64 0, .string s, .slice (some ⟨w.heap.size + 1, 0, none⟩) 1 1, .slice none 0 0, .slice none 0 0, .slice none 0 0, .slice none 0 0] 28)).alloc (.cells #[.string ⟨#[97, 47, 111]⟩, .string ⟨#[102]⟩, .int .i64 1, .int .i64 0, .int .i64 (s.size : Int)] 52)) (w.heap.size + 1) 52 #[.string ⟨#[97, 47, 111]⟩, .string ⟨#[102]⟩, .int .i64 1, .int .i64 0, .int .i64 (s.size : Int)] := by
    have q := Blk.made (w.alloc (.cells #[.int .i64 1, .int .i64 0, .string s, .slice (some ⟨w.heap.size + 1, 0, none⟩) 1 1, .slice none 0 0, .slice none 0 0, .slice none 0 0, .slice none 0 0] 28)) 52 #[.string ⟨#[97, 47, 111]⟩, .string ⟨#[102]⟩, .int .i64 1, .int .i64 0, .int .i64 (s.size : Int)]
    rwa [show (w.alloc (.cells #[.int .i64 1, .int .i64 0, .string s, .slice (some ⟨w.heap.size + 1, 0, none⟩) 1 1, .slice none 0 0, .slice none 0 0, .slice none 0 0, .slice none 0 0] 28)).heap.size = w.heap.size + 1 from Array.size_push ..] at q
  generalize (w.alloc (.cells #[.int .i64 1, .int .i64 0, .string s, .slice (some ⟨w.heap.size + 1, 0, none⟩) 1 1, .slice none 0 0, .slice none 0 0, .slice none 0 0, .slice none 0 0] 28)).alloc (.cells #[.string ⟨#[97, 47, 111]⟩, .string ⟨#[102]⟩, .int .i64 1, .int .i64 0, .int .i64 (s.size : Int)] 52) = W at *
  have hR : Rd W 5 (some ⟨w.heap.size + 1, 0, none⟩) 1 ([⟨⟨#[97, 47, 111]⟩, ⟨#[102]⟩, 1, 0, (s.size : Int)⟩].flatMap plC) := by
    refine ⟨rfl, fun _ => ⟨_, 0, rfl, BL.lt, fun j v hv => ?_⟩⟩
    rw [Nat.zero_add]
    exact BL.cell' j v (by rw [← Array.getElem?_toList]; exact hv)
  have hB : BRd W (progB s) ⟨some ⟨w.heap.size + 1, 0, none⟩, 1, none, 0, none, 0, none, 0, none, 0⟩ := ⟨hR, Rd.none_ _, Rd.none_ _, Rd.none_ _, Rd.none_ _⟩
  generalize w.heap.size + 1 = bl at *
  have e0 := BX.cell' 0 _ rfl
  have e1 := BX.cell' 1 _ rfl
  have e2 := BX.cell' 2 _ rfl
  have e3 := BX.cell' 3 _ rfl
  have e4 := BX.cell' 4 _ rfl
  have e5 := BX.cell' 5 _ rfl
  have e6 := BX.cell' 6 _ rfl
  have e7 := BX.cell' 7 _ rfl
  exact bodyPost_ret (v := .agg #[.int .i64 1, .int .i64 0, .string s, .slice (some ⟨bl, 0, none⟩) 1 1, .slice none 0 0, .slice none 0 0, .slice none 0 0, .slice none 0 0]) (by simp [results, Tryz.results22, go_sem, e0, e1, e2, e3, e4, e5, e6, e7]) rfl ⟨_, rfl, nF, hB⟩
end Go.Proofs.YtnjampfhkojbnaaGreatDoor

namespace Go.Proofs.YtnjampfhkojbnaaGreatDoor
open Go Go.RowKit Go.Shelf
set_option linter.unusedSimpArgs false
set_option linter.unusedVariables false

theorem u8C_one (l : List UInt8) : ∀ u ∈ u8C l, u.oneCell' = true := fun u hu => by
  unfold u8C at hu
  obtain ⟨x, _, rfl⟩ := List.mem_map.1 hu
  rfl
def ClP (w : World) (n1 : Nat) (ys : List Value) (mem : List UInt8) (e : Ending) (w' : World) : Prop := ∃ (m' : Nat) (MV PV : Value), e = .returned (.pointer (some ⟨m', 0, none⟩)) ∧ ML w w' m' MV PV mem ∧ w'.ownsRow w.heap.size 52 5 PV n1 ys
theorem clone_ml {w0 w : World} {MV PV : Value} {n1 : Nat} {ys : List Value} {mem : List UInt8} (hn : New w0 w) (hr : w.ownsRow w0.heap.size 5 1 MV mem.length (u8C mem)) (hp : w.ownsRow w0.heap.size 52 5 PV n1 ys) :
    ClP w0 n1 ys mem (.returned (.pointer (some ⟨w.heap.size, 0, none⟩))) (w.alloc (.cells #[MV, PV] 75)) := by
  have q := (New.refl w).alloc (.cells #[MV, PV] 75)
  exact ⟨w.heap.size, MV, PV, rfl, ⟨hn.alloc _, hn.size, Blk.made .., own_at hr fun j _ e _ => q.block j (hr.lt j e).2⟩, own_at hp fun j _ e _ => q.block j (hp.lt j e).2⟩
set_option maxRecDepth 100000 in
set_option maxHeartbeats 16000000 in
theorem clone_any {w : World} {m g mc n1 c1 : Nat} {P1 : Option Addr} {mem : List UInt8} {ys : List Value} (hM : MM w m g mc (.slice P1 n1 c1) mem) (hp : Rd w 5 P1 n1 ys) (hy : ∀ u ∈ ys, u.oneCell' = true) (h1 : mem.length ≤ 1000000000) (h2 : n1 ≤ 1000000) :
    Calls Tryz.prog 23 #[.pointer (some ⟨m, 0, none⟩)] w (ClP w n1 ys mem) := by
  have HM := Lib.hid hM
  have HP := Lib.hid hp
  have HML := Lib.hid (fun (W : World) (MV PV : Value) (hn : New w W) (hr : W.ownsRow w.heap.size 5 1 MV mem.length (u8C mem)) (hp : W.ownsRow w.heap.size 52 5 PV n1 ys) => clone_ml hn hr hp)
  generalize ClP w n1 ys mem = PP at *
  have RM : Rd w 1 (some ⟨g, 0, none⟩) mem.length (u8C mem) := Rd.of_own hM.row
  have HRM := Lib.hid RM
  have BX : Blk w m 75 #[.slice (some ⟨g, 0, none⟩) mem.length mc, .slice P1 n1 c1] := hM.mach
  clear hM hp RM
  go_enter Tryz.func23, Tryz.ntmps23
  go_upto_region 1 with (fail)
  have n0 := New.refl w
  refine wp_region_held_drew (S := fun W => W.cell? ⟨m, 0, none⟩ = some (.slice (some ⟨g, 0, none⟩) mem.length mc) ∧ W.cell? ⟨m, 1, none⟩ = some (.slice P1 n1 c1)) (by kernel_rfl) ⟨BX.drew.cell' 0 _ rfl, BX.drew.cell' 1 _ rfl⟩ (fun hS => ?_)
  have n0 := n0.drew
  have BX := BX.drew
  generalize w.drew = wC at *
  refine tkT 0 (v := ?v1) hS (fun wq hSq => ?y1) ?_; (case y1 => clear hSq; go_simp; (try with_reducible rfl)); simp only [Act.put, gqD, gqE, gqF]
  refine tkT 5 (v := ?v2) hS (fun wq hSq => ?y2) ?_; (case y2 => clear hSq; go_simp; (try with_reducible rfl)); simp only [Act.put, gqD, gqE, gqF]
  refine tkT 1 (v := ?v3) hS (fun wq hSq => ?y3) ?_; (case y3 => clear hSq; go_simp; (try with_reducible rfl)); simp only [Act.put, gqD, gqE, gqF]
  refine tkT 6 (v := ?v4) hS (fun wq hSq => ?y4) ?_; (case y4 => clear hSq; go_simp; (try with_reducible rfl)); simp only [Act.put, gqD, gqE, gqF]
  refine tkT 2 (v := ?v5) hS (fun wq hSq => ?y5) ?_; (case y5 => clear hSq; go_simp; (try with_reducible rfl)); simp only [Act.put, gqD, gqE, gqF]
  refine tkT 7 (v := ?v6) hS (fun wq hSq => ?y6) ?_; (case y6 => clear hSq; go_simp; (try with_reducible rfl)); simp only [Act.put, gqD, gqE, gqF]
  refine tkT 3 (v := ?v7) hS (fun wq hSq => ?y7) ?_; (case y7 => have hf0 := hSq.1; have hf1 := hSq.2; clear hSq; go_simp; (try with_reducible rfl)); simp only [Act.put, gqD, gqE, gqF]
  refine tkT 8 (v := ?v8) hS (fun wq hSq => ?y8) ?_; (case y8 => have hf0 := hSq.1; have hf1 := hSq.2; clear hSq; go_simp; (try with_reducible rfl)); simp only [Act.put, gqD, gqE, gqF]
  refine wpAnyH_ready (rs := [4]) (by kernel_rfl) (by simp) ?_
  refine AllReadyH.cons (o := ?oi9) ?hi9 (fun K hK => ?_) AllReadyH.nil
  case hi9 => (simp only [gqA, gqB, gqC]; rfl)
  refine step_append_rdG Tryz.byteT (by rfl) _ _ (by rfl) w.heap.size (.slice none 0 0) 0 [] (by rfl) (World.ownsRow_nil ..) (some ⟨g, 0, none⟩) mem.length mc (u8C mem) (by rfl) (HRM.out.below n0) (u8C_one mem) (by omega) (by decide) n0.size ?_
  intro v8 w8 own8 g8 _
  obtain ⟨A8, cp8, rfl, _⟩ := own_form own8
  rw [Nat.zero_add] at own8
  simp only [Nat.zero_add]
  have OM := own_eq own8 rfl (List.nil_append _)
  have n8 := new_none g8
  simp only [Act.put, gqD, gqE, gqF]
  refine hK.out _ _ (⟨(BX.new n8).cell' 0 _ rfl, (BX.new n8).cell' 1 _ rfl⟩) (fun hS => ?_)
  clear hK K
  have BX := BX.new n8
  have n0 := n0.trans n8
  clear own8 g8 n8
  refine wpAnyH_ready (rs := [9]) (by kernel_rfl) (by simp) ?_
  refine AllReadyH.cons (o := ?oi10) ?hi10 (fun K hK => ?_) AllReadyH.nil
  case hi10 => (simp only [gqA, gqB, gqC]; rfl)
  refine step_append_rdG Tryz.placeT (by rfl) _ _ (by rfl) w.heap.size (.slice none 0 0) 0 [] (by rfl) (World.ownsRow_nil ..) P1 n1 c1 ys (by rfl) (HP.out.below n0) hy (by omega) (by decide) n0.size ?_
  intro v9 w9 own9 g9 _
  obtain ⟨A9, cp9, rfl, _⟩ := own_form own9
  rw [Nat.zero_add] at own9
  simp only [Nat.zero_add]
  have OP := own_eq own9 rfl (List.nil_append _)
  have n9 := new_none g9
  have OM := own_at OM fun j _ e _ => n9.block j (OM.lt j e).2
  simp only [Act.put, gqD, gqE, gqF]
  refine hK.out _ _ (⟨(BX.new n9).cell' 0 _ rfl, (BX.new n9).cell' 1 _ rfl⟩) (fun hS => ?_)
  clear hK K
  have BX := BX.new n9
  have n0 := n0.trans n9
  clear own9 g9 n9
  refine tkT 10 (v := ?v11) hS (fun wq hSq => ?y11) ?_; (case y11 => clear hSq; go_simp; (try with_reducible rfl)); simp only [Act.put, gqD, gqE, gqF]
  refine wpAnyH_ready (rs := [11]) (by kernel_rfl) (by simp) ?_
  refine AllReadyH.cons (o := ?oi12) ?hi12 (fun K hK => ?_) AllReadyH.nil
  case hi12 => (simp only [gqA, gqB, gqC]; rfl)
  have SB := HML.out _ _ _ n0 OM OP
  go_simp
  refine hK.out _ _ (⟨(BX.alloc _).cell' 0 _ rfl, (BX.alloc _).cell' 1 _ rfl⟩) (fun hS => ?_)
  clear hK K
  refine tkT 12 (v := ?v13) hS (fun wq hSq => ?y13) ?_; (case y13 => clear hSq; go_simp; (try with_reducible rfl)); simp only [Act.put, gqD, gqE, gqF]
  refine wpAnyH_done (by kernel_rfl) ?_ _
  go_wp2
  exact SB
end Go.Proofs.YtnjampfhkojbnaaGreatDoor

namespace Go.Proofs.YtnjampfhkojbnaaGreatDoor
open Go Go.RowKit
set_option linter.unusedSimpArgs false
set_option linter.unusedVariables false

def pr1 : ByteArray := ⟨#[1, 1, 2, 0, 2, 0, 9, 13, 13]⟩
def pr2 : ByteArray := ⟨#[0, 0, 6, 7, 1, 5, 0, 0, 0, 13]⟩
set_option maxRecDepth 100000 in
theorem valid1 : validP (progB pr1) [] = true := by decide +kernel
set_option maxRecDepth 100000 in
theorem valid2 : validP (progB pr2) [] = true := by decide +kernel
theorem imB_prog (s : ByteArray) : imB (progB s) = ⟨s.data.toList, [], []⟩ := rfl
theorem load1 : loadV (progB pr1) [] = .ok (memC code1) := by
  unfold loadV
  rw [if_pos valid1, imB_prog]
  have e : memV ⟨pr1.data.toList, [], []⟩ (([] : List LbD).map lbI) ((progB pr1).imps.map imI) = some (memC code1) := memV_code _
  rw [e]
theorem load2 : loadV (progB pr2) [] = .ok (memC code2) := by
  unfold loadV
  rw [if_pos valid2, imB_prog]
  have e : memV ⟨pr2.data.toList, [], []⟩ (([] : List LbD).map lbI) ((progB pr2).imps.map imI) = some (memC code2) := memV_code _
  rw [e]
theorem run2 : runP (progB pr2) [] [120, 121] 4 = ⟨5, [120], 4, 0, memC code2⟩ := by
  unfold runP
  rw [load2]
  exact ex2
theorem run3 : (runP (progB pr2) [] [120, 121] 3).e = 16 := by
  unfold runP
  rw [load2]
  exact ex3
theorem sz_prog (s : ByteArray) (h : s.size ≤ 1000) : SzB (progB s) := by
  have h1 : SzP (progB s).places := fun p hp => by
    have e : p = ⟨⟨#[97, 47, 111]⟩, ⟨#[102]⟩, 1, 0, (s.size : Int)⟩ := List.mem_singleton.1 hp
    rw [e]
    exact ⟨(by decide : (⟨#[97, 47, 111]⟩ : ByteArray).size ≤ 1000000), (by decide : (⟨#[102]⟩ : ByteArray).size ≤ 1000000)⟩
  exact { pl := h1, nt := (fun p hp => by cases hp), im := (fun p hp => by cases hp), fx := (fun p hp => by cases hp), img := Nat.le_trans h (by decide), l1 := (by decide : 1 ≤ 1000000), l2 := Nat.zero_le _, l3 := Nat.zero_le _, l4 := Nat.zero_le _, l5 := Nat.zero_le _ }
end Go.Proofs.YtnjampfhkojbnaaGreatDoor

