/- Address of a machine. Conditions: the places' addresses are small. What a right binary is good for when it is loaded; the map kept while a machine is loaded. No program in sight, no conditions. Load. Conditions: sizes. (Printed by mk-u6.py.) -/
import Derived.Test.YtnjampfhkojbnaaGreatDoorGBase
import Derived.Test.YtnjampfhkojbnaaGreatDoorGU1

namespace Go.Proofs.YtnjampfhkojbnaaGreatDoor
open Go Go.RowKit Go.Shelf
set_option linter.unusedSimpArgs false
set_option linter.unusedVariables false

def addrV : List PlD → ByteArray → ByteArray → Nat × Bool
  | [], _, _ => (0, false)
  | p :: r, o, s => if p.obj = o ∧ p.sym = s then (64 + p.pos.toNat, true) else addrV r o s
theorem addrV_at {l : List PlD} {i : Nat} {p : PlD} {o s : ByteArray} (h : l[i]? = some p) : addrV (l.drop i) o s = if p.obj = o ∧ p.sym = s then (64 + p.pos.toNat, true) else addrV (l.drop (i + 1)) o s := by
  obtain ⟨hi, he⟩ := List.getElem?_eq_some_iff.1 h
  rw [List.drop_eq_getElem_cons hi, addrV, he]
theorem seq_t {a b : ByteArray} (h : a = b) : (a.toList == b.toList) = true := by rw [str_eq]; exact decide_eq_true h
theorem seq_f {a b : ByteArray} (h : ¬ a = b) : (a.toList == b.toList) = false := by rw [str_eq]; exact decide_eq_false h
theorem pos_i64 {p : Nat} (h : p ≤ 1000000) : IntKind.i64.wrap (64 + (p : Int)) = 64 + (p : Int) ∧ (64 + (p : Int)) % 4294967296 = 64 + (p : Int) := ⟨IntWalk.i64_in _ (by omega), by omega⟩
set_option maxRecDepth 100000 in
set_option maxHeartbeats 4000000 in
theorem addr_any {m n cp : Nat} {pa : Option Addr} (l : List PlD) (o s : ByteArray) (w : World) (hm : w.cell? ⟨m, 1, none⟩ = some (.slice pa n cp)) (hl : l.length = n) (hr : Rd w 5 pa n (l.flatMap plC)) (hp : ∀ p ∈ l, 0 ≤ p.pos ∧ p.pos ≤ 1000000) (hn : n ≤ 1000000) :
    Calls Tryz.prog 16 #[.pointer (some ⟨m, 0, none⟩), .string o, .string s] w fun e w' => e = .returned (.tuple #[.int .u32 ((addrV l o s).1 : Int), .bool (addrV l o s).2]) ∧ New w w' := by
  have HL := Lib.hid hl
  have HR := Lib.hid hr
  have HP := Lib.hid hp
  obtain ⟨R, hR⟩ : ∃ R, addrV l o s = R := ⟨_, rfl⟩
  rw [hR]
  have HRR := Lib.hid hR
  clear hl hr hp hR
  go_enter Tryz.func16, Tryz.ntmps16
  go_wp2
  go_loopw [15] (fun v15 wr => ∃ i : Nat, v15 = .int .i64 i ∧ i ≤ n ∧ New w wr ∧ Hid (addrV (l.drop i) o s = R)) (fun v15 _ => n - (intOf v15).toNat)
  case atStart => exact ⟨0, rfl, by omega, New.refl w, Lib.hid HRR.out⟩
  case round =>
    obtain ⟨i, rfl, hi9, hnr, HGo⟩ := hrel
    by_cases hlt : i < n
    · obtain ⟨bk, oo, rfl, hbk, p, hp, hcell⟩ := rd_row (f := plC) (k := 5) (fun _ => rfl) HL.out (HR.out.below hnr) hlt
      obtain ⟨hp0, hp1⟩ := HP.out p (List.mem_of_getElem? hp)
      have hgo := addrV_at (o := o) (s := s) hp
      rw [HGo.out] at hgo
      obtain ⟨po, ps, pk, pp, pz⟩ := p
      simp only at hp0 hp1 hgo
      obtain ⟨pn, rfl⟩ : ∃ pn : Nat, pp = (pn : Int) := ⟨pp.toNat, by omega⟩
      rw [Int.toNat_natCast] at hgo
      obtain ⟨k1, k2⟩ := pos_i64 (p := pn) (by omega)
      have q0 := hcell 0 (.string po) (by omega) rfl
      have q1 := hcell 1 (.string ps) (by omega) rfl
      have q2 := hcell 2 (.int .i64 pk) (by omega) rfl
      have q3 := hcell 3 (.int .i64 (pn : Int)) (by omega) rfl
      have q4 := hcell 4 (.int .i64 pz) (by omega) rfl
      simp only [Nat.add_zero] at q0
      rw [← Nat.add_assoc] at q1 q2 q3 q4
      have nB := (New.refl wr).alloc (.cells #[.string po, .string ps, .int .i64 pk, .int .i64 (pn : Int), .int .i64 pz] 52)
      have HG := Lib.hid hgo
      clear hcell hgo hp hp0 hp1
      by_cases h1 : po = o
      · have t1 := seq_t h1
        by_cases h2 : ps = s
        · have t2 := seq_t h2
          have HG2 := Lib.hid (show R = (64 + pn, true) by rw [HG.out, if_pos ⟨h1, h2⟩])
          clear h1 h2 HG
          go_wp2
          refine bodyPost_ret (v := .tuple #[.int .u32 (64 + (pn : Int)), .bool true]) (by simp [results, Tryz.results16, go_sem]) rfl ⟨by rw [HG2.out]; rfl, hnr.trans nB⟩
        · have t2 := seq_f h2
          have HG2 := Lib.hid (show R = addrV (l.drop (i + 1)) o s by rw [HG.out, if_neg (fun h => h2 h.2)])
          clear h1 h2 HG
          go_wp2
          go_roundw
          case rel => exact ⟨i + 1, by go_num, by omega, hnr.trans nB, Lib.hid HG2.out.symm⟩
          case measure => (simp [intOf]; omega)
      · have t1 := seq_f h1
        have HG2 := Lib.hid (show R = addrV (l.drop (i + 1)) o s by rw [HG.out, if_neg (fun h => h1 h.1)])
        clear h1 HG
        go_wp2
        go_roundw
        case rel => exact ⟨i + 1, by go_num, by omega, hnr.trans nB, Lib.hid HG2.out.symm⟩
        case measure => (simp [intOf]; omega)
    · obtain rfl : i = n := by omega
      have HG2 := Lib.hid (show R = (0, false) by rw [← HGo.out, List.drop_of_length_le (by rw [HL.out]; exact Nat.le_refl _)]; rfl)
      go_wp2
      refine bodyPost_ret (v := .tuple #[.int .u32 0, .bool false]) (by simp [results, Tryz.results16, go_sem]) rfl ⟨by rw [HG2.out]; rfl, hnr⟩
end Go.Proofs.YtnjampfhkojbnaaGreatDoor

namespace Go.Proofs.YtnjampfhkojbnaaGreatDoor
open Go Go.RowKit
set_option linter.unusedSimpArgs false
set_option linter.unusedVariables false

theorem KMap.others {P : Program} {kt et : TypeId} {w w' : World} {b n m : Nat} {L : List (Lit × Nat)} (h : KMap P kt et w b n L) (hk : Lib.OthersKept 5 (some m) w w') (hne : b ≠ m) : KMap P kt et w' b n L := by
  obtain ⟨D, ⟨es, cl, hb, F, hs, hD⟩, hm⟩ := h
  exact ⟨D, ⟨es, cl, hk b _ hb (by simpa using hne) (fun _ _ e => by cases e), F, hs, hD⟩, hm⟩
theorem withinV_img {b : Bn} (hp : PlOK b) {a : Int} (h : withinV b.places a = true) : 0 ≤ a ∧ a + 4 ≤ (b.image.size : Int) := by
  unfold withinV at h
  rw [List.any_eq_true] at h
  obtain ⟨p, hm, hw⟩ := h
  unfold withinP at hw
  simp only [Bool.and_eq_true, decide_eq_true_eq] at hw
  obtain ⟨h1, h2, h3⟩ := hp.mem p hm
  omega
theorem fixGo_in {ps : List PlD} {img : ByteArray} : ∀ {l T : List Int}, fixGo ps img l T = true → ∀ a ∈ l, withinV ps a = true
  | [], _, _, a, ha => by cases ha
  | x :: r, T, h, a, ha => by
    rw [fixGo, Bool.and_eq_true] at h
    rcases List.mem_cons.1 ha with rfl | ha
    · have := h.1
      unfold fixOK takeV at this
      simp only [Bool.and_eq_true] at this
      exact this.1.2.1
    · exact fixGo_in h.2 a ha
theorem impGo_in {ps : List PlD} {img : ByteArray} {F : List Int} : ∀ {l : List ImD} {P : List Int}, impGo ps img F l P = true → ∀ x ∈ l, withinV ps x.pos = true
  | [], _, _, a, ha => by cases ha
  | y :: r, P, h, a, ha => by
    rw [impGo, Bool.and_eq_true] at h
    rcases List.mem_cons.1 ha with rfl | ha
    · have := h.1
      unfold impOK takeV at this
      simp only [Bool.and_eq_true] at this
      exact this.1.1.1.2.1
    · exact impGo_in h.2 a ha
theorem chk_true {b : Bn} (h : chkE b = 0) : checkV b = true := by
  unfold chkE at h
  split at h
  · assumption
  · cases h
structure LdOK (b : Bn) : Prop where
  pl : PlOK b
  fix : ∀ a ∈ b.fix, 0 ≤ a ∧ a.toNat + 4 ≤ b.image.size
  imp : ∀ x ∈ b.imps, 0 ≤ x.pos ∧ x.pos.toNat + 4 ≤ b.image.size
theorem chk_ld {b : Bn} (h : chkE b = 0) : LdOK b := by
  have h := chk_true h
  unfold checkV at h
  simp only [Bool.and_eq_true] at h
  obtain ⟨⟨⟨h1, h2⟩, h3⟩, h4⟩ := h
  have hp := placed_ok h1
  unfold wordsV at h2
  rw [Bool.and_eq_true] at h2
  refine ⟨hp, fun a ha => ?_, fun x hx => ?_⟩
  · have := withinV_img hp (fixGo_in h2.1 a ha)
    omega
  · have := withinV_img hp (impGo_in h2.2 x hx)
    omega
theorem exp_in {b : Bn} (hz : SzP b.places) (hp : PlOK b) {i : Nat} {x : ExD} (hx : b.exps[i]? = some x) (h : expOK b.places b.exps i = true) : 0 ≤ x.pos ∧ x.pos ≤ 65536 ∧ x.sym.size ≤ 1000000 := by
  unfold expOK at h
  rw [hx] at h
  simp only [Bool.and_eq_true] at h
  have h2 := h.2
  rw [List.any_eq_true] at h2
  obtain ⟨p, hm, he⟩ := h2
  unfold expV at he
  simp only [Bool.and_eq_true, decide_eq_true_eq] at he
  obtain ⟨q1, q2, q3⟩ := hp.mem p hm
  have := hp.le
  refine ⟨by omega, by omega, ?_⟩
  rw [← he.1]
  exact (hz p hm).2
theorem exported_at {ps : List PlD} {l : List ExD} (h : exportedV ps l = true) {i : Nat} {x : ExD} (hx : l[i]? = some x) : expOK ps l i = true := by
  unfold exportedV at h
  rw [List.all_eq_true] at h
  exact h i (List.mem_range.2 (List.getElem?_eq_some_iff.1 hx).1)
theorem chk_exp {b : Bn} (hz : SzP b.places) (h : chkE b = 0) (hk : b.kind = 2) : ∀ x ∈ b.exps, 0 ≤ x.pos ∧ x.pos ≤ 65536 ∧ x.sym.size ≤ 1000000 := fun x hx => by
  have h := chk_true h
  unfold checkV at h
  simp only [Bool.and_eq_true, Bool.or_eq_true, decide_eq_true_eq] at h
  obtain ⟨⟨⟨h1, h2⟩, h3⟩, h4⟩ := h
  have hp := placed_ok h1
  rcases h4 with h4 | h4
  · omega
  · obtain ⟨i, hi⟩ := List.mem_iff_getElem?.1 hx
    exact exp_in hz hp hi (exported_at h4.2 hi)
theorem libsGo_ok : ∀ {l : List LbD} {seen : List ByteArray}, libsGo l seen = true → ∀ x ∈ l, libOK x = true
  | [], _, _, x, hx => by cases hx
  | y :: r, seen, h, x, hx => by
    rw [libsGo] at h
    split at h
    · rename_i hc
      rcases List.mem_cons.1 hx with rfl | hx
      · exact hc.2
      · exact libsGo_ok h x hx
    · cases h
theorem libOK_ld {x : LbD} (hz : SzP x.bin.places) (h : libOK x = true) : LdOK x.bin ∧ ∀ e ∈ x.bin.exps, 0 ≤ e.pos ∧ e.pos ≤ 65536 ∧ e.sym.size ≤ 1000000 := by
  unfold libOK at h
  simp only [Bool.and_eq_true, decide_eq_true_eq] at h
  exact ⟨chk_ld h.2, chk_exp hz h.2 h.1.2⟩
theorem valid_ld {p : Bn} {l : List LbD} (hz : ∀ x ∈ l, SzP x.bin.places) (h : validP p l = true) : LdOK p ∧ l.length ≤ 64 ∧ ∀ x ∈ l, LdOK x.bin ∧ ∀ e ∈ x.bin.exps, 0 ≤ e.pos ∧ e.pos ≤ 65536 ∧ e.sym.size ≤ 1000000 := by
  unfold validP at h
  simp only [Bool.and_eq_true, decide_eq_true_eq] at h
  exact ⟨chk_ld h.1.1.1, h.1.2, fun x hx => libOK_ld (hz x hx) (libsGo_ok h.2 x hx)⟩
theorem loadP_size (m img : List UInt8) (F : List Nat) : (loadP m img F).length ≤ m.length + img.length + 3 ∧ m.length + img.length ≤ (loadP m img F).length := by
  have e : loadP m img F = fixP m.length F (padN (m ++ img)) := rfl
  rw [e, fixP_len]
  have := padN_len (m ++ img)
  rw [List.length_append] at this
  omega
def loadV (b : Bn) (l : List LbD) : Except Int (List UInt8) := if validP b l = true then (match memV (imB b) (l.map lbI) (b.imps.map imI) with
  | none => .error 8
  | some m => .ok m) else .error 1
structure LS (w0 w1 w : World) (m gm k : Nat) (PL : Value) (mem : List UInt8) (L : List ((List UInt8 × List UInt8) × Nat)) : Prop where
  ml : ∃ MV, ML w0 w m MV PL mem
  ok : Lib.OthersKept 5 (some m) w1 w
  gm0 : w0.heap.size ≤ gm
  gmj : ∀ j o, w1.heap[j]? = some o → some j ≠ some m → (∀ c fz, o ≠ .cells c 5 fz) → j ≠ gm
  km : KMap Tryz.prog 83 36 w gm k (mapM L)
section
variable {w0 w1 w w' : World} {m gm k : Nat} {PL : Value} {mem mem' : List UInt8} {L : List ((List UInt8 × List UInt8) × Nat)}
theorem KMap.heap {P : Program} {kt et : TypeId} {b n : Nat} {l : List (Lit × Nat)} (h : KMap P kt et w b n l) : ∃ es cl, w.heap[b]? = some (.map es cl) := by
  obtain ⟨D, ⟨es, cl, hb, _⟩, _⟩ := h
  exact ⟨es, cl, hb⟩
theorem KMap.apart {P : Program} {kt et : TypeId} {b n g : Nat} {l : List (Lit × Nat)} {cs : Array Value} {t : TypeId} {z : Nat × Nat} (h : KMap P kt et w b n l) (hb : w.heap[g]? = some (.cells cs t z)) : g ≠ b := fun e => by
  obtain ⟨es, cl, h1⟩ := h.heap
  rw [e, h1] at hb
  cases hb
theorem LS.nw (h : LS w0 w1 w m gm k PL mem L) : New w0 w := h.ml.elim fun _ q => q.nw
theorem LS.new (h : LS w0 w1 w m gm k PL mem L) (hn : New w w') : LS w0 w1 w' m gm k PL mem L := ⟨h.ml.imp fun _ q => q.new hn, others_new h.ok hn, h.gm0, h.gmj, h.km.new hn⟩
theorem LS.loaded (h : LS w0 w1 w m gm k PL mem L) (hm : ∃ MV, ML w0 w' m MV PL mem') (hk : Lib.OthersKept 5 (some m) w w') : LS w0 w1 w' m gm k PL mem' L := ⟨hm, h.ok.trans hk, h.gm0, h.gmj, h.km.others hk (Ne.symm (h.ml.elim fun _ q => h.km.apart q.mach))⟩
theorem LS.put (h : LS w0 w1 w m gm k PL mem L) (x : (List UInt8 × List UInt8) × Nat) (hK : KMap Tryz.prog 83 36 w' gm (k + 1) ((keyD (S x.1.1) (S x.1.2), x.2) :: mapM L)) (hg : w.grownBy w' (some gm)) : LS w0 w1 w' m gm (k + 1) PL mem (L ++ [x]) := by
  have h0 := h.gm0
  obtain ⟨MV, q⟩ := h.ml
  have a1 : m ≠ gm := h.km.apart q.mach
  refine ⟨⟨MV, ⟨Below.grown q.nw hg q.nw.size (fun k e => by have := Option.some.inj e; omega), q.m0, q.mach.grown hg (by simpa using a1), own_grown q.row hg fun j e => ?_⟩⟩, fun j o hj hb ho => ?_, h.gm0, h.gmj, by rw [mapM_snoc]; exact hK⟩
  · obtain ⟨cs, hcs⟩ := own_type q.row e
    have := h.km.apart hcs
    intro e2
    have := Option.some.inj e2
    omega
  · have h2 := h.ok j o hj hb ho
    have h3 := h.gmj j o hj hb ho
    exact (hg.block j (Array.getElem?_eq_some_iff.1 h2).1 (fun e => h3 (Option.some.inj e))).trans h2
theorem LS.start (hm : ∃ MV, ML w0 w m MV PL mem) (hk : Lib.OthersKept 5 (some m) w1 w) : LS w0 w1 (w.alloc (.map #[] 0)) m w.heap.size 0 PL mem [] :=
  have q := (New.refl w).alloc (.map #[] 0)
  ⟨hm.imp fun _ r => r.new q, others_new hk q, hm.elim fun _ r => r.nw.size, fun j o hj hb ho e => by
    have := (Array.getElem?_eq_some_iff.1 (hk j o hj hb ho)).1
    omega, KMap.made w⟩
theorem LS.word (h : LS w0 w1 w m gm k PL mem L) {g mc : Nat} (hq : ML w0 w m (.slice (some ⟨g, 0, none⟩) mem.length mc) PL mem) (h0 : w0.heap.size ≤ g) (hM : MM w' m g mc PL mem') (hg : w.grownBy w' (some g)) (hl : mem'.length = mem.length) : LS w0 w1 w' m gm k PL mem' L := by
  obtain ⟨cs, hcs⟩ := own_type hq.row (k := g) rfl
  refine ⟨⟨_, hq.turned hM hg hl h0⟩, Lib.OthersKept.grown h.ok hg (fun j e => by have := Option.some.inj e; subst this; exact ⟨cs, _, hcs⟩), h.gm0, h.gmj, h.km.kept hg (fun e => h.km.apart hcs (Option.some.inj e).symm)⟩
theorem LS.blk (h : LS w0 w1 w m gm k PL mem L) {b : Nat} {t : TypeId} {cs : Array Value} (hb : Blk w1 b t cs) (ht : t ≠ 5) (hm : b ≠ m) : Blk w b t cs := h.ok b _ hb (by simpa using hm) (fun c fz e => by injection e with _ e _; exact ht e)
theorem LS.own (h : LS w0 w1 w m gm k PL mem L) {B n size : Nat} {e t : TypeId} {v : Value} {xs : List Value} {cs : Array Value} (ho : w1.ownsRow B e size v n xs) (he : e ≠ 5) (hm : Blk w1 m t cs) (ht : t ≠ e) : w.ownsRow B e size v n xs := own_at ho fun j c e1 e2 => by
  have h1 := h.ok j _ e2 (fun e3 => own_apart ho hm ht (by rw [e1, e3])) (fun c fz e => by injection e with _ e _; exact he e)
  rw [h1, e2]
end
end Go.Proofs.YtnjampfhkojbnaaGreatDoor

namespace Go.Proofs.YtnjampfhkojbnaaGreatDoor
open Go Go.RowKit Go.Shelf
set_option linter.unusedSimpArgs false
set_option linter.unusedVariables false

def zPl : Value := .agg #[.string ⟨#[]⟩, .string ⟨#[]⟩, .int .i64 0, .int .i64 0, .int .i64 0]
theorem Tryz.placeT : EType Tryz.prog 22 52 zPl 5 56 := ⟨by kernel_rfl, by kernel_rfl, rfl, by decide⟩
theorem plC_one (l : List PlD) : ∀ u ∈ l.flatMap plC, u.oneCell' = true := fun u hu => by
  obtain ⟨p, _, h⟩ := List.mem_flatMap.1 hu
  simp [plC] at h
  rcases h with rfl | rfl | rfl | rfl | rfl <;> rfl
theorem new_none {w w' : World} (g : w.grownBy w' none) : New w w' := ⟨g.os, g.tape, g.output, g.size, fun k hk => g.block k hk (by simp)⟩
theorem make64 (W : World) : (Instr.makeSlice 73 (.int .i64 64) (.int .i64 64)).run Tryz.prog W = .ok (.slice (some ⟨W.heap.size, 0, none⟩) 64 64) (W.alloc (.cells (madeCells #[.int .u8 0] 64) 5)) :=
  run_make_row' (P := Tryz.prog) 73 5 (.int .u8 0) 1 Tryz.underlying73 Tryz.info5w rfl .i64 .i64 64 (by decide) (by decide) W
theorem row64 {B : Nat} {W : World} (h : B ≤ W.heap.size) : (W.alloc (.cells (madeCells #[.int .u8 0] 64) 5)).ownsRow B 5 1 (.slice (some ⟨W.heap.size, 0, none⟩) 64 64) (List.replicate 64 (0 : UInt8)).length (u8C (List.replicate 64 0)) :=
  ⟨by simp [u8C], .inr ⟨W.heap.size, 64, madeCells #[.int .u8 0] 64, rfl, h, heap_alloc_new W _, Nat.le_refl _, by decide, by decide +kernel, by rw [toList_madeCells_one]; rfl⟩⟩
def exK (pa : ByteArray) (M : Nat) (x : ExD) : (List UInt8 × List UInt8) × Nat := ((pa.data.toList, x.sym.data.toList), (M + x.pos.toNat) % 4294967296)
theorem libsP_at {l : List LbD} {i : Nat} {p : LbD} (h : l[i]? = some p) (mem : List UInt8) (L : List ((List UInt8 × List UInt8) × Nat)) :
    libsP ((l.drop i).map lbI) mem L = libsP ((l.drop (i + 1)).map lbI) (loadP mem p.bin.image.data.toList (p.bin.fix.map Int.toNat)) (L ++ p.bin.exps.map (exK p.path mem.length)) := by
  obtain ⟨hi, he⟩ := List.getElem?_eq_some_iff.1 h
  rw [List.drop_eq_getElem_cons hi, he, List.map_cons, libsP]
  simp only [lbI, imB, List.map_map]
  rfl
theorem map_at {α β : Type} {l : List α} {j : Nat} {x : α} (f : α → β) (h : l[j]? = some x) : (l.drop j).map f = f x :: (l.drop (j + 1)).map f := by
  obtain ⟨hi, he⟩ := List.getElem?_eq_some_iff.1 h
  rw [List.drop_eq_getElem_cons hi, he, List.map_cons]
theorem sum_sv {M pn : Nat} (hM : M ≤ 100000000) (hp : pn ≤ 65536) : IntKind.i64.wrap ((M : Int) + (pn : Int)) = ((M + pn : Nat) : Int) ∧ (((M + pn : Nat) : Int)) % 4294967296 = ((M + pn : Nat) : Int) ∧ (M + pn) % 4294967296 = M + pn ∧ M + pn < 4294967296 := ⟨by rw [IntWalk.i64_in _ (by omega)]; omega, by omega, by omega, by omega⟩
theorem LS.m_lt {w0 w1 w : World} {m gm k : Nat} {PL : Value} {mem : List UInt8} {L : List ((List UInt8 × List UInt8) × Nat)} (h : LS w0 w1 w m gm k PL mem L) : m < w.heap.size := h.ml.elim fun _ q => q.mach.lt
theorem blk_kept {m b : Nat} {t : TypeId} {cs : Array Value} {w w' : World} (hb : Blk w b t cs) (hk : Lib.OthersKept 5 (some m) w w') (ht : t ≠ 5) (hm : b ≠ m) : Blk w' b t cs := hk b _ hb (by simpa using hm) (fun c fz e => by injection e with _ e _; exact ht e)
theorem small_k {k i j n : Nat} (h : k ≤ i * 1000000 + j) (hi : i < n) (hn : n ≤ 64) (hj : j ≤ 1000000) : k < maxLen := by simp only [maxLen]; omega
theorem str_small {a : Nat} (h : a ≤ 1000000) : a ≤ maxLen := by simp only [maxLen]; omega
theorem mem_next {a i im b n : Nat} (h1 : a ≤ 64 + (i + 1) * 65539) (h2 : im ≤ 65536) (h3 : b ≤ a + im + 3) : b ≤ 64 + (i + 1 + 1) * 65539 := by omega
theorem mem_big {M n a : Nat} (h : M ≤ 64 + (n + 1) * 65539) (h1 : a ≤ 64) (h2 : a = n) : M ≤ 100000000 := by omega
theorem mem_100 {M i n : Nat} (h : M ≤ 64 + (i + 1) * 65539) (hi : i < n) (hn : n ≤ 64) : M ≤ 100000000 := by omega
theorem smk_of {a b : ByteArray} (h1 : a.size ≤ 1000000) (h2 : b.size ≤ 1000000) : SmK (a.data.toList, b.data.toList) := ⟨by show a.data.toList.length ≤ maxLen; rw [← size_eq]; exact str_small h1, by show b.data.toList.length ≤ maxLen; rw [← size_eq]; exact str_small h2⟩
theorem lookL_lt {K : Type} [DecidableEq K] {N : Nat} {k : K} : ∀ (L : List (K × Nat)) (v : Nat), (∀ x ∈ L, x.2 < N) → lookL L k = some v → v < N := fun L => by
  refine snoc_ind (P := fun L => ∀ (v : Nat), (∀ x ∈ L, x.2 < N) → lookL L k = some v → v < N) (fun v _ h => by cases h) (fun L x ih v hL h => ?_) L
  rw [lookL_snoc] at h
  split at h
  · injection h with h
    rw [← h]
    exact hL x (by simp)
  · exact ih v (fun y hy => hL y (List.mem_append_left _ hy)) h
def imK (x : ImD) : (List UInt8 × List UInt8) × Nat := ((x.lib.data.toList, x.sym.data.toList), 64 + x.pos.toNat)
def LdPost (w : World) (n1 : Nat) (ys : List Value) (R : Option (List UInt8)) (e : Ending) (w' : World) : Prop := match R with
  | none => e = .returned (.tuple #[.pointer none, .int .i64 8]) ∧ New w w'
  | some mm => ∃ (m : Nat) (PV : Value), e = .returned (.tuple #[.pointer (some ⟨m, 0, none⟩), .int .i64 0]) ∧ (∃ MV, ML w w' m MV PV mm) ∧ w'.ownsRow w.heap.size 52 5 PV n1 ys
theorem smk_snoc {L : List ((List UInt8 × List UInt8) × Nat)} {pa es : ByteArray} {sv : Nat} (h : ∀ x ∈ L, SmK x.1 ∧ x.2 < 4294967296) (h1 : pa.size ≤ 1000000) (h2 : es.size ≤ 1000000) (h3 : sv < 4294967296) : ∀ x ∈ L ++ [((pa.data.toList, es.data.toList), sv)], SmK x.1 ∧ x.2 < 4294967296 := fun x hx => by
  rcases List.mem_append.1 hx with hx | hx
  · exact h x hx
  · rw [List.mem_singleton.1 hx]
    exact ⟨smk_of h1 h2, h3⟩
structure STm (w0 w : World) (m bx n1 : Nat) (cs : Array Value) (PV : Value) (ys : List Value) : Prop where
  ml : ∃ MV, ML w0 w m MV PV (List.replicate 64 0)
  pr : w.ownsRow w0.heap.size 52 5 PV n1 ys
  bk : Blk w bx 28 cs
  ne : bx ≠ m
  lt : m < w.heap.size
theorem STm.boxed {w0 w : World} {bx n1 : Nat} {cs : Array Value} {MV PV : Value} {ys : List Value} (hn : New w0 w) (hr : w.ownsRow w0.heap.size 5 1 MV (List.replicate 64 (0 : UInt8)).length (u8C (List.replicate 64 0))) (hp : w.ownsRow w0.heap.size 52 5 PV n1 ys) (hb : Blk w bx 28 cs) :
    STm w0 (w.alloc (.cells #[MV, PV] 75)) w.heap.size bx n1 cs PV ys := by
  have q := (New.refl w).alloc (.cells #[MV, PV] 75)
  refine ⟨⟨MV, hn.alloc _, hn.size, Blk.made .., own_at hr fun j _ e _ => q.block j (hr.lt j e).2⟩, own_at hp fun j _ e _ => q.block j (hp.lt j e).2, hb.alloc _, fun e => ?_, ?_⟩
  · have := hb.lt; omega
  · have := (Blk.made w 75 #[MV, PV]).lt; exact this
set_option maxRecDepth 100000 in
set_option maxHeartbeats 16000000 in
theorem fload_yes {w : World} {A : Option Addr} {n c : Nat} {l : List LbD} {kind entry : Int} {image : ByteArray} {places : List PlD} {fix : List Int} {imps : List ImD} {exps : List ExD} {notes : List NtD} {a1 a2 a3 a4 a5 : Option Addr} {c1 c2 c3 c4 c5 : Nat}
    (hr : BRd w ⟨kind, entry, image, places, fix, imps, exps, notes⟩ ⟨a1, c1, a2, c2, a3, c3, a4, c4, a5, c5⟩) (hz : SzB ⟨kind, entry, image, places, fix, imps, exps, notes⟩) (hl : LsRd w A n l) (hzl : ∀ x ∈ l, SzB x.bin ∧ x.path.size ≤ 1000000) (hE : Env w) (hv : validP ⟨kind, entry, image, places, fix, imps, exps, notes⟩ l = true) :
    Calls Tryz.prog 14 #[.agg (bcells ⟨kind, entry, image, places, fix, imps, exps, notes⟩ ⟨a1, c1, a2, c2, a3, c3, a4, c4, a5, c5⟩), .slice A n c] w (LdPost w places.length (places.flatMap plC) (memV (imB ⟨kind, entry, image, places, fix, imps, exps, notes⟩) (l.map lbI) (imps.map imI))) := by
  have hld := valid_ld (fun x hx => (hzl x hx).1.pl) hv
  have HV := Lib.hid (fun W (hn : New w W) => lvalid_any ⟨kind, entry, image, places, fix, imps, exps, notes⟩ ⟨a1, c1, a2, c2, a3, c3, a4, c4, a5, c5⟩ A n c l W (hr.new hn) hz (hl.new hn) hzl (hE.new hn))
  rw [hv] at HV
  have HLD := Lib.hid hld
  have HZL := Lib.hid hzl
  have HL := Lib.hid hl
  have hr1 := hr.r1
  have HB := Lib.hid hr
  have HZ := Lib.hid hz
  simp only [bcells] at *
  obtain ⟨R, hR0⟩ : ∃ x, memV (imB ⟨kind, entry, image, places, fix, imps, exps, notes⟩) (l.map lbI) (imps.map imI) = x := ⟨_, rfl⟩
  rw [hR0]
  have HR0 := Lib.hid hR0
  have HLen := Lib.hid hl.1
  have HR3 := Lib.hid hr.r3
  have HI3 := Lib.hid hz.im
  have HL3 := Lib.hid hz.l3
  simp only at HR3 HI3 HL3
  clear hR0
  obtain ⟨n1, hn1⟩ : ∃ n, places.length = n := ⟨_, rfl⟩
  obtain ⟨n3, hn3⟩ : ∃ n, imps.length = n := ⟨_, rfl⟩
  have HN1 := Lib.hid hn1
  have HN3 := Lib.hid hn3
  have HP1 := Lib.hid (hn1 ▸ hz.l1 : n1 ≤ 1000000)
  rw [hn1] at hr1 HV ⊢
  rw [hn3] at HV HR3 HL3 ⊢
  obtain ⟨n2, hn2⟩ : ∃ n, fix.length = n := ⟨_, rfl⟩
  obtain ⟨n4, hn4⟩ : ∃ n, exps.length = n := ⟨_, rfl⟩
  obtain ⟨n5, hn5⟩ : ∃ n, notes.length = n := ⟨_, rfl⟩
  have HN245 := Lib.hid (And.intro hn2 (And.intro hn4 hn5))
  rw [hn2, hn4, hn5] at HV ⊢
  have HR1 := Lib.hid hr1
  have hmk := make64
  have BX := Blk.made w 28 #[.int .i64 kind, .int .i64 entry, .string image, .slice a1 n1 c1, .slice a2 n2 c2, .slice a3 n3 c3, .slice a4 n4 c4, .slice a5 n5 c5]
  have nA := (New.refl w).alloc (.cells #[.int .i64 kind, .int .i64 entry, .string image, .slice a1 n1 c1, .slice a2 n2 c2, .slice a3 n3 c3, .slice a4 n4 c4, .slice a5 n5 c5] 28)
  clear hr hz hl hzl hE hv hld hr1 hn1 hn2 hn3 hn4 hn5
  go_enter Tryz.func14, Tryz.ntmps14
  go_wp2_with (go_at_call 30; (with_reducible refine (HV.out _ nA).mono ?_); rintro e w1 ⟨rfl, n1'⟩; have BX := BX.new n1'; have nA := nA.trans n1')
  clear HV n1'
  generalize hbx : w.heap.size = bx at BX
  have HBX := Lib.hid hbx
  clear hbx
  go_cut [6] from 21 to 27 (fun v6 wc => ∃ (m : Nat) (PV : Value), v6 = .pointer (some ⟨m, 0, none⟩) ∧ STm w wc m bx n1 #[.int .i64 kind, .int .i64 entry, .string image, .slice a1 n1 c1, .slice a2 n2 c2, .slice a3 n3 c3, .slice a4 n4 c4, .slice a5 n5 c5] PV (places.flatMap plC))
  case first =>
    refine wp_region_held_drew (S := fun W => W.cell? ⟨bx, 3, none⟩ = some (.slice a1 n1 c1)) (by kernel_rfl) (BX.drew.cell' 3 _ rfl) (fun hS => ?_)
    have n0 := nA.drew
    have BX := BX.drew
    clear nA
    generalize w1.drew = wC at *
    refine tkT 1 (v := ?v1) hS (fun wq hSq => ?y1) ?_; (case y1 => clear hSq; go_simp; (try with_reducible rfl)); simp only [Act.put, gqD, gqE, gqF]
    refine tkT 2 (v := ?v2) hS (fun wq hSq => ?y2) ?_; (case y2 => have hf0 := hSq; clear hSq; go_simp; (try with_reducible rfl)); simp only [Act.put, gqD, gqE, gqF]
    refine wpAnyH_ready (rs := [0, 3]) (by kernel_rfl) (by simp) ?_
    refine AllReadyH.cons (o := ?oi3) ?hi3 (fun K hK => ?_) (AllReadyH.cons (o := ?oi4) ?hi4 (fun K hK => ?_) AllReadyH.nil)
    case hi3 => (simp only [gqA, gqB, gqC]; rfl)
    case hi4 => (simp only [gqA, gqB, gqC]; rfl)
    · have RW := row64 n0.size
      have nB := (New.refl wC).alloc (.cells (madeCells #[.int .u8 0] 64) 5)
      go_simp
      refine hK.out _ _ ((BX.new nB).cell' 3 _ rfl) (fun hS => ?_)
      clear hK K
      have BX := BX.new nB
      have n0 := n0.trans nB
      clear nB
      generalize wC.alloc (.cells (madeCells #[.int .u8 0] 64) 5) = wB at *
      generalize wC.heap.size = g0 at *
      refine wpAnyH_ready (rs := [3]) (by kernel_rfl) (by simp) ?_
      refine AllReadyH.cons (o := ?oi5) ?hi5 (fun K hK => ?_) AllReadyH.nil
      case hi5 => (simp only [gqA, gqB, gqC]; rfl)
      refine step_append_rdG Tryz.placeT (by rfl) _ _ (by rfl) w.heap.size (.slice none 0 0) 0 [] (by rfl) (World.ownsRow_nil ..) a1 n1 c1 (places.flatMap plC) (by rfl) (HR1.out.below n0) (plC_one places) (by have := HP1.out; omega) (by decide) n0.size ?_
      intro v9 w9 own9 g9 _
      obtain ⟨A9, cp9, rfl, _⟩ := own_form own9
      rw [Nat.zero_add] at own9
      simp only [Nat.zero_add]
      have OP := own_eq own9 rfl (List.nil_append _)
      have n9 := new_none g9
      simp only [Act.put, gqD, gqE, gqF]
      refine hK.out _ _ ((BX.new n9).cell' 3 _ rfl) (fun hS => ?_)
      clear hK K
      have BX := BX.new n9
      have n0 := n0.trans n9
      have RW := own_at RW fun j _ e _ => n9.block j (RW.lt j e).2
      clear own9 g9 n9
      refine tkT 4 (v := ?v6) hS (fun wq hSq => ?y6) ?_; (case y6 => clear hSq; go_simp; (try with_reducible rfl)); simp only [Act.put, gqD, gqE, gqF]
      refine wpAnyH_ready (rs := [5]) (by kernel_rfl) (by simp) ?_
      refine AllReadyH.cons (o := ?oi7) ?hi7 (fun K hK => ?_) AllReadyH.nil
      case hi7 => (simp only [gqA, gqB, gqC]; rfl)
      have SB := STm.boxed n0 RW OP BX
      go_simp
      refine hK.out _ _ ((BX.alloc _).cell' 3 _ rfl) (fun hS => ?_)
      clear hK K
      refine tkT 6 (v := ?v8) hS (fun wq hSq => ?y8) ?_; (case y8 => clear hSq; go_simp; (try with_reducible rfl)); simp only [Act.put, gqD, gqE, gqF]
      refine wpAnyH_done (by kernel_rfl) ?_ _
      go_wp2
      go_meet
      case rel => exact ⟨_, _, rfl, SB⟩
    · refine step_append_rdG Tryz.placeT (by rfl) _ _ (by rfl) w.heap.size (.slice none 0 0) 0 [] (by rfl) (World.ownsRow_nil ..) a1 n1 c1 (places.flatMap plC) (by rfl) (HR1.out.below n0) (plC_one places) (by have := HP1.out; omega) (by decide) n0.size ?_
      intro v9 w9 own9 g9 _
      obtain ⟨A9, cp9, rfl, _⟩ := own_form own9
      rw [Nat.zero_add] at own9
      simp only [Nat.zero_add]
      have OP := own_eq own9 rfl (List.nil_append _)
      have n9 := new_none g9
      simp only [Act.put, gqD, gqE, gqF]
      refine hK.out _ _ ((BX.new n9).cell' 3 _ rfl) (fun hS => ?_)
      clear hK K
      have BX := BX.new n9
      have n0 := n0.trans n9
      have OP := Lib.hid OP
      clear hmk
      have hmk := make64
      generalize w9 = wC at *
      clear own9 g9 n9
      refine wpAnyH_ready (rs := [0]) (by kernel_rfl) (by simp) ?_
      refine AllReadyH.cons (o := ?oi9) ?hi9 (fun K hK => ?_) AllReadyH.nil
      case hi9 => (simp only [gqA, gqB, gqC]; rfl)
      have RW := row64 n0.size
      have nB := (New.refl wC).alloc (.cells (madeCells #[.int .u8 0] 64) 5)
      go_simp
      refine hK.out _ _ ((BX.new nB).cell' 3 _ rfl) (fun hS => ?_)
      clear hK K
      have BX := BX.new nB
      have n0 := n0.trans nB
      have OP := own_at OP.out fun j _ e _ => nB.block j (OP.out.lt j e).2
      clear nB
      generalize wC.alloc (.cells (madeCells #[.int .u8 0] 64) 5) = wB at *
      generalize wC.heap.size = g0 at *
      refine tkT 4 (v := ?v10) hS (fun wq hSq => ?y10) ?_; (case y10 => clear hSq; go_simp; (try with_reducible rfl)); simp only [Act.put, gqD, gqE, gqF]
      refine wpAnyH_ready (rs := [5]) (by kernel_rfl) (by simp) ?_
      refine AllReadyH.cons (o := ?oi11) ?hi11 (fun K hK => ?_) AllReadyH.nil
      case hi11 => (simp only [gqA, gqB, gqC]; rfl)
      have SB := STm.boxed n0 RW OP BX
      go_simp
      refine hK.out _ _ ((BX.alloc _).cell' 3 _ rfl) (fun hS => ?_)
      clear hK K
      refine tkT 6 (v := ?v12) hS (fun wq hSq => ?y12) ?_; (case y12 => clear hSq; go_simp; (try with_reducible rfl)); simp only [Act.put, gqD, gqE, gqF]
      refine wpAnyH_done (by kernel_rfl) ?_ _
      go_wp2
      go_meet
      case rel => exact ⟨_, _, rfl, SB⟩
  case rest =>
    obtain ⟨m, PV, rfl, hS⟩ := hcut
    obtain ⟨MV, hML⟩ := hS.ml
    have HS := Lib.hid hS
    have f0 := hS.bk.cell' 0 _ rfl
    have f1 := hS.bk.cell' 1 _ rfl
    have f2 := hS.bk.cell' 2 _ rfl
    have f3 := hS.bk.cell' 3 _ rfl
    have f4 := hS.bk.cell' 4 _ rfl
    have f5 := hS.bk.cell' 5 _ rfl
    have f6 := hS.bk.cell' 6 _ rfl
    have f7 := hS.bk.cell' 7 _ rfl
    have HA := Lib.hid (load_any ⟨kind, entry, image, places, fix, imps, exps, notes⟩ ⟨a1, c1, a2, c2, a3, c3, a4, c4, a5, c5⟩ hML (by decide) HB.out HLD.out.1.fix (by decide) (Nat.le_trans HZ.out.img (by decide)) HZ.out.l2)
    simp only [bcells] at HA
    rw [HN1.out, HN3.out, HN245.out.1, HN245.out.2.1, HN245.out.2.2] at HA
    obtain ⟨mem1, hmem1⟩ : ∃ x, loadP (List.replicate 64 0) image.data.toList (fix.map Int.toNat) = x := ⟨_, rfl⟩
    rw [hmem1] at HA
    have HM1 := Lib.hid hmem1
    have hmm := @run_makeMap Tryz.prog
    clear hS hML hmem1
    go_wp2_with (go_at_call 31; (with_reducible refine HA.out.mono ?_); rintro e w3 ⟨rfl, hm3, ok3⟩; have hLS := LS.start hm3 ok3)
    clear hm3 ok3 HA f0 f1 f2 f3 f4 f5 f6 f7
    generalize w3.alloc (.map #[] 0) = w4 at *
    generalize w3.heap.size = gm at *
    have HL0 := Lib.hid hLS
    obtain ⟨QM, hQM⟩ : ∃ x, libsP (l.map lbI) mem1 [] = x := ⟨_, rfl⟩
    have HQM := Lib.hid hQM
    have HQ := Lib.hid hQM
    have HB1 := Lib.hid (show 64 + image.size ≤ mem1.length ∧ mem1.length ≤ 64 + (0 + 1) * 65539 by
      have q := loadP_size (List.replicate 64 0) image.data.toList (fix.map Int.toNat)
      rw [HM1.out, List.length_replicate, ← size_eq] at q
      have := HLD.out.1.pl.le
      simp only at this
      omega)
    clear hLS hQM
    go_loopw [33] (fun v33 wr => ∃ (i k : Nat) (mem : List UInt8) (L : List ((List UInt8 × List UInt8) × Nat)), v33 = .int .i64 i ∧ i ≤ n ∧ k ≤ i * 1000000 ∧ LS w wc wr m gm k PV mem L ∧ (64 + image.size ≤ mem.length ∧ mem.length ≤ 64 + (i + 1) * 65539) ∧ Hid (∀ x ∈ L, SmK x.1 ∧ x.2 < 4294967296) ∧ Hid (libsP ((l.drop i).map lbI) mem L = QM)) (fun v33 _ => n - (intOf v33).toNat)
    case atStart => exact ⟨0, 0, mem1, [], rfl, by omega, by omega, HL0.out, HB1.out, Lib.hid (fun x hx => by cases hx), HQM⟩
    case round =>
      clear HL0 HQM HB1
      obtain ⟨i, k, mem, L, rfl, hi9, hk9, hR, hmb, HSm, HGo⟩ := hrel
      by_cases hlt : i < n
      · obtain ⟨bk, o, rfl, hbk, p, hp, hcell⟩ := rd_row (f := lbC) (k := 9) lbC_len HL.out.1 (HL.out.2.1.below hR.nw) hlt
        have hgo := libsP_at hp mem L
        rw [HGo.out] at hgo
        have HGN := Lib.hid hgo
        obtain ⟨hsz, hps⟩ := HZL.out p (List.mem_of_getElem? hp)
        obtain ⟨hld, hex⟩ := HLD.out.2.2 p (List.mem_of_getElem? hp)
        have hn64 := HLD.out.2.1
        rw [HL.out.1] at hn64
        have hbr := HL.out.2.2 p (List.mem_of_getElem? hp)
        obtain ⟨pa, ⟨bk', be, bi, bp, bf, bm, bx', bn⟩, ⟨d1, e1, d2, e2, d3, e3, d4, e4, d5, e5⟩⟩ := p
        have nB := (New.refl wr).alloc (.cells #[.string pa, .int .i64 bk', .int .i64 be, .string bi, .slice d1 bp.length e1, .slice d2 bf.length e2, .slice d3 bm.length e3, .slice d4 bx'.length e4, .slice d5 bn.length e5] 79)
        have LB := hR.new nB
        obtain ⟨MV, hq⟩ := LB.ml
        have hne : wr.heap.size ≠ m := by have := hR.m_lt; omega
        have HNE := Lib.hid hne
        have HA := Lib.hid (load_any ⟨bk', be, bi, bp, bf, bm, bx', bn⟩ ⟨d1, e1, d2, e2, d3, e3, d4, e4, d5, e5⟩ hq (by omega) hbr hld.fix (by omega) (Nat.le_trans hsz.img (by decide)) hsz.l2)
        have BP := Blk.made wr 79 #[.string pa, .int .i64 bk', .int .i64 be, .string bi, .slice d1 bp.length e1, .slice d2 bf.length e2, .slice d3 bm.length e3, .slice d4 bx'.length e4, .slice d5 bn.length e5]
        simp only [bcells] at HA hgo HGN
        have q0 := hcell 0 (.string pa) (by omega) rfl
        have q1 := hcell 1 (.int .i64 bk') (by omega) rfl
        have q2 := hcell 2 (.int .i64 be) (by omega) rfl
        have q3 := hcell 3 (.string bi) (by omega) rfl
        have q4 := hcell 4 (.slice d1 bp.length e1) (by omega) rfl
        have q5 := hcell 5 (.slice d2 bf.length e2) (by omega) rfl
        have q6 := hcell 6 (.slice d3 bm.length e3) (by omega) rfl
        have q7 := hcell 7 (.slice d4 bx'.length e4) (by omega) rfl
        have q8 := hcell 8 (.slice d5 bn.length e5) (by omega) rfl
        simp only [Nat.add_zero] at q0
        rw [← Nat.add_assoc] at q1 q2 q3 q4 q5 q6 q7 q8
        have HR4 := Lib.hid hbr.r4
        have HX4 := Lib.hid hsz.l4
        have HEX := Lib.hid hex
        have HPS := Lib.hid hps
        have HN64 := Lib.hid hn64
        have HIM := Lib.hid hld.pl.le
        simp only at HR4 HX4 HEX HPS HIM
        obtain ⟨l4, hl4⟩ : ∃ x, bx'.length = x := ⟨_, rfl⟩
        have HL4 := Lib.hid hl4
        rw [hl4] at HA BP nB LB q7 HR4 HX4
        generalize bp.length = l1 at *
        generalize bf.length = l2 at *
        generalize bm.length = l3 at *
        generalize bn.length = l5 at *
        obtain ⟨mem2, hmem2⟩ : ∃ x, loadP mem bi.data.toList (bf.map Int.toNat) = x := ⟨_, rfl⟩
        have HM2 := Lib.hid hmem2
        rw [hmem2] at HA HGN
        have h0 := BP.cell' 0 _ rfl
        have h1 := BP.cell' 1 _ rfl
        have h2 := BP.cell' 2 _ rfl
        have h3 := BP.cell' 3 _ rfl
        have h4 := BP.cell' 4 _ rfl
        have h5 := BP.cell' 5 _ rfl
        have h6 := BP.cell' 6 _ rfl
        have h7 := BP.cell' 7 _ rfl
        have h8 := BP.cell' 8 _ rfl
        have HMB := Lib.hid hmb
        have HK9 := Lib.hid hk9
        clear hcell hgo hp hsz hps hld hex hbr hmb hq hl4 hmem2 hn64 hk9 hbk hne
        go_wp2_with (go_at_call 31; (with_reducible refine HA.out.mono ?_); rintro e w5 ⟨rfl, hm5, ok5⟩; have LB5 := LB.loaded hm5 ok5; have BP5 := blk_kept BP ok5 (by decide) HNE.out; have g7 := BP5.cell' 7 _ rfl)
        have HM2B := Lib.hid (show 64 + image.size ≤ mem2.length ∧ mem2.length ≤ 64 + (i + 1 + 1) * 65539 by
          have q := loadP_size mem bi.data.toList (bf.map Int.toNat)
          rw [HM2.out, ← size_eq] at q
          have := HMB.out
          exact ⟨by omega, mem_next (n := 0) HMB.out.2 HIM.out q.1⟩)
        have HMS := Lib.hid (show mem.length ≤ 100000000 from mem_100 HMB.out.2 hlt HN64.out)
        clear hm5 ok5 HA q0 q1 q2 q3 q4 q5 q6 q7 q8 h0 h1 h2 h3 h4 h5 h6 h7 h8 g7 BP LB HM2 nB
        obtain ⟨LT, hLT⟩ : ∃ x, L ++ bx'.map (exK pa mem.length) = x := ⟨_, rfl⟩
        rw [hLT] at HGN
        have HLT := Lib.hid hLT
        clear hLT HMB HGo hR
        generalize mem.length = M at *
        generalize wr.heap.size = bl at *
        have HW := Lib.hid (And.intro LB5 (And.intro BP5 hlt))
        clear LB5 BP5 hlt
        go_loopw [45] (fun v45 wz => ∃ (j k' : Nat) (Lj : List ((List UInt8 × List UInt8) × Nat)), v45 = .int .i64 j ∧ j ≤ l4 ∧ k' ≤ i * 1000000 + j ∧ LS w wc wz m gm k' PV mem2 Lj ∧ Blk wz bl 79 #[.string pa, .int .i64 bk', .int .i64 be, .string bi, .slice d1 l1 e1, .slice d2 l2 e2, .slice d3 l3 e3, .slice d4 l4 e4, .slice d5 l5 e5] ∧ Hid (∀ x ∈ Lj, SmK x.1 ∧ x.2 < 4294967296) ∧ Hid (Lj ++ (bx'.drop j).map (exK pa M) = LT)) (fun v45 _ => l4 - (intOf v45).toNat)
        case atStart => exact ⟨0, k, L, rfl, Nat.zero_le _, Nat.le_add_right_of_le HK9.out, HW.out.1, HW.out.2.1, HSm, HLT⟩
        case round =>
          obtain ⟨j, k', Lj, rfl, hj9, hkj, hRz, hBl, HSj, HGj⟩ := hrel
          by_cases hj : j < l4
          · obtain ⟨bk2, o2, rfl, hb2, x, hx, hc2⟩ := rd_row (f := exC) (k := 2) (fun _ => rfl) HL4.out (HR4.out.below hRz.nw) hj
            have hgj := map_at (exK pa M) hx
            have HG2 := Lib.hid (show (Lj ++ [exK pa M x]) ++ (bx'.drop (j + 1)).map (exK pa M) = LT by rw [← HGj.out, hgj, List.append_assoc]; rfl)
            obtain ⟨x0, x1, x2⟩ := HEX.out x (List.mem_of_getElem? hx)
            obtain ⟨es, ep⟩ := x
            simp only at x0 x1 x2
            obtain ⟨pn, rfl⟩ : ∃ pn : Nat, ep = (pn : Int) := ⟨ep.toNat, by omega⟩
            have y0 := hc2 0 (.string es) (by omega) rfl
            have y1 := hc2 1 (.int .i64 (pn : Int)) (by omega) rfl
            simp only [Nat.add_zero] at y0
            rw [← Nat.add_assoc] at y1
            obtain ⟨t1, t2, t3, t4⟩ := sum_sv (M := M) (pn := pn) HMS.out (by omega)
            have hek : exK pa M ⟨es, (pn : Int)⟩ = ((pa.data.toList, es.data.toList), M + pn) := by simp only [exK, Int.toNat_natCast, t3]
            rw [hek] at HG2
            have T4 := Lib.hid t4
            clear hek t3 t4 hgj hx hc2 x0 x1
            generalize M + pn = sv at *
            have kN := key83N pa es (str_small HPS.out) (str_small x2)
            have nB := (New.refl wr).alloc (.cells #[.string es, .int .i64 (pn : Int)] 81)
            have RZ := hRz.new nB
            have BL := hBl.new nB
            have c0 := BL.cell' 0 _ rfl
            have HKS := Lib.hid (small_k hkj HW.out.2.2 HN64.out (by have := HX4.out; omega))
            have HX2 := Lib.hid x2
            clear x2
            have w1' := HX4.out
            go_wp2_with (at_mapUpdate; refine wpList_mput _ mtN rfl (.tmp 49) (.tmp 54) (.tmp 59) (Or.inr rfl) gm k' (mapM Lj) rfl RZ.km HKS.out (.agg #[.string pa, .string es]) (keyD pa es) sv kN rfl rfl T4.out ?_; intro wq KQ gq)
            have RQ := RZ.put ((pa.data.toList, es.data.toList), sv) (by simp only [S_data]; exact KQ) gq
            have BQ := BL.grown gq (fun e => RZ.km.apart BL (Option.some.inj e))
            go_roundw
            case rel => exact ⟨j + 1, k' + 1, _, by go_num, by omega, by omega, RQ, BQ, Lib.hid (smk_snoc HSj.out HPS.out HX2.out T4.out), HG2⟩
            case measure => (simp [intOf]; omega)
          · obtain rfl : j = l4 := by omega
            have hG := HGj.out
            rw [List.drop_of_length_le (by rw [HL4.out]; exact Nat.le_refl _), List.map_nil, List.append_nil] at hG
            subst hG
            have HKJ := Lib.hid (show k' ≤ (i + 1) * 1000000 by have := HX4.out; omega)
            have HI := Lib.hid (show i + 1 ≤ n from HW.out.2.2)
            have w1' := HI.out
            have w2' := HN64.out
            go_wp2
            go_roundw
            case rel => exact ⟨i + 1, k', mem2, Lj, by go_num, HI.out, HKJ.out, hRz, HM2B.out, HSj, Lib.hid HGN.out.symm⟩
            case measure => (simp [intOf]; omega)
      · obtain rfl : i = n := by omega
        have hG := HGo.out
        rw [List.drop_of_length_le (by rw [HL.out.1]; exact Nat.le_refl _), List.map_nil, libsP] at hG
        have hBx := hR.blk HS.out.bk (by decide) HS.out.ne
        have f5 := hBx.cell' 5 _ rfl
        have HRI := Lib.hid (show impV L (imps.map imK) mem = R by
          have q := HR0.out
          unfold memV at q
          simp only [imB, HM1.out, HQ.out, ← hG, List.map_map] at q
          exact q)
        have HRR := Lib.hid hR
        have HLM := Lib.hid (mem_big hmb.2 HLD.out.2.1 HLen.out)
        have HLO := Lib.hid hmb.1
        have HB5 := Lib.hid f5
        clear hG hR hmb hBx f5
        have f5 := HB5.out
        go_wp2
        go_loopw [65] (fun v65 wz => ∃ (j : Nat) (mm : List UInt8), v65 = .int .i64 j ∧ j ≤ n3 ∧ mm.length = mem.length ∧ LS w wc wz m gm k PV mm L ∧ Hid (impV L ((imps.drop j).map imK) mm = R)) (fun v65 _ => n3 - (intOf v65).toNat)
        case atStart => exact ⟨0, mem, rfl, Nat.zero_le _, rfl, HRR.out, HRI⟩
        case round =>
          clear f5 HRI HRR HB5
          obtain ⟨j, mm, rfl, hj9, hml, hRz, HGj⟩ := hrel
          by_cases hj : j < n3
          · obtain ⟨bk2, o2, rfl, hb2, x, hx, hc2⟩ := rd_row (f := imC) (k := 3) (fun _ => rfl) HN3.out (HR3.out.below hRz.nw) hj
            have hgj := HGj.out
            rw [map_at imK hx, impV] at hgj
            obtain ⟨x0, x1⟩ := HLD.out.1.imp x (List.mem_of_getElem? hx)
            obtain ⟨x2, x3, _⟩ := HI3.out x (List.mem_of_getElem? hx)
            obtain ⟨li, sy, ip⟩ := x
            simp only at x0 x1 x2 x3
            obtain ⟨pn, rfl⟩ : ∃ pn : Nat, ip = (pn : Int) := ⟨ip.toNat, by omega⟩
            rw [Int.toNat_natCast] at x1
            simp only [imK, Int.toNat_natCast] at hgj
            have y0 := hc2 0 (.string li) (by omega) rfl
            have y1 := hc2 1 (.string sy) (by omega) rfl
            have y2 := hc2 2 (.int .i64 (pn : Int)) (by omega) rfl
            simp only [Nat.add_zero] at y0
            rw [← Nat.add_assoc] at y1 y2
            have kN := key83N li sy (str_small x2) (str_small x3)
            have HLK := Lib.hid (show lookM (mapM L) (keyD li sy) = lookL L (li.data.toList, sy.data.toList) by
              have q := lookM_map L (li.data.toList, sy.data.toList) (fun y hy => (HSm.out y hy).1) (smk_of x2 x3)
              simpa only [S_data] using q)
            have nB := (New.refl wr).alloc (.cells #[.string li, .string sy, .int .i64 (pn : Int)] 85)
            have RZ := hRz.new nB
            have BL := Blk.made wr 85 #[.string li, .string sy, .int .i64 (pn : Int)]
            have c2 := BL.cell' 2 _ rfl
            have HIM := Lib.hid HLD.out.1.pl.le
            simp only at HIM
            obtain ⟨k1, _⟩ := pos_i64 (p := pn) (by have := HIM.out; omega)
            have HX1 := Lib.hid (show 64 + pn + 4 ≤ mm.length by have := HLO.out; omega)
            have HX2 := Lib.hid (show mm.length ≤ 1000000000 by have := HLM.out; omega)
            have HML := Lib.hid hml
            have HHJ := Lib.hid hj
            clear hc2 hx x0 x1 x2 x3 hml
            cases hlk : lookL L (li.data.toList, sy.data.toList) with
            | none =>
              have hRn : R = none := by rw [hlk] at hgj; exact hgj.symm
              subst hRn
              rw [hlk] at HLK
              clear hgj hlk
              go_wp2_with (at_lookup; refine wpList_mlook _ mtN rfl (.tmp 70) (.tmp 75) rfl gm k (mapM L) rfl RZ.km (.agg #[.string li, .string sy]) (keyD li sy) kN rfl false (by rw [HLK.out]; rfl) ?_; intro cv hcv)
              refine bodyPost_ret (v := .tuple #[.pointer none, .int .i64 8]) (by simp [results, Tryz.results14, go_sem]) rfl ⟨rfl, RZ.nw⟩
            | some v =>
              rw [hlk] at hgj HLK
              simp only at hgj
              have hv := lookL_lt L v (fun y hy => (HSm.out y hy).2) hlk
              have HGN := Lib.hid hgj
              have RZ2 := Lib.hid RZ
              obtain ⟨MV, hq⟩ := RZ.ml
              obtain ⟨g, mc, rfl, hg0, hMM⟩ := hq.mm (by have := HX1.out; omega)
              have HP := Lib.hid (put_any (64 + pn) v (wr.alloc (.cells #[.string li, .string sy, .int .i64 (pn : Int)] 85)) hMM HX1.out HX2.out hv)
              have HQM2 := Lib.hid (And.intro hq hg0)
              rw [show (((64 + pn : Nat)) : Int) = 64 + (pn : Int) by omega] at HP
              clear hgj hlk hv hq hg0 hMM
              have w1' := HL3.out
              go_wp2_with (first
                | (at_lookup; refine wpList_mlook _ mtN rfl (.tmp 70) (.tmp 75) rfl gm k (mapM L) rfl RZ.km (.agg #[.string li, .string sy]) (keyD li sy) kN rfl true (by rw [HLK.out]; rfl) ?_; intro cv hcv; obtain rfl := hcv v HLK.out)
                | (go_at_call 32; (with_reducible refine HP.out.mono ?_); rintro e w6 ⟨rfl, hM6, g6⟩))
              have R6 := RZ.word HQM2.out.1 HQM2.out.2 hM6 g6 (putN_len ..)
              go_roundw
              case rel => exact ⟨j + 1, _, by go_num, HHJ.out, (putN_len ..).trans HML.out, R6, HGN⟩
              case measure => (simp [intOf]; omega)
          · obtain rfl : j = n3 := by omega
            have hG := HGj.out
            rw [List.drop_of_length_le (by rw [HN3.out]; exact Nat.le_refl _), List.map_nil, impV] at hG
            subst hG
            obtain ⟨MV0, hq0⟩ := HS.out.ml
            have hpr := hRz.own HS.out.pr (by decide) hq0.mach (by decide)
            have hml2 := hRz.ml
            go_wp2
            refine bodyPost_ret (v := .tuple #[.pointer (some ⟨m, 0, none⟩), .int .i64 0]) (by simp [results, Tryz.results14, go_sem]) rfl ⟨m, PV, rfl, hml2, hpr⟩
set_option maxRecDepth 100000 in
set_option maxHeartbeats 4000000 in
theorem fload_no {w : World} {A : Option Addr} {n c : Nat} {kind entry : Int} {image : ByteArray} {a1 a2 a3 a4 a5 : Option Addr} {n1 n2 n3 n4 n5 c1 c2 c3 c4 c5 : Nat}
    (HV : Hid (∀ W, New w W → Calls Tryz.prog 30 #[.agg #[.int .i64 kind, .int .i64 entry, .string image, .slice a1 n1 c1, .slice a2 n2 c2, .slice a3 n3 c3, .slice a4 n4 c4, .slice a5 n5 c5], .slice A n c] W fun e w' => e = .returned (.bool false) ∧ New W w')) :
    Calls Tryz.prog 14 #[.agg #[.int .i64 kind, .int .i64 entry, .string image, .slice a1 n1 c1, .slice a2 n2 c2, .slice a3 n3 c3, .slice a4 n4 c4, .slice a5 n5 c5], .slice A n c] w fun e w' => e = .returned (.tuple #[.pointer none, .int .i64 1]) ∧ New w w' := by
  have BX := Blk.made w 28 #[.int .i64 kind, .int .i64 entry, .string image, .slice a1 n1 c1, .slice a2 n2 c2, .slice a3 n3 c3, .slice a4 n4 c4, .slice a5 n5 c5]
  have nA := (New.refl w).alloc (.cells #[.int .i64 kind, .int .i64 entry, .string image, .slice a1 n1 c1, .slice a2 n2 c2, .slice a3 n3 c3, .slice a4 n4 c4, .slice a5 n5 c5] 28)
  go_enter Tryz.func14, Tryz.ntmps14
  go_wp2_with (go_at_call 30; (with_reducible refine (HV.out _ nA).mono ?_); rintro e w1 ⟨rfl, n1'⟩)
  refine bodyPost_ret (v := .tuple #[.pointer none, .int .i64 1]) (by simp [results, Tryz.results14, go_sem]) rfl ⟨rfl, nA.trans n1'⟩
def LoadP (w : World) (n1 : Nat) (ys : List Value) (R : Except Int (List UInt8)) (e : Ending) (w' : World) : Prop := match R with
  | .error c => e = .returned (.tuple #[.pointer none, .int .i64 c]) ∧ New w w'
  | .ok mm => ∃ (m : Nat) (PV : Value), e = .returned (.tuple #[.pointer (some ⟨m, 0, none⟩), .int .i64 0]) ∧ (∃ MV, ML w w' m MV PV mm) ∧ w'.ownsRow w.heap.size 52 5 PV n1 ys
theorem fload_any (p : Bn) (h : BH) (A : Option Addr) (n c : Nat) (l : List LbD) (w : World) (hr : BRd w p h) (hz : SzB p) (hl : LsRd w A n l) (hzl : ∀ x ∈ l, SzB x.bin ∧ x.path.size ≤ 1000000) (hE : Env w) :
    Calls Tryz.prog 14 #[.agg (bcells p h), .slice A n c] w (LoadP w p.places.length (p.places.flatMap plC) (loadV p l)) := by
  obtain ⟨kind, entry, image, places, fix, imps, exps, notes⟩ := p
  obtain ⟨a1, c1, a2, c2, a3, c3, a4, c4, a5, c5⟩ := h
  cases hv : validP ⟨kind, entry, image, places, fix, imps, exps, notes⟩ l with
  | false =>
    have HV := Lib.hid (fun W (hn : New w W) => lvalid_any ⟨kind, entry, image, places, fix, imps, exps, notes⟩ ⟨a1, c1, a2, c2, a3, c3, a4, c4, a5, c5⟩ A n c l W (hr.new hn) hz (hl.new hn) hzl (hE.new hn))
    rw [hv] at HV
    have e : loadV ⟨kind, entry, image, places, fix, imps, exps, notes⟩ l = .error 1 := by unfold loadV; rw [hv]; rfl
    rw [e]
    exact fload_no HV
  | true =>
    have q := fload_yes (c := c) hr hz hl hzl hE hv
    refine q.mono fun e w' hq => ?_
    unfold loadV
    rw [hv]
    simp only [if_true]
    cases hm : memV (imB ⟨kind, entry, image, places, fix, imps, exps, notes⟩) (l.map lbI) (imps.map imI) with
    | none => rw [hm] at hq; exact hq
    | some mm => rw [hm] at hq; exact hq
end Go.Proofs.YtnjampfhkojbnaaGreatDoor

