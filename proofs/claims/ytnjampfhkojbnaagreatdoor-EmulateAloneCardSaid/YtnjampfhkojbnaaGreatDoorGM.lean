/- slices.ContainsFunc of places: an address is a place's, an export is a place's symbol and address. (Printed by mk-m.py.) binary.exported: which exports are right. No conditions but sizes. Fixups, imports and the check of a whole binary: plain definitions and their laws, no program in sight. No conditions. -/
import Derived.Test.YtnjampfhkojbnaaGreatDoorGBase
import Derived.Test.YtnjampfhkojbnaaGreatDoorGH
import Derived.Deep.RegionHeld3

namespace Go.Proofs.YtnjampfhkojbnaaGreatDoor
open Go Go.RowKit Go.Joins
set_option linter.unusedSimpArgs false
set_option linter.unusedVariables false

def posV (a : Int) (p : PlD) : Bool := decide (p.pos = a)
def expV (s : ByteArray) (a : Int) (p : PlD) : Bool := decide (p.sym = s) && decide (p.pos = a)
def idxF (F : PlD → Bool) (l : List PlD) : Int := match l.findIdx? F with
  | some k => (k : Int)
  | none => -1
theorem idxF_find {F : PlD → Bool} {l : List PlD} {k : Nat} {p : PlD} (hp : l[k]? = some p) (hno : ∀ q ∈ l.take k, F q = false) (hin : F p = true) : idxF F l = (k : Int) := by
  have : l.findIdx? F = some k := by
    rw [List.findIdx?_eq_some_iff_getElem]
    obtain ⟨hk, rfl⟩ := List.getElem?_eq_some_iff.1 hp
    refine ⟨hk, hin, fun j hj => ?_⟩
    have := hno l[j] (List.mem_take_iff_getElem.2 ⟨j, by omega, rfl⟩)
    rw [this]; decide
  unfold idxF
  rw [this]
theorem idxF_none {F : PlD → Bool} {l : List PlD} (hno : ∀ q ∈ l, F q = false) : idxF F l = -1 := by
  have : l.findIdx? F = none := by
    rw [List.findIdx?_eq_none_iff]
    intro q hq
    rw [hno q hq]
  unfold idxF
  rw [this]
theorem idxF_any (F : PlD → Bool) (l : List PlD) : decide (0 ≤ idxF F l) = l.any F := by
  unfold idxF
  cases h : l.findIdx? F with
  | none =>
    rw [List.findIdx?_eq_none_iff] at h
    symm
    rw [List.any_eq_false.2 (fun x hx => by rw [h x hx]; decide)]
    rfl
  | some k =>
    obtain ⟨h1, h2, _⟩ := List.findIdx?_eq_some_iff_getElem.1 h
    symm
    rw [List.any_eq_true.2 ⟨_, List.getElem_mem h1, h2⟩]
    simp
set_option maxRecDepth 100000 in
set_option maxHeartbeats 2000000 in
theorem pos_any (p : PlD) (a : Int) (g : Nat) (w : World) (hg : w.cell? ⟨g, 0, none⟩ = some (.int .i64 a)) :
    Calls Tryz.prog 116 #[.agg #[.string p.obj, .string p.sym, .int .i64 p.kind, .int .i64 p.pos, .int .i64 p.size], .pointer (some ⟨g, 0, none⟩)] w fun e w' => e = .returned (.bool (posV a p)) ∧ New w w' := by
  obtain ⟨po, ps, pk, pa, pz⟩ := p
  simp only
  have hn := (New.refl w).alloc (.cells #[.string po, .string ps, .int .i64 pk, .int .i64 pa, .int .i64 pz] 52)
  have g1 := (World.cell?_alloc_lt w (.cells #[.string po, .string ps, .int .i64 pk, .int .i64 pa, .int .i64 pz] 52) ⟨g, 0, none⟩ (World.block_lt_of_cell? w ⟨g, 0, none⟩ hg)).trans hg
  have hv : posV a ⟨po, ps, pk, pa, pz⟩ = (pa == a) := rfl
  rw [hv]
  clear hv
  go_enter Tryz.func116, Tryz.ntmps116
  go_wp2
  go_ret
  exact ⟨rfl, hn⟩
set_option maxRecDepth 100000 in
set_option maxHeartbeats 2000000 in
theorem indexPos_any (l : List PlD) (a : Int) (g : Nat) (A : Option Addr) (n c : Nat) (w : World) (hl : l.length = n) (hr : Rd w 5 A n (l.flatMap plC)) (hg : w.cell? ⟨g, 0, none⟩ = some (.int .i64 a)) (hn : n ≤ 4294967295) :
    Calls Tryz.prog 136 #[.slice A n c, .func (.func 116) #[] #[.pointer (some ⟨g, 0, none⟩)]] w fun e w' => e = .returned (.int .i64 (idxF (posV a) l)) ∧ New w w' := by
  have HL := Lib.hid hl
  have HR := Lib.hid hr
  have HGC := Lib.hid hg
  obtain ⟨X, hX⟩ : ∃ X, idxF (posV a) l = X := ⟨_, rfl⟩
  rw [hX]
  have HX := Lib.hid hX
  clear hl hr hg hX
  go_enter Tryz.func136, Tryz.ntmps136
  go_wp2
  go_loopw [8] (fun v8 wr => ∃ k : Nat, v8 = .int .i64 k ∧ k ≤ n ∧ New w wr ∧ Hid (∀ q ∈ l.take k, posV a q = false)) (fun v8 _ => n - (intOf v8).toNat)
  case atStart => exact ⟨0, rfl, by omega, New.refl _, Lib.hid (by simp)⟩
  case round =>
    obtain ⟨k, rfl, hk, hnr, HNO⟩ := hrel
    by_cases hlt : k < n
    · obtain ⟨bk, o, rfl, hbk, p, hp, hcell⟩ := rd_row (f := plC) (k := 5) (fun _ => rfl) HL.out (HR.out.below hnr) hlt
      have HF := Lib.hid (pos_any p a g wr (cell_new hnr HGC.out))
      have HY := Lib.hid (fun h => idxF_find (F := posV a) hp HNO.out h)
      have HTK : Hid (∀ q ∈ l.take (k + 1), q ∈ l.take k ∨ q = p) := Lib.hid (fun q hq => by
        obtain ⟨hi, he⟩ := List.getElem?_eq_some_iff.1 hp
        rw [List.take_succ_eq_append_getElem hi, List.mem_append, he] at hq
        simpa using hq)
      have q0 := hcell 0 (.string p.obj) (by omega) rfl
      have q1 := hcell 1 (.string p.sym) (by omega) rfl
      have q2 := hcell 2 (.int .i64 p.kind) (by omega) rfl
      have q3 := hcell 3 (.int .i64 p.pos) (by omega) rfl
      have q4 := hcell 4 (.int .i64 p.size) (by omega) rfl
      simp only [Nat.add_zero] at q0
      rw [← Nat.add_assoc] at q1 q2 q3 q4
      have i0 : (0 : Int) ≤ (k : Int) := by omega
      have i1 : (k : Int) < (n : Int) := by omega
      clear hcell hp
      cases hb : posV a p
      · have HB := Lib.hid hb
        rw [hb] at HF
        clear hb
        go_wp2_with (go_at_call 116; (with_reducible refine HF.out.mono ?_); rintro e w1 ⟨rfl, n1⟩)
        go_roundw
        case rel => exact ⟨k + 1, by go_num, by omega, hnr.trans n1, Lib.hid (fun q hq => by
          rcases HTK.out q hq with h | rfl
          · exact HNO.out q h
          · exact HB.out)⟩
        case measure => simp [intOf]; omega
      · have hx : X = (k : Int) := by rw [← HX.out]; exact HY.out hb
        rw [hb] at HF
        subst hx
        clear hb
        go_wp2_with (go_at_call 116; (with_reducible refine HF.out.mono ?_); rintro e w1 ⟨rfl, n1⟩)
        go_ret
        exact ⟨rfl, hnr.trans n1⟩
    · obtain rfl : k = n := by omega
      have hx : X = -1 := by
        rw [← HX.out]
        exact idxF_none (fun q hq => HNO.out q (by rw [List.take_of_length_le (by rw [HL.out]; exact Nat.le_refl _)]; exact hq))
      subst hx
      go_wp2
      go_ret
      exact ⟨rfl, hnr⟩
set_option maxRecDepth 100000 in
set_option maxHeartbeats 2000000 in
theorem hasPos_any (l : List PlD) (a : Int) (g : Nat) (A : Option Addr) (n c : Nat) (w : World) (hl : l.length = n) (hr : Rd w 5 A n (l.flatMap plC)) (hg : w.cell? ⟨g, 0, none⟩ = some (.int .i64 a)) (hn : n ≤ 4294967295) :
    Calls Tryz.prog 115 #[.slice A n c, .func (.func 116) #[] #[.pointer (some ⟨g, 0, none⟩)]] w fun e w' => e = .returned (.bool (l.any (posV a))) ∧ New w w' := by
  rw [← idxF_any]
  have HI := Lib.hid (indexPos_any l a g A n c w hl hr hg hn)
  generalize idxF (posV a) l = X at *
  clear hl hr
  go_enter Tryz.func115, Tryz.ntmps115
  go_wp2_with (go_at_call 136; (with_reducible refine HI.out.mono ?_); rintro e w1 ⟨rfl, n1⟩)
  go_ret
  exact ⟨rfl, n1⟩
set_option maxRecDepth 100000 in
set_option maxHeartbeats 2000000 in
theorem exp_any (p : PlD) (s : ByteArray) (a : Int) (g : Nat) (w : World) (hg : w.cell? ⟨g, 0, none⟩ = some (.string s)) (hg2 : w.cell? ⟨g, 1, none⟩ = some (.int .i64 a)) :
    Calls Tryz.prog 118 #[.agg #[.string p.obj, .string p.sym, .int .i64 p.kind, .int .i64 p.pos, .int .i64 p.size], .pointer (some ⟨g, 0, none⟩)] w fun e w' => e = .returned (.bool (expV s a p)) ∧ New w w' := by
  obtain ⟨po, ps, pk, pa, pz⟩ := p
  simp only
  have hn := (New.refl w).alloc (.cells #[.string po, .string ps, .int .i64 pk, .int .i64 pa, .int .i64 pz] 52)
  have g1 := (World.cell?_alloc_lt w (.cells #[.string po, .string ps, .int .i64 pk, .int .i64 pa, .int .i64 pz] 52) ⟨g, 0, none⟩ (World.block_lt_of_cell? w ⟨g, 0, none⟩ hg)).trans hg
  have g2 := (World.cell?_alloc_lt w (.cells #[.string po, .string ps, .int .i64 pk, .int .i64 pa, .int .i64 pz] 52) ⟨g, 1, none⟩ (World.block_lt_of_cell? w ⟨g, 1, none⟩ hg2)).trans hg2
  have hv : expV s a ⟨po, ps, pk, pa, pz⟩ = (decide (ps = s) && decide (pa = a)) := rfl
  by_cases c1 : ps = s
  · subst c1
    have hr : expV ps a ⟨po, ps, pk, pa, pz⟩ = (pa == a) := by rw [hv]; simp <;> rfl
    rw [hr]
    clear hv hr
    go_enter Tryz.func118, Tryz.ntmps118
    go_wp2
    go_ret
    exact ⟨rfl, hn⟩
  · have hr : expV s a ⟨po, ps, pk, pa, pz⟩ = false := by rw [hv]; simp [c1]
    have t1 : (ps.toList == s.toList) = false := beq_eq_false_iff_ne.2 (fun h => c1 (bytes_ext (by rw [← toList_eq, ← toList_eq]; exact h)))
    rw [hr]
    clear hv hr
    go_enter Tryz.func118, Tryz.ntmps118
    go_wp2
    go_ret
    exact ⟨rfl, hn⟩
set_option maxRecDepth 100000 in
set_option maxHeartbeats 2000000 in
theorem indexExp_any (l : List PlD) (s : ByteArray) (a : Int) (g : Nat) (A : Option Addr) (n c : Nat) (w : World) (hl : l.length = n) (hr : Rd w 5 A n (l.flatMap plC)) (hg : w.cell? ⟨g, 0, none⟩ = some (.string s)) (hg2 : w.cell? ⟨g, 1, none⟩ = some (.int .i64 a)) (hn : n ≤ 4294967295) :
    Calls Tryz.prog 136 #[.slice A n c, .func (.func 118) #[] #[.pointer (some ⟨g, 0, none⟩)]] w fun e w' => e = .returned (.int .i64 (idxF (expV s a) l)) ∧ New w w' := by
  have HL := Lib.hid hl
  have HR := Lib.hid hr
  have HGC := Lib.hid hg
  have HGD := Lib.hid hg2
  obtain ⟨X, hX⟩ : ∃ X, idxF (expV s a) l = X := ⟨_, rfl⟩
  rw [hX]
  have HX := Lib.hid hX
  clear hl hr hg hg2 hX
  go_enter Tryz.func136, Tryz.ntmps136
  go_wp2
  go_loopw [8] (fun v8 wr => ∃ k : Nat, v8 = .int .i64 k ∧ k ≤ n ∧ New w wr ∧ Hid (∀ q ∈ l.take k, expV s a q = false)) (fun v8 _ => n - (intOf v8).toNat)
  case atStart => exact ⟨0, rfl, by omega, New.refl _, Lib.hid (by simp)⟩
  case round =>
    obtain ⟨k, rfl, hk, hnr, HNO⟩ := hrel
    by_cases hlt : k < n
    · obtain ⟨bk, o, rfl, hbk, p, hp, hcell⟩ := rd_row (f := plC) (k := 5) (fun _ => rfl) HL.out (HR.out.below hnr) hlt
      have HF := Lib.hid (exp_any p s a g wr (cell_new hnr HGC.out) (cell_new hnr HGD.out))
      have HY := Lib.hid (fun h => idxF_find (F := expV s a) hp HNO.out h)
      have HTK : Hid (∀ q ∈ l.take (k + 1), q ∈ l.take k ∨ q = p) := Lib.hid (fun q hq => by
        obtain ⟨hi, he⟩ := List.getElem?_eq_some_iff.1 hp
        rw [List.take_succ_eq_append_getElem hi, List.mem_append, he] at hq
        simpa using hq)
      have q0 := hcell 0 (.string p.obj) (by omega) rfl
      have q1 := hcell 1 (.string p.sym) (by omega) rfl
      have q2 := hcell 2 (.int .i64 p.kind) (by omega) rfl
      have q3 := hcell 3 (.int .i64 p.pos) (by omega) rfl
      have q4 := hcell 4 (.int .i64 p.size) (by omega) rfl
      simp only [Nat.add_zero] at q0
      rw [← Nat.add_assoc] at q1 q2 q3 q4
      have i0 : (0 : Int) ≤ (k : Int) := by omega
      have i1 : (k : Int) < (n : Int) := by omega
      clear hcell hp
      cases hb : expV s a p
      · have HB := Lib.hid hb
        rw [hb] at HF
        clear hb
        go_wp2_with (go_at_call 118; (with_reducible refine HF.out.mono ?_); rintro e w1 ⟨rfl, n1⟩)
        go_roundw
        case rel => exact ⟨k + 1, by go_num, by omega, hnr.trans n1, Lib.hid (fun q hq => by
          rcases HTK.out q hq with h | rfl
          · exact HNO.out q h
          · exact HB.out)⟩
        case measure => simp [intOf]; omega
      · have hx : X = (k : Int) := by rw [← HX.out]; exact HY.out hb
        rw [hb] at HF
        subst hx
        clear hb
        go_wp2_with (go_at_call 118; (with_reducible refine HF.out.mono ?_); rintro e w1 ⟨rfl, n1⟩)
        go_ret
        exact ⟨rfl, hnr.trans n1⟩
    · obtain rfl : k = n := by omega
      have hx : X = -1 := by
        rw [← HX.out]
        exact idxF_none (fun q hq => HNO.out q (by rw [List.take_of_length_le (by rw [HL.out]; exact Nat.le_refl _)]; exact hq))
      subst hx
      go_wp2
      go_ret
      exact ⟨rfl, hnr⟩
set_option maxRecDepth 100000 in
set_option maxHeartbeats 2000000 in
theorem hasExp_any (l : List PlD) (s : ByteArray) (a : Int) (g : Nat) (A : Option Addr) (n c : Nat) (w : World) (hl : l.length = n) (hr : Rd w 5 A n (l.flatMap plC)) (hg : w.cell? ⟨g, 0, none⟩ = some (.string s)) (hg2 : w.cell? ⟨g, 1, none⟩ = some (.int .i64 a)) (hn : n ≤ 4294967295) :
    Calls Tryz.prog 115 #[.slice A n c, .func (.func 118) #[] #[.pointer (some ⟨g, 0, none⟩)]] w fun e w' => e = .returned (.bool (l.any (expV s a))) ∧ New w w' := by
  rw [← idxF_any]
  have HI := Lib.hid (indexExp_any l s a g A n c w hl hr hg hg2 hn)
  generalize idxF (expV s a) l = X at *
  clear hl hr
  go_enter Tryz.func115, Tryz.ntmps115
  go_wp2_with (go_at_call 136; (with_reducible refine HI.out.mono ?_); rintro e w1 ⟨rfl, n1⟩)
  go_ret
  exact ⟨rfl, n1⟩
end Go.Proofs.YtnjampfhkojbnaaGreatDoor

namespace Go.Proofs.YtnjampfhkojbnaaGreatDoor
open Go Go.RowKit Go.Joins
set_option linter.unusedSimpArgs false
set_option linter.unusedVariables false

def ltX (y x : ExD) : Bool := Op.bytesLess y.sym.toList x.sym.toList
def expOK (ps : List PlD) (l : List ExD) (i : Nat) : Bool := match l[i]? with
  | none => true
  | some x => (match i with
    | 0 => true
    | m + 1 => match l[m]? with
      | none => true
      | some y => ltX y x) && ps.any (expV x.sym x.pos)
def exportedV (ps : List PlD) (l : List ExD) : Bool := (List.range l.length).all (expOK ps l)
theorem exported_bad {ps : List PlD} {l : List ExD} {i : Nat} (h : i < l.length) (hb : expOK ps l i = false) : exportedV ps l = false := by
  unfold exportedV
  rw [List.all_eq_false]
  exact ⟨i, List.mem_range.2 h, by rw [hb]; decide⟩
theorem exported_good {ps : List PlD} {l : List ExD} (h : ∀ i, i < l.length → expOK ps l i = true) : exportedV ps l = true := by
  unfold exportedV
  rw [List.all_eq_true]
  exact fun i hi => h i (List.mem_range.1 hi)
set_option maxRecDepth 100000 in
set_option maxHeartbeats 4000000 in
theorem exported_any (b : Bn) (h : BH) (w : World) (hr : BRd w b h) (hl : b.exps.length ≤ 1000000) (hpl : b.places.length ≤ 1000000) :
    Calls Tryz.prog 81 #[.agg (bcells b h)] w fun e w' => e = .returned (.bool (exportedV b.places b.exps)) ∧ New w w' := by
  obtain ⟨kind, entry, image, places, fix, imps, exps, notes⟩ := b
  obtain ⟨a1, c1, a2, c2, a3, c3, a4, c4, a5, c5⟩ := h
  simp only [bcells] at hr hl hpl ⊢
  have hR1 := hr.r1
  have hR4 := hr.r4
  simp only at hR1 hR4
  clear hr
  generalize fix.length = n2 at *
  generalize imps.length = n3 at *
  generalize notes.length = n5 at *
  obtain ⟨n1, hn1⟩ : ∃ n, places.length = n := ⟨_, rfl⟩
  obtain ⟨n, hn⟩ : ∃ n, exps.length = n := ⟨_, rfl⟩
  rw [hn1] at hR1 hpl ⊢
  rw [hn] at hR4 hl ⊢
  have HN1 := Lib.hid hn1
  have HN := Lib.hid hn
  have HR1 := Lib.hid hR1
  have HR4 := Lib.hid hR4
  obtain ⟨R, hR⟩ : ∃ R, exportedV places exps = R := ⟨_, rfl⟩
  rw [hR]
  have HRR := Lib.hid hR
  have B1 := Blk.made w 28 #[.int .i64 kind, .int .i64 entry, .string image, .slice a1 n1 c1, .slice a2 n2 c2, .slice a3 n3 c3, .slice a4 n c4, .slice a5 n5 c5]
  have hw1 := (New.refl w).alloc (.cells #[.int .i64 kind, .int .i64 entry, .string image, .slice a1 n1 c1, .slice a2 n2 c2, .slice a3 n3 c3, .slice a4 n c4, .slice a5 n5 c5] 28)
  clear hR1 hR4 hn1 hn hR
  go_enter Tryz.func81, Tryz.ntmps81
  go_wp2
  generalize hwB : w.alloc (.cells #[.int .i64 kind, .int .i64 entry, .string image, .slice a1 n1 c1, .slice a2 n2 c2, .slice a3 n3 c3, .slice a4 n c4, .slice a5 n5 c5] 28) = wB at *
  go_loopw [8] (fun v8 wr => ∃ i : Nat, v8 = .int .i64 i ∧ i ≤ n ∧ New wB wr ∧ Hid (∀ j, j < i → expOK places exps j = true)) (fun v8 _ => n - (intOf v8).toNat)
  case atStart => exact ⟨0, rfl, by omega, New.refl _, Lib.hid (fun j hj => absurd hj (by omega))⟩
  case round =>
    obtain ⟨i, rfl, hi9, hnr, HOK⟩ := hrel
    by_cases hlt : i < n
    · obtain ⟨bk, o, rfl, hbk, x, hx, hcell⟩ := rd_row (f := exC) (k := 2) (fun _ => rfl) HN.out (HR4.out.below (hw1.trans hnr)) hlt
      obtain ⟨xs, xp⟩ := x
      have q0 := hcell 0 (.string xs) (by omega) rfl
      have q1 := hcell 1 (.int .i64 xp) (by omega) rfl
      simp only [Nat.add_zero] at q0
      rw [← Nat.add_assoc] at q1
      have BX := Blk.made wr 81 #[.string xs, .int .i64 xp]
      have nX := (New.refl wr).alloc (.cells #[.string xs, .int .i64 xp] 81)
      have b3 := ((B1.new hnr).new nX).cell' 3 _ rfl
      have b6 := ((B1.new hnr).new nX).cell' 6 _ rfl
      have hC := fun W hW => hasExp_any places xs xp wr.heap.size a1 n1 c1 W HN1.out (HR1.out.below (((hw1.trans hnr).trans nX).trans hW)) (cell_new hW (BX.cell' 0 _ rfl)) (cell_new hW (BX.cell' 1 _ rfl)) (by omega)
      have hbad : expOK places exps i = false → R = false := fun q => by rw [← HRR.out]; exact exported_bad (by rw [HN.out]; exact hlt) q
      obtain ⟨cc, hcc⟩ : ∃ cc, places.any (expV xs xp) = cc := ⟨_, rfl⟩
      rw [hcc] at hC
      have HC := Lib.hid hC
      clear hC
      by_cases hz : i = 0
      · subst hz
        have hv : expOK places exps 0 = cc := by unfold expOK; rw [hx]; simp only [Bool.true_and]; exact hcc
        have i1 : (0 : Int) < (n : Int) := by omega
        simp only [Nat.zero_mul, Nat.add_zero] at q0 q1
        clear hcc hcell hx
        cases cc
        · have hRf := hbad hv
          subst hRf
          clear hbad hv
          go_wp2_with (fail)
          refine wp_region_held_drew (S := New _) (by kernel_rfl) (New.refl _).drew (fun hS => ?_)
          refine tkQ (i := 0) (oi := ?o43) (v := ?v43) ?h43 ?q43 ?y43 hS ?_; (case h43 => (simp only [gqA, gqB, gqC]; rfl)); (case q43 => exact fun _ _ _ h => h); (case y43 => (refine Or.inl ⟨by kernel_rfl, ?_⟩; intro wq hSq; clear hSq; go_simp; (try with_reducible rfl))); simp only [Act.put, List.setIfInBounds_toArray, List.set_cons_zero, List.set_cons_succ]
          refine tkQ (i := 1) (oi := ?o44) (v := ?v44) ?h44 ?q44 ?y44 hS ?_; (case h44 => (simp only [gqA, gqB, gqC]; rfl)); (case q44 => exact fun _ _ _ h => h); (case y44 => (refine Or.inl ⟨by kernel_rfl, ?_⟩; intro wq hSq; clear hSq; go_simp; (try with_reducible rfl))); simp only [Act.put, List.setIfInBounds_toArray, List.set_cons_zero, List.set_cons_succ]
          refine tkQ (i := 2) (oi := ?o45) (v := ?v45) ?h45 ?q45 ?y45 hS ?_; (case h45 => (simp only [gqA, gqB, gqC]; rfl)); (case q45 => exact fun _ _ _ h => h); (case y45 => (refine Or.inl ⟨by kernel_rfl, ?_⟩; intro wq hSq; clear hSq; go_simp; (try with_reducible rfl))); simp only [Act.put, List.setIfInBounds_toArray, List.set_cons_zero, List.set_cons_succ]
          refine tkQ (i := 3) (oi := ?o46) (v := undef) ?h46 ?q46 ?y46 hS ?_; (case h46 => (simp only [gqA, gqB, gqC]; rfl)); (case q46 => exact fun _ _ _ h => h); (case y46 => (exact Or.inr ⟨by kernel_rfl, rfl⟩)); simp only [Act.put, List.setIfInBounds_toArray, List.set_cons_zero, List.set_cons_succ]
          refine tkQ (i := 4) (oi := ?o47) (v := undef) ?h47 ?q47 ?y47 hS ?_; (case h47 => (simp only [gqA, gqB, gqC]; rfl)); (case q47 => exact fun _ _ _ h => h); (case y47 => (exact Or.inr ⟨by kernel_rfl, rfl⟩)); simp only [Act.put, List.setIfInBounds_toArray, List.set_cons_zero, List.set_cons_succ]
          refine tkQ (i := 5) (oi := ?o48) (v := undef) ?h48 ?q48 ?y48 hS ?_; (case h48 => (simp only [gqA, gqB, gqC]; rfl)); (case q48 => exact fun _ _ _ h => h); (case y48 => (exact Or.inr ⟨by kernel_rfl, rfl⟩)); simp only [Act.put, List.setIfInBounds_toArray, List.set_cons_zero, List.set_cons_succ]
          refine tkQ (i := 6) (oi := ?o49) (v := undef) ?h49 ?q49 ?y49 hS ?_; (case h49 => (simp only [gqA, gqB, gqC]; rfl)); (case q49 => exact fun _ _ _ h => h); (case y49 => (exact Or.inr ⟨by kernel_rfl, rfl⟩)); simp only [Act.put, List.setIfInBounds_toArray, List.set_cons_zero, List.set_cons_succ]
          refine tkQ (i := 7) (oi := ?o50) (v := undef) ?h50 ?q50 ?y50 hS ?_; (case h50 => (simp only [gqA, gqB, gqC]; rfl)); (case q50 => exact fun _ _ _ h => h); (case y50 => (exact Or.inr ⟨by kernel_rfl, rfl⟩)); simp only [Act.put, List.setIfInBounds_toArray, List.set_cons_zero, List.set_cons_succ]
          refine tkQ (i := 8) (oi := ?o51) (v := undef) ?h51 ?q51 ?y51 hS ?_; (case h51 => (simp only [gqA, gqB, gqC]; rfl)); (case q51 => exact fun _ _ _ h => h); (case y51 => (exact Or.inr ⟨by kernel_rfl, rfl⟩)); simp only [Act.put, List.setIfInBounds_toArray, List.set_cons_zero, List.set_cons_succ]
          refine tkQ (i := 9) (oi := ?o52) (v := undef) ?h52 ?q52 ?y52 hS ?_; (case h52 => (simp only [gqA, gqB, gqC]; rfl)); (case q52 => exact fun _ _ _ h => h); (case y52 => (exact Or.inr ⟨by kernel_rfl, rfl⟩)); simp only [Act.put, List.setIfInBounds_toArray, List.set_cons_zero, List.set_cons_succ]
          refine tkQ (i := 10) (oi := ?o53) (v := undef) ?h53 ?q53 ?y53 hS ?_; (case h53 => (simp only [gqA, gqB, gqC]; rfl)); (case q53 => exact fun _ _ _ h => h); (case y53 => (exact Or.inr ⟨by kernel_rfl, rfl⟩)); simp only [Act.put, List.setIfInBounds_toArray, List.set_cons_zero, List.set_cons_succ]
          refine tkQ (i := 11) (oi := ?o54) (v := undef) ?h54 ?q54 ?y54 hS ?_; (case h54 => (simp only [gqA, gqB, gqC]; rfl)); (case q54 => exact fun _ _ _ h => h); (case y54 => (exact Or.inr ⟨by kernel_rfl, rfl⟩)); simp only [Act.put, List.setIfInBounds_toArray, List.set_cons_zero, List.set_cons_succ]
          refine tkQ (i := 12) (oi := ?o55) (v := undef) ?h55 ?q55 ?y55 hS ?_; (case h55 => (simp only [gqA, gqB, gqC]; rfl)); (case q55 => exact fun _ _ _ h => h); (case y55 => (exact Or.inr ⟨by kernel_rfl, rfl⟩)); simp only [Act.put, List.setIfInBounds_toArray, List.set_cons_zero, List.set_cons_succ]
          refine tkQ (i := 13) (oi := ?o56) (v := ?v56) ?h56 ?q56 ?y56 hS ?_; (case h56 => (simp only [gqA, gqB, gqC]; rfl)); (case q56 => exact fun _ _ _ h => h); (case y56 => (refine Or.inl ⟨by kernel_rfl, ?_⟩; intro wq hSq; clear hSq; go_simp; (try with_reducible rfl))); simp only [Act.put, List.setIfInBounds_toArray, List.set_cons_zero, List.set_cons_succ]
          refine tkQ (i := 14) (oi := ?o57) (v := ?v57) ?h57 ?q57 ?y57 hS ?_; (case h57 => (simp only [gqA, gqB, gqC]; rfl)); (case q57 => exact fun _ _ _ h => h); (case y57 => (refine Or.inl ⟨by kernel_rfl, ?_⟩; intro wq hSq; clear hSq; go_simp; (try with_reducible rfl))); simp only [Act.put, List.setIfInBounds_toArray, List.set_cons_zero, List.set_cons_succ]
          refine tkQ (i := 15) (oi := ?o58) (v := ?v58) ?h58 ?q58 ?y58 hS ?_; (case h58 => (simp only [gqA, gqB, gqC]; rfl)); (case q58 => exact fun _ _ _ h => h); (case y58 => (refine Or.inl ⟨by kernel_rfl, ?_⟩; intro wq hSq; clear hSq; go_simp; (try with_reducible rfl))); simp only [Act.put, List.setIfInBounds_toArray, List.set_cons_zero, List.set_cons_succ]
          refine tkQ (i := 16) (oi := ?o59) (v := ?v59) ?h59 ?q59 ?y59 hS ?_; (case h59 => (simp only [gqA, gqB, gqC]; rfl)); (case q59 => exact fun _ _ _ h => h); (case y59 => (refine Or.inl ⟨by kernel_rfl, ?_⟩; intro wq hSq; have hf0 := cell_new hSq (BX.cell' 0 _ rfl); have hf1 := cell_new hSq (BX.cell' 1 _ rfl); have hf2 := cell_new hSq b3; clear hSq; go_simp; (try with_reducible rfl))); simp only [Act.put, List.setIfInBounds_toArray, List.set_cons_zero, List.set_cons_succ]
          refine tkQ (i := 17) (oi := ?o60) (v := ?v60) ?h60 ?q60 ?y60 hS ?_; (case h60 => (simp only [gqA, gqB, gqC]; rfl)); (case q60 => exact fun _ _ _ h => h); (case y60 => (refine Or.inl ⟨by kernel_rfl, ?_⟩; intro wq hSq; clear hSq; go_simp; (try with_reducible rfl))); simp only [Act.put, List.setIfInBounds_toArray, List.set_cons_zero, List.set_cons_succ]
          refine wpAnyH_ready (rs := [18]) (by kernel_rfl) (by simp) ?_
          refine AllReadyH.cons (o := ?oi61) ?hi61 (fun K hK => ?_) AllReadyH.nil
          case hi61 => (simp only [gqA, gqB, gqC]; rfl)
          go_simp
          refine (HC.out _ (New.refl _).drew).mono ?_
          rintro e w2 ⟨rfl, hn2⟩
          refine hK.out _ _ (hS.trans hn2) (fun hS => ?_)
          clear hK K
          refine tkQ (i := 19) (oi := ?o62) (v := ?v62) ?h62 ?q62 ?y62 hS ?_; (case h62 => (simp only [gqA, gqB, gqC]; rfl)); (case q62 => exact fun _ _ _ h => h); (case y62 => (refine Or.inl ⟨by kernel_rfl, ?_⟩; intro wq hSq; clear hSq; go_simp; (try with_reducible rfl))); simp only [Act.put, List.setIfInBounds_toArray, List.set_cons_zero, List.set_cons_succ]
          refine tkQ (i := 20) (oi := ?o63) (v := ?v63) ?h63 ?q63 ?y63 hS ?_; (case h63 => (simp only [gqA, gqB, gqC]; rfl)); (case q63 => exact fun _ _ _ h => h); (case y63 => (refine Or.inl ⟨by kernel_rfl, ?_⟩; intro wq hSq; clear hSq; go_simp; (try with_reducible rfl))); simp only [Act.put, List.setIfInBounds_toArray, List.set_cons_zero, List.set_cons_succ]
          refine wpAnyH_done (by kernel_rfl) ?_ _
          go_wp2
          go_ret
          exact ⟨rfl, (hw1.trans (hnr.trans nX)).trans ((New.refl _).drew.trans hn2)⟩
        · have hok2 : ∀ j, j < 0 + 1 → expOK places exps j = true := fun j hj => by
            rcases Nat.lt_or_ge j (0) with hj2 | hj2
            · exact HOK.out j hj2
            · obtain rfl : j = 0 := by omega
              exact hv
          have HOK2 := Lib.hid hok2
          clear hok2 hv hbad
          go_wp2_with (fail)
          refine wp_region_held_drew (S := New _) (by kernel_rfl) (New.refl _).drew (fun hS => ?_)
          refine tkQ (i := 0) (oi := ?o1) (v := ?v1) ?h1 ?q1 ?y1 hS ?_; (case h1 => (simp only [gqA, gqB, gqC]; rfl)); (case q1 => exact fun _ _ _ h => h); (case y1 => (refine Or.inl ⟨by kernel_rfl, ?_⟩; intro wq hSq; clear hSq; go_simp; (try with_reducible rfl))); simp only [Act.put, List.setIfInBounds_toArray, List.set_cons_zero, List.set_cons_succ]
          refine tkQ (i := 1) (oi := ?o2) (v := ?v2) ?h2 ?q2 ?y2 hS ?_; (case h2 => (simp only [gqA, gqB, gqC]; rfl)); (case q2 => exact fun _ _ _ h => h); (case y2 => (refine Or.inl ⟨by kernel_rfl, ?_⟩; intro wq hSq; clear hSq; go_simp; (try with_reducible rfl))); simp only [Act.put, List.setIfInBounds_toArray, List.set_cons_zero, List.set_cons_succ]
          refine tkQ (i := 2) (oi := ?o3) (v := ?v3) ?h3 ?q3 ?y3 hS ?_; (case h3 => (simp only [gqA, gqB, gqC]; rfl)); (case q3 => exact fun _ _ _ h => h); (case y3 => (refine Or.inl ⟨by kernel_rfl, ?_⟩; intro wq hSq; clear hSq; go_simp; (try with_reducible rfl))); simp only [Act.put, List.setIfInBounds_toArray, List.set_cons_zero, List.set_cons_succ]
          refine tkQ (i := 3) (oi := ?o4) (v := undef) ?h4 ?q4 ?y4 hS ?_; (case h4 => (simp only [gqA, gqB, gqC]; rfl)); (case q4 => exact fun _ _ _ h => h); (case y4 => (exact Or.inr ⟨by kernel_rfl, rfl⟩)); simp only [Act.put, List.setIfInBounds_toArray, List.set_cons_zero, List.set_cons_succ]
          refine tkQ (i := 4) (oi := ?o5) (v := undef) ?h5 ?q5 ?y5 hS ?_; (case h5 => (simp only [gqA, gqB, gqC]; rfl)); (case q5 => exact fun _ _ _ h => h); (case y5 => (exact Or.inr ⟨by kernel_rfl, rfl⟩)); simp only [Act.put, List.setIfInBounds_toArray, List.set_cons_zero, List.set_cons_succ]
          refine tkQ (i := 5) (oi := ?o6) (v := undef) ?h6 ?q6 ?y6 hS ?_; (case h6 => (simp only [gqA, gqB, gqC]; rfl)); (case q6 => exact fun _ _ _ h => h); (case y6 => (exact Or.inr ⟨by kernel_rfl, rfl⟩)); simp only [Act.put, List.setIfInBounds_toArray, List.set_cons_zero, List.set_cons_succ]
          refine tkQ (i := 6) (oi := ?o7) (v := undef) ?h7 ?q7 ?y7 hS ?_; (case h7 => (simp only [gqA, gqB, gqC]; rfl)); (case q7 => exact fun _ _ _ h => h); (case y7 => (exact Or.inr ⟨by kernel_rfl, rfl⟩)); simp only [Act.put, List.setIfInBounds_toArray, List.set_cons_zero, List.set_cons_succ]
          refine tkQ (i := 7) (oi := ?o8) (v := undef) ?h8 ?q8 ?y8 hS ?_; (case h8 => (simp only [gqA, gqB, gqC]; rfl)); (case q8 => exact fun _ _ _ h => h); (case y8 => (exact Or.inr ⟨by kernel_rfl, rfl⟩)); simp only [Act.put, List.setIfInBounds_toArray, List.set_cons_zero, List.set_cons_succ]
          refine tkQ (i := 8) (oi := ?o9) (v := undef) ?h9 ?q9 ?y9 hS ?_; (case h9 => (simp only [gqA, gqB, gqC]; rfl)); (case q9 => exact fun _ _ _ h => h); (case y9 => (exact Or.inr ⟨by kernel_rfl, rfl⟩)); simp only [Act.put, List.setIfInBounds_toArray, List.set_cons_zero, List.set_cons_succ]
          refine tkQ (i := 9) (oi := ?o10) (v := undef) ?h10 ?q10 ?y10 hS ?_; (case h10 => (simp only [gqA, gqB, gqC]; rfl)); (case q10 => exact fun _ _ _ h => h); (case y10 => (exact Or.inr ⟨by kernel_rfl, rfl⟩)); simp only [Act.put, List.setIfInBounds_toArray, List.set_cons_zero, List.set_cons_succ]
          refine tkQ (i := 10) (oi := ?o11) (v := undef) ?h11 ?q11 ?y11 hS ?_; (case h11 => (simp only [gqA, gqB, gqC]; rfl)); (case q11 => exact fun _ _ _ h => h); (case y11 => (exact Or.inr ⟨by kernel_rfl, rfl⟩)); simp only [Act.put, List.setIfInBounds_toArray, List.set_cons_zero, List.set_cons_succ]
          refine tkQ (i := 11) (oi := ?o12) (v := undef) ?h12 ?q12 ?y12 hS ?_; (case h12 => (simp only [gqA, gqB, gqC]; rfl)); (case q12 => exact fun _ _ _ h => h); (case y12 => (exact Or.inr ⟨by kernel_rfl, rfl⟩)); simp only [Act.put, List.setIfInBounds_toArray, List.set_cons_zero, List.set_cons_succ]
          refine tkQ (i := 12) (oi := ?o13) (v := undef) ?h13 ?q13 ?y13 hS ?_; (case h13 => (simp only [gqA, gqB, gqC]; rfl)); (case q13 => exact fun _ _ _ h => h); (case y13 => (exact Or.inr ⟨by kernel_rfl, rfl⟩)); simp only [Act.put, List.setIfInBounds_toArray, List.set_cons_zero, List.set_cons_succ]
          refine tkQ (i := 13) (oi := ?o14) (v := ?v14) ?h14 ?q14 ?y14 hS ?_; (case h14 => (simp only [gqA, gqB, gqC]; rfl)); (case q14 => exact fun _ _ _ h => h); (case y14 => (refine Or.inl ⟨by kernel_rfl, ?_⟩; intro wq hSq; clear hSq; go_simp; (try with_reducible rfl))); simp only [Act.put, List.setIfInBounds_toArray, List.set_cons_zero, List.set_cons_succ]
          refine tkQ (i := 14) (oi := ?o15) (v := ?v15) ?h15 ?q15 ?y15 hS ?_; (case h15 => (simp only [gqA, gqB, gqC]; rfl)); (case q15 => exact fun _ _ _ h => h); (case y15 => (refine Or.inl ⟨by kernel_rfl, ?_⟩; intro wq hSq; clear hSq; go_simp; (try with_reducible rfl))); simp only [Act.put, List.setIfInBounds_toArray, List.set_cons_zero, List.set_cons_succ]
          refine tkQ (i := 15) (oi := ?o16) (v := ?v16) ?h16 ?q16 ?y16 hS ?_; (case h16 => (simp only [gqA, gqB, gqC]; rfl)); (case q16 => exact fun _ _ _ h => h); (case y16 => (refine Or.inl ⟨by kernel_rfl, ?_⟩; intro wq hSq; clear hSq; go_simp; (try with_reducible rfl))); simp only [Act.put, List.setIfInBounds_toArray, List.set_cons_zero, List.set_cons_succ]
          refine tkQ (i := 16) (oi := ?o17) (v := ?v17) ?h17 ?q17 ?y17 hS ?_; (case h17 => (simp only [gqA, gqB, gqC]; rfl)); (case q17 => exact fun _ _ _ h => h); (case y17 => (refine Or.inl ⟨by kernel_rfl, ?_⟩; intro wq hSq; have hf0 := cell_new hSq (BX.cell' 0 _ rfl); have hf1 := cell_new hSq (BX.cell' 1 _ rfl); have hf2 := cell_new hSq b3; clear hSq; go_simp; (try with_reducible rfl))); simp only [Act.put, List.setIfInBounds_toArray, List.set_cons_zero, List.set_cons_succ]
          refine tkQ (i := 17) (oi := ?o18) (v := ?v18) ?h18 ?q18 ?y18 hS ?_; (case h18 => (simp only [gqA, gqB, gqC]; rfl)); (case q18 => exact fun _ _ _ h => h); (case y18 => (refine Or.inl ⟨by kernel_rfl, ?_⟩; intro wq hSq; clear hSq; go_simp; (try with_reducible rfl))); simp only [Act.put, List.setIfInBounds_toArray, List.set_cons_zero, List.set_cons_succ]
          refine wpAnyH_ready (rs := [18]) (by kernel_rfl) (by simp) ?_
          refine AllReadyH.cons (o := ?oi19) ?hi19 (fun K hK => ?_) AllReadyH.nil
          case hi19 => (simp only [gqA, gqB, gqC]; rfl)
          go_simp
          refine (HC.out _ (New.refl _).drew).mono ?_
          rintro e w2 ⟨rfl, hn2⟩
          refine hK.out _ _ (hS.trans hn2) (fun hS => ?_)
          clear hK K
          refine tkQ (i := 19) (oi := ?o20) (v := ?v20) ?h20 ?q20 ?y20 hS ?_; (case h20 => (simp only [gqA, gqB, gqC]; rfl)); (case q20 => exact fun _ _ _ h => h); (case y20 => (refine Or.inl ⟨by kernel_rfl, ?_⟩; intro wq hSq; clear hSq; go_simp; (try with_reducible rfl))); simp only [Act.put, List.setIfInBounds_toArray, List.set_cons_zero, List.set_cons_succ]
          refine tkQ (i := 20) (oi := ?o21) (v := ?v21) ?h21 ?q21 ?y21 hS ?_; (case h21 => (simp only [gqA, gqB, gqC]; rfl)); (case q21 => exact fun _ _ _ h => h); (case y21 => (refine Or.inl ⟨by kernel_rfl, ?_⟩; intro wq hSq; clear hSq; go_simp; (try with_reducible rfl))); simp only [Act.put, List.setIfInBounds_toArray, List.set_cons_zero, List.set_cons_succ]
          refine wpAnyH_done (by kernel_rfl) ?_ _
          go_wp2
          go_roundw
          case rel => exact ⟨0 + 1, by go_num, by omega, (hnr.trans nX).trans ((New.refl _).drew.trans hn2), HOK2⟩
          case measure => simp [intOf]; omega
      · obtain ⟨m, rfl⟩ : ∃ m, i = m + 1 := ⟨i - 1, by omega⟩
        obtain ⟨bk', o', hA, _, y, hy, hcy⟩ := rd_row (f := exC) (k := 2) (fun _ => rfl) HN.out (HR4.out.below (hw1.trans hnr)) (show m < n by omega)
        injection hA with hA
        injection hA with hA1 hA2
        subst hA1 hA2
        obtain ⟨ys, yp⟩ := y
        have y0 := hcy 0 (.string ys) (by omega) rfl
        simp only [Nat.add_zero] at y0
        have yX := cell_new nX y0
        have hv : expOK places exps (m + 1) = (Op.bytesLess ys.toList xs.toList && cc) := by unfold expOK; rw [hx]; simp only [hy, hcc, ltX]
        have k8 : IntKind.i64.wrap (((m + 1 : Nat) : Int) - 1) = (m : Int) := by rw [IntWalk.i64_in _ (by omega)]; omega
        have k7 : IntKind.i64.wrap ((m : Int) + 1 - 1) = (m : Int) := by rw [IntWalk.i64_in _ (by omega)]; omega
        have k10 : (0 : Int) < (m : Int) + 1 := by omega
        have k11 : (0 : Int) ≤ (m : Int) := by omega
        have k12 : (m : Int) < (n : Int) := by omega
        have k13 : (m : Int).toNat = m := by omega
        have k14 : m < n := by omega
        have k15 : IntKind.i64.wrap (m : Int) = (m : Int) := IntWalk.i64_in _ (by omega)
        have k16 : (m : Int) + 1 < (n : Int) := by omega
        have t1 : decide (0 < m + 1) = true := decide_eq_true (by omega)
        have t2 : decide ((0 : Int) < (m : Int) + 1) = true := decide_eq_true (by omega)
        clear hcc hcell hx hcy hy
        cases hL : Op.bytesLess ys.toList xs.toList
        · rw [hL, Bool.false_and] at hv
          have hRf := hbad hv
          subst hRf
          clear hbad hv
          go_wp2_with (fail)
          refine wp_region_held_drew (S := New _) (by kernel_rfl) (New.refl _).drew (fun hS => ?_)
          refine tkQ (i := 0) (oi := ?o85) (v := ?v85) ?h85 ?q85 ?y85 hS ?_; (case h85 => (simp only [gqA, gqB, gqC]; rfl)); (case q85 => exact fun _ _ _ h => h); (case y85 => (refine Or.inl ⟨by kernel_rfl, ?_⟩; intro wq hSq; clear hSq; go_simp; (try with_reducible rfl))); simp only [Act.put, List.setIfInBounds_toArray, List.set_cons_zero, List.set_cons_succ]
          refine tkQ (i := 1) (oi := ?o86) (v := ?v86) ?h86 ?q86 ?y86 hS ?_; (case h86 => (simp only [gqA, gqB, gqC]; rfl)); (case q86 => exact fun _ _ _ h => h); (case y86 => (refine Or.inl ⟨by kernel_rfl, ?_⟩; intro wq hSq; clear hSq; go_simp; (try with_reducible rfl))); simp only [Act.put, List.setIfInBounds_toArray, List.set_cons_zero, List.set_cons_succ]
          refine tkQ (i := 2) (oi := ?o87) (v := ?v87) ?h87 ?q87 ?y87 hS ?_; (case h87 => (simp only [gqA, gqB, gqC]; rfl)); (case q87 => exact fun _ _ _ h => h); (case y87 => (refine Or.inl ⟨by kernel_rfl, ?_⟩; intro wq hSq; clear hSq; go_simp; (try with_reducible rfl))); simp only [Act.put, List.setIfInBounds_toArray, List.set_cons_zero, List.set_cons_succ]
          refine tkQ (i := 3) (oi := ?o88) (v := ?v88) ?h88 ?q88 ?y88 hS ?_; (case h88 => (simp only [gqA, gqB, gqC]; rfl)); (case q88 => exact fun _ _ _ h => h); (case y88 => (refine Or.inl ⟨by kernel_rfl, ?_⟩; intro wq hSq; clear hSq; go_simp; (try with_reducible rfl))); simp only [Act.put, List.setIfInBounds_toArray, List.set_cons_zero, List.set_cons_succ]
          refine tkQ (i := 4) (oi := ?o89) (v := ?v89) ?h89 ?q89 ?y89 hS ?_; (case h89 => (simp only [gqA, gqB, gqC]; rfl)); (case q89 => exact fun _ _ _ h => h); (case y89 => (refine Or.inl ⟨by kernel_rfl, ?_⟩; intro wq hSq; have hf0 := cell_new hSq (BX.cell' 0 _ rfl); have hf1 := cell_new hSq (BX.cell' 1 _ rfl); have hf2 := cell_new hSq b3; have hf3 := cell_new hSq b6; have hf4 := cell_new hSq yX; clear hSq; go_simp; (try with_reducible rfl))); simp only [Act.put, List.setIfInBounds_toArray, List.set_cons_zero, List.set_cons_succ]
          refine tkQ (i := 5) (oi := ?o90) (v := ?v90) ?h90 ?q90 ?y90 hS ?_; (case h90 => (simp only [gqA, gqB, gqC]; rfl)); (case q90 => exact fun _ _ _ h => h); (case y90 => (refine Or.inl ⟨by kernel_rfl, ?_⟩; intro wq hSq; clear hSq; go_simp; (try with_reducible rfl))); simp only [Act.put, List.setIfInBounds_toArray, List.set_cons_zero, List.set_cons_succ]
          refine tkQ (i := 6) (oi := ?o91) (v := ?v91) ?h91 ?q91 ?y91 hS ?_; (case h91 => (simp only [gqA, gqB, gqC]; rfl)); (case q91 => exact fun _ _ _ h => h); (case y91 => (refine Or.inl ⟨by kernel_rfl, ?_⟩; intro wq hSq; clear hSq; go_simp; (try with_reducible rfl))); simp only [Act.put, List.setIfInBounds_toArray, List.set_cons_zero, List.set_cons_succ]
          refine tkQ (i := 7) (oi := ?o92) (v := ?v92) ?h92 ?q92 ?y92 hS ?_; (case h92 => (simp only [gqA, gqB, gqC]; rfl)); (case q92 => exact fun _ _ _ h => h); (case y92 => (refine Or.inl ⟨by kernel_rfl, ?_⟩; intro wq hSq; clear hSq; go_simp; (try with_reducible rfl))); simp only [Act.put, List.setIfInBounds_toArray, List.set_cons_zero, List.set_cons_succ]
          refine tkQ (i := 8) (oi := ?o93) (v := ?v93) ?h93 ?q93 ?y93 hS ?_; (case h93 => (simp only [gqA, gqB, gqC]; rfl)); (case q93 => exact fun _ _ _ h => h); (case y93 => (refine Or.inl ⟨by kernel_rfl, ?_⟩; intro wq hSq; clear hSq; go_simp; (try with_reducible rfl))); simp only [Act.put, List.setIfInBounds_toArray, List.set_cons_zero, List.set_cons_succ]
          refine tkQ (i := 9) (oi := ?o94) (v := ?v94) ?h94 ?q94 ?y94 hS ?_; (case h94 => (simp only [gqA, gqB, gqC]; rfl)); (case q94 => exact fun _ _ _ h => h); (case y94 => (refine Or.inl ⟨by kernel_rfl, ?_⟩; intro wq hSq; have hf0 := cell_new hSq (BX.cell' 0 _ rfl); have hf1 := cell_new hSq (BX.cell' 1 _ rfl); have hf2 := cell_new hSq b3; have hf3 := cell_new hSq b6; have hf4 := cell_new hSq yX; clear hSq; go_simp; (try with_reducible rfl))); simp only [Act.put, List.setIfInBounds_toArray, List.set_cons_zero, List.set_cons_succ]
          refine tkQ (i := 10) (oi := ?o95) (v := ?v95) ?h95 ?q95 ?y95 hS ?_; (case h95 => (simp only [gqA, gqB, gqC]; rfl)); (case q95 => exact fun _ _ _ h => h); (case y95 => (refine Or.inl ⟨by kernel_rfl, ?_⟩; intro wq hSq; clear hSq; go_simp; (try with_reducible rfl))); simp only [Act.put, List.setIfInBounds_toArray, List.set_cons_zero, List.set_cons_succ]
          refine tkQ (i := 11) (oi := ?o96) (v := ?v96) ?h96 ?q96 ?y96 hS ?_; (case h96 => (simp only [gqA, gqB, gqC]; rfl)); (case q96 => exact fun _ _ _ h => h); (case y96 => (refine Or.inl ⟨by kernel_rfl, ?_⟩; intro wq hSq; have hf0 := cell_new hSq (BX.cell' 0 _ rfl); have hf1 := cell_new hSq (BX.cell' 1 _ rfl); have hf2 := cell_new hSq b3; have hf3 := cell_new hSq b6; have hf4 := cell_new hSq yX; clear hSq; go_simp; (try with_reducible rfl))); simp only [Act.put, List.setIfInBounds_toArray, List.set_cons_zero, List.set_cons_succ]
          refine tkQ (i := 12) (oi := ?o97) (v := ?v97) ?h97 ?q97 ?y97 hS ?_; (case h97 => (simp only [gqA, gqB, gqC]; rfl)); (case q97 => exact fun _ _ _ h => h); (case y97 => (refine Or.inl ⟨by kernel_rfl, ?_⟩; intro wq hSq; clear hSq; go_simp; (try with_reducible rfl))); simp only [Act.put, List.setIfInBounds_toArray, List.set_cons_zero, List.set_cons_succ]
          refine tkQ (i := 13) (oi := ?o98) (v := ?v98) ?h98 ?q98 ?y98 hS ?_; (case h98 => (simp only [gqA, gqB, gqC]; rfl)); (case q98 => exact fun _ _ _ h => h); (case y98 => (refine Or.inl ⟨by kernel_rfl, ?_⟩; intro wq hSq; clear hSq; go_simp; (try with_reducible rfl))); simp only [Act.put, List.setIfInBounds_toArray, List.set_cons_zero, List.set_cons_succ]
          refine tkQ (i := 14) (oi := ?o99) (v := ?v99) ?h99 ?q99 ?y99 hS ?_; (case h99 => (simp only [gqA, gqB, gqC]; rfl)); (case q99 => exact fun _ _ _ h => h); (case y99 => (refine Or.inl ⟨by kernel_rfl, ?_⟩; intro wq hSq; clear hSq; go_simp; (try with_reducible rfl))); simp only [Act.put, List.setIfInBounds_toArray, List.set_cons_zero, List.set_cons_succ]
          refine tkQ (i := 15) (oi := ?o100) (v := undef) ?h100 ?q100 ?y100 hS ?_; (case h100 => (simp only [gqA, gqB, gqC]; rfl)); (case q100 => exact fun _ _ _ h => h); (case y100 => (exact Or.inr ⟨by kernel_rfl, rfl⟩)); simp only [Act.put, List.setIfInBounds_toArray, List.set_cons_zero, List.set_cons_succ]
          refine tkQ (i := 16) (oi := ?o101) (v := undef) ?h101 ?q101 ?y101 hS ?_; (case h101 => (simp only [gqA, gqB, gqC]; rfl)); (case q101 => exact fun _ _ _ h => h); (case y101 => (exact Or.inr ⟨by kernel_rfl, rfl⟩)); simp only [Act.put, List.setIfInBounds_toArray, List.set_cons_zero, List.set_cons_succ]
          refine tkQ (i := 17) (oi := ?o102) (v := undef) ?h102 ?q102 ?y102 hS ?_; (case h102 => (simp only [gqA, gqB, gqC]; rfl)); (case q102 => exact fun _ _ _ h => h); (case y102 => (exact Or.inr ⟨by kernel_rfl, rfl⟩)); simp only [Act.put, List.setIfInBounds_toArray, List.set_cons_zero, List.set_cons_succ]
          refine tkQ (i := 18) (oi := ?o103) (v := undef) ?h103 ?q103 ?y103 hS ?_; (case h103 => (simp only [gqA, gqB, gqC]; rfl)); (case q103 => exact fun _ _ _ h => h); (case y103 => (exact Or.inr ⟨by kernel_rfl, rfl⟩)); simp only [Act.put, List.setIfInBounds_toArray, List.set_cons_zero, List.set_cons_succ]
          refine tkQ (i := 19) (oi := ?o104) (v := undef) ?h104 ?q104 ?y104 hS ?_; (case h104 => (simp only [gqA, gqB, gqC]; rfl)); (case q104 => exact fun _ _ _ h => h); (case y104 => (exact Or.inr ⟨by kernel_rfl, rfl⟩)); simp only [Act.put, List.setIfInBounds_toArray, List.set_cons_zero, List.set_cons_succ]
          refine tkQ (i := 20) (oi := ?o105) (v := ?v105) ?h105 ?q105 ?y105 hS ?_; (case h105 => (simp only [gqA, gqB, gqC]; rfl)); (case q105 => exact fun _ _ _ h => h); (case y105 => (refine Or.inl ⟨by kernel_rfl, ?_⟩; intro wq hSq; clear hSq; go_simp; (try with_reducible rfl))); simp only [Act.put, List.setIfInBounds_toArray, List.set_cons_zero, List.set_cons_succ]
          refine wpAnyH_done (by kernel_rfl) ?_ _
          go_wp2
          go_ret
          exact ⟨rfl, (hw1.trans (hnr.trans nX)).trans (New.refl _).drew⟩
        · rw [hL, Bool.true_and] at hv
          cases cc
          · have hRf := hbad hv
            subst hRf
            clear hbad hv
            go_wp2_with (fail)
            refine wp_region_held_drew (S := New _) (by kernel_rfl) (New.refl _).drew (fun hS => ?_)
            refine tkQ (i := 0) (oi := ?o64) (v := ?v64) ?h64 ?q64 ?y64 hS ?_; (case h64 => (simp only [gqA, gqB, gqC]; rfl)); (case q64 => exact fun _ _ _ h => h); (case y64 => (refine Or.inl ⟨by kernel_rfl, ?_⟩; intro wq hSq; clear hSq; go_simp; (try with_reducible rfl))); simp only [Act.put, List.setIfInBounds_toArray, List.set_cons_zero, List.set_cons_succ]
            refine tkQ (i := 1) (oi := ?o65) (v := ?v65) ?h65 ?q65 ?y65 hS ?_; (case h65 => (simp only [gqA, gqB, gqC]; rfl)); (case q65 => exact fun _ _ _ h => h); (case y65 => (refine Or.inl ⟨by kernel_rfl, ?_⟩; intro wq hSq; clear hSq; go_simp; (try with_reducible rfl))); simp only [Act.put, List.setIfInBounds_toArray, List.set_cons_zero, List.set_cons_succ]
            refine tkQ (i := 2) (oi := ?o66) (v := ?v66) ?h66 ?q66 ?y66 hS ?_; (case h66 => (simp only [gqA, gqB, gqC]; rfl)); (case q66 => exact fun _ _ _ h => h); (case y66 => (refine Or.inl ⟨by kernel_rfl, ?_⟩; intro wq hSq; clear hSq; go_simp; (try with_reducible rfl))); simp only [Act.put, List.setIfInBounds_toArray, List.set_cons_zero, List.set_cons_succ]
            refine tkQ (i := 3) (oi := ?o67) (v := ?v67) ?h67 ?q67 ?y67 hS ?_; (case h67 => (simp only [gqA, gqB, gqC]; rfl)); (case q67 => exact fun _ _ _ h => h); (case y67 => (refine Or.inl ⟨by kernel_rfl, ?_⟩; intro wq hSq; clear hSq; go_simp; (try with_reducible rfl))); simp only [Act.put, List.setIfInBounds_toArray, List.set_cons_zero, List.set_cons_succ]
            refine tkQ (i := 4) (oi := ?o68) (v := ?v68) ?h68 ?q68 ?y68 hS ?_; (case h68 => (simp only [gqA, gqB, gqC]; rfl)); (case q68 => exact fun _ _ _ h => h); (case y68 => (refine Or.inl ⟨by kernel_rfl, ?_⟩; intro wq hSq; have hf0 := cell_new hSq (BX.cell' 0 _ rfl); have hf1 := cell_new hSq (BX.cell' 1 _ rfl); have hf2 := cell_new hSq b3; have hf3 := cell_new hSq b6; have hf4 := cell_new hSq yX; clear hSq; go_simp; (try with_reducible rfl))); simp only [Act.put, List.setIfInBounds_toArray, List.set_cons_zero, List.set_cons_succ]
            refine tkQ (i := 5) (oi := ?o69) (v := ?v69) ?h69 ?q69 ?y69 hS ?_; (case h69 => (simp only [gqA, gqB, gqC]; rfl)); (case q69 => exact fun _ _ _ h => h); (case y69 => (refine Or.inl ⟨by kernel_rfl, ?_⟩; intro wq hSq; clear hSq; go_simp; (try with_reducible rfl))); simp only [Act.put, List.setIfInBounds_toArray, List.set_cons_zero, List.set_cons_succ]
            refine tkQ (i := 6) (oi := ?o70) (v := ?v70) ?h70 ?q70 ?y70 hS ?_; (case h70 => (simp only [gqA, gqB, gqC]; rfl)); (case q70 => exact fun _ _ _ h => h); (case y70 => (refine Or.inl ⟨by kernel_rfl, ?_⟩; intro wq hSq; clear hSq; go_simp; (try with_reducible rfl))); simp only [Act.put, List.setIfInBounds_toArray, List.set_cons_zero, List.set_cons_succ]
            refine tkQ (i := 7) (oi := ?o71) (v := ?v71) ?h71 ?q71 ?y71 hS ?_; (case h71 => (simp only [gqA, gqB, gqC]; rfl)); (case q71 => exact fun _ _ _ h => h); (case y71 => (refine Or.inl ⟨by kernel_rfl, ?_⟩; intro wq hSq; clear hSq; go_simp; (try with_reducible rfl))); simp only [Act.put, List.setIfInBounds_toArray, List.set_cons_zero, List.set_cons_succ]
            refine tkQ (i := 8) (oi := ?o72) (v := ?v72) ?h72 ?q72 ?y72 hS ?_; (case h72 => (simp only [gqA, gqB, gqC]; rfl)); (case q72 => exact fun _ _ _ h => h); (case y72 => (refine Or.inl ⟨by kernel_rfl, ?_⟩; intro wq hSq; clear hSq; go_simp; (try with_reducible rfl))); simp only [Act.put, List.setIfInBounds_toArray, List.set_cons_zero, List.set_cons_succ]
            refine tkQ (i := 9) (oi := ?o73) (v := ?v73) ?h73 ?q73 ?y73 hS ?_; (case h73 => (simp only [gqA, gqB, gqC]; rfl)); (case q73 => exact fun _ _ _ h => h); (case y73 => (refine Or.inl ⟨by kernel_rfl, ?_⟩; intro wq hSq; have hf0 := cell_new hSq (BX.cell' 0 _ rfl); have hf1 := cell_new hSq (BX.cell' 1 _ rfl); have hf2 := cell_new hSq b3; have hf3 := cell_new hSq b6; have hf4 := cell_new hSq yX; clear hSq; go_simp; (try with_reducible rfl))); simp only [Act.put, List.setIfInBounds_toArray, List.set_cons_zero, List.set_cons_succ]
            refine tkQ (i := 10) (oi := ?o74) (v := ?v74) ?h74 ?q74 ?y74 hS ?_; (case h74 => (simp only [gqA, gqB, gqC]; rfl)); (case q74 => exact fun _ _ _ h => h); (case y74 => (refine Or.inl ⟨by kernel_rfl, ?_⟩; intro wq hSq; clear hSq; go_simp; (try with_reducible rfl))); simp only [Act.put, List.setIfInBounds_toArray, List.set_cons_zero, List.set_cons_succ]
            refine tkQ (i := 11) (oi := ?o75) (v := ?v75) ?h75 ?q75 ?y75 hS ?_; (case h75 => (simp only [gqA, gqB, gqC]; rfl)); (case q75 => exact fun _ _ _ h => h); (case y75 => (refine Or.inl ⟨by kernel_rfl, ?_⟩; intro wq hSq; have hf0 := cell_new hSq (BX.cell' 0 _ rfl); have hf1 := cell_new hSq (BX.cell' 1 _ rfl); have hf2 := cell_new hSq b3; have hf3 := cell_new hSq b6; have hf4 := cell_new hSq yX; clear hSq; go_simp; (try with_reducible rfl))); simp only [Act.put, List.setIfInBounds_toArray, List.set_cons_zero, List.set_cons_succ]
            refine tkQ (i := 12) (oi := ?o76) (v := ?v76) ?h76 ?q76 ?y76 hS ?_; (case h76 => (simp only [gqA, gqB, gqC]; rfl)); (case q76 => exact fun _ _ _ h => h); (case y76 => (refine Or.inl ⟨by kernel_rfl, ?_⟩; intro wq hSq; clear hSq; go_simp; (try with_reducible rfl))); simp only [Act.put, List.setIfInBounds_toArray, List.set_cons_zero, List.set_cons_succ]
            refine tkQ (i := 13) (oi := ?o77) (v := ?v77) ?h77 ?q77 ?y77 hS ?_; (case h77 => (simp only [gqA, gqB, gqC]; rfl)); (case q77 => exact fun _ _ _ h => h); (case y77 => (refine Or.inl ⟨by kernel_rfl, ?_⟩; intro wq hSq; clear hSq; go_simp; (try with_reducible rfl))); simp only [Act.put, List.setIfInBounds_toArray, List.set_cons_zero, List.set_cons_succ]
            refine tkQ (i := 14) (oi := ?o78) (v := ?v78) ?h78 ?q78 ?y78 hS ?_; (case h78 => (simp only [gqA, gqB, gqC]; rfl)); (case q78 => exact fun _ _ _ h => h); (case y78 => (refine Or.inl ⟨by kernel_rfl, ?_⟩; intro wq hSq; clear hSq; go_simp; (try with_reducible rfl))); simp only [Act.put, List.setIfInBounds_toArray, List.set_cons_zero, List.set_cons_succ]
            refine tkQ (i := 15) (oi := ?o79) (v := ?v79) ?h79 ?q79 ?y79 hS ?_; (case h79 => (simp only [gqA, gqB, gqC]; rfl)); (case q79 => exact fun _ _ _ h => h); (case y79 => (refine Or.inl ⟨by kernel_rfl, ?_⟩; intro wq hSq; clear hSq; go_simp; (try with_reducible rfl))); simp only [Act.put, List.setIfInBounds_toArray, List.set_cons_zero, List.set_cons_succ]
            refine tkQ (i := 16) (oi := ?o80) (v := ?v80) ?h80 ?q80 ?y80 hS ?_; (case h80 => (simp only [gqA, gqB, gqC]; rfl)); (case q80 => exact fun _ _ _ h => h); (case y80 => (refine Or.inl ⟨by kernel_rfl, ?_⟩; intro wq hSq; have hf0 := cell_new hSq (BX.cell' 0 _ rfl); have hf1 := cell_new hSq (BX.cell' 1 _ rfl); have hf2 := cell_new hSq b3; have hf3 := cell_new hSq b6; have hf4 := cell_new hSq yX; clear hSq; go_simp; (try with_reducible rfl))); simp only [Act.put, List.setIfInBounds_toArray, List.set_cons_zero, List.set_cons_succ]
            refine tkQ (i := 17) (oi := ?o81) (v := ?v81) ?h81 ?q81 ?y81 hS ?_; (case h81 => (simp only [gqA, gqB, gqC]; rfl)); (case q81 => exact fun _ _ _ h => h); (case y81 => (refine Or.inl ⟨by kernel_rfl, ?_⟩; intro wq hSq; clear hSq; go_simp; (try with_reducible rfl))); simp only [Act.put, List.setIfInBounds_toArray, List.set_cons_zero, List.set_cons_succ]
            refine wpAnyH_ready (rs := [18]) (by kernel_rfl) (by simp) ?_
            refine AllReadyH.cons (o := ?oi82) ?hi82 (fun K hK => ?_) AllReadyH.nil
            case hi82 => (simp only [gqA, gqB, gqC]; rfl)
            go_simp
            refine (HC.out _ (New.refl _).drew).mono ?_
            rintro e w2 ⟨rfl, hn2⟩
            refine hK.out _ _ (hS.trans hn2) (fun hS => ?_)
            clear hK K
            refine tkQ (i := 19) (oi := ?o83) (v := ?v83) ?h83 ?q83 ?y83 hS ?_; (case h83 => (simp only [gqA, gqB, gqC]; rfl)); (case q83 => exact fun _ _ _ h => h); (case y83 => (refine Or.inl ⟨by kernel_rfl, ?_⟩; intro wq hSq; clear hSq; go_simp; (try with_reducible rfl))); simp only [Act.put, List.setIfInBounds_toArray, List.set_cons_zero, List.set_cons_succ]
            refine tkQ (i := 20) (oi := ?o84) (v := ?v84) ?h84 ?q84 ?y84 hS ?_; (case h84 => (simp only [gqA, gqB, gqC]; rfl)); (case q84 => exact fun _ _ _ h => h); (case y84 => (refine Or.inl ⟨by kernel_rfl, ?_⟩; intro wq hSq; clear hSq; go_simp; (try with_reducible rfl))); simp only [Act.put, List.setIfInBounds_toArray, List.set_cons_zero, List.set_cons_succ]
            refine wpAnyH_done (by kernel_rfl) ?_ _
            go_wp2
            go_ret
            exact ⟨rfl, (hw1.trans (hnr.trans nX)).trans ((New.refl _).drew.trans hn2)⟩
          · have hok2 : ∀ j, j < m + 1 + 1 → expOK places exps j = true := fun j hj => by
              rcases Nat.lt_or_ge j (m + 1) with hj2 | hj2
              · exact HOK.out j hj2
              · obtain rfl : j = m + 1 := by omega
                exact hv
            have HOK2 := Lib.hid hok2
            clear hok2 hv hbad
            go_wp2_with (fail)
            refine wp_region_held_drew (S := New _) (by kernel_rfl) (New.refl _).drew (fun hS => ?_)
            refine tkQ (i := 0) (oi := ?o22) (v := ?v22) ?h22 ?q22 ?y22 hS ?_; (case h22 => (simp only [gqA, gqB, gqC]; rfl)); (case q22 => exact fun _ _ _ h => h); (case y22 => (refine Or.inl ⟨by kernel_rfl, ?_⟩; intro wq hSq; clear hSq; go_simp; (try with_reducible rfl))); simp only [Act.put, List.setIfInBounds_toArray, List.set_cons_zero, List.set_cons_succ]
            refine tkQ (i := 1) (oi := ?o23) (v := ?v23) ?h23 ?q23 ?y23 hS ?_; (case h23 => (simp only [gqA, gqB, gqC]; rfl)); (case q23 => exact fun _ _ _ h => h); (case y23 => (refine Or.inl ⟨by kernel_rfl, ?_⟩; intro wq hSq; clear hSq; go_simp; (try with_reducible rfl))); simp only [Act.put, List.setIfInBounds_toArray, List.set_cons_zero, List.set_cons_succ]
            refine tkQ (i := 2) (oi := ?o24) (v := ?v24) ?h24 ?q24 ?y24 hS ?_; (case h24 => (simp only [gqA, gqB, gqC]; rfl)); (case q24 => exact fun _ _ _ h => h); (case y24 => (refine Or.inl ⟨by kernel_rfl, ?_⟩; intro wq hSq; clear hSq; go_simp; (try with_reducible rfl))); simp only [Act.put, List.setIfInBounds_toArray, List.set_cons_zero, List.set_cons_succ]
            refine tkQ (i := 3) (oi := ?o25) (v := ?v25) ?h25 ?q25 ?y25 hS ?_; (case h25 => (simp only [gqA, gqB, gqC]; rfl)); (case q25 => exact fun _ _ _ h => h); (case y25 => (refine Or.inl ⟨by kernel_rfl, ?_⟩; intro wq hSq; clear hSq; go_simp; (try with_reducible rfl))); simp only [Act.put, List.setIfInBounds_toArray, List.set_cons_zero, List.set_cons_succ]
            refine tkQ (i := 4) (oi := ?o26) (v := ?v26) ?h26 ?q26 ?y26 hS ?_; (case h26 => (simp only [gqA, gqB, gqC]; rfl)); (case q26 => exact fun _ _ _ h => h); (case y26 => (refine Or.inl ⟨by kernel_rfl, ?_⟩; intro wq hSq; have hf0 := cell_new hSq (BX.cell' 0 _ rfl); have hf1 := cell_new hSq (BX.cell' 1 _ rfl); have hf2 := cell_new hSq b3; have hf3 := cell_new hSq b6; have hf4 := cell_new hSq yX; clear hSq; go_simp; (try with_reducible rfl))); simp only [Act.put, List.setIfInBounds_toArray, List.set_cons_zero, List.set_cons_succ]
            refine tkQ (i := 5) (oi := ?o27) (v := ?v27) ?h27 ?q27 ?y27 hS ?_; (case h27 => (simp only [gqA, gqB, gqC]; rfl)); (case q27 => exact fun _ _ _ h => h); (case y27 => (refine Or.inl ⟨by kernel_rfl, ?_⟩; intro wq hSq; clear hSq; go_simp; (try with_reducible rfl))); simp only [Act.put, List.setIfInBounds_toArray, List.set_cons_zero, List.set_cons_succ]
            refine tkQ (i := 6) (oi := ?o28) (v := ?v28) ?h28 ?q28 ?y28 hS ?_; (case h28 => (simp only [gqA, gqB, gqC]; rfl)); (case q28 => exact fun _ _ _ h => h); (case y28 => (refine Or.inl ⟨by kernel_rfl, ?_⟩; intro wq hSq; clear hSq; go_simp; (try with_reducible rfl))); simp only [Act.put, List.setIfInBounds_toArray, List.set_cons_zero, List.set_cons_succ]
            refine tkQ (i := 7) (oi := ?o29) (v := ?v29) ?h29 ?q29 ?y29 hS ?_; (case h29 => (simp only [gqA, gqB, gqC]; rfl)); (case q29 => exact fun _ _ _ h => h); (case y29 => (refine Or.inl ⟨by kernel_rfl, ?_⟩; intro wq hSq; clear hSq; go_simp; (try with_reducible rfl))); simp only [Act.put, List.setIfInBounds_toArray, List.set_cons_zero, List.set_cons_succ]
            refine tkQ (i := 8) (oi := ?o30) (v := ?v30) ?h30 ?q30 ?y30 hS ?_; (case h30 => (simp only [gqA, gqB, gqC]; rfl)); (case q30 => exact fun _ _ _ h => h); (case y30 => (refine Or.inl ⟨by kernel_rfl, ?_⟩; intro wq hSq; clear hSq; go_simp; (try with_reducible rfl))); simp only [Act.put, List.setIfInBounds_toArray, List.set_cons_zero, List.set_cons_succ]
            refine tkQ (i := 9) (oi := ?o31) (v := ?v31) ?h31 ?q31 ?y31 hS ?_; (case h31 => (simp only [gqA, gqB, gqC]; rfl)); (case q31 => exact fun _ _ _ h => h); (case y31 => (refine Or.inl ⟨by kernel_rfl, ?_⟩; intro wq hSq; have hf0 := cell_new hSq (BX.cell' 0 _ rfl); have hf1 := cell_new hSq (BX.cell' 1 _ rfl); have hf2 := cell_new hSq b3; have hf3 := cell_new hSq b6; have hf4 := cell_new hSq yX; clear hSq; go_simp; (try with_reducible rfl))); simp only [Act.put, List.setIfInBounds_toArray, List.set_cons_zero, List.set_cons_succ]
            refine tkQ (i := 10) (oi := ?o32) (v := ?v32) ?h32 ?q32 ?y32 hS ?_; (case h32 => (simp only [gqA, gqB, gqC]; rfl)); (case q32 => exact fun _ _ _ h => h); (case y32 => (refine Or.inl ⟨by kernel_rfl, ?_⟩; intro wq hSq; clear hSq; go_simp; (try with_reducible rfl))); simp only [Act.put, List.setIfInBounds_toArray, List.set_cons_zero, List.set_cons_succ]
            refine tkQ (i := 11) (oi := ?o33) (v := ?v33) ?h33 ?q33 ?y33 hS ?_; (case h33 => (simp only [gqA, gqB, gqC]; rfl)); (case q33 => exact fun _ _ _ h => h); (case y33 => (refine Or.inl ⟨by kernel_rfl, ?_⟩; intro wq hSq; have hf0 := cell_new hSq (BX.cell' 0 _ rfl); have hf1 := cell_new hSq (BX.cell' 1 _ rfl); have hf2 := cell_new hSq b3; have hf3 := cell_new hSq b6; have hf4 := cell_new hSq yX; clear hSq; go_simp; (try with_reducible rfl))); simp only [Act.put, List.setIfInBounds_toArray, List.set_cons_zero, List.set_cons_succ]
            refine tkQ (i := 12) (oi := ?o34) (v := ?v34) ?h34 ?q34 ?y34 hS ?_; (case h34 => (simp only [gqA, gqB, gqC]; rfl)); (case q34 => exact fun _ _ _ h => h); (case y34 => (refine Or.inl ⟨by kernel_rfl, ?_⟩; intro wq hSq; clear hSq; go_simp; (try with_reducible rfl))); simp only [Act.put, List.setIfInBounds_toArray, List.set_cons_zero, List.set_cons_succ]
            refine tkQ (i := 13) (oi := ?o35) (v := ?v35) ?h35 ?q35 ?y35 hS ?_; (case h35 => (simp only [gqA, gqB, gqC]; rfl)); (case q35 => exact fun _ _ _ h => h); (case y35 => (refine Or.inl ⟨by kernel_rfl, ?_⟩; intro wq hSq; clear hSq; go_simp; (try with_reducible rfl))); simp only [Act.put, List.setIfInBounds_toArray, List.set_cons_zero, List.set_cons_succ]
            refine tkQ (i := 14) (oi := ?o36) (v := ?v36) ?h36 ?q36 ?y36 hS ?_; (case h36 => (simp only [gqA, gqB, gqC]; rfl)); (case q36 => exact fun _ _ _ h => h); (case y36 => (refine Or.inl ⟨by kernel_rfl, ?_⟩; intro wq hSq; clear hSq; go_simp; (try with_reducible rfl))); simp only [Act.put, List.setIfInBounds_toArray, List.set_cons_zero, List.set_cons_succ]
            refine tkQ (i := 15) (oi := ?o37) (v := ?v37) ?h37 ?q37 ?y37 hS ?_; (case h37 => (simp only [gqA, gqB, gqC]; rfl)); (case q37 => exact fun _ _ _ h => h); (case y37 => (refine Or.inl ⟨by kernel_rfl, ?_⟩; intro wq hSq; clear hSq; go_simp; (try with_reducible rfl))); simp only [Act.put, List.setIfInBounds_toArray, List.set_cons_zero, List.set_cons_succ]
            refine tkQ (i := 16) (oi := ?o38) (v := ?v38) ?h38 ?q38 ?y38 hS ?_; (case h38 => (simp only [gqA, gqB, gqC]; rfl)); (case q38 => exact fun _ _ _ h => h); (case y38 => (refine Or.inl ⟨by kernel_rfl, ?_⟩; intro wq hSq; have hf0 := cell_new hSq (BX.cell' 0 _ rfl); have hf1 := cell_new hSq (BX.cell' 1 _ rfl); have hf2 := cell_new hSq b3; have hf3 := cell_new hSq b6; have hf4 := cell_new hSq yX; clear hSq; go_simp; (try with_reducible rfl))); simp only [Act.put, List.setIfInBounds_toArray, List.set_cons_zero, List.set_cons_succ]
            refine tkQ (i := 17) (oi := ?o39) (v := ?v39) ?h39 ?q39 ?y39 hS ?_; (case h39 => (simp only [gqA, gqB, gqC]; rfl)); (case q39 => exact fun _ _ _ h => h); (case y39 => (refine Or.inl ⟨by kernel_rfl, ?_⟩; intro wq hSq; clear hSq; go_simp; (try with_reducible rfl))); simp only [Act.put, List.setIfInBounds_toArray, List.set_cons_zero, List.set_cons_succ]
            refine wpAnyH_ready (rs := [18]) (by kernel_rfl) (by simp) ?_
            refine AllReadyH.cons (o := ?oi40) ?hi40 (fun K hK => ?_) AllReadyH.nil
            case hi40 => (simp only [gqA, gqB, gqC]; rfl)
            go_simp
            refine (HC.out _ (New.refl _).drew).mono ?_
            rintro e w2 ⟨rfl, hn2⟩
            refine hK.out _ _ (hS.trans hn2) (fun hS => ?_)
            clear hK K
            refine tkQ (i := 19) (oi := ?o41) (v := ?v41) ?h41 ?q41 ?y41 hS ?_; (case h41 => (simp only [gqA, gqB, gqC]; rfl)); (case q41 => exact fun _ _ _ h => h); (case y41 => (refine Or.inl ⟨by kernel_rfl, ?_⟩; intro wq hSq; clear hSq; go_simp; (try with_reducible rfl))); simp only [Act.put, List.setIfInBounds_toArray, List.set_cons_zero, List.set_cons_succ]
            refine tkQ (i := 20) (oi := ?o42) (v := ?v42) ?h42 ?q42 ?y42 hS ?_; (case h42 => (simp only [gqA, gqB, gqC]; rfl)); (case q42 => exact fun _ _ _ h => h); (case y42 => (refine Or.inl ⟨by kernel_rfl, ?_⟩; intro wq hSq; clear hSq; go_simp; (try with_reducible rfl))); simp only [Act.put, List.setIfInBounds_toArray, List.set_cons_zero, List.set_cons_succ]
            refine wpAnyH_done (by kernel_rfl) ?_ _
            go_wp2
            go_roundw
            case rel => exact ⟨m + 1 + 1, by go_num, by omega, (hnr.trans nX).trans ((New.refl _).drew.trans hn2), HOK2⟩
            case measure => simp [intOf]; omega
    · obtain rfl : i = n := by omega
      have hx : R = true := by rw [← HRR.out]; exact exported_good (fun j hj => HOK.out j (by rw [HN.out] at hj; exact hj))
      subst hx
      go_wp2
      go_ret
      exact ⟨rfl, hw1.trans hnr⟩
end Go.Proofs.YtnjampfhkojbnaaGreatDoor

namespace Go.Proofs.YtnjampfhkojbnaaGreatDoor
open Go Go.RowKit Go.Joins
set_option linter.unusedSimpArgs false
set_option linter.unusedVariables false

/-! ### places in order -/
theorem placed_order {img : ByteArray} : ∀ {l : List PlD} {e z : Nat} {seen : List (ByteArray × ByteArray)}, placedGo img l e seen = some z →
    (∀ p ∈ l, (e : Int) ≤ p.pos ∧ 0 ≤ p.size ∧ p.pos + p.size ≤ (z : Int)) ∧ l.Pairwise (fun p q => p.pos + p.size ≤ q.pos) ∧ e ≤ z
  | [], e, z, seen, h => by
    rw [placedGo] at h
    injection h with h
    exact ⟨fun p hp => (by cases hp), List.Pairwise.nil, by omega⟩
  | p :: r, e, z, seen, h => by
    rw [placedGo] at h
    split at h
    · rename_i hc
      obtain ⟨_, hc⟩ := hc
      unfold placeOK at hc
      simp only [Bool.and_eq_true, decide_eq_true_eq] at hc
      obtain ⟨⟨⟨⟨⟨⟨h1, h2⟩, h3⟩, h4⟩, h5⟩, h6⟩, h7⟩ := hc
      have h0 : 0 ≤ p.size := by
        unfold kindOK at h3
        simp only [Bool.or_eq_true, Bool.and_eq_true, decide_eq_true_eq] at h3
        omega
      obtain ⟨i1, i2, i3⟩ := placed_order h
      have hu : e ≤ up4 e := by unfold up4; omega
      refine ⟨fun q hq => ?_, List.Pairwise.cons (fun q hq => ?_) i2, by omega⟩
      · rcases List.mem_cons.1 hq with rfl | hq
        · exact ⟨by omega, h0, by omega⟩
        · obtain ⟨j1, j2, j3⟩ := i1 q hq
          exact ⟨by omega, j2, j3⟩
      · have := (i1 q hq).1
        omega
    · cases h
structure PlOK (b : Bn) : Prop where
  le : b.image.size ≤ 65536
  len : b.places.length ≤ 128
  pos : 1 ≤ b.places.length
  mem : ∀ p ∈ b.places, 0 ≤ p.pos ∧ 0 ≤ p.size ∧ p.pos + p.size ≤ (b.image.size : Int)
  ord : b.places.Pairwise (fun p q => p.pos + p.size ≤ q.pos)
theorem placed_ok {b : Bn} (h : placedV b = true) : PlOK b := by
  unfold placedV at h
  simp only [Bool.and_eq_true, decide_eq_true_eq] at h
  obtain ⟨⟨⟨h1, h2⟩, h3⟩, h4⟩ := h
  obtain ⟨i1, i2, _⟩ := placed_order h4
  exact ⟨h3, h2, h1, fun p hp => by obtain ⟨j1, j2, j3⟩ := i1 p hp; exact ⟨by omega, j2, j3⟩, i2⟩
theorem PlOK.wf {b : Bn} (h : PlOK b) : WfP b.places := fun p hp => by
  obtain ⟨h1, h2, h3⟩ := h.mem p hp
  have := h.le
  unfold W64
  omega

/-! ### words -/
def withinP (p : PlD) (a : Int) : Bool := decide (p.pos ≤ a) && decide (a + 4 ≤ p.pos + p.size)
def withinV (ps : List PlD) (a : Int) : Bool := ps.any (withinP · a)
def clash (T : List Int) (a : Int) : Bool := T.any fun f => decide (f < a + 4) && decide (a < f + 4)
def startsV (ps : List PlD) (n : Int) : Bool := ps.any (posV n)
def ltHead (T : List Int) (a : Int) : Bool := match T with
  | [] => true
  | t :: _ => decide (t < a)
def takeV (ps : List PlD) (T : List Int) (a : Int) : Bool := withinV ps a && !clash T a
def fixOK (ps : List PlD) (img : ByteArray) (T : List Int) (a : Int) : Bool := ltHead T a && takeV ps T a && startsV ps (wordV img a.toNat)
def fixGo (ps : List PlD) (img : ByteArray) : List Int → List Int → Bool
  | [], _ => true
  | a :: r, T => fixOK ps img T a && fixGo ps img r (a :: T)
def impOK (ps : List PlD) (img : ByteArray) (P F : List Int) (x : ImD) : Bool :=
  ltHead P x.pos && takeV ps (P ++ F) x.pos && decide (wordV img x.pos.toNat = 0) && pathOK x.lib && nameV x.sym
def impGo (ps : List PlD) (img : ByteArray) (F : List Int) : List ImD → List Int → Bool
  | [], _ => true
  | x :: r, P => impOK ps img P F x && impGo ps img F r (x.pos :: P)
def wordsV (b : Bn) : Bool := fixGo b.places b.image b.fix [] && impGo b.places b.image b.fix.reverse b.imps []
def checkV (b : Bn) : Bool := placedV b && wordsV b && notedV b.notes &&
  ((decide (b.kind = 1) && decide (b.entry = 0) && (match b.places with | [] => false | p :: _ => decide (p.kind = 1)) && decide (b.exps.length = 0)) ||
   (decide (b.kind = 2) && decide (b.entry = -1) && decide (b.imps.length = 0) && exportedV b.places b.exps))
theorem fixGo_at {ps : List PlD} {img : ByteArray} {l T : List Int} {i : Nat} {a : Int} (h : l[i]? = some a) : fixGo ps img (l.drop i) T = (fixOK ps img T a && fixGo ps img (l.drop (i + 1)) (a :: T)) := by
  obtain ⟨hi, he⟩ := List.getElem?_eq_some_iff.1 h
  rw [List.drop_eq_getElem_cons hi, fixGo, he]
theorem impGo_at {ps : List PlD} {img : ByteArray} {F P : List Int} {l : List ImD} {i : Nat} {x : ImD} (h : l[i]? = some x) : impGo ps img F (l.drop i) P = (impOK ps img P F x && impGo ps img F (l.drop (i + 1)) (x.pos :: P)) := by
  obtain ⟨hi, he⟩ := List.getElem?_eq_some_iff.1 h
  rw [List.drop_eq_getElem_cons hi, impGo, he]

/-! ### the place of an address, and the four bytes from there on -/
theorem within_in {p : PlD} {a : Int} (h : withinP p a = true) : inV p a = true := by
  unfold withinP at h
  simp only [Bool.and_eq_true, decide_eq_true_eq] at h
  unfold inV
  simp only [Bool.and_eq_true, decide_eq_true_eq]
  omega
theorem idx_some {ps : List PlD} {a : Int} (h : 0 ≤ idxV ps a) : ∃ (k : Nat) (p : PlD), idxV ps a = (k : Int) ∧ ps[k]? = some p ∧ inV p a = true := by
  unfold idxV at h ⊢
  cases hf : ps.findIdx? (inV · a) with
  | none => rw [hf] at h; simp at h
  | some k =>
    obtain ⟨h1, h2, _⟩ := List.findIdx?_eq_some_iff_getElem.1 hf
    exact ⟨k, ps[k], rfl, List.getElem?_eq_getElem h1, h2⟩
theorem idx_neg {ps : List PlD} {a : Int} (h : ¬ 0 ≤ idxV ps a) : withinV ps a = false := by
  unfold idxV at h
  cases hf : ps.findIdx? (inV · a) with
  | some k => rw [hf] at h; simp at h
  | none =>
    rw [List.findIdx?_eq_none_iff] at hf
    unfold withinV
    rw [List.any_eq_false]
    intro p hp hw
    have := hf p hp
    rw [within_in hw] at this
    cases this
theorem in_one {ps : List PlD} {a : Int} {p q : PlD} {k : Nat} (ho : ps.Pairwise (fun p q => p.pos + p.size ≤ q.pos)) (hk : ps[k]? = some p) (hp : inV p a = true) (hq : q ∈ ps) (hqa : inV q a = true) : q = p := by
  obtain ⟨j, hj, rfl⟩ := List.mem_iff_getElem.1 hq
  obtain ⟨hk1, rfl⟩ := List.getElem?_eq_some_iff.1 hk
  rw [List.pairwise_iff_getElem] at ho
  unfold inV at hp hqa
  simp only [Bool.and_eq_true, decide_eq_true_eq] at hp hqa
  rcases Nat.lt_trichotomy j k with h | h | h
  · have := ho j k hj hk1 h; omega
  · subst h; rfl
  · have := ho k j hk1 hj h; omega
theorem within_at {ps : List PlD} {a : Int} {p : PlD} {k : Nat} (ho : ps.Pairwise (fun p q => p.pos + p.size ≤ q.pos)) (hk : ps[k]? = some p) (hp : inV p a = true) : withinV ps a = decide (a + 4 ≤ p.pos + p.size) := by
  rw [Bool.eq_iff_iff, decide_eq_true_eq]
  unfold withinV
  rw [List.any_eq_true]
  constructor
  · rintro ⟨q, hq, hw⟩
    have e := in_one ho hk hp hq (within_in hw)
    subst e
    unfold withinP at hw
    simp only [Bool.and_eq_true, decide_eq_true_eq] at hw
    exact hw.2
  · intro h
    refine ⟨p, List.mem_of_getElem? hk, ?_⟩
    unfold withinP
    unfold inV at hp
    simp only [Bool.and_eq_true, decide_eq_true_eq] at hp ⊢
    omega
theorem within_bd {b : Bn} (h : PlOK b) {a : Int} (hw : withinV b.places a = true) : 0 ≤ a ∧ a + 4 ≤ (b.image.size : Int) := by
  unfold withinV at hw
  rw [List.any_eq_true] at hw
  obtain ⟨p, hp, hw⟩ := hw
  unfold withinP at hw
  simp only [Bool.and_eq_true, decide_eq_true_eq] at hw
  have := h.mem p hp
  omega

/-! ### bytes that are taken -/
def coverB (T : List Int) (j : Int) : Bool := T.any fun f => decide (f ≤ j) && decide (j < f + 4)
def useV (n : Nat) (T : List Int) : List Value := (List.range n).map fun (j : Nat) => Value.bool (coverB T (j : Int))
theorem useV_length (n : Nat) (T : List Int) : (useV n T).length = n := by simp [useV]
theorem useV_at {n : Nat} {T : List Int} {j : Nat} (h : j < n) : (useV n T)[j]? = some (.bool (coverB T (j : Int))) := by
  unfold useV
  rw [List.getElem?_map, List.getElem?_range h]; rfl
theorem clash_iff (T : List Int) (a : Int) : clash T a = (coverB T a || coverB T (a + 1) || coverB T (a + 2) || coverB T (a + 3)) := by
  rw [Bool.eq_iff_iff]
  simp only [Bool.or_eq_true]
  unfold clash coverB
  simp only [List.any_eq_true, Bool.and_eq_true, decide_eq_true_eq]
  constructor
  · rintro ⟨f, hf, h1, h2⟩
    by_cases c0 : f ≤ a
    · exact Or.inl (Or.inl (Or.inl ⟨f, hf, by omega, by omega⟩))
    · by_cases c1 : f ≤ a + 1
      · exact Or.inl (Or.inl (Or.inr ⟨f, hf, by omega, by omega⟩))
      · by_cases c2 : f ≤ a + 2
        · exact Or.inl (Or.inr ⟨f, hf, by omega, by omega⟩)
        · exact Or.inr ⟨f, hf, by omega, by omega⟩
  · rintro (((⟨f, hf, h1, h2⟩ | ⟨f, hf, h1, h2⟩) | ⟨f, hf, h1, h2⟩) | ⟨f, hf, h1, h2⟩) <;> exact ⟨f, hf, by omega, by omega⟩
theorem cover_cons (a : Int) (T : List Int) (j : Int) : coverB (a :: T) j = (decide (a ≤ j) && decide (j < a + 4) || coverB T j) := rfl
end Go.Proofs.YtnjampfhkojbnaaGreatDoor

