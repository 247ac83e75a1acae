/- The law BinaryAttached: it answers true. Conditions: none but the world's. (Printed by mk-x10.py.) -/
import Derived.Test.YtnknmpcgbfmfjaaGreatDoorGBase
import Derived.Test.YtnknmpcgbfmfjaaGreatDoorGW
import Derived.Test.YtnknmpcgbfmfjaaGreatDoorGLaw3
import Derived.Test.YtnknmpcgbfmfjaaGreatDoorGD
import Derived.Test.YtnknmpcgbfmfjaaGreatDoorGS1
import Derived.Test.YtnknmpcgbfmfjaaGreatDoorGA1
import Derived.Test.YtnknmpcgbfmfjaaGreatDoorGX
import Derived.Deep.RegionHeld3

namespace Go.Proofs.YtnknmpcgbfmfjaaGreatDoor
open Go Go.RowKit Go.Joins
set_option linter.unusedSimpArgs false
set_option linter.unusedVariables false

/-! ### plain -/
theorem noted_snoc : ∀ {l : List NtD} {seen : List ByteArray} {p : NtD}, notedGo l seen = true → noteOK p = true → (∀ q ∈ l, q.name ≠ p.name) → seenN seen p.name = false → notedGo (l ++ [p]) seen = true
  | [], seen, p, _, h2, _, h4 => by
    show notedGo [p] seen = true
    rw [notedGo, if_pos ⟨h4, h2⟩, notedGo]
  | q :: r, seen, p, h1, h2, h3, h4 => by
    rw [notedGo] at h1
    split at h1
    · rename_i hc
      rw [List.cons_append, notedGo, if_pos hc]
      refine noted_snoc h1 h2 (fun x hx => h3 x (List.mem_cons_of_mem _ hx)) ?_
      unfold seenN at h4 ⊢
      rw [List.any_cons, h4, Bool.or_false]
      exact decide_eq_false (h3 q List.mem_cons_self)
    · cases h1
theorem note_off {l : List NtD} {s : ByteArray} (h : (noteV l s).2 = false) : ∀ q ∈ l, q.name ≠ s := by
  intro q hq he
  unfold noteV at h
  split at h
  · cases h
  · rename_i hf
    have := List.find?_eq_none.1 hf q hq
    simp [he] at this
theorem note_app {l : List NtD} {p : NtD} (h : (noteV l p.name).2 = false) : noteV (l ++ [p]) p.name = (p.text, true) := by
  have h1 := note_off h
  unfold noteV
  rw [List.find?_append]
  have : l.find? (fun q => decide (q.name = p.name)) = none := List.find?_eq_none.2 (fun q hq => by simpa using h1 q hq)
  rw [this]
  simp
theorem check_note {c : Bn} {p : NtD} (hc : checkV c = true) (hn : nameV p.name = true) (hf : (noteV c.notes p.name).2 = false) (hl : c.notes.length ≠ 64) (ht : p.text.size ≤ 65536) : checkV { c with notes := c.notes ++ [p] } = true := by
  unfold checkV at hc ⊢
  simp only [Bool.and_eq_true] at hc ⊢
  obtain ⟨⟨⟨h1, h2⟩, h3⟩, h4⟩ := hc
  refine ⟨⟨⟨h1, h2⟩, ?_⟩, h4⟩
  unfold notedV at h3 ⊢
  simp only [Bool.and_eq_true, decide_eq_true_eq] at h3 ⊢
  refine ⟨noted_snoc h3.1 ?_ (note_off hf) rfl, by simp only [List.length_append, List.length_cons, List.length_nil]; omega⟩
  unfold noteOK
  rw [hn, Bool.true_and]
  exact decide_eq_true ht
structure AC (b c : Bn) : Prop where
  ok : checkV c = true
  sz : SzB c
  ex : ∃ ext, c = { b with notes := b.notes ++ ext }
theorem AC.start {b : Bn} (h : checkV b = true) (hz : SzB b) : AC b b := ⟨h, hz, [], by simp⟩
theorem AC.more {b c : Bn} {p : NtD} (h : AC b c) (hn : nameV p.name = true) (hf : (noteV c.notes p.name).2 = false) (hl : c.notes.length ≠ 64) (ht : p.text.size ≤ 65536) : AC b { c with notes := c.notes ++ [p] } := by
  refine ⟨check_note h.ok hn hf hl ht, ?_, ?_⟩
  · have hz := h.sz
    have h5 := (check_ok h.ok).l5
    refine ⟨hz.pl, ?_, hz.im, hz.fx, hz.img, hz.l1, hz.l2, hz.l3, hz.l4, by simp only [List.length_append, List.length_cons, List.length_nil]; omega⟩
    intro q hq
    rcases List.mem_append.1 hq with hq | hq
    · exact hz.nt q hq
    · simp only [List.mem_singleton] at hq
      subst hq
      have := name_le hn
      omega
  · obtain ⟨ext, rfl⟩ := h.ex
    exact ⟨ext ++ [p], by simp⟩
theorem AC.plain {b c : Bn} (h : AC b c) (hb : checkV b = true) (i : Int) : plainV c i = plainV b i := by
  unfold plainV
  rw [h.ok, hb]
  obtain ⟨ext, rfl⟩ := h.ex
  rfl
theorem strip_same {b : Bn} (h : checkV b = true) : stripB b = { b with notes := [] } := by unfold stripB; rw [h]; rfl
theorem AC.strip {b c : Bn} (h : AC b c) : stripB c = { b with notes := [] } := by
  rw [strip_same h.ok]
  obtain ⟨ext, rfl⟩ := h.ex
  rfl
theorem AC.head {b c : Bn} (h : AC b c) : b.notes.length ≤ c.notes.length ∧ c.notes.take b.notes.length = b.notes := by
  obtain ⟨ext, rfl⟩ := h.ex
  simp
theorem att_cases {c : Bn} (p : NtD) (hc : checkV c = true) : (attachV c p = (zB, 2) ∧ nameV p.name = false) ∨ (attachV c p = (zB, 6) ∧ (noteV c.notes p.name).2 = true) ∨ attachV c p = (zB, 10) ∨ (attachV c p = ({ c with notes := c.notes ++ [p] }, 0) ∧ nameV p.name = true ∧ (noteV c.notes p.name).2 = false ∧ c.notes.length ≠ 64 ∧ p.text.size ≤ 65536) := by
  unfold attachV
  rw [hc, if_neg (by decide)]
  cases hn : nameV p.name with
  | false => exact Or.inl ⟨rfl, rfl⟩
  | true =>
    rw [if_neg (by decide)]
    cases hf : (noteV c.notes p.name).2 with
    | true => exact Or.inr (Or.inl ⟨rfl, rfl⟩)
    | false =>
      rw [if_neg (by decide)]
      by_cases hl : c.notes.length = 64 ∨ 65536 < p.text.size
      · rw [if_pos hl]; exact Or.inr (Or.inr (Or.inl rfl))
      · rw [if_neg hl]
        exact Or.inr (Or.inr (Or.inr ⟨rfl, rfl, rfl, fun q => hl (Or.inl q), by omega⟩))
def BFar (g : Nat) (b : Bn) (h : BH) : Prop := (0 < b.places.length → ∀ a, h.a1 = some a → a.block ≠ g) ∧ (0 < b.fix.length → ∀ a, h.a2 = some a → a.block ≠ g) ∧ (0 < b.imps.length → ∀ a, h.a3 = some a → a.block ≠ g) ∧ (0 < b.exps.length → ∀ a, h.a4 = some a → a.block ≠ g) ∧ (0 < b.notes.length → ∀ a, h.a5 = some a → a.block ≠ g)
theorem BFar.old {w : World} {b : Bn} {h : BH} {g : Nat} (r : BRd w b h) (hg : w.heap.size ≤ g) : BFar g b h :=
  ⟨fun hn a ha => by have := rd_lt r.r1 hn a ha; omega, fun hn a ha => by have := rd_lt r.r2 hn a ha; omega, fun hn a ha => by have := rd_lt r.r3 hn a ha; omega, fun hn a ha => by have := rd_lt r.r4 hn a ha; omega, fun hn a ha => by have := rd_lt r.r5 hn a ha; omega⟩
theorem BFar.far {b : Bn} {h : BH} {g N : Nat} (hf : ∀ A, A = h.a1 ∨ A = h.a2 ∨ A = h.a3 ∨ A = h.a4 ∨ A = h.a5 → ∀ a, A = some a → N ≤ a.block) (hg : g < N) : BFar g b h :=
  ⟨fun _ a ha => by have := hf _ (Or.inl rfl) a ha; omega, fun _ a ha => by have := hf _ (Or.inr (Or.inl rfl)) a ha; omega, fun _ a ha => by have := hf _ (Or.inr (Or.inr (Or.inl rfl))) a ha; omega, fun _ a ha => by have := hf _ (Or.inr (Or.inr (Or.inr (Or.inl rfl)))) a ha; omega, fun _ a ha => by have := hf _ (Or.inr (Or.inr (Or.inr (Or.inr rfl)))) a ha; omega⟩
theorem rd_set8_n {w : World} {g k n : Nat} {A : Option Addr} {xs : List Value} {v0 v1 v2 v3 v4 v5 v6 v7 : Value} (h : Rd w k A n xs) (hA : 0 < n → ∀ a, A = some a → a.block ≠ g) : Rd (set8 w g v0 v1 v2 v3 v4 v5 v6 v7) k A n xs :=
  ⟨h.1, fun hn => (set8_rd h (hA hn)).2 hn⟩
theorem brd_set8_n {W : World} {g : Nat} {b : Bn} {h : BH} {v0 v1 v2 v3 v4 v5 v6 v7 : Value} (r : BRd W b h) (f : BFar g b h) : BRd (set8 W g v0 v1 v2 v3 v4 v5 v6 v7) b h :=
  ⟨rd_set8_n r.r1 f.1, rd_set8_n r.r2 f.2.1, rd_set8_n r.r3 f.2.2.1, rd_set8_n r.r4 f.2.2.2.1, rd_set8_n r.r5 f.2.2.2.2⟩
theorem blk_set8_far {w : World} {g k : Nat} {t : TypeId} {cs : Array Value} {v0 v1 v2 v3 v4 v5 v6 v7 : Value} (h : Blk w k t cs) (hk : k ≠ g) : Blk (set8 w g v0 v1 v2 v3 v4 v5 v6 v7) k t cs := by
  unfold set8
  exact (((((((h.far (p := ⟨g, 0, none⟩) hk v0).far (p := ⟨g, 1, none⟩) hk v1).far (p := ⟨g, 2, none⟩) hk v2).far (p := ⟨g, 3, none⟩) hk v3).far (p := ⟨g, 4, none⟩) hk v4).far (p := ⟨g, 5, none⟩) hk v5).far (p := ⟨g, 6, none⟩) hk v6).far (p := ⟨g, 7, none⟩) hk v7
theorem rd_head {w : World} {k n m : Nat} {A : Option Addr} {l l0 : List NtD} (h : Rd w 2 A n (l.flatMap ntC)) (hm : m ≤ n) (hl : l0.length = m) (he : l.take m = l0) : Rd w 2 A m (l0.flatMap ntC) := by
  have hfl : ∀ q : List NtD, (q.flatMap ntC).length = q.length * 2 := fun q => by
    induction q with
    | nil => rfl
    | cons x r ih => rw [List.flatMap_cons, List.length_append, ih, List.length_cons]; show 2 + _ = _; omega
  refine ⟨by rw [hfl, hl], fun hn => ?_⟩
  obtain ⟨b, o, e, hb, hc⟩ := h.2 (by omega)
  refine ⟨b, o, e, hb, fun j u hu => hc j u ?_⟩
  rw [← he] at hu
  have h2 : l.flatMap ntC = (l.take m).flatMap ntC ++ (l.drop m).flatMap ntC := by rw [← List.flatMap_append, List.take_append_drop]
  rw [h2, List.getElem?_append_left (List.getElem?_eq_some_iff.1 hu).1]
  exact hu
set_option maxRecDepth 100000 in
set_option maxHeartbeats 4000000 in
theorem eqnt_self (l : List NtD) (A1 A2 : Option Addr) (n c1 c2 : Nat) (w : World) (hl : l.length = n) (h1 : Rd w 2 A1 n (l.flatMap ntC)) (h2 : Rd w 2 A2 n (l.flatMap ntC)) (hn : n ≤ 1000000) :
    Calls Tryz.prog 35 #[.slice A1 n c1, .slice A2 n c2] w fun e w' => e = .returned (.bool true) ∧ New w w' := by
  have H1 := Lib.hid h1
  have H2 := Lib.hid h2
  have HL := Lib.hid hl
  clear h1 h2 hl
  go_enter Tryz.func35, Tryz.ntmps35
  go_wp2
  go_loopw [13] (fun v13 wr => ∃ i : Nat, v13 = .int .i64 i ∧ i ≤ n ∧ New w wr) (fun v13 _ => n - (intOf v13).toNat)
  case atStart => exact ⟨0, rfl, by omega, New.refl _⟩
  case round =>
    obtain ⟨i, rfl, hi9, hnr⟩ := hrel
    by_cases hlt : i < n
    · obtain ⟨bk, o, rfl, _, x, hx, hc1⟩ := rd_row (f := ntC) (k := 2) (fun _ => rfl) HL.out (H1.out.below hnr) hlt
      obtain ⟨bk', o', rfl, _, x', hx', hc2⟩ := rd_row (f := ntC) (k := 2) (fun _ => rfl) HL.out (H2.out.below hnr) hlt
      obtain rfl : x' = x := by rw [hx] at hx'; exact (Option.some.inj hx').symm
      obtain ⟨po, ps⟩ := x'
      have p0 := hc1 0 (.string po) (by omega) rfl
      have q0 := hc2 0 (.string po) (by omega) rfl
      have p1 := hc1 1 (.string ps) (by omega) rfl
      have q1 := hc2 1 (.string ps) (by omega) rfl
      simp only [Nat.add_zero] at p0 q0
      rw [← Nat.add_assoc] at p1 q1
      clear hc1 hc2 hx hx'
      have f_po : (po.toList == po.toList) = true := beq_self_eq_true _
      have f_ps : (ps.toList == ps.toList) = true := beq_self_eq_true _
      have i0 : (0 : Int) ≤ (i : Int) := by omega
      have i1 : (i : Int) < (n : Int) := by omega
      go_wp2_with (fail)
      go_quiet (fail)
      go_wp2
      go_roundw
      case rel => exact ⟨i + 1, by go_num, by omega, hnr.drewN nq⟩
      case measure => simp [intOf]; omega
    · obtain rfl : n = i := by omega
      go_wp2
      exact bodyPost_ret (v := .bool true) (by simp [results, Tryz.results35, go_sem]) rfl ⟨rfl, hnr⟩
set_option maxRecDepth 100000 in
set_option maxHeartbeats 32000000 in
theorem law_attached (b : Bn) (h : BH) (LA : Option Addr) (LC : Nat) (l : List NtD) (i : Int) (w : World) (hr : BRd w b h) (hl : LensB b) (hw : W64B b) (hcap : b.notes.length ≤ h.c5) (hE : Env w) (hrl : Rd w 2 LA l.length (l.flatMap ntC)) (hll : l.length ≤ 9223372036854775807) (hi : W64 i) :
    Calls Tryz.prog 9 #[.agg (bcells b h), .slice LA l.length LC, .int .i64 i] w fun e w' => e = .returned (.bool true) ∧ New w w' := by
  have HF := Lib.hid (fun W (hn : New w W) => few_any b h W (hr.new hn) hl)
  have H14 := Lib.hid (fun (hs : FewS b) W (hn : New w W) => check_any b h W (hr.new hn) (hs.szb hw) (hE.new hn))
  have hce : chkE b = if checkV b = true then 0 else 1 := rfl
  rw [hce] at H14
  have H21 := Lib.hid (fun (hs : FewS b) W (hn : New w W) => strip_any b h W (hr.new hn) (hs.szb hw) (hE.new hn))
  have H27 := Lib.hid (fun (hs : FewS b) W (hn : New w W) => plain_any b h i W (hr.new hn) (hs.szb hw) (hE.new hn) hi)
  have HSZ := Lib.hid (fun (hs : FewS b) => hs.szb hw)
  have HR := Lib.hid hr
  have HE := Lib.hid hE
  have HRL := Lib.hid hrl
  have HI := Lib.hid hi
  have HCAP := Lib.hid hcap
  have HFR : Hid (∀ W e W', FewR b W e W' → (∃ v, e = .returned (.bool v) ∧ (v = true → FewS b)) ∧ New W W') := Lib.hid (fun W e W' q => q)
  have HF2 := Lib.hid (fun W (hn : New w W) => (HF.out W hn).mono (fun e W' q => HFR.out W e W' q))
  obtain ⟨m, hm⟩ : ∃ m, l.length = m := ⟨_, rfl⟩
  rw [hm] at HRL hll ⊢
  have HM := Lib.hid hm
  have B0 := Blk.made w 28 (bcells b h)
  have n0 : New w (w.alloc (.cells (bcells b h) 28)) := (New.refl w).alloc _
  obtain ⟨cv, hcv⟩ : ∃ v, checkV b = v := ⟨_, rfl⟩
  rw [hcv] at H14
  have HCV := Lib.hid hcv
  clear HF HFR hm hr hl hw hE hrl hi hcap hce hcv
  simp only [bcells] at B0 n0 HF2 H14 H21 H27 ⊢
  by_cases hbig : 5 < m
  · have t0 : decide ((5 : Int) < (m : Int)) = true := decide_eq_true (by omega)
    clear hbig
    go_enter Tryz.func9, Tryz.ntmps9
    go_wp2_with (fail)
    with_reducible refine (awake_any _ (HE.out.new n0)).mono ?_
    rintro e w1 ⟨rfl, m1⟩
    have n1' := n0.trans m1
    have B1 := B0.new m1
    have x0 := B1.cell' 0 _ rfl
    have x1 := B1.cell' 1 _ rfl
    have x2 := B1.cell' 2 _ rfl
    have x3 := B1.cell' 3 _ rfl
    have x4 := B1.cell' 4 _ rfl
    have x5 := B1.cell' 5 _ rfl
    have x6 := B1.cell' 6 _ rfl
    have x7 := B1.cell' 7 _ rfl
    go_wp2_with (fail)
    with_reducible refine (HF2.out _ n1').mono ?_
    rintro e w2 ⟨⟨v, rfl, hv⟩, m2⟩
    have n2' := n1'.trans m2
    have B2 := B1.new m2
    cases v
    · go_wp2
      go_ret
      exact ⟨rfl, n2'⟩
    clear x0 x1 x2 x3 x4 x5 x6 x7
    go_wp2
    go_ret
    exact ⟨rfl, n2'⟩
  have t0 : decide ((5 : Int) < (m : Int)) = false := decide_eq_false (by omega)
  go_enter Tryz.func9, Tryz.ntmps9
  go_wp2_with (fail)
  with_reducible refine (awake_any _ (HE.out.new n0)).mono ?_
  rintro e w1 ⟨rfl, m1⟩
  have n1' := n0.trans m1
  have B1 := B0.new m1
  have x0 := B1.cell' 0 _ rfl
  have x1 := B1.cell' 1 _ rfl
  have x2 := B1.cell' 2 _ rfl
  have x3 := B1.cell' 3 _ rfl
  have x4 := B1.cell' 4 _ rfl
  have x5 := B1.cell' 5 _ rfl
  have x6 := B1.cell' 6 _ rfl
  have x7 := B1.cell' 7 _ rfl
  go_wp2_with (fail)
  with_reducible refine (HF2.out _ n1').mono ?_
  rintro e w2 ⟨⟨v, rfl, hv⟩, m2⟩
  have n2' := n1'.trans m2
  have B2 := B1.new m2
  cases v
  · go_wp2
    go_ret
    exact ⟨rfl, n2'⟩
  clear x0 x1 x2 x3 x4 x5 x6 x7
  have HS := Lib.hid (hv rfl)
  clear hv
  have x0 := B2.cell' 0 _ rfl
  have x1 := B2.cell' 1 _ rfl
  have x2 := B2.cell' 2 _ rfl
  have x3 := B2.cell' 3 _ rfl
  have x4 := B2.cell' 4 _ rfl
  have x5 := B2.cell' 5 _ rfl
  have x6 := B2.cell' 6 _ rfl
  have x7 := B2.cell' 7 _ rfl
  have H14' := Lib.hid (H14.out HS.out _ n2')
  clear H14
  cases cv
  · (try simp only [Bool.false_eq_true, reduceIte] at H14')
    go_wp2_with (fail)
    with_reducible refine H14'.out.mono ?_
    rintro e w3 ⟨rfl, m3⟩
    have n3' := n2'.trans m3
    go_wp2
    go_ret
    exact ⟨rfl, n3'⟩
  (try simp only [reduceIte] at H14')
  go_wp2_with (fail)
  with_reducible refine H14'.out.mono ?_
  rintro e w3 ⟨rfl, m3⟩
  have n3' := n2'.trans m3
  have B3 := B2.new m3
  clear x0 x1 x2 x3 x4 x5 x6 x7
  clear H14' HF2 n0 B0 n1' B1 B2 m1 m2 m3
  go_wp2
  go_loopw [43] (fun v43 wr => ∃ k : Nat, v43 = .int .i64 k ∧ k ≤ m ∧ New w wr ∧ Blk wr w.heap.size 28 #[.int .i64 b.kind, .int .i64 b.entry, .string b.image, .slice h.a1 b.places.length h.c1, .slice h.a2 b.fix.length h.c2, .slice h.a3 b.imps.length h.c3, .slice h.a4 b.exps.length h.c4, .slice h.a5 b.notes.length h.c5] ∧ Hid (∀ p ∈ l.take k, p.name.size ≤ 100)) (fun v43 _ => m - (intOf v43).toNat)
  case atStart => exact ⟨0, rfl, by omega, n3', B3, Lib.hid (by simp)⟩
  case round =>
    clear n3' B3
    obtain ⟨k, rfl, hk9, hn1, B1, HA⟩ := hrel
    by_cases hlt : k < m
    · obtain ⟨bk, o, rfl, _, p, hp, hc1⟩ := rd_row (f := ntC) (k := 2) (fun _ => rfl) HM.out (HRL.out.below hn1) hlt
      have HNX := Lib.hid (fun (q : p.name.size ≤ 100) => all_next (q := fun p => p.name.size ≤ 100) hp HA.out q)
      obtain ⟨nm, tx⟩ := p
      have p0 := hc1 0 (.string nm) (by omega) rfl
      have p1 := hc1 1 (.string tx) (by omega) rfl
      simp only [Nat.add_zero] at p0
      rw [← Nat.add_assoc] at p1
      clear hc1 hp
      have i0 : (0 : Int) ≤ (k : Int) := by omega
      have i1 : (k : Int) < (m : Int) := by omega
      by_cases g1 : 100 < nm.size
      · have t1 : decide ((100 : Int) < (nm.size : Int)) = true := decide_eq_true (by omega)
        clear g1 HNX
        go_wp2
        go_ret
        exact ⟨rfl, hn1.alloc _⟩
      have t1 : decide ((100 : Int) < (nm.size : Int)) = false := decide_eq_false (by omega)
      have HX := Lib.hid (HNX.out (by simp only; omega))
      clear HNX g1
      by_cases g2 : 300 < tx.size
      · have t2 : decide ((300 : Int) < (tx.size : Int)) = true := decide_eq_true (by omega)
        clear g2
        go_wp2
        go_ret
        exact ⟨rfl, hn1.alloc _⟩
      have t2 : decide ((300 : Int) < (tx.size : Int)) = false := decide_eq_false (by omega)
      clear g2
      go_wp2
      go_roundw
      case rel => exact ⟨k + 1, by go_num, by omega, hn1.alloc _, B1.alloc _, HX⟩
      case measure => simp [intOf]; omega
    obtain rfl : m = k := by omega
    have HALL : Hid (∀ p ∈ l, p.name.size ≤ 100) := Lib.hid (by have q := HA.out; rwa [List.take_of_length_le (by rw [HM.out]; exact Nat.le_refl _)] at q)
    clear HA hlt hk9
    have G9 := Blk.made wr 28 #[.int .i64 b.kind, .int .i64 b.entry, .string b.image, .slice h.a1 b.places.length h.c1, .slice h.a2 b.fix.length h.c2, .slice h.a3 b.imps.length h.c3, .slice h.a4 b.exps.length h.c4, .slice h.a5 b.notes.length h.c5]
    have BA := B1.alloc (.cells #[.int .i64 b.kind, .int .i64 b.entry, .string b.image, .slice h.a1 b.places.length h.c1, .slice h.a2 b.fix.length h.c2, .slice h.a3 b.imps.length h.c3, .slice h.a4 b.exps.length h.c4, .slice h.a5 b.notes.length h.c5] 28)
    have nA := hn1.alloc (.cells #[.int .i64 b.kind, .int .i64 b.entry, .string b.image, .slice h.a1 b.places.length h.c1, .slice h.a2 b.fix.length h.c2, .slice h.a3 b.imps.length h.c3, .slice h.a4 b.exps.length h.c4, .slice h.a5 b.notes.length h.c5] 28)
    have hgw : w.heap.size < wr.heap.size := B1.lt
    have HRA := Lib.hid (HR.out.new nA)
    have HBF := Lib.hid (BFar.old (g := wr.heap.size) HR.out (Nat.le_of_lt hgw))
    have HAC := Lib.hid (AC.start HCV.out (HSZ.out HS.out))
    have x0 := B1.cell' 0 _ rfl
    have x1 := B1.cell' 1 _ rfl
    have x2 := B1.cell' 2 _ rfl
    have x3 := B1.cell' 3 _ rfl
    have x4 := B1.cell' 4 _ rfl
    have x5 := B1.cell' 5 _ rfl
    have x6 := B1.cell' 6 _ rfl
    have x7 := B1.cell' 7 _ rfl
    go_upto_region 12 with (fail)
    clear x0 x1 x2 x3 x4 x5 x6 x7
    clear B1 hn1
    generalize hWA : wr.alloc (.cells #[.int .i64 b.kind, .int .i64 b.entry, .string b.image, .slice h.a1 b.places.length h.c1, .slice h.a2 b.fix.length h.c2, .slice h.a3 b.imps.length h.c3, .slice h.a4 b.exps.length h.c4, .slice h.a5 b.notes.length h.c5] 28) = wA at *
    clear hWA
    generalize wr.heap.size = g9 at *
    have HZ0 := Lib.hid t0
    go_wp2
    go_loopw [61] (fun v61 wr => ∃ (k : Nat) (c : Bn) (hc : BH), v61 = .int .i64 k ∧ k ≤ m ∧ Hid (AC b c) ∧ Hid (BRd wr c hc) ∧ Hid (BFar g9 c hc) ∧ Hid (c.notes.length ≤ hc.c5) ∧ Blk wr g9 28 #[.int .i64 c.kind, .int .i64 c.entry, .string c.image, .slice hc.a1 c.places.length hc.c1, .slice hc.a2 c.fix.length hc.c2, .slice hc.a3 c.imps.length hc.c3, .slice hc.a4 c.exps.length hc.c4, .slice hc.a5 c.notes.length hc.c5] ∧ Blk wr w.heap.size 28 #[.int .i64 b.kind, .int .i64 b.entry, .string b.image, .slice h.a1 b.places.length h.c1, .slice h.a2 b.fix.length h.c2, .slice h.a3 b.imps.length h.c3, .slice h.a4 b.exps.length h.c4, .slice h.a5 b.notes.length h.c5] ∧ New w wr) (fun v61 _ => m - (intOf v61).toNat)
    case atStart => exact ⟨0, b, h, rfl, by omega, HAC, HRA, HBF, HCAP, G9, BA, nA⟩
    case round =>
      clear HRA HBF HAC G9 BA nA
      obtain ⟨k, c, hc, rfl, hk9, HAC, HBR, HBF, HCP, G9, BA, nA⟩ := hrel
      by_cases hlt : k < m
      · skip
        obtain ⟨bk, o, rfl, _, p, hp, hc1⟩ := rd_row (f := ntC) (k := 2) (fun _ => rfl) HM.out (HRL.out.below nA) hlt
        have hpn : p.name.size ≤ 100 := HALL.out p (List.mem_of_getElem? hp)
        have hcases := Lib.hid (att_cases p HAC.out.ok)
        have p0 := hc1 0 (.string p.name) (by omega) rfl
        have p1 := hc1 1 (.string p.text) (by omega) rfl
        simp only [Nat.add_zero] at p0
        rw [← Nat.add_assoc] at p1
        clear hc1 hp
        have i0 : (0 : Int) ≤ (k : Int) := by omega
        have i1 : (k : Int) < (m : Int) := by omega
        have D1 := Blk.made wr 40 #[.string p.name, .string p.text]
        have G1 := G9.alloc (.cells #[.string p.name, .string p.text] 40)
        have A1' := BA.alloc (.cells #[.string p.name, .string p.text] 40)
        have n1 := nA.alloc (.cells #[.string p.name, .string p.text] 40)
        have hgl := G1.lt
        have R1 := HBR.out.new ((New.refl wr).alloc (.cells #[.string p.name, .string p.text] 40))
        have HAT := Lib.hid (attach_far c hc p _ R1 HAC.out.sz (HE.out.new n1) (by omega))
        unfold AttF at HAT
        have HNT := Lib.hid (fun W (hn : New (wr.alloc (.cells #[.string p.name, .string p.text] 40)) W) => note_any c hc p.name W (R1.new hn) HAC.out.sz.l5)
        have HR1 := Lib.hid R1
        clear R1
        simp only [bcells] at HNT
        have x0 := G1.cell' 0 _ rfl
        have x1 := G1.cell' 1 _ rfl
        have x2 := G1.cell' 2 _ rfl
        have x3 := G1.cell' 3 _ rfl
        have x4 := G1.cell' 4 _ rfl
        have x5 := G1.cell' 5 _ rfl
        have x6 := G1.cell' 6 _ rfl
        have x7 := G1.cell' 7 _ rfl
        have q0 := D1.cell' 0 _ rfl
        have q1 := D1.cell' 1 _ rfl
        rcases hcases.out with hway | hway | hatt | hway
        · skip
          obtain ⟨hatt, hside⟩ := hway
          rw [hatt] at HAT
          simp only [zB, bcells, List.length_nil] at HAT
          clear hatt hcases
          have HNM := Lib.hid (fun W => rname_any p.name W)
          rw [hside] at HNM
          clear hside
          obtain ⟨⟨ts, tv⟩, htv⟩ : ∃ y, noteV c.notes p.name = y := ⟨_, rfl⟩
          rw [htv] at HNT
          simp only at HNT
          clear htv
          go_wp2_with (fail)
          with_reducible refine HAT.out.mono ?_
          rintro e w5 ⟨⟨h', rfl, r5, f5, c5⟩, m5⟩
          clear r5 f5 c5 HAT
          have m6 := m5.alloc (.cells #[.int .i64 0, .int .i64 0, .string ⟨#[]⟩, .slice h'.a1 0 h'.c1, .slice h'.a2 0 h'.c2, .slice h'.a3 0 h'.c3, .slice h'.a4 0 h'.c4, .slice h'.a5 0 h'.c5] 28)
          have D6 := Blk.made w5 28 #[.int .i64 0, .int .i64 0, .string ⟨#[]⟩, .slice h'.a1 0 h'.c1, .slice h'.a2 0 h'.c2, .slice h'.a3 0 h'.c3, .slice h'.a4 0 h'.c4, .slice h'.a5 0 h'.c5]
          have n6 := n1.trans m6
          have G6 := G1.new m6
          have A6' := A1'.new m6
          have Q6 := D1.new m6
          clear x0 x1 x2 x3 x4 x5 x6 x7
          clear q0 q1
          have x0 := G6.cell' 0 _ rfl
          have x1 := G6.cell' 1 _ rfl
          have x2 := G6.cell' 2 _ rfl
          have x3 := G6.cell' 3 _ rfl
          have x4 := G6.cell' 4 _ rfl
          have x5 := G6.cell' 5 _ rfl
          have x6 := G6.cell' 6 _ rfl
          have x7 := G6.cell' 7 _ rfl
          have q0 := Q6.cell' 0 _ rfl
          have q1 := Q6.cell' 1 _ rfl
          have d3 := D6.cell' 3 _ rfl
          go_wp2_with (fail)
          with_reducible refine (HNT.out _ m6).mono ?_
          rintro e w7 ⟨rfl, m7⟩
          have n7 := n6.trans m7
          have G7 := G6.new m7
          have A7 := A6'.new m7
          have Q7 := Q6.new m7
          have D7 := D6.new m7
          clear x0 x1 x2 x3 x4 x5 x6 x7
          clear q0 q1 d3
          have q0 := Q7.cell' 0 _ rfl
          have q1 := Q7.cell' 1 _ rfl
          have d3 := D7.cell' 3 _ rfl
          have HBR7 := Lib.hid ((HR1.out.new m6).new m7)
          go_wp2_with (fail)
          with_reducible refine (HNM.out _).mono ?_
          rintro e w8 ⟨rfl, m8⟩
          have n8 := n7.trans m8
          have G8 := G7.new m8
          have A8 := A7.new m8
          have HBR8 := Lib.hid (HBR7.out.new m8)
          go_wp2
          go_roundw
          case rel => exact ⟨k + 1, c, hc, by go_num, by omega, HAC, HBR8, HBF, HCP, G8, A8, n8⟩
          case measure => simp [intOf]; omega
        · skip
          obtain ⟨hatt, hside⟩ := hway
          rw [hatt] at HAT
          simp only [zB, bcells, List.length_nil] at HAT
          clear hatt hcases
          obtain ⟨⟨ts, tv⟩, htv⟩ : ∃ y, noteV c.notes p.name = y := ⟨_, rfl⟩
          rw [htv] at HNT hside
          simp only at HNT hside
          clear htv
          subst hside
          go_wp2_with (fail)
          with_reducible refine HAT.out.mono ?_
          rintro e w5 ⟨⟨h', rfl, r5, f5, c5⟩, m5⟩
          clear r5 f5 c5 HAT
          have m6 := m5.alloc (.cells #[.int .i64 0, .int .i64 0, .string ⟨#[]⟩, .slice h'.a1 0 h'.c1, .slice h'.a2 0 h'.c2, .slice h'.a3 0 h'.c3, .slice h'.a4 0 h'.c4, .slice h'.a5 0 h'.c5] 28)
          have D6 := Blk.made w5 28 #[.int .i64 0, .int .i64 0, .string ⟨#[]⟩, .slice h'.a1 0 h'.c1, .slice h'.a2 0 h'.c2, .slice h'.a3 0 h'.c3, .slice h'.a4 0 h'.c4, .slice h'.a5 0 h'.c5]
          have n6 := n1.trans m6
          have G6 := G1.new m6
          have A6' := A1'.new m6
          have Q6 := D1.new m6
          clear x0 x1 x2 x3 x4 x5 x6 x7
          clear q0 q1
          have x0 := G6.cell' 0 _ rfl
          have x1 := G6.cell' 1 _ rfl
          have x2 := G6.cell' 2 _ rfl
          have x3 := G6.cell' 3 _ rfl
          have x4 := G6.cell' 4 _ rfl
          have x5 := G6.cell' 5 _ rfl
          have x6 := G6.cell' 6 _ rfl
          have x7 := G6.cell' 7 _ rfl
          have q0 := Q6.cell' 0 _ rfl
          have q1 := Q6.cell' 1 _ rfl
          have d3 := D6.cell' 3 _ rfl
          go_wp2_with (fail)
          with_reducible refine (HNT.out _ m6).mono ?_
          rintro e w7 ⟨rfl, m7⟩
          have n7 := n6.trans m7
          have G7 := G6.new m7
          have A7 := A6'.new m7
          have Q7 := Q6.new m7
          have D7 := D6.new m7
          clear x0 x1 x2 x3 x4 x5 x6 x7
          clear q0 q1 d3
          have q0 := Q7.cell' 0 _ rfl
          have q1 := Q7.cell' 1 _ rfl
          have d3 := D7.cell' 3 _ rfl
          have HBR7 := Lib.hid ((HR1.out.new m6).new m7)
          go_wp2
          go_roundw
          case rel => exact ⟨k + 1, c, hc, by go_num, by omega, HAC, HBR7, HBF, HCP, G7, A7, n7⟩
          case measure => simp [intOf]; omega
        · skip
          rw [hatt] at HAT
          simp only [zB, bcells, List.length_nil] at HAT
          clear hatt hcases
          obtain ⟨⟨ts, tv⟩, htv⟩ : ∃ y, noteV c.notes p.name = y := ⟨_, rfl⟩
          rw [htv] at HNT
          simp only at HNT
          clear htv
          go_wp2_with (fail)
          with_reducible refine HAT.out.mono ?_
          rintro e w5 ⟨⟨h', rfl, r5, f5, c5⟩, m5⟩
          clear r5 f5 c5 HAT
          have m6 := m5.alloc (.cells #[.int .i64 0, .int .i64 0, .string ⟨#[]⟩, .slice h'.a1 0 h'.c1, .slice h'.a2 0 h'.c2, .slice h'.a3 0 h'.c3, .slice h'.a4 0 h'.c4, .slice h'.a5 0 h'.c5] 28)
          have D6 := Blk.made w5 28 #[.int .i64 0, .int .i64 0, .string ⟨#[]⟩, .slice h'.a1 0 h'.c1, .slice h'.a2 0 h'.c2, .slice h'.a3 0 h'.c3, .slice h'.a4 0 h'.c4, .slice h'.a5 0 h'.c5]
          have n6 := n1.trans m6
          have G6 := G1.new m6
          have A6' := A1'.new m6
          have Q6 := D1.new m6
          clear x0 x1 x2 x3 x4 x5 x6 x7
          clear q0 q1
          have x0 := G6.cell' 0 _ rfl
          have x1 := G6.cell' 1 _ rfl
          have x2 := G6.cell' 2 _ rfl
          have x3 := G6.cell' 3 _ rfl
          have x4 := G6.cell' 4 _ rfl
          have x5 := G6.cell' 5 _ rfl
          have x6 := G6.cell' 6 _ rfl
          have x7 := G6.cell' 7 _ rfl
          have q0 := Q6.cell' 0 _ rfl
          have q1 := Q6.cell' 1 _ rfl
          have d3 := D6.cell' 3 _ rfl
          go_wp2_with (fail)
          with_reducible refine (HNT.out _ m6).mono ?_
          rintro e w7 ⟨rfl, m7⟩
          have n7 := n6.trans m7
          have G7 := G6.new m7
          have A7 := A6'.new m7
          have Q7 := Q6.new m7
          have D7 := D6.new m7
          clear x0 x1 x2 x3 x4 x5 x6 x7
          clear q0 q1 d3
          have q0 := Q7.cell' 0 _ rfl
          have q1 := Q7.cell' 1 _ rfl
          have d3 := D7.cell' 3 _ rfl
          have HBR7 := Lib.hid ((HR1.out.new m6).new m7)
          go_wp2
          go_roundw
          case rel => exact ⟨k + 1, c, hc, by go_num, by omega, HAC, HBR7, HBF, HCP, G7, A7, n7⟩
          case measure => simp [intOf]; omega
        · skip
          obtain ⟨hatt, hnv, hnf, hn64, htx⟩ := hway
          rw [hatt] at HAT
          simp only at HAT
          have HAC2 := Lib.hid (AC.more HAC.out hnv hnf hn64 htx)
          have hap := note_app hnf
          obtain ⟨d, hd⟩ : ∃ d : Bn, { c with notes := c.notes ++ [p] } = d := ⟨_, rfl⟩
          have hdn : d.notes = c.notes ++ [p] := by rw [← hd]
          have hdl : d.notes.length = c.notes.length + 1 := by rw [hdn]; simp
          rw [hd] at HAT HAC2
          rw [← hdn] at hap
          have h5c := (check_ok HAC.out.ok).l5
          have hu : IntKind.i64.wrap ((c.notes.length : Int) + 1) = (d.notes.length : Int) := by rw [hdl, IntWalk.i64_in _ (by omega)]; omega
          have HAPP := Lib.hid hap
          have HDN := Lib.hid hdn
          clear hatt hcases hnv hnf hn64 htx hap hdn hdl hd h5c HNT
          simp only [bcells] at HAT
          have s1 : (p.text.toList == p.text.toList) = true := beq_self_eq_true _
          have s2 : ((d.notes.length : Int) == (d.notes.length : Int)) = true := beq_self_eq_true _
          go_wp2_with (fail)
          with_reducible refine HAT.out.mono ?_
          rintro e w5 ⟨⟨h', rfl, r5, f5, c5⟩, m5⟩
          have HC5 : Hid (d.notes.length ≤ h'.c5) := Lib.hid (by rw [HDN.out]; exact c5)
          have HF5 := Lib.hid (BFar.far (b := d) (g := g9) f5 hgl)
          have m6 := m5.alloc (.cells #[.int .i64 d.kind, .int .i64 d.entry, .string d.image, .slice h'.a1 d.places.length h'.c1, .slice h'.a2 d.fix.length h'.c2, .slice h'.a3 d.imps.length h'.c3, .slice h'.a4 d.exps.length h'.c4, .slice h'.a5 d.notes.length h'.c5] 28)
          have D6 := Blk.made w5 28 #[.int .i64 d.kind, .int .i64 d.entry, .string d.image, .slice h'.a1 d.places.length h'.c1, .slice h'.a2 d.fix.length h'.c2, .slice h'.a3 d.imps.length h'.c3, .slice h'.a4 d.exps.length h'.c4, .slice h'.a5 d.notes.length h'.c5]
          have R6 := r5.new ((New.refl w5).alloc (.cells #[.int .i64 d.kind, .int .i64 d.entry, .string d.image, .slice h'.a1 d.places.length h'.c1, .slice h'.a2 d.fix.length h'.c2, .slice h'.a3 d.imps.length h'.c3, .slice h'.a4 d.exps.length h'.c4, .slice h'.a5 d.notes.length h'.c5] 28))
          have HN6 := Lib.hid (note_any d h' p.name _ R6 HAC2.out.sz.l5)
          rw [HAPP.out] at HN6
          simp only [bcells] at HN6
          have HR6 := Lib.hid R6
          clear r5 f5 c5 HAT R6
          have n6 := n1.trans m6
          have G6 := G1.new m6
          have A6' := A1'.new m6
          have Q6 := D1.new m6
          clear x0 x1 x2 x3 x4 x5 x6 x7
          clear q0 q1
          have d0 := D6.cell' 0 _ rfl
          have d1 := D6.cell' 1 _ rfl
          have d2 := D6.cell' 2 _ rfl
          have d3 := D6.cell' 3 _ rfl
          have d4 := D6.cell' 4 _ rfl
          have d5 := D6.cell' 5 _ rfl
          have d6 := D6.cell' 6 _ rfl
          have d7 := D6.cell' 7 _ rfl
          have q0 := Q6.cell' 0 _ rfl
          have q1 := Q6.cell' 1 _ rfl
          go_wp2_with (fail)
          with_reducible refine HN6.out.mono ?_
          rintro e w7 ⟨rfl, m7⟩
          have n7 := n6.trans m7
          have G7 := G6.new m7
          have A7 := A6'.new m7
          have Q7 := Q6.new m7
          have D7 := D6.new m7
          clear d0 d1 d2 d3 d4 d5 d6 d7
          clear q0 q1
          have d0 := D7.cell' 0 _ rfl
          have d1 := D7.cell' 1 _ rfl
          have d2 := D7.cell' 2 _ rfl
          have d3 := D7.cell' 3 _ rfl
          have d4 := D7.cell' 4 _ rfl
          have d5 := D7.cell' 5 _ rfl
          have d6 := D7.cell' 6 _ rfl
          have d7 := D7.cell' 7 _ rfl
          have q1 := Q7.cell' 1 _ rfl
          have x7 := G7.cell' 7 _ rfl
          go_upto_region 23 with (fail)
          clear x7 q1
          have x0 := G7.cell' 0 _ rfl
          have x1 := G7.cell' 1 _ rfl
          have x2 := G7.cell' 2 _ rfl
          have x3 := G7.cell' 3 _ rfl
          have x4 := G7.cell' 4 _ rfl
          have x5 := G7.cell' 5 _ rfl
          have x6 := G7.cell' 6 _ rfl
          have x7 := G7.cell' 7 _ rfl
          have y0 := G7.free 0
          have y1 := G7.free 1
          have y2 := G7.free 2
          have y3 := G7.free 3
          have y4 := G7.free 4
          have y5 := G7.free 5
          have y6 := G7.free 6
          have y7 := G7.free 7
          have HBS := Lib.hid (brd_set8_n (v0 := .int .i64 d.kind) (v1 := .int .i64 d.entry) (v2 := .string d.image) (v3 := .slice h'.a1 d.places.length h'.c1) (v4 := .slice h'.a2 d.fix.length h'.c2) (v5 := .slice h'.a3 d.imps.length h'.c3) (v6 := .slice h'.a4 d.exps.length h'.c4) (v7 := .slice h'.a5 d.notes.length h'.c5) (HR6.out.new m7) HF5.out)
          have YG := Lib.hid (set8_blk (v0 := .int .i64 d.kind) (v1 := .int .i64 d.entry) (v2 := .string d.image) (v3 := .slice h'.a1 d.places.length h'.c1) (v4 := .slice h'.a2 d.fix.length h'.c2) (v5 := .slice h'.a3 d.imps.length h'.c3) (v6 := .slice h'.a4 d.exps.length h'.c4) (v7 := .slice h'.a5 d.notes.length h'.c5) G7)
          have YB := Lib.hid (blk_set8_far (g := g9) (v0 := .int .i64 d.kind) (v1 := .int .i64 d.entry) (v2 := .string d.image) (v3 := .slice h'.a1 d.places.length h'.c1) (v4 := .slice h'.a2 d.fix.length h'.c2) (v5 := .slice h'.a3 d.imps.length h'.c3) (v6 := .slice h'.a4 d.exps.length h'.c4) (v7 := .slice h'.a5 d.notes.length h'.c5) A7 (by omega))
          have YN := Lib.hid (set8_new (g := g9) (v0 := .int .i64 d.kind) (v1 := .int .i64 d.entry) (v2 := .string d.image) (v3 := .slice h'.a1 d.places.length h'.c1) (v4 := .slice h'.a2 d.fix.length h'.c2) (v5 := .slice h'.a3 d.imps.length h'.c3) (v6 := .slice h'.a4 d.exps.length h'.c4) (v7 := .slice h'.a5 d.notes.length h'.c5) n7 (by omega))
          clear HR6 m7 m6 m5 n7 n6 n1 D6 D1 G6 G1 G9 A6' A1' BA HBR nA Q6 Q7
          go_wp2
          go_roundw
          case rel => exact ⟨k + 1, d, h', by go_num, by omega, HAC2, HBS, HF5, HC5, YG.out, YB.out, YN.out⟩
          case measure => simp [intOf]; omega
      obtain rfl : m = k := by omega
      clear hlt hk9 HALL HRL HM
      have HX1 := Lib.hid (H21.out HS.out wr nA)
      unfold StripP at HX1
      rw [strip_same HCV.out] at HX1
      have hce : chkE b = 0 := by unfold chkE; rw [HCV.out]; rfl
      rw [hce] at HX1
      have hcc : chkE c = 0 := by unfold chkE; rw [HAC.out.ok]; rfl
      obtain ⟨x, hx⟩ : ∃ x : Bn, { b with notes := [] } = x := ⟨_, rfl⟩
      rw [hx] at HX1
      have hxn : x.notes.length = 0 := by rw [← hx]; rfl
      have hz := HSZ.out HS.out
      have hl1 : x.places.length ≤ 1000000 := by rw [← hx]; exact hz.l1
      have hl2 : x.fix.length ≤ 1000000 := by rw [← hx]; exact hz.l2
      have hl3 : x.imps.length ≤ 1000000 := by rw [← hx]; exact hz.l3
      have hl4 : x.exps.length ≤ 1000000 := by rw [← hx]; exact hz.l4
      have hl5 : x.notes.length ≤ 1000000 := by rw [← hx]; exact Nat.zero_le _
      have HSM := Lib.hid (fun (g g2 : BH) W (r1 : BRd W x g) (r2 : BRd W x g2) => same_self x g g2 W r1 r2 hl1 hl2 hl3 hl4 hl5)
      have HX2 := Lib.hid (fun W (hn : New wr W) => strip_any c hc W (HBR.out.new hn) HAC.out.sz (HE.out.new (nA.trans hn)))
      unfold StripP at HX2
      rw [HAC.out.strip, hx, hcc] at HX2
      have HP1 := Lib.hid (fun W (hn : New wr W) => H27.out HS.out W (nA.trans hn))
      have HP2 := Lib.hid (fun W (hn : New wr W) => plain_any c hc i W (HBR.out.new hn) HAC.out.sz (HE.out.new (nA.trans hn)) HI.out)
      rw [HAC.out.plain HCV.out] at HP2
      obtain ⟨⟨ps, pe⟩, hpl⟩ : ∃ y, plainV b i = y := ⟨_, rfl⟩
      rw [hpl] at HP1 HP2
      have HCK := Lib.hid (fun W (hn : New wr W) => check_any c hc W (HBR.out.new hn) HAC.out.sz (HE.out.new (nA.trans hn)))
      rw [hcc] at HCK
      obtain ⟨nb, hnb⟩ : ∃ nb, b.notes.length = nb := ⟨_, rfl⟩
      have hhd := HAC.out.head
      rw [hnb] at hhd
      have HEQ := Lib.hid (fun W (hn : New wr W) => eqnt_self b.notes hc.a5 h.a5 nb hc.c5 h.c5 W hnb (rd_head (k := 0) (HBR.out.new hn).r5 hhd.1 hnb hhd.2) (by have q := (HR.out.new (nA.trans hn)).r5; rwa [hnb] at q) (by have := hz.l5; omega))
      have u1 : decide ((nb : Int) ≤ (c.notes.length : Int)) = true := decide_eq_true (by have := hhd.1; omega)
      have u5 : nb ≤ c.notes.length := hhd.1
      have u6 : decide (nb ≤ c.notes.length) = true := decide_eq_true hhd.1
      have u2 : (nb : Int) ≤ (hc.c5 : Int) := by have h1 := hhd.1; have h2 := HCP.out; omega
      have u3 : nb ≤ hc.c5 := by omega
      have u4 : (0 : Int) ≤ (nb : Int) := by omega
      have s1 : (pe == pe) = true := beq_self_eq_true _
      have s2 : (ps.toList == ps.toList) = true := beq_self_eq_true _
      clear hce hcc hx hz hl1 hl2 hl3 hl4 hl5 hpl HSZ H21 H27 HI HAC HBF HCP HCAP hhd
      simp only [bcells] at HX1 HX2 HP1 HP2 HSM HCK HEQ
      rw [hnb] at BA HX1 HP1
      rw [hxn] at HX1 HX2 HSM
      have HNB := Lib.hid (And.intro hnb hxn)
      clear hnb hxn
      have x0 := BA.cell' 0 _ rfl
      have x1 := BA.cell' 1 _ rfl
      have x2 := BA.cell' 2 _ rfl
      have x3 := BA.cell' 3 _ rfl
      have x4 := BA.cell' 4 _ rfl
      have x5 := BA.cell' 5 _ rfl
      have x6 := BA.cell' 6 _ rfl
      have x7 := BA.cell' 7 _ rfl
      go_wp2_with (fail)
      with_reducible refine HX1.out.mono ?_
      rintro e w2 ⟨⟨h1, rfl, r2⟩, m2⟩
      have k2 := m2.alloc (.cells #[.int .i64 x.kind, .int .i64 x.entry, .string x.image, .slice h1.a1 x.places.length h1.c1, .slice h1.a2 x.fix.length h1.c2, .slice h1.a3 x.imps.length h1.c3, .slice h1.a4 x.exps.length h1.c4, .slice h1.a5 0 h1.c5] 28)
      have X2 := Blk.made w2 28 #[.int .i64 x.kind, .int .i64 x.entry, .string x.image, .slice h1.a1 x.places.length h1.c1, .slice h1.a2 x.fix.length h1.c2, .slice h1.a3 x.imps.length h1.c3, .slice h1.a4 x.exps.length h1.c4, .slice h1.a5 0 h1.c5]
      have RX2 := Lib.hid (r2.new ((New.refl w2).alloc (.cells #[.int .i64 x.kind, .int .i64 x.entry, .string x.image, .slice h1.a1 x.places.length h1.c1, .slice h1.a2 x.fix.length h1.c2, .slice h1.a3 x.imps.length h1.c3, .slice h1.a4 x.exps.length h1.c4, .slice h1.a5 0 h1.c5] 28)))
      have G2 := G9.new k2
      clear x0 x1 x2 x3 x4 x5 x6 x7
      clear r2
      have x0 := G2.cell' 0 _ rfl
      have x1 := G2.cell' 1 _ rfl
      have x2 := G2.cell' 2 _ rfl
      have x3 := G2.cell' 3 _ rfl
      have x4 := G2.cell' 4 _ rfl
      have x5 := G2.cell' 5 _ rfl
      have x6 := G2.cell' 6 _ rfl
      have x7 := G2.cell' 7 _ rfl
      go_wp2_with (fail)
      with_reducible refine (HX2.out _ k2).mono ?_
      rintro e w3 ⟨⟨h2, rfl, r3⟩, m3⟩
      have j3 := m3.alloc (.cells #[.int .i64 x.kind, .int .i64 x.entry, .string x.image, .slice h2.a1 x.places.length h2.c1, .slice h2.a2 x.fix.length h2.c2, .slice h2.a3 x.imps.length h2.c3, .slice h2.a4 x.exps.length h2.c4, .slice h2.a5 0 h2.c5] 28)
      have k3 := k2.trans j3
      have Y3 := Blk.made w3 28 #[.int .i64 x.kind, .int .i64 x.entry, .string x.image, .slice h2.a1 x.places.length h2.c1, .slice h2.a2 x.fix.length h2.c2, .slice h2.a3 x.imps.length h2.c3, .slice h2.a4 x.exps.length h2.c4, .slice h2.a5 0 h2.c5]
      have RY3 := Lib.hid (r3.new ((New.refl w3).alloc (.cells #[.int .i64 x.kind, .int .i64 x.entry, .string x.image, .slice h2.a1 x.places.length h2.c1, .slice h2.a2 x.fix.length h2.c2, .slice h2.a3 x.imps.length h2.c3, .slice h2.a4 x.exps.length h2.c4, .slice h2.a5 0 h2.c5] 28)))
      have RX3 := Lib.hid (RX2.out.new j3)
      have X3 := X2.new j3
      have A3 := BA.new k3
      clear x0 x1 x2 x3 x4 x5 x6 x7
      clear r3
      have x0 := A3.cell' 0 _ rfl
      have x1 := A3.cell' 1 _ rfl
      have x2 := A3.cell' 2 _ rfl
      have x3 := A3.cell' 3 _ rfl
      have x4 := A3.cell' 4 _ rfl
      have x5 := A3.cell' 5 _ rfl
      have x6 := A3.cell' 6 _ rfl
      have x7 := A3.cell' 7 _ rfl
      go_wp2_with (fail)
      with_reducible refine (HP1.out _ k3).mono ?_
      rintro e w4 ⟨rfl, m4⟩
      have k4 := k3.trans m4
      have G4 := G9.new k4
      clear x0 x1 x2 x3 x4 x5 x6 x7
      have x0 := G4.cell' 0 _ rfl
      have x1 := G4.cell' 1 _ rfl
      have x2 := G4.cell' 2 _ rfl
      have x3 := G4.cell' 3 _ rfl
      have x4 := G4.cell' 4 _ rfl
      have x5 := G4.cell' 5 _ rfl
      have x6 := G4.cell' 6 _ rfl
      have x7 := G4.cell' 7 _ rfl
      go_wp2_with (fail)
      with_reducible refine (HP2.out _ k4).mono ?_
      rintro e w5 ⟨rfl, m5⟩
      have k5 := k4.trans m5
      have m45 := m4.trans m5
      have RX5 := Lib.hid (RX3.out.new m45)
      have RY5 := Lib.hid (RY3.out.new m45)
      have X5 := X3.new m45
      have Y5 := Y3.new m45
      have G5 := G9.new k5
      have A5 := BA.new k5
      clear x0 x1 x2 x3 x4 x5 x6 x7
      have a0 := X5.cell' 0 _ rfl
      have a1 := X5.cell' 1 _ rfl
      have a2 := X5.cell' 2 _ rfl
      have a3 := X5.cell' 3 _ rfl
      have a4 := X5.cell' 4 _ rfl
      have a5 := X5.cell' 5 _ rfl
      have a6 := X5.cell' 6 _ rfl
      have a7 := X5.cell' 7 _ rfl
      have b0 := Y5.cell' 0 _ rfl
      have b1 := Y5.cell' 1 _ rfl
      have b2 := Y5.cell' 2 _ rfl
      have b3 := Y5.cell' 3 _ rfl
      have b4 := Y5.cell' 4 _ rfl
      have b5 := Y5.cell' 5 _ rfl
      have b6 := Y5.cell' 6 _ rfl
      have b7 := Y5.cell' 7 _ rfl
      have c0 := G5.cell' 0 _ rfl
      have c1 := G5.cell' 1 _ rfl
      have c2 := G5.cell' 2 _ rfl
      have c3 := G5.cell' 3 _ rfl
      have c4 := G5.cell' 4 _ rfl
      have c5 := G5.cell' 5 _ rfl
      have c6 := G5.cell' 6 _ rfl
      have c7 := G5.cell' 7 _ rfl
      have d0 := A5.cell' 0 _ rfl
      have d1 := A5.cell' 1 _ rfl
      have d2 := A5.cell' 2 _ rfl
      have d3 := A5.cell' 3 _ rfl
      have d4 := A5.cell' 4 _ rfl
      have d5 := A5.cell' 5 _ rfl
      have d6 := A5.cell' 6 _ rfl
      have d7 := A5.cell' 7 _ rfl
      go_wp2_with (fail)
      refine wp_region_held_drew (S := (New _)) (by kernel_rfl) ((New.refl _).drew) (fun hS => ?_)
      refine tkQ (i := 0) (oi := ?o1) (v := ?v1) ?h1 ?q1 ?y1 hS ?_; (case h1 => (simp only [gqA, gqB, gqC]; rfl)); (case q1 => exact fun _ _ _ h => h); (case y1 => (refine Or.inl ⟨by kernel_rfl, ?_⟩; intro wq hSq; clear hSq; go_simp; (try with_reducible rfl))); simp only [Act.put, List.setIfInBounds_toArray, List.set_cons_zero, List.set_cons_succ]
      refine tkQ (i := 1) (oi := ?o2) (v := ?v2) ?h2 ?q2 ?y2 hS ?_; (case h2 => (simp only [gqA, gqB, gqC]; rfl)); (case q2 => exact fun _ _ _ h => h); (case y2 => (refine Or.inl ⟨by kernel_rfl, ?_⟩; intro wq hSq; clear hSq; go_simp; (try with_reducible rfl))); simp only [Act.put, List.setIfInBounds_toArray, List.set_cons_zero, List.set_cons_succ]
      refine tkQ (i := 2) (oi := ?o3) (v := ?v3) ?h3 ?q3 ?y3 hS ?_; (case h3 => (simp only [gqA, gqB, gqC]; rfl)); (case q3 => exact fun _ _ _ h => h); (case y3 => (refine Or.inl ⟨by kernel_rfl, ?_⟩; intro wq hSq; clear hSq; go_simp; (try with_reducible rfl))); simp only [Act.put, List.setIfInBounds_toArray, List.set_cons_zero, List.set_cons_succ]
      refine tkQ (i := 3) (oi := ?o4) (v := ?v4) ?h4 ?q4 ?y4 hS ?_; (case h4 => (simp only [gqA, gqB, gqC]; rfl)); (case q4 => exact fun _ _ _ h => h); (case y4 => (refine Or.inl ⟨by kernel_rfl, ?_⟩; intro wq hSq; clear hSq; go_simp; (try with_reducible rfl))); simp only [Act.put, List.setIfInBounds_toArray, List.set_cons_zero, List.set_cons_succ]
      refine tkQ (i := 4) (oi := ?o5) (v := ?v5) ?h5 ?q5 ?y5 hS ?_; (case h5 => (simp only [gqA, gqB, gqC]; rfl)); (case q5 => exact fun _ _ _ h => h); (case y5 => (refine Or.inl ⟨by kernel_rfl, ?_⟩; intro wq hSq; clear hSq; go_simp; (try with_reducible rfl))); simp only [Act.put, List.setIfInBounds_toArray, List.set_cons_zero, List.set_cons_succ]
      refine tkQ (i := 5) (oi := ?o6) (v := ?v6) ?h6 ?q6 ?y6 hS ?_; (case h6 => (simp only [gqA, gqB, gqC]; rfl)); (case q6 => exact fun _ _ _ h => h); (case y6 => (refine Or.inl ⟨by kernel_rfl, ?_⟩; intro wq hSq; clear hSq; go_simp; (try with_reducible rfl))); simp only [Act.put, List.setIfInBounds_toArray, List.set_cons_zero, List.set_cons_succ]
      refine tkQ (i := 6) (oi := ?o7) (v := ?v7) ?h7 ?q7 ?y7 hS ?_; (case h7 => (simp only [gqA, gqB, gqC]; rfl)); (case q7 => exact fun _ _ _ h => h); (case y7 => (refine Or.inl ⟨by kernel_rfl, ?_⟩; intro wq hSq; clear hSq; go_simp; (try with_reducible rfl))); simp only [Act.put, List.setIfInBounds_toArray, List.set_cons_zero, List.set_cons_succ]
      refine tkQ (i := 7) (oi := ?o8) (v := ?v8) ?h8 ?q8 ?y8 hS ?_; (case h8 => (simp only [gqA, gqB, gqC]; rfl)); (case q8 => exact fun _ _ _ h => h); (case y8 => (refine Or.inl ⟨by kernel_rfl, ?_⟩; intro wq hSq; clear hSq; go_simp; (try with_reducible rfl))); simp only [Act.put, List.setIfInBounds_toArray, List.set_cons_zero, List.set_cons_succ]
      refine tkQ (i := 8) (oi := ?o9) (v := ?v9) ?h9 ?q9 ?y9 hS ?_; (case h9 => (simp only [gqA, gqB, gqC]; rfl)); (case q9 => exact fun _ _ _ h => h); (case y9 => (refine Or.inl ⟨by kernel_rfl, ?_⟩; intro wq hSq; have hf0 := cell_new hSq a0; have hf1 := cell_new hSq a1; have hf2 := cell_new hSq a2; have hf3 := cell_new hSq a3; have hf4 := cell_new hSq a4; have hf5 := cell_new hSq a5; have hf6 := cell_new hSq a6; have hf7 := cell_new hSq a7; have hf8 := cell_new hSq b0; have hf9 := cell_new hSq b1; have hf10 := cell_new hSq b2; have hf11 := cell_new hSq b3; have hf12 := cell_new hSq b4; have hf13 := cell_new hSq b5; have hf14 := cell_new hSq b6; have hf15 := cell_new hSq b7; have hf16 := cell_new hSq c0; have hf17 := cell_new hSq c1; have hf18 := cell_new hSq c2; have hf19 := cell_new hSq c3; have hf20 := cell_new hSq c4; have hf21 := cell_new hSq c5; have hf22 := cell_new hSq c6; have hf23 := cell_new hSq c7; have hf24 := cell_new hSq d0; have hf25 := cell_new hSq d1; have hf26 := cell_new hSq d2; have hf27 := cell_new hSq d3; have hf28 := cell_new hSq d4; have hf29 := cell_new hSq d5; have hf30 := cell_new hSq d6; have hf31 := cell_new hSq d7; clear hSq; go_simp; (try with_reducible rfl))); simp only [Act.put, List.setIfInBounds_toArray, List.set_cons_zero, List.set_cons_succ]
      refine tkQ (i := 9) (oi := ?o10) (v := ?v10) ?h10 ?q10 ?y10 hS ?_; (case h10 => (simp only [gqA, gqB, gqC]; rfl)); (case q10 => exact fun _ _ _ h => h); (case y10 => (refine Or.inl ⟨by kernel_rfl, ?_⟩; intro wq hSq; clear hSq; go_simp; (try with_reducible rfl))); simp only [Act.put, List.setIfInBounds_toArray, List.set_cons_zero, List.set_cons_succ]
      refine tkQ (i := 10) (oi := ?o11) (v := ?v11) ?h11 ?q11 ?y11 hS ?_; (case h11 => (simp only [gqA, gqB, gqC]; rfl)); (case q11 => exact fun _ _ _ h => h); (case y11 => (refine Or.inl ⟨by kernel_rfl, ?_⟩; intro wq hSq; clear hSq; go_simp; (try with_reducible rfl))); simp only [Act.put, List.setIfInBounds_toArray, List.set_cons_zero, List.set_cons_succ]
      refine tkQ (i := 11) (oi := ?o12) (v := ?v12) ?h12 ?q12 ?y12 hS ?_; (case h12 => (simp only [gqA, gqB, gqC]; rfl)); (case q12 => exact fun _ _ _ h => h); (case y12 => (refine Or.inl ⟨by kernel_rfl, ?_⟩; intro wq hSq; clear hSq; go_simp; (try with_reducible rfl))); simp only [Act.put, List.setIfInBounds_toArray, List.set_cons_zero, List.set_cons_succ]
      refine tkQ (i := 12) (oi := ?o13) (v := ?v13) ?h13 ?q13 ?y13 hS ?_; (case h13 => (simp only [gqA, gqB, gqC]; rfl)); (case q13 => exact fun _ _ _ h => h); (case y13 => (refine Or.inl ⟨by kernel_rfl, ?_⟩; intro wq hSq; clear hSq; go_simp; (try with_reducible rfl))); simp only [Act.put, List.setIfInBounds_toArray, List.set_cons_zero, List.set_cons_succ]
      refine tkQ (i := 13) (oi := ?o14) (v := ?v14) ?h14 ?q14 ?y14 hS ?_; (case h14 => (simp only [gqA, gqB, gqC]; rfl)); (case q14 => exact fun _ _ _ h => h); (case y14 => (refine Or.inl ⟨by kernel_rfl, ?_⟩; intro wq hSq; have hf0 := cell_new hSq a0; have hf1 := cell_new hSq a1; have hf2 := cell_new hSq a2; have hf3 := cell_new hSq a3; have hf4 := cell_new hSq a4; have hf5 := cell_new hSq a5; have hf6 := cell_new hSq a6; have hf7 := cell_new hSq a7; have hf8 := cell_new hSq b0; have hf9 := cell_new hSq b1; have hf10 := cell_new hSq b2; have hf11 := cell_new hSq b3; have hf12 := cell_new hSq b4; have hf13 := cell_new hSq b5; have hf14 := cell_new hSq b6; have hf15 := cell_new hSq b7; have hf16 := cell_new hSq c0; have hf17 := cell_new hSq c1; have hf18 := cell_new hSq c2; have hf19 := cell_new hSq c3; have hf20 := cell_new hSq c4; have hf21 := cell_new hSq c5; have hf22 := cell_new hSq c6; have hf23 := cell_new hSq c7; have hf24 := cell_new hSq d0; have hf25 := cell_new hSq d1; have hf26 := cell_new hSq d2; have hf27 := cell_new hSq d3; have hf28 := cell_new hSq d4; have hf29 := cell_new hSq d5; have hf30 := cell_new hSq d6; have hf31 := cell_new hSq d7; clear hSq; go_simp; (try with_reducible rfl))); simp only [Act.put, List.setIfInBounds_toArray, List.set_cons_zero, List.set_cons_succ]
      refine tkQ (i := 14) (oi := ?o15) (v := ?v15) ?h15 ?q15 ?y15 hS ?_; (case h15 => (simp only [gqA, gqB, gqC]; rfl)); (case q15 => exact fun _ _ _ h => h); (case y15 => (refine Or.inl ⟨by kernel_rfl, ?_⟩; intro wq hSq; have hf0 := cell_new hSq a0; have hf1 := cell_new hSq a1; have hf2 := cell_new hSq a2; have hf3 := cell_new hSq a3; have hf4 := cell_new hSq a4; have hf5 := cell_new hSq a5; have hf6 := cell_new hSq a6; have hf7 := cell_new hSq a7; have hf8 := cell_new hSq b0; have hf9 := cell_new hSq b1; have hf10 := cell_new hSq b2; have hf11 := cell_new hSq b3; have hf12 := cell_new hSq b4; have hf13 := cell_new hSq b5; have hf14 := cell_new hSq b6; have hf15 := cell_new hSq b7; have hf16 := cell_new hSq c0; have hf17 := cell_new hSq c1; have hf18 := cell_new hSq c2; have hf19 := cell_new hSq c3; have hf20 := cell_new hSq c4; have hf21 := cell_new hSq c5; have hf22 := cell_new hSq c6; have hf23 := cell_new hSq c7; have hf24 := cell_new hSq d0; have hf25 := cell_new hSq d1; have hf26 := cell_new hSq d2; have hf27 := cell_new hSq d3; have hf28 := cell_new hSq d4; have hf29 := cell_new hSq d5; have hf30 := cell_new hSq d6; have hf31 := cell_new hSq d7; clear hSq; go_simp; (try with_reducible rfl))); simp only [Act.put, List.setIfInBounds_toArray, List.set_cons_zero, List.set_cons_succ]
      refine wpAnyH_ready (rs := [15]) (by kernel_rfl) (by simp) ?_
      refine AllReadyH.cons (o := ?oi16) ?hi16 (fun K hK => ?_) AllReadyH.nil
      case hi16 => (simp only [gqA, gqB, gqC]; rfl)
      go_simp
      with_reducible refine (HSM.out _ _ _ (RX5.out.new hS) (RY5.out.new hS)).mono ?_
      rintro e w6 ⟨rfl, k6⟩
      refine hK.out _ _ (hS.trans k6) (fun hS => ?_)
      clear hK K
      refine tkQ (i := 16) (oi := ?o17) (v := ?v17) ?h17 ?q17 ?y17 hS ?_; (case h17 => (simp only [gqA, gqB, gqC]; rfl)); (case q17 => exact fun _ _ _ h => h); (case y17 => (refine Or.inl ⟨by kernel_rfl, ?_⟩; intro wq hSq; clear hSq; go_simp; (try with_reducible rfl))); simp only [Act.put, List.setIfInBounds_toArray, List.set_cons_zero, List.set_cons_succ]
      refine tkQ (i := 17) (oi := ?o18) (v := ?v18) ?h18 ?q18 ?y18 hS ?_; (case h18 => (simp only [gqA, gqB, gqC]; rfl)); (case q18 => exact fun _ _ _ h => h); (case y18 => (refine Or.inl ⟨by kernel_rfl, ?_⟩; intro wq hSq; clear hSq; go_simp; (try with_reducible rfl))); simp only [Act.put, List.setIfInBounds_toArray, List.set_cons_zero, List.set_cons_succ]
      refine tkQ (i := 18) (oi := ?o19) (v := ?v19) ?h19 ?q19 ?y19 hS ?_; (case h19 => (simp only [gqA, gqB, gqC]; rfl)); (case q19 => exact fun _ _ _ h => h); (case y19 => (refine Or.inl ⟨by kernel_rfl, ?_⟩; intro wq hSq; clear hSq; go_simp; (try with_reducible rfl))); simp only [Act.put, List.setIfInBounds_toArray, List.set_cons_zero, List.set_cons_succ]
      refine tkQ (i := 19) (oi := ?o20) (v := ?v20) ?h20 ?q20 ?y20 hS ?_; (case h20 => (simp only [gqA, gqB, gqC]; rfl)); (case q20 => exact fun _ _ _ h => h); (case y20 => (refine Or.inl ⟨by kernel_rfl, ?_⟩; intro wq hSq; clear hSq; go_simp; (try with_reducible rfl))); simp only [Act.put, List.setIfInBounds_toArray, List.set_cons_zero, List.set_cons_succ]
      refine tkQ (i := 20) (oi := ?o21) (v := ?v21) ?h21 ?q21 ?y21 hS ?_; (case h21 => (simp only [gqA, gqB, gqC]; rfl)); (case q21 => exact fun _ _ _ h => h); (case y21 => (refine Or.inl ⟨by kernel_rfl, ?_⟩; intro wq hSq; clear hSq; go_simp; (try with_reducible rfl))); simp only [Act.put, List.setIfInBounds_toArray, List.set_cons_zero, List.set_cons_succ]
      refine tkQ (i := 21) (oi := ?o22) (v := ?v22) ?h22 ?q22 ?y22 hS ?_; (case h22 => (simp only [gqA, gqB, gqC]; rfl)); (case q22 => exact fun _ _ _ h => h); (case y22 => (refine Or.inl ⟨by kernel_rfl, ?_⟩; intro wq hSq; clear hSq; go_simp; (try with_reducible rfl))); simp only [Act.put, List.setIfInBounds_toArray, List.set_cons_zero, List.set_cons_succ]
      refine tkQ (i := 22) (oi := ?o23) (v := ?v23) ?h23 ?q23 ?y23 hS ?_; (case h23 => (simp only [gqA, gqB, gqC]; rfl)); (case q23 => exact fun _ _ _ h => h); (case y23 => (refine Or.inl ⟨by kernel_rfl, ?_⟩; intro wq hSq; clear hSq; go_simp; (try with_reducible rfl))); simp only [Act.put, List.setIfInBounds_toArray, List.set_cons_zero, List.set_cons_succ]
      refine tkQ (i := 23) (oi := ?o24) (v := ?v24) ?h24 ?q24 ?y24 hS ?_; (case h24 => (simp only [gqA, gqB, gqC]; rfl)); (case q24 => exact fun _ _ _ h => h); (case y24 => (refine Or.inl ⟨by kernel_rfl, ?_⟩; intro wq hSq; clear hSq; go_simp; (try with_reducible rfl))); simp only [Act.put, List.setIfInBounds_toArray, List.set_cons_zero, List.set_cons_succ]
      refine tkQ (i := 24) (oi := ?o25) (v := ?v25) ?h25 ?q25 ?y25 hS ?_; (case h25 => (simp only [gqA, gqB, gqC]; rfl)); (case q25 => exact fun _ _ _ h => h); (case y25 => (refine Or.inl ⟨by kernel_rfl, ?_⟩; intro wq hSq; clear hSq; go_simp; (try with_reducible rfl))); simp only [Act.put, List.setIfInBounds_toArray, List.set_cons_zero, List.set_cons_succ]
      refine tkQ (i := 25) (oi := ?o26) (v := ?v26) ?h26 ?q26 ?y26 hS ?_; (case h26 => (simp only [gqA, gqB, gqC]; rfl)); (case q26 => exact fun _ _ _ h => h); (case y26 => (refine Or.inl ⟨by kernel_rfl, ?_⟩; intro wq hSq; clear hSq; go_simp; (try with_reducible rfl))); simp only [Act.put, List.setIfInBounds_toArray, List.set_cons_zero, List.set_cons_succ]
      refine tkQ (i := 26) (oi := ?o27) (v := ?v27) ?h27 ?q27 ?y27 hS ?_; (case h27 => (simp only [gqA, gqB, gqC]; rfl)); (case q27 => exact fun _ _ _ h => h); (case y27 => (refine Or.inl ⟨by kernel_rfl, ?_⟩; intro wq hSq; clear hSq; go_simp; (try with_reducible rfl))); simp only [Act.put, List.setIfInBounds_toArray, List.set_cons_zero, List.set_cons_succ]
      refine tkQ (i := 27) (oi := ?o28) (v := ?v28) ?h28 ?q28 ?y28 hS ?_; (case h28 => (simp only [gqA, gqB, gqC]; rfl)); (case q28 => exact fun _ _ _ h => h); (case y28 => (refine Or.inl ⟨by kernel_rfl, ?_⟩; intro wq hSq; clear hSq; go_simp; (try with_reducible rfl))); simp only [Act.put, List.setIfInBounds_toArray, List.set_cons_zero, List.set_cons_succ]
      refine tkQ (i := 28) (oi := ?o29) (v := ?v29) ?h29 ?q29 ?y29 hS ?_; (case h29 => (simp only [gqA, gqB, gqC]; rfl)); (case q29 => exact fun _ _ _ h => h); (case y29 => (refine Or.inl ⟨by kernel_rfl, ?_⟩; intro wq hSq; have hf0 := cell_new hSq a0; have hf1 := cell_new hSq a1; have hf2 := cell_new hSq a2; have hf3 := cell_new hSq a3; have hf4 := cell_new hSq a4; have hf5 := cell_new hSq a5; have hf6 := cell_new hSq a6; have hf7 := cell_new hSq a7; have hf8 := cell_new hSq b0; have hf9 := cell_new hSq b1; have hf10 := cell_new hSq b2; have hf11 := cell_new hSq b3; have hf12 := cell_new hSq b4; have hf13 := cell_new hSq b5; have hf14 := cell_new hSq b6; have hf15 := cell_new hSq b7; have hf16 := cell_new hSq c0; have hf17 := cell_new hSq c1; have hf18 := cell_new hSq c2; have hf19 := cell_new hSq c3; have hf20 := cell_new hSq c4; have hf21 := cell_new hSq c5; have hf22 := cell_new hSq c6; have hf23 := cell_new hSq c7; have hf24 := cell_new hSq d0; have hf25 := cell_new hSq d1; have hf26 := cell_new hSq d2; have hf27 := cell_new hSq d3; have hf28 := cell_new hSq d4; have hf29 := cell_new hSq d5; have hf30 := cell_new hSq d6; have hf31 := cell_new hSq d7; clear hSq; go_simp; (try with_reducible rfl))); simp only [Act.put, List.setIfInBounds_toArray, List.set_cons_zero, List.set_cons_succ]
      refine wpAnyH_ready (rs := [29]) (by kernel_rfl) (by simp) ?_
      refine AllReadyH.cons (o := ?oi30) ?hi30 (fun K hK => ?_) AllReadyH.nil
      case hi30 => (simp only [gqA, gqB, gqC]; rfl)
      go_simp
      with_reducible refine (HCK.out _ (k5.trans hS)).mono ?_
      rintro e w7 ⟨rfl, k7⟩
      refine hK.out _ _ (hS.trans k7) (fun hS => ?_)
      clear hK K
      refine tkQ (i := 30) (oi := ?o31) (v := ?v31) ?h31 ?q31 ?y31 hS ?_; (case h31 => (simp only [gqA, gqB, gqC]; rfl)); (case q31 => exact fun _ _ _ h => h); (case y31 => (refine Or.inl ⟨by kernel_rfl, ?_⟩; intro wq hSq; clear hSq; go_simp; (try with_reducible rfl))); simp only [Act.put, List.setIfInBounds_toArray, List.set_cons_zero, List.set_cons_succ]
      refine tkQ (i := 31) (oi := ?o32) (v := ?v32) ?h32 ?q32 ?y32 hS ?_; (case h32 => (simp only [gqA, gqB, gqC]; rfl)); (case q32 => exact fun _ _ _ h => h); (case y32 => (refine Or.inl ⟨by kernel_rfl, ?_⟩; intro wq hSq; clear hSq; go_simp; (try with_reducible rfl))); simp only [Act.put, List.setIfInBounds_toArray, List.set_cons_zero, List.set_cons_succ]
      refine tkQ (i := 32) (oi := ?o33) (v := ?v33) ?h33 ?q33 ?y33 hS ?_; (case h33 => (simp only [gqA, gqB, gqC]; rfl)); (case q33 => exact fun _ _ _ h => h); (case y33 => (refine Or.inl ⟨by kernel_rfl, ?_⟩; intro wq hSq; clear hSq; go_simp; (try with_reducible rfl))); simp only [Act.put, List.setIfInBounds_toArray, List.set_cons_zero, List.set_cons_succ]
      refine tkQ (i := 33) (oi := ?o34) (v := ?v34) ?h34 ?q34 ?y34 hS ?_; (case h34 => (simp only [gqA, gqB, gqC]; rfl)); (case q34 => exact fun _ _ _ h => h); (case y34 => (refine Or.inl ⟨by kernel_rfl, ?_⟩; intro wq hSq; clear hSq; go_simp; (try with_reducible rfl))); simp only [Act.put, List.setIfInBounds_toArray, List.set_cons_zero, List.set_cons_succ]
      refine tkQ (i := 34) (oi := ?o35) (v := ?v35) ?h35 ?q35 ?y35 hS ?_; (case h35 => (simp only [gqA, gqB, gqC]; rfl)); (case q35 => exact fun _ _ _ h => h); (case y35 => (refine Or.inl ⟨by kernel_rfl, ?_⟩; intro wq hSq; have hf0 := cell_new hSq a0; have hf1 := cell_new hSq a1; have hf2 := cell_new hSq a2; have hf3 := cell_new hSq a3; have hf4 := cell_new hSq a4; have hf5 := cell_new hSq a5; have hf6 := cell_new hSq a6; have hf7 := cell_new hSq a7; have hf8 := cell_new hSq b0; have hf9 := cell_new hSq b1; have hf10 := cell_new hSq b2; have hf11 := cell_new hSq b3; have hf12 := cell_new hSq b4; have hf13 := cell_new hSq b5; have hf14 := cell_new hSq b6; have hf15 := cell_new hSq b7; have hf16 := cell_new hSq c0; have hf17 := cell_new hSq c1; have hf18 := cell_new hSq c2; have hf19 := cell_new hSq c3; have hf20 := cell_new hSq c4; have hf21 := cell_new hSq c5; have hf22 := cell_new hSq c6; have hf23 := cell_new hSq c7; have hf24 := cell_new hSq d0; have hf25 := cell_new hSq d1; have hf26 := cell_new hSq d2; have hf27 := cell_new hSq d3; have hf28 := cell_new hSq d4; have hf29 := cell_new hSq d5; have hf30 := cell_new hSq d6; have hf31 := cell_new hSq d7; clear hSq; go_simp; (try with_reducible rfl))); simp only [Act.put, List.setIfInBounds_toArray, List.set_cons_zero, List.set_cons_succ]
      refine tkQ (i := 35) (oi := ?o36) (v := ?v36) ?h36 ?q36 ?y36 hS ?_; (case h36 => (simp only [gqA, gqB, gqC]; rfl)); (case q36 => exact fun _ _ _ h => h); (case y36 => (refine Or.inl ⟨by kernel_rfl, ?_⟩; intro wq hSq; clear hSq; go_simp; (try with_reducible rfl))); simp only [Act.put, List.setIfInBounds_toArray, List.set_cons_zero, List.set_cons_succ]
      refine tkQ (i := 36) (oi := ?o37) (v := ?v37) ?h37 ?q37 ?y37 hS ?_; (case h37 => (simp only [gqA, gqB, gqC]; rfl)); (case q37 => exact fun _ _ _ h => h); (case y37 => (refine Or.inl ⟨by kernel_rfl, ?_⟩; intro wq hSq; clear hSq; go_simp; (try with_reducible rfl))); simp only [Act.put, List.setIfInBounds_toArray, List.set_cons_zero, List.set_cons_succ]
      refine tkQ (i := 37) (oi := ?o38) (v := ?v38) ?h38 ?q38 ?y38 hS ?_; (case h38 => (simp only [gqA, gqB, gqC]; rfl)); (case q38 => exact fun _ _ _ h => h); (case y38 => (refine Or.inl ⟨by kernel_rfl, ?_⟩; intro wq hSq; have hf0 := cell_new hSq a0; have hf1 := cell_new hSq a1; have hf2 := cell_new hSq a2; have hf3 := cell_new hSq a3; have hf4 := cell_new hSq a4; have hf5 := cell_new hSq a5; have hf6 := cell_new hSq a6; have hf7 := cell_new hSq a7; have hf8 := cell_new hSq b0; have hf9 := cell_new hSq b1; have hf10 := cell_new hSq b2; have hf11 := cell_new hSq b3; have hf12 := cell_new hSq b4; have hf13 := cell_new hSq b5; have hf14 := cell_new hSq b6; have hf15 := cell_new hSq b7; have hf16 := cell_new hSq c0; have hf17 := cell_new hSq c1; have hf18 := cell_new hSq c2; have hf19 := cell_new hSq c3; have hf20 := cell_new hSq c4; have hf21 := cell_new hSq c5; have hf22 := cell_new hSq c6; have hf23 := cell_new hSq c7; have hf24 := cell_new hSq d0; have hf25 := cell_new hSq d1; have hf26 := cell_new hSq d2; have hf27 := cell_new hSq d3; have hf28 := cell_new hSq d4; have hf29 := cell_new hSq d5; have hf30 := cell_new hSq d6; have hf31 := cell_new hSq d7; clear hSq; go_simp; (try with_reducible rfl))); simp only [Act.put, List.setIfInBounds_toArray, List.set_cons_zero, List.set_cons_succ]
      refine tkQ (i := 38) (oi := ?o39) (v := ?v39) ?h39 ?q39 ?y39 hS ?_; (case h39 => (simp only [gqA, gqB, gqC]; rfl)); (case q39 => exact fun _ _ _ h => h); (case y39 => (refine Or.inl ⟨by kernel_rfl, ?_⟩; intro wq hSq; clear hSq; go_simp; (try with_reducible rfl))); simp only [Act.put, List.setIfInBounds_toArray, List.set_cons_zero, List.set_cons_succ]
      refine tkQ (i := 39) (oi := ?o40) (v := ?v40) ?h40 ?q40 ?y40 hS ?_; (case h40 => (simp only [gqA, gqB, gqC]; rfl)); (case q40 => exact fun _ _ _ h => h); (case y40 => (refine Or.inl ⟨by kernel_rfl, ?_⟩; intro wq hSq; clear hSq; go_simp; (try with_reducible rfl))); simp only [Act.put, List.setIfInBounds_toArray, List.set_cons_zero, List.set_cons_succ]
      refine tkQ (i := 40) (oi := ?o41) (v := ?v41) ?h41 ?q41 ?y41 hS ?_; (case h41 => (simp only [gqA, gqB, gqC]; rfl)); (case q41 => exact fun _ _ _ h => h); (case y41 => (refine Or.inl ⟨by kernel_rfl, ?_⟩; intro wq hSq; clear hSq; go_simp; (try with_reducible rfl))); simp only [Act.put, List.setIfInBounds_toArray, List.set_cons_zero, List.set_cons_succ]
      refine tkQ (i := 41) (oi := ?o42) (v := ?v42) ?h42 ?q42 ?y42 hS ?_; (case h42 => (simp only [gqA, gqB, gqC]; rfl)); (case q42 => exact fun _ _ _ h => h); (case y42 => (refine Or.inl ⟨by kernel_rfl, ?_⟩; intro wq hSq; clear hSq; go_simp; (try with_reducible rfl))); simp only [Act.put, List.setIfInBounds_toArray, List.set_cons_zero, List.set_cons_succ]
      refine tkQ (i := 42) (oi := ?o43) (v := ?v43) ?h43 ?q43 ?y43 hS ?_; (case h43 => (simp only [gqA, gqB, gqC]; rfl)); (case q43 => exact fun _ _ _ h => h); (case y43 => (refine Or.inl ⟨by kernel_rfl, ?_⟩; intro wq hSq; clear hSq; go_simp; (try with_reducible rfl))); simp only [Act.put, List.setIfInBounds_toArray, List.set_cons_zero, List.set_cons_succ]
      refine tkQ (i := 43) (oi := ?o44) (v := ?v44) ?h44 ?q44 ?y44 hS ?_; (case h44 => (simp only [gqA, gqB, gqC]; rfl)); (case q44 => exact fun _ _ _ h => h); (case y44 => (refine Or.inl ⟨by kernel_rfl, ?_⟩; intro wq hSq; have hf0 := cell_new hSq a0; have hf1 := cell_new hSq a1; have hf2 := cell_new hSq a2; have hf3 := cell_new hSq a3; have hf4 := cell_new hSq a4; have hf5 := cell_new hSq a5; have hf6 := cell_new hSq a6; have hf7 := cell_new hSq a7; have hf8 := cell_new hSq b0; have hf9 := cell_new hSq b1; have hf10 := cell_new hSq b2; have hf11 := cell_new hSq b3; have hf12 := cell_new hSq b4; have hf13 := cell_new hSq b5; have hf14 := cell_new hSq b6; have hf15 := cell_new hSq b7; have hf16 := cell_new hSq c0; have hf17 := cell_new hSq c1; have hf18 := cell_new hSq c2; have hf19 := cell_new hSq c3; have hf20 := cell_new hSq c4; have hf21 := cell_new hSq c5; have hf22 := cell_new hSq c6; have hf23 := cell_new hSq c7; have hf24 := cell_new hSq d0; have hf25 := cell_new hSq d1; have hf26 := cell_new hSq d2; have hf27 := cell_new hSq d3; have hf28 := cell_new hSq d4; have hf29 := cell_new hSq d5; have hf30 := cell_new hSq d6; have hf31 := cell_new hSq d7; clear hSq; go_simp; (try with_reducible rfl))); simp only [Act.put, List.setIfInBounds_toArray, List.set_cons_zero, List.set_cons_succ]
      refine tkQ (i := 44) (oi := ?o45) (v := ?v45) ?h45 ?q45 ?y45 hS ?_; (case h45 => (simp only [gqA, gqB, gqC]; rfl)); (case q45 => exact fun _ _ _ h => h); (case y45 => (refine Or.inl ⟨by kernel_rfl, ?_⟩; intro wq hSq; clear hSq; go_simp; (try with_reducible rfl))); simp only [Act.put, List.setIfInBounds_toArray, List.set_cons_zero, List.set_cons_succ]
      refine tkQ (i := 45) (oi := ?o46) (v := ?v46) ?h46 ?q46 ?y46 hS ?_; (case h46 => (simp only [gqA, gqB, gqC]; rfl)); (case q46 => exact fun _ _ _ h => h); (case y46 => (refine Or.inl ⟨by kernel_rfl, ?_⟩; intro wq hSq; have hf0 := cell_new hSq a0; have hf1 := cell_new hSq a1; have hf2 := cell_new hSq a2; have hf3 := cell_new hSq a3; have hf4 := cell_new hSq a4; have hf5 := cell_new hSq a5; have hf6 := cell_new hSq a6; have hf7 := cell_new hSq a7; have hf8 := cell_new hSq b0; have hf9 := cell_new hSq b1; have hf10 := cell_new hSq b2; have hf11 := cell_new hSq b3; have hf12 := cell_new hSq b4; have hf13 := cell_new hSq b5; have hf14 := cell_new hSq b6; have hf15 := cell_new hSq b7; have hf16 := cell_new hSq c0; have hf17 := cell_new hSq c1; have hf18 := cell_new hSq c2; have hf19 := cell_new hSq c3; have hf20 := cell_new hSq c4; have hf21 := cell_new hSq c5; have hf22 := cell_new hSq c6; have hf23 := cell_new hSq c7; have hf24 := cell_new hSq d0; have hf25 := cell_new hSq d1; have hf26 := cell_new hSq d2; have hf27 := cell_new hSq d3; have hf28 := cell_new hSq d4; have hf29 := cell_new hSq d5; have hf30 := cell_new hSq d6; have hf31 := cell_new hSq d7; clear hSq; go_simp; (try with_reducible rfl))); simp only [Act.put, List.setIfInBounds_toArray, List.set_cons_zero, List.set_cons_succ]
      refine tkQ (i := 46) (oi := ?o47) (v := ?v47) ?h47 ?q47 ?y47 hS ?_; (case h47 => (simp only [gqA, gqB, gqC]; rfl)); (case q47 => exact fun _ _ _ h => h); (case y47 => (refine Or.inl ⟨by kernel_rfl, ?_⟩; intro wq hSq; clear hSq; go_simp; (try with_reducible rfl))); simp only [Act.put, List.setIfInBounds_toArray, List.set_cons_zero, List.set_cons_succ]
      refine tkQ (i := 47) (oi := ?o48) (v := ?v48) ?h48 ?q48 ?y48 hS ?_; (case h48 => (simp only [gqA, gqB, gqC]; rfl)); (case q48 => exact fun _ _ _ h => h); (case y48 => (refine Or.inl ⟨by kernel_rfl, ?_⟩; intro wq hSq; clear hSq; go_simp; (try with_reducible rfl))); simp only [Act.put, List.setIfInBounds_toArray, List.set_cons_zero, List.set_cons_succ]
      refine tkQ (i := 48) (oi := ?o49) (v := ?v49) ?h49 ?q49 ?y49 hS ?_; (case h49 => (simp only [gqA, gqB, gqC]; rfl)); (case q49 => exact fun _ _ _ h => h); (case y49 => (refine Or.inl ⟨by kernel_rfl, ?_⟩; intro wq hSq; clear hSq; go_simp; (try with_reducible rfl))); simp only [Act.put, List.setIfInBounds_toArray, List.set_cons_zero, List.set_cons_succ]
      refine tkQ (i := 49) (oi := ?o50) (v := ?v50) ?h50 ?q50 ?y50 hS ?_; (case h50 => (simp only [gqA, gqB, gqC]; rfl)); (case q50 => exact fun _ _ _ h => h); (case y50 => (refine Or.inl ⟨by kernel_rfl, ?_⟩; intro wq hSq; have hf0 := cell_new hSq a0; have hf1 := cell_new hSq a1; have hf2 := cell_new hSq a2; have hf3 := cell_new hSq a3; have hf4 := cell_new hSq a4; have hf5 := cell_new hSq a5; have hf6 := cell_new hSq a6; have hf7 := cell_new hSq a7; have hf8 := cell_new hSq b0; have hf9 := cell_new hSq b1; have hf10 := cell_new hSq b2; have hf11 := cell_new hSq b3; have hf12 := cell_new hSq b4; have hf13 := cell_new hSq b5; have hf14 := cell_new hSq b6; have hf15 := cell_new hSq b7; have hf16 := cell_new hSq c0; have hf17 := cell_new hSq c1; have hf18 := cell_new hSq c2; have hf19 := cell_new hSq c3; have hf20 := cell_new hSq c4; have hf21 := cell_new hSq c5; have hf22 := cell_new hSq c6; have hf23 := cell_new hSq c7; have hf24 := cell_new hSq d0; have hf25 := cell_new hSq d1; have hf26 := cell_new hSq d2; have hf27 := cell_new hSq d3; have hf28 := cell_new hSq d4; have hf29 := cell_new hSq d5; have hf30 := cell_new hSq d6; have hf31 := cell_new hSq d7; clear hSq; go_simp; (try with_reducible rfl))); simp only [Act.put, List.setIfInBounds_toArray, List.set_cons_zero, List.set_cons_succ]
      refine wpAnyH_ready (rs := [50]) (by kernel_rfl) (by simp) ?_
      refine AllReadyH.cons (o := ?oi51) ?hi51 (fun K hK => ?_) AllReadyH.nil
      case hi51 => (simp only [gqA, gqB, gqC]; rfl)
      go_simp
      with_reducible refine (HEQ.out _ (k5.trans hS)).mono ?_
      rintro e w8 ⟨rfl, k8⟩
      refine hK.out _ _ (hS.trans k8) (fun hS => ?_)
      clear hK K
      refine tkQ (i := 51) (oi := ?o52) (v := ?v52) ?h52 ?q52 ?y52 hS ?_; (case h52 => (simp only [gqA, gqB, gqC]; rfl)); (case q52 => exact fun _ _ _ h => h); (case y52 => (refine Or.inl ⟨by kernel_rfl, ?_⟩; intro wq hSq; clear hSq; go_simp; (try with_reducible rfl))); simp only [Act.put, List.setIfInBounds_toArray, List.set_cons_zero, List.set_cons_succ]
      refine tkQ (i := 52) (oi := ?o53) (v := ?v53) ?h53 ?q53 ?y53 hS ?_; (case h53 => (simp only [gqA, gqB, gqC]; rfl)); (case q53 => exact fun _ _ _ h => h); (case y53 => (refine Or.inl ⟨by kernel_rfl, ?_⟩; intro wq hSq; clear hSq; go_simp; (try with_reducible rfl))); simp only [Act.put, List.setIfInBounds_toArray, List.set_cons_zero, List.set_cons_succ]
      refine wpAnyH_done (by kernel_rfl) ?_ _
      go_wp2
      go_ret
      exact ⟨rfl, nA.trans (k5.trans hS)⟩
end Go.Proofs.YtnknmpcgbfmfjaaGreatDoor

