/- Attach of the reference. Conditions: sizes. (Printed by mk-a2.py.) -/
import Derived.Test.YtnknmpcgbfmfjaaGreatDoorGBase
import Derived.Test.YtnknmpcgbfmfjaaGreatDoorGA1
import Derived.Test.YtnknmpcgbfmfjaaGreatDoorGX
import Derived.Deep.DeepCutAuto
import Derived.Deep.Cut
import Derived.Deep.RegionHeld3

namespace Go.Proofs.YtnknmpcgbfmfjaaGreatDoor
open Go Go.RowKit Go.Joins
set_option linter.unusedSimpArgs false
set_option linter.unusedVariables false
theorem wp_run_app {P : Program} {o : Oper} {a : Act} {w : World} {K : Act → World → Prop} {Q : Exit → Act → World → Prop} (s x : Operand) (t : TypeId)
    (ho : o.op = .call { callee := .builtin .append, args := #[s, x], argTypes := #[t, t] }) {v vx v' : Value} {w' : World} (hs : a.eval s = v) (hx : a.eval x = vx)
    (hrun : (Builtin.append_ #[t, t] o.type #[v, vx]).run P w = .ok v' w') (h : K (a.put o.dst v') w') : o.wp P a w K Q := by
  unfold Oper.wp execOp
  simp only [ho, resolve, invoke, builtin, Sem.run_bind, Sem.run_pure, Result.andThen_ok, List.map_toArray, List.map_cons, List.map_nil, hs, hx, hrun]
  exact h
theorem run_app_nt {w : World} (ty : TypeId) (base : Nat) (v : Value) (n : Nat) (xs : List Value) (hown : w.ownsRow base 40 2 v n xs) (A : Option Addr) (m c : Nat) (l : List NtD) (hr : Rd w 2 A m (l.flatMap ntC)) (h63 : n + m ≤ 1000000000) (hbase : base ≤ w.heap.size) :
    ∃ v' w', (Builtin.append_ #[26, 26] ty #[v, .slice A m c]).run Tryz.prog w = .ok v' w' ∧ w'.ownsRow base 40 2 v' (n + m) (xs ++ l.flatMap ntC) ∧ w.grownBy w' v.ownBlock := by
  obtain ⟨j0, hi0, hz0, hz1, hz2⟩ := info_parts Tryz.info40x
  by_cases hm : 0 < m
  · obtain ⟨b, q, rfl, hb, hc⟩ := hr.2 hm
    obtain ⟨v', w', h1, h2, h3, _, _⟩ := run_append_own_at (P := Tryz.prog) w base 26 ty 40 j0 (.agg #[.string ByteArray.empty, .string ByteArray.empty]) 2 32 Tryz.underlying26 hi0 hz0 hz1 hz2 rfl (by decide) v n xs hown ⟨b, q, none⟩ m c (l.flatMap ntC) hr.1 (fun j u hu => by
      have hadd : (⟨b, q, none⟩ : Addr).add j = ⟨b, q + j, none⟩ := by unfold Addr.add; split <;> simp_all
      rw [hadd]; exact hc j u hu) (nt_one l)
      (by simp only [maxLen]; omega) (by omega) hbase
    exact ⟨v', w', h1, h2, h3⟩
  · obtain rfl : m = 0 := by omega
    have hw : l.flatMap ntC = [] := by have := hr.1; exact List.eq_nil_of_length_eq_zero (by omega)
    exact ⟨v, w, app_nothingnt hown A c ty, by rw [hw, List.append_nil]; exact hown, ⟨rfl, rfl, rfl, Nat.le_refl _, fun _ _ _ => rfl⟩⟩

theorem rd_go {w w' : World} {k n : Nat} {A : Option Addr} {xs : List Value} {row : Option Nat} (h : Rd w k A n xs) (hg : w.grownBy w' row) (hA : ∀ a, A = some a → some a.block ≠ row) : Rd w' k A n xs :=
  ⟨h.1, fun hn => by
    obtain ⟨b, o, e, hb, hc⟩ := h.2 hn
    exact ⟨b, o, e, Nat.lt_of_lt_of_le hb hg.size, fun j u hu => (World.cell?_of_block (hg.block b hb (hA _ e))).trans (hc j u hu)⟩⟩
theorem far_ne {A : Option Addr} {n g : Nat} (h : ∀ a, A = some a → n ≤ a.block) (hg : g < n) : ∀ a, A = some a → a.block ≠ g := fun a ha => by have := h a ha; omega
theorem brd_old {v w w' : World} {b : Bn} {h : BH} {row : Option Nat} (h0 : BRd v b h) (r : BRd w b h) (hg : w.grownBy w' row) (hrow : ∀ r, row = some r → v.heap.size ≤ r) : BRd w' b h :=
  ⟨rd_grown r.r1 hg (fun hn a ha => rd_lt h0.r1 hn a ha) hrow, rd_grown r.r2 hg (fun hn a ha => rd_lt h0.r2 hn a ha) hrow, rd_grown r.r3 hg (fun hn a ha => rd_lt h0.r3 hn a ha) hrow, rd_grown r.r4 hg (fun hn a ha => rd_lt h0.r4 hn a ha) hrow, rd_grown r.r5 hg (fun hn a ha => rd_lt h0.r5 hn a ha) hrow⟩
theorem rd_set_old {w W : World} {k n : Nat} {A : Option Addr} {xs : List Value} (h0 : Rd w k A n xs) (h : Rd W k A n xs) {p : Addr} (hp : w.heap.size ≤ p.block) (v : Value) : Rd (W.setCell p v) k A n xs :=
  ⟨h.1, fun hn => by
    obtain ⟨b, o, rfl, hb, _⟩ := h0.2 hn
    exact (h.setFar (fun a ha => by injection ha with ha; rw [← ha]; show b ≠ p.block; omega) v).2 hn⟩
theorem rd_set8_old {w W : World} {k n g : Nat} {A : Option Addr} {xs : List Value} {v0 v1 v2 v3 v4 v5 v6 v7 : Value} (h0 : Rd w k A n xs) (h : Rd W k A n xs) (hp : w.heap.size ≤ g) : Rd (set8 W g v0 v1 v2 v3 v4 v5 v6 v7) k A n xs :=
  ⟨h.1, fun hn => by
    obtain ⟨b, o, rfl, hb, _⟩ := h0.2 hn
    exact (set8_rd h (fun a ha => by injection ha with ha; rw [← ha]; show b ≠ g; omega)).2 hn⟩
theorem att_rd {w W : World} {g : Nat} {v : Value} {n : NtD} {kind entry : Int} {image : ByteArray} {places : List PlD} {fix : List Int} {imps : List ImD} {exps : List ExD} {notes : List NtD} {a1 a2 a3 a4 a5 A6 : Option Addr} {c1 c2 c3 c4 c5 C6 : Nat}
    (h0 : BRd w ⟨kind, entry, image, places, fix, imps, exps, notes⟩ ⟨a1, c1, a2, c2, a3, c3, a4, c4, a5, c5⟩) (h : BRd W ⟨kind, entry, image, places, fix, imps, exps, notes⟩ ⟨a1, c1, a2, c2, a3, c3, a4, c4, a5, c5⟩) (hg : w.heap.size ≤ g)
    (h6 : Rd W 2 A6 (notes.length + 1) (notes.flatMap ntC ++ [n].flatMap ntC)) (hA : ∀ a, A6 = some a → a.block ≠ g) : BRd (W.setCell ⟨g, 7, none⟩ v) ⟨kind, entry, image, places, fix, imps, exps, notes ++ [n]⟩ ⟨a1, c1, a2, c2, a3, c3, a4, c4, A6, C6⟩ := by
  refine ⟨rd_set_old h0.r1 h.r1 hg v, rd_set_old h0.r2 h.r2 hg v, rd_set_old h0.r3 h.r3 hg v, rd_set_old h0.r4 h.r4 hg v, ?_⟩
  have e1 : (notes ++ [n]).length = notes.length + 1 := by simp
  have e2 : (notes ++ [n]).flatMap ntC = notes.flatMap ntC ++ [n].flatMap ntC := List.flatMap_append
  simp only
  rw [e1, e2]
  exact h6.setFar hA v
theorem att_rd8 {w W : World} {g : Nat} {n : NtD} {kind entry : Int} {image : ByteArray} {places : List PlD} {fix : List Int} {imps : List ImD} {exps : List ExD} {notes : List NtD} {a1 a2 a3 a4 a5 A6 : Option Addr} {c1 c2 c3 c4 c5 C6 : Nat} {v0 v1 v2 v3 v4 v5 v6 v7 : Value}
    (h0 : BRd w ⟨kind, entry, image, places, fix, imps, exps, notes⟩ ⟨a1, c1, a2, c2, a3, c3, a4, c4, a5, c5⟩) (h : BRd W ⟨kind, entry, image, places, fix, imps, exps, notes ++ [n]⟩ ⟨a1, c1, a2, c2, a3, c3, a4, c4, A6, C6⟩) (hg : w.heap.size ≤ g)
    (hA : ∀ a, A6 = some a → a.block ≠ g) : BRd (set8 W g v0 v1 v2 v3 v4 v5 v6 v7) ⟨kind, entry, image, places, fix, imps, exps, notes ++ [n]⟩ ⟨a1, c1, a2, c2, a3, c3, a4, c4, A6, C6⟩ :=
  ⟨rd_set8_old h0.r1 h.r1 hg, rd_set8_old h0.r2 h.r2 hg, rd_set8_old h0.r3 h.r3 hg, rd_set8_old h0.r4 h.r4 hg, set8_rd h.r5 hA⟩
theorem check_notes {b : Bn} (h : checkV b = true) : b.notes.length ≤ 64 := by
  unfold checkV at h
  simp only [Bool.and_eq_true] at h
  have := h.1.2
  unfold notedV at this
  simp only [Bool.and_eq_true, decide_eq_true_eq] at this
  exact this.2
set_option maxRecDepth 100000 in
set_option maxHeartbeats 16000000 in
theorem rattach_any (b : Bn) (h : BH) (n : NtD) (w : World) (hr : BRd w b h) (hz : SzB b) :
    Calls Tryz.prog 20 #[.agg (bcells b h), .agg #[.string n.name, .string n.text]] w (AttP b n w) := by
  have HN := Lib.hid (fun W (hn : New w W) => rnote_any b h n.name W (hr.new hn) hz.l5)
  have HC := Lib.hid (fun W (hn : New w W) => rcheck_any b h W (hr.new hn) hz)
  have hce : chkE b = if checkV b = true then 0 else 1 := rfl
  rw [hce] at HC
  have HNM := Lib.hid (fun W => rname_any n.name W)
  have HNO := Lib.hid (fun (c : Int) (hv : attachV b n = (zB, c)) e w' he hn => att_no (w := w) (e := e) (w' := w') hv he hn)
  have HYES := Lib.hid (fun (h' : BH) (m : Nat) (hm : m = b.notes.length + 1) (hv : attachV b n = ({ b with notes := b.notes ++ [n] }, 0)) e w' he hr hn => att_yes (b := b) (n := n) (w := w) (e := e) (w' := w') h' m hm hv he hr hn)
  have H64 := Lib.hid (fun q : checkV b = true => check_notes q)
  have HR := Lib.hid hr
  obtain ⟨cv, hcv⟩ : ∃ v, checkV b = v := ⟨_, rfl⟩
  obtain ⟨nv, hnv⟩ : ∃ v, nameV n.name = v := ⟨_, rfl⟩
  obtain ⟨⟨pt, pv⟩, hpv⟩ : ∃ v, noteV b.notes n.name = v := ⟨_, rfl⟩
  rw [hcv] at HC H64
  rw [hnv] at HNM
  rw [hpv] at HN
  simp only at HN
  have HV := Lib.hid (And.intro hcv (And.intro hnv hpv))
  have h5 := hz.l5
  generalize hP : AttP b n w = PP at *
  clear hce hcv hnv hpv hr hz hP
  obtain ⟨kind, entry, image, places, fix, imps, exps, notes⟩ := b
  obtain ⟨a1, c1, a2, c2, a3, c3, a4, c4, a5, c5⟩ := h
  obtain ⟨nm, tx⟩ := n
  simp only [bcells] at HN HC HNM HNO HYES HV h5 H64 ⊢
  obtain ⟨n1, hn1⟩ : ∃ n, places.length = n := ⟨_, rfl⟩
  obtain ⟨n2, hn2⟩ : ∃ n, fix.length = n := ⟨_, rfl⟩
  obtain ⟨n3, hn3⟩ : ∃ n, imps.length = n := ⟨_, rfl⟩
  obtain ⟨n4, hn4⟩ : ∃ n, exps.length = n := ⟨_, rfl⟩
  obtain ⟨n5, hn5⟩ : ∃ n, notes.length = n := ⟨_, rfl⟩
  rw [hn1, hn2, hn3, hn4, hn5] at HC HN HYES ⊢
  rw [hn5] at h5 H64
  have HL : Hid (places.length = n1 ∧ fix.length = n2 ∧ imps.length = n3 ∧ exps.length = n4 ∧ notes.length = n5) := Lib.hid ⟨hn1, hn2, hn3, hn4, hn5⟩
  clear hn1 hn2 hn3 hn4 hn5
  have BX := Lib.hid (((Blk.made w 28 #[.int .i64 kind, .int .i64 entry, .string image, .slice a1 n1 c1, .slice a2 n2 c2, .slice a3 n3 c3, .slice a4 n4 c4, .slice a5 n5 c5]).alloc (.cells #[.string nm, .string tx] 40)).alloc (.cells #[.int .i64 0, .int .i64 0, .string ⟨#[]⟩, .slice none 0 0, .slice none 0 0, .slice none 0 0, .slice none 0 0, .slice none 0 0] 28))
  have q1 := (Blk.made (w.alloc (.cells #[.int .i64 kind, .int .i64 entry, .string image, .slice a1 n1 c1, .slice a2 n2 c2, .slice a3 n3 c3, .slice a4 n4 c4, .slice a5 n5 c5] 28)) 40 #[.string nm, .string tx]).alloc (.cells #[.int .i64 0, .int .i64 0, .string ⟨#[]⟩, .slice none 0 0, .slice none 0 0, .slice none 0 0, .slice none 0 0, .slice none 0 0] 28)
  rw [World.size_alloc] at q1
  have q2 := Blk.made ((w.alloc (.cells #[.int .i64 kind, .int .i64 entry, .string image, .slice a1 n1 c1, .slice a2 n2 c2, .slice a3 n3 c3, .slice a4 n4 c4, .slice a5 n5 c5] 28)).alloc (.cells #[.string nm, .string tx] 40)) 28 #[.int .i64 0, .int .i64 0, .string ⟨#[]⟩, .slice none 0 0, .slice none 0 0, .slice none 0 0, .slice none 0 0, .slice none 0 0]
  rw [World.size_alloc, World.size_alloc] at q2
  have nX := Lib.hid (show New w (((w.alloc (.cells #[.int .i64 kind, .int .i64 entry, .string image, .slice a1 n1 c1, .slice a2 n2 c2, .slice a3 n3 c3, .slice a4 n4 c4, .slice a5 n5 c5] 28)).alloc (.cells #[.string nm, .string tx] 40)).alloc (.cells #[.int .i64 0, .int .i64 0, .string ⟨#[]⟩, .slice none 0 0, .slice none 0 0, .slice none 0 0, .slice none 0 0, .slice none 0 0] 28)) from (((New.refl w).alloc _).alloc _).alloc _)
  have BQ := Lib.hid q1
  have BZ := Lib.hid q2
  clear q1 q2
  go_enter Tryz.func20, Tryz.ntmps20
  go_upto_region 1 with (fail)
  generalize (((w.alloc (.cells #[.int .i64 kind, .int .i64 entry, .string image, .slice a1 n1 c1, .slice a2 n2 c2, .slice a3 n3 c3, .slice a4 n4 c4, .slice a5 n5 c5] 28)).alloc (.cells #[.string nm, .string tx] 40)).alloc (.cells #[.int .i64 0, .int .i64 0, .string ⟨#[]⟩, .slice none 0 0, .slice none 0 0, .slice none 0 0, .slice none 0 0, .slice none 0 0] 28)) = w0 at *
  have x0 := BX.out.cell' 0 _ rfl
  have x1 := BX.out.cell' 1 _ rfl
  have x2 := BX.out.cell' 2 _ rfl
  have x3 := BX.out.cell' 3 _ rfl
  have x4 := BX.out.cell' 4 _ rfl
  have x5 := BX.out.cell' 5 _ rfl
  have x6 := BX.out.cell' 6 _ rfl
  have x7 := BX.out.cell' 7 _ rfl
  have q0 := BQ.out.cell' 0 _ rfl
  have q1 := BQ.out.cell' 1 _ rfl
  go_wp2_with (fail)
  with_reducible refine (HC.out _ nX.out).mono ?_
  rintro e w1 ⟨rfl, k1⟩
  have N1 := Lib.hid (nX.out.trans k1)
  have X1 := BX.out.new k1
  have Q1 := BQ.out.new k1
  have Z1 := BZ.out.new k1
  clear k1 q0 q1 x0 x1 x2 x3 x4 x5 x6 x7
  have x0 := X1.cell' 0 _ rfl
  have x1 := X1.cell' 1 _ rfl
  have x2 := X1.cell' 2 _ rfl
  have x3 := X1.cell' 3 _ rfl
  have x4 := X1.cell' 4 _ rfl
  have x5 := X1.cell' 5 _ rfl
  have x6 := X1.cell' 6 _ rfl
  have x7 := X1.cell' 7 _ rfl
  have q0 := Q1.cell' 0 _ rfl
  have q1 := Q1.cell' 1 _ rfl
  have y0 := Z1.cell' 0 _ rfl
  have y1 := Z1.cell' 1 _ rfl
  have y2 := Z1.cell' 2 _ rfl
  have y3 := Z1.cell' 3 _ rfl
  have y4 := Z1.cell' 4 _ rfl
  have y5 := Z1.cell' 5 _ rfl
  have y6 := Z1.cell' 6 _ rfl
  have y7 := Z1.cell' 7 _ rfl
  have z0 := Z1.free 0
  have z1 := Z1.free 1
  have z2 := Z1.free 2
  have z3 := Z1.free 3
  have z4 := Z1.free 4
  have z5 := Z1.free 5
  have z6 := Z1.free 6
  have z7 := Z1.free 7
  cases cv
  · skip
    (try simp only [Bool.false_eq_true, reduceIte])
    have YZ := Lib.hid (set8_blk (v0 := .int .i64 0) (v1 := .int .i64 0) (v2 := .string ⟨#[]⟩) (v3 := .slice none 0 0) (v4 := .slice none 0 0) (v5 := .slice none 0 0) (v6 := .slice none 0 0) (v7 := .slice none 0 0) (Z1))
    have NZ := Lib.hid (set8_new (g := (w.heap.size + 1 + 1)) (v0 := .int .i64 0) (v1 := .int .i64 0) (v2 := .string ⟨#[]⟩) (v3 := .slice none 0 0) (v4 := .slice none 0 0) (v5 := .slice none 0 0) (v6 := .slice none 0 0) (v7 := .slice none 0 0) (N1.out) (by omega))
    go_wp2
    change bodyPost _ _ _ _ _ (set8 w1 (w.heap.size + 1 + 1) (.int .i64 0) (.int .i64 0) (.string ⟨#[]⟩) (.slice none 0 0) (.slice none 0 0) (.slice none 0 0) (.slice none 0 0) (.slice none 0 0))
    generalize (set8 w1 (w.heap.size + 1 + 1) (.int .i64 0) (.int .i64 0) (.string ⟨#[]⟩) (.slice none 0 0) (.slice none 0 0) (.slice none 0 0) (.slice none 0 0) (.slice none 0 0)) = wZ at *
    have e0 := YZ.out.cell' 0 _ rfl
    have e1 := YZ.out.cell' 1 _ rfl
    have e2 := YZ.out.cell' 2 _ rfl
    have e3 := YZ.out.cell' 3 _ rfl
    have e4 := YZ.out.cell' 4 _ rfl
    have e5 := YZ.out.cell' 5 _ rfl
    have e6 := YZ.out.cell' 6 _ rfl
    have e7 := YZ.out.cell' 7 _ rfl
    exact bodyPost_ret (v := .tuple #[.agg #[.int .i64 0, .int .i64 0, .string ⟨#[]⟩, .slice none 0 0, .slice none 0 0, .slice none 0 0, .slice none 0 0, .slice none 0 0], .int .i64 1]) (by simp [results, Tryz.results20, go_sem, e0, e1, e2, e3, e4, e5, e6, e7]) rfl (HNO.out 1 (by have hv := HV.out; have hl := HL.out.2.2.2.2; simp [attachV, hv.1, hv.2.1, hv.2.2, hl]) _ _ rfl NZ.out)
  (try simp only [reduceIte])
  go_wp2_with (fail)
  with_reducible refine (HNM.out _).mono ?_
  rintro e w2 ⟨rfl, k2⟩
  have N2 := Lib.hid (N1.out.trans k2)
  have X2 := X1.new k2
  have Q2 := Q1.new k2
  have Z2 := Z1.new k2
  clear k2 q0 q1 x0 y0 z0 x1 y1 z1 x2 y2 z2 x3 y3 z3 x4 y4 z4 x5 y5 z5 x6 y6 z6 x7 y7 z7
  have x0 := X2.cell' 0 _ rfl
  have x1 := X2.cell' 1 _ rfl
  have x2 := X2.cell' 2 _ rfl
  have x3 := X2.cell' 3 _ rfl
  have x4 := X2.cell' 4 _ rfl
  have x5 := X2.cell' 5 _ rfl
  have x6 := X2.cell' 6 _ rfl
  have x7 := X2.cell' 7 _ rfl
  have q0 := Q2.cell' 0 _ rfl
  have q1 := Q2.cell' 1 _ rfl
  have y0 := Z2.cell' 0 _ rfl
  have y1 := Z2.cell' 1 _ rfl
  have y2 := Z2.cell' 2 _ rfl
  have y3 := Z2.cell' 3 _ rfl
  have y4 := Z2.cell' 4 _ rfl
  have y5 := Z2.cell' 5 _ rfl
  have y6 := Z2.cell' 6 _ rfl
  have y7 := Z2.cell' 7 _ rfl
  have z0 := Z2.free 0
  have z1 := Z2.free 1
  have z2 := Z2.free 2
  have z3 := Z2.free 3
  have z4 := Z2.free 4
  have z5 := Z2.free 5
  have z6 := Z2.free 6
  have z7 := Z2.free 7
  cases nv
  · skip
    have YZ := Lib.hid (set8_blk (v0 := .int .i64 0) (v1 := .int .i64 0) (v2 := .string ⟨#[]⟩) (v3 := .slice none 0 0) (v4 := .slice none 0 0) (v5 := .slice none 0 0) (v6 := .slice none 0 0) (v7 := .slice none 0 0) (Z2))
    have NZ := Lib.hid (set8_new (g := (w.heap.size + 1 + 1)) (v0 := .int .i64 0) (v1 := .int .i64 0) (v2 := .string ⟨#[]⟩) (v3 := .slice none 0 0) (v4 := .slice none 0 0) (v5 := .slice none 0 0) (v6 := .slice none 0 0) (v7 := .slice none 0 0) (N2.out) (by omega))
    go_wp2
    change bodyPost _ _ _ _ _ (set8 w2 (w.heap.size + 1 + 1) (.int .i64 0) (.int .i64 0) (.string ⟨#[]⟩) (.slice none 0 0) (.slice none 0 0) (.slice none 0 0) (.slice none 0 0) (.slice none 0 0))
    generalize (set8 w2 (w.heap.size + 1 + 1) (.int .i64 0) (.int .i64 0) (.string ⟨#[]⟩) (.slice none 0 0) (.slice none 0 0) (.slice none 0 0) (.slice none 0 0) (.slice none 0 0)) = wZ at *
    have e0 := YZ.out.cell' 0 _ rfl
    have e1 := YZ.out.cell' 1 _ rfl
    have e2 := YZ.out.cell' 2 _ rfl
    have e3 := YZ.out.cell' 3 _ rfl
    have e4 := YZ.out.cell' 4 _ rfl
    have e5 := YZ.out.cell' 5 _ rfl
    have e6 := YZ.out.cell' 6 _ rfl
    have e7 := YZ.out.cell' 7 _ rfl
    exact bodyPost_ret (v := .tuple #[.agg #[.int .i64 0, .int .i64 0, .string ⟨#[]⟩, .slice none 0 0, .slice none 0 0, .slice none 0 0, .slice none 0 0, .slice none 0 0], .int .i64 2]) (by simp [results, Tryz.results20, go_sem, e0, e1, e2, e3, e4, e5, e6, e7]) rfl (HNO.out 2 (by have hv := HV.out; have hl := HL.out.2.2.2.2; simp [attachV, hv.1, hv.2.1, hv.2.2, hl]) _ _ rfl NZ.out)
  go_wp2_with (fail)
  with_reducible refine (HN.out _ N2.out).mono ?_
  rintro e w3 ⟨rfl, k3⟩
  have N3 := Lib.hid (N2.out.trans k3)
  have X3 := X2.new k3
  have Q3 := Q2.new k3
  have Z3 := Z2.new k3
  clear k3 q0 q1 x0 y0 z0 x1 y1 z1 x2 y2 z2 x3 y3 z3 x4 y4 z4 x5 y5 z5 x6 y6 z6 x7 y7 z7
  have x0 := X3.cell' 0 _ rfl
  have x1 := X3.cell' 1 _ rfl
  have x2 := X3.cell' 2 _ rfl
  have x3 := X3.cell' 3 _ rfl
  have x4 := X3.cell' 4 _ rfl
  have x5 := X3.cell' 5 _ rfl
  have x6 := X3.cell' 6 _ rfl
  have x7 := X3.cell' 7 _ rfl
  have q0 := Q3.cell' 0 _ rfl
  have q1 := Q3.cell' 1 _ rfl
  have y0 := Z3.cell' 0 _ rfl
  have y1 := Z3.cell' 1 _ rfl
  have y2 := Z3.cell' 2 _ rfl
  have y3 := Z3.cell' 3 _ rfl
  have y4 := Z3.cell' 4 _ rfl
  have y5 := Z3.cell' 5 _ rfl
  have y6 := Z3.cell' 6 _ rfl
  have y7 := Z3.cell' 7 _ rfl
  have z0 := Z3.free 0
  have z1 := Z3.free 1
  have z2 := Z3.free 2
  have z3 := Z3.free 3
  have z4 := Z3.free 4
  have z5 := Z3.free 5
  have z6 := Z3.free 6
  have z7 := Z3.free 7
  cases pv
  rotate_left
  · skip
    have YZ := Lib.hid (set8_blk (v0 := .int .i64 0) (v1 := .int .i64 0) (v2 := .string ⟨#[]⟩) (v3 := .slice none 0 0) (v4 := .slice none 0 0) (v5 := .slice none 0 0) (v6 := .slice none 0 0) (v7 := .slice none 0 0) (Z3))
    have NZ := Lib.hid (set8_new (g := (w.heap.size + 1 + 1)) (v0 := .int .i64 0) (v1 := .int .i64 0) (v2 := .string ⟨#[]⟩) (v3 := .slice none 0 0) (v4 := .slice none 0 0) (v5 := .slice none 0 0) (v6 := .slice none 0 0) (v7 := .slice none 0 0) (N3.out) (by omega))
    go_wp2
    change bodyPost _ _ _ _ _ (set8 w3 (w.heap.size + 1 + 1) (.int .i64 0) (.int .i64 0) (.string ⟨#[]⟩) (.slice none 0 0) (.slice none 0 0) (.slice none 0 0) (.slice none 0 0) (.slice none 0 0))
    generalize (set8 w3 (w.heap.size + 1 + 1) (.int .i64 0) (.int .i64 0) (.string ⟨#[]⟩) (.slice none 0 0) (.slice none 0 0) (.slice none 0 0) (.slice none 0 0) (.slice none 0 0)) = wZ at *
    have e0 := YZ.out.cell' 0 _ rfl
    have e1 := YZ.out.cell' 1 _ rfl
    have e2 := YZ.out.cell' 2 _ rfl
    have e3 := YZ.out.cell' 3 _ rfl
    have e4 := YZ.out.cell' 4 _ rfl
    have e5 := YZ.out.cell' 5 _ rfl
    have e6 := YZ.out.cell' 6 _ rfl
    have e7 := YZ.out.cell' 7 _ rfl
    exact bodyPost_ret (v := .tuple #[.agg #[.int .i64 0, .int .i64 0, .string ⟨#[]⟩, .slice none 0 0, .slice none 0 0, .slice none 0 0, .slice none 0 0, .slice none 0 0], .int .i64 6]) (by simp [results, Tryz.results20, go_sem, e0, e1, e2, e3, e4, e5, e6, e7]) rfl (HNO.out 6 (by have hv := HV.out; have hl := HL.out.2.2.2.2; simp [attachV, hv.1, hv.2.1, hv.2.2, hl]) _ _ rfl NZ.out)
  have h64 := H64.out (by first | rfl | trivial)
  by_cases g64 : n5 = 64
  · have t1 : decide ((64 : Int) ≤ (n5 : Int)) = true := decide_eq_true (by omega)
    have G64 := Lib.hid g64
    clear g64 h64
    have YZ := Lib.hid (set8_blk (v0 := .int .i64 0) (v1 := .int .i64 0) (v2 := .string ⟨#[]⟩) (v3 := .slice none 0 0) (v4 := .slice none 0 0) (v5 := .slice none 0 0) (v6 := .slice none 0 0) (v7 := .slice none 0 0) (Z3))
    have NZ := Lib.hid (set8_new (g := (w.heap.size + 1 + 1)) (v0 := .int .i64 0) (v1 := .int .i64 0) (v2 := .string ⟨#[]⟩) (v3 := .slice none 0 0) (v4 := .slice none 0 0) (v5 := .slice none 0 0) (v6 := .slice none 0 0) (v7 := .slice none 0 0) (N3.out) (by omega))
    go_wp2
    change bodyPost _ _ _ _ _ (set8 w3 (w.heap.size + 1 + 1) (.int .i64 0) (.int .i64 0) (.string ⟨#[]⟩) (.slice none 0 0) (.slice none 0 0) (.slice none 0 0) (.slice none 0 0) (.slice none 0 0))
    generalize (set8 w3 (w.heap.size + 1 + 1) (.int .i64 0) (.int .i64 0) (.string ⟨#[]⟩) (.slice none 0 0) (.slice none 0 0) (.slice none 0 0) (.slice none 0 0) (.slice none 0 0)) = wZ at *
    have e0 := YZ.out.cell' 0 _ rfl
    have e1 := YZ.out.cell' 1 _ rfl
    have e2 := YZ.out.cell' 2 _ rfl
    have e3 := YZ.out.cell' 3 _ rfl
    have e4 := YZ.out.cell' 4 _ rfl
    have e5 := YZ.out.cell' 5 _ rfl
    have e6 := YZ.out.cell' 6 _ rfl
    have e7 := YZ.out.cell' 7 _ rfl
    exact bodyPost_ret (v := .tuple #[.agg #[.int .i64 0, .int .i64 0, .string ⟨#[]⟩, .slice none 0 0, .slice none 0 0, .slice none 0 0, .slice none 0 0, .slice none 0 0], .int .i64 10]) (by simp [results, Tryz.results20, go_sem, e0, e1, e2, e3, e4, e5, e6, e7]) rfl (HNO.out 10 (by have hv := HV.out; have hl := HL.out.2.2.2.2; simp [attachV, hv.1, hv.2.1, hv.2.2, hl, G64.out]) _ _ rfl NZ.out)
  have t1 : decide ((64 : Int) ≤ (n5 : Int)) = false := decide_eq_false (by omega)
  by_cases gtx : 65536 < tx.size
  · have t2 : decide ((65536 : Int) < (tx.size : Int)) = true := decide_eq_true (by omega)
    have GTX := Lib.hid (And.intro g64 gtx)
    clear g64 h64 gtx
    have YZ := Lib.hid (set8_blk (v0 := .int .i64 0) (v1 := .int .i64 0) (v2 := .string ⟨#[]⟩) (v3 := .slice none 0 0) (v4 := .slice none 0 0) (v5 := .slice none 0 0) (v6 := .slice none 0 0) (v7 := .slice none 0 0) (Z3))
    have NZ := Lib.hid (set8_new (g := (w.heap.size + 1 + 1)) (v0 := .int .i64 0) (v1 := .int .i64 0) (v2 := .string ⟨#[]⟩) (v3 := .slice none 0 0) (v4 := .slice none 0 0) (v5 := .slice none 0 0) (v6 := .slice none 0 0) (v7 := .slice none 0 0) (N3.out) (by omega))
    go_wp2
    change bodyPost _ _ _ _ _ (set8 w3 (w.heap.size + 1 + 1) (.int .i64 0) (.int .i64 0) (.string ⟨#[]⟩) (.slice none 0 0) (.slice none 0 0) (.slice none 0 0) (.slice none 0 0) (.slice none 0 0))
    generalize (set8 w3 (w.heap.size + 1 + 1) (.int .i64 0) (.int .i64 0) (.string ⟨#[]⟩) (.slice none 0 0) (.slice none 0 0) (.slice none 0 0) (.slice none 0 0) (.slice none 0 0)) = wZ at *
    have e0 := YZ.out.cell' 0 _ rfl
    have e1 := YZ.out.cell' 1 _ rfl
    have e2 := YZ.out.cell' 2 _ rfl
    have e3 := YZ.out.cell' 3 _ rfl
    have e4 := YZ.out.cell' 4 _ rfl
    have e5 := YZ.out.cell' 5 _ rfl
    have e6 := YZ.out.cell' 6 _ rfl
    have e7 := YZ.out.cell' 7 _ rfl
    exact bodyPost_ret (v := .tuple #[.agg #[.int .i64 0, .int .i64 0, .string ⟨#[]⟩, .slice none 0 0, .slice none 0 0, .slice none 0 0, .slice none 0 0, .slice none 0 0], .int .i64 10]) (by simp [results, Tryz.results20, go_sem, e0, e1, e2, e3, e4, e5, e6, e7]) rfl (HNO.out 10 (by have hv := HV.out; have hl := HL.out.2.2.2.2; simp [attachV, hv.1, hv.2.1, hv.2.2, hl, GTX.out.1, GTX.out.2]) _ _ rfl NZ.out)
  have t2 : decide ((65536 : Int) < (tx.size : Int)) = false := decide_eq_false (by omega)
  have GT := Lib.hid (And.intro g64 gtx)
  clear y0 z0 y1 z1 y2 z2 y3 z3 y4 z4 y5 z5 y6 z6 y7 z7
  go_upto_region 10 with (fail)
  have D3 := Lib.hid X3.drew
  have E3 := Lib.hid Q3.drew
  have F3 := Lib.hid Z3.drew
  have M3 := Lib.hid (N3.out.drew)
  have RB := Lib.hid (HR.out.new N3.out.drew)
  clear X3 Q3 Z3 q0 q1 x0 x1 x2 x3 x4 x5 x6 x7
  go_cut [] (fun wc => ∃ A6 C6, Blk wc w.heap.size 28 #[.int .i64 kind, .int .i64 entry, .string image, .slice a1 n1 c1, .slice a2 n2 c2, .slice a3 n3 c3, .slice a4 n4 c4, .slice A6 (n5 + 1) C6] ∧ Blk wc (w.heap.size + 1 + 1) 28 #[.int .i64 0, .int .i64 0, .string ⟨#[]⟩, .slice none 0 0, .slice none 0 0, .slice none 0 0, .slice none 0 0, .slice none 0 0] ∧ New w wc ∧ Hid (BRd wc ⟨kind, entry, image, places, fix, imps, exps, notes ++ [⟨nm, tx⟩]⟩ ⟨a1, c1, a2, c2, a3, c3, a4, c4, A6, C6⟩) ∧ Hid (∀ a, A6 = some a → a.block ≠ w.heap.size + 1 + 1))
  case first =>
    refine wp_region_held_drew (S := (fun W => Blk W (w.heap.size + 1) 40 #[.string nm, .string tx])) (by kernel_rfl) E3.out (fun hS => ?_)
    generalize w3.drew = wd at *
    have hlt := F3.out.lt
    skip
    refine tkQ (i := 1) (oi := ?o1) (v := ?v1) ?h1 ?q1 ?y1 hS ?_; (case h1 => (simp only [gqA, gqB, gqC]; rfl)); (case q1 => exact fun _ _ _ h => h); (case y1 => (refine Or.inl ⟨by kernel_rfl, ?_⟩; intro wq hSq; clear hSq; go_simp; (try with_reducible rfl))); simp only [Act.put, List.setIfInBounds_toArray, List.set_cons_zero, List.set_cons_succ]
    refine tkQ (i := 4) (oi := ?o2) (v := ?v2) ?h2 ?q2 ?y2 hS ?_; (case h2 => (simp only [gqA, gqB, gqC]; rfl)); (case q2 => exact fun _ _ _ h => h); (case y2 => (refine Or.inl ⟨by kernel_rfl, ?_⟩; intro wq hSq; have hf0 := hSq.cell' 0 _ rfl; have hf1 := hSq.cell' 1 _ rfl; clear hSq; go_simp; (try with_reducible rfl))); simp only [Act.put, List.setIfInBounds_toArray, List.set_cons_zero, List.set_cons_succ]
    refine wpAnyH_ready (rs := [0, 2, 5]) (by kernel_rfl) (by simp) ?_
    refine AllReadyH.cons (o := ?oi3) ?hi3 (fun K hK => ?_) (AllReadyH.cons (o := ?oi4) ?hi4 (fun K hK => ?_) (AllReadyH.cons (o := ?oi5) ?hi5 (fun K hK => ?_) AllReadyH.nil))
    case hi3 => (simp only [gqA, gqB, gqC]; rfl)
    case hi4 => (simp only [gqA, gqB, gqC]; rfl)
    case hi5 => (simp only [gqA, gqB, gqC]; rfl)
    · skip
      have lb101 : wd.heap.size < (wd.alloc (.cells #[] 40)).heap.size := by rw [World.size_alloc]; exact Nat.lt_succ_self _
      have X101 := D3.out.alloc (.cells #[] 40)
      have Q101 := E3.out.alloc (.cells #[] 40)
      have Z101 := F3.out.alloc (.cells #[] 40)
      have N101 := Lib.hid (M3.out.alloc (.cells #[] 40))
      have R101 := Lib.hid (RB.out.new ((New.refl _).alloc (.cells #[] 40)))
      have own201 : (wd.alloc (.cells #[] 40)).ownsRow wd.heap.size 40 2 (.slice (some ⟨wd.heap.size, 0, none⟩) 0 0) 0 [] := ⟨rfl, .inr ⟨wd.heap.size, 0, #[], rfl, by omega, Blk.made wd 40 #[], Nat.le_refl _, by simp [maxLen], rfl, rfl⟩⟩
      go_simp
      refine hK.out _ _ Q101 (fun hS => ?_)
      clear hK K
      generalize wd.alloc (.cells #[] 40) = w101 at *
      refine wpAnyH_ready (rs := [2, 5]) (by kernel_rfl) (by simp) ?_
      refine AllReadyH.cons (o := ?oi6) ?hi6 (fun K hK => ?_) (AllReadyH.cons (o := ?oi7) ?hi7 (fun K hK => ?_) AllReadyH.nil)
      case hi6 => (simp only [gqA, gqB, gqC]; rfl)
      case hi7 => (simp only [gqA, gqB, gqC]; rfl)
      · skip
        have ld2 := X101.cell' 7 _ rfl
        go_simp
        refine hK.out _ _ Q101 (fun hS => ?_)
        clear hK K ld2
        refine wpAnyH_ready (rs := [3, 5]) (by kernel_rfl) (by simp) ?_
        refine AllReadyH.cons (o := ?oi8) ?hi8 (fun K hK => ?_) (AllReadyH.cons (o := ?oi9) ?hi9 (fun K hK => ?_) AllReadyH.nil)
        case hi8 => (simp only [gqA, gqB, gqC]; rfl)
        case hi9 => (simp only [gqA, gqB, gqC]; rfl)
        · skip
          have RX3 := Lib.hid (show Rd (w101) 2 a5 n5 (notes.flatMap ntC) from by have q := R101.out.r5; simp only [HL.out.2.2.2.2] at q; exact q)
          obtain ⟨v103, w103, hrun103, own103, hg103⟩ := run_app_nt (w := w101) 26 wd.heap.size _ 0 [] own201 a5 n5 c5 notes RX3.out (by omega) (by omega)
          have hrow3 : ∀ r, Value.ownBlock _ = some r → wd.heap.size ≤ r := fun r hr => (own201.lt r hr).1
          have lb103 := hg103.size
          have X103 := X101.grown hg103 (fun he => by have h1 := hrow3 _ he.symm; omega)
          have Q103 := Q101.grown hg103 (fun he => by have h1 := hrow3 _ he.symm; omega)
          have Z103 := Z101.grown hg103 (fun he => by have h1 := hrow3 _ he.symm; omega)
          have N103 : Hid (New w w103) := Lib.hid (Below.grown N101.out hg103 N101.out.size (fun k hk => by have h1 := hrow3 k hk; have h2 := M3.out.size; omega))
          have R103 := Lib.hid (brd_old RB.out R101.out hg103 hrow3)
          rw [if_pos (by rfl)]
          refine wp_run_app (.tmp 37) (.tmp 39) 26 rfl rfl rfl hrun103 ?_
          simp only [Act.put, List.setIfInBounds_toArray, List.set_cons_zero, List.set_cons_succ]
          refine hK.out _ _ Q103 (fun hS => ?_)
          clear hK K hrun103
          refine wpAnyH_ready (rs := [5]) (by kernel_rfl) (by simp) ?_
          refine AllReadyH.cons (o := ?oi10) ?hi10 (fun K hK => ?_) AllReadyH.nil
          case hi10 => (simp only [gqA, gqB, gqC]; rfl)
          have lb104 : w103.heap.size < (w103.alloc (.cells #[.string nm, .string tx] 40)).heap.size := by rw [World.size_alloc]; exact Nat.lt_succ_self _
          have X104 := X103.alloc (.cells #[.string nm, .string tx] 40)
          have Q104 := Q103.alloc (.cells #[.string nm, .string tx] 40)
          have Z104 := Z103.alloc (.cells #[.string nm, .string tx] 40)
          have N104 := Lib.hid (N103.out.alloc (.cells #[.string nm, .string tx] 40))
          have R104 := Lib.hid (R103.out.new ((New.refl _).alloc (.cells #[.string nm, .string tx] 40)))
          have own104 := own103.alloc (.cells #[.string nm, .string tx] 40)
          have rd204 : Rd (w103.alloc (.cells #[.string nm, .string tx] 40)) 2 (some ⟨w103.heap.size, 0, none⟩) 1 ([(⟨nm, tx⟩ : NtD)].flatMap ntC) := blk_one_rd (n := ⟨nm, tx⟩) (Blk.made w103 40 #[.string nm, .string tx])
          go_simp
          refine hK.out _ _ Q104 (fun hS => ?_)
          clear hK K
          generalize w103.alloc (.cells #[.string nm, .string tx] 40) = w104 at *
          refine wpAnyH_ready (rs := [6]) (by kernel_rfl) (by simp) ?_
          refine AllReadyH.cons (o := ?oi11) ?hi11 (fun K hK => ?_) AllReadyH.nil
          case hi11 => (simp only [gqA, gqB, gqC]; rfl)
          obtain ⟨v105, w105, hrun105, own105, hg105⟩ := run_app_nt (w := w104) 26 wd.heap.size _ _ _ own104 _ 1 1 [⟨nm, tx⟩] rd204 (by omega) (by omega)
          have hrow5 : ∀ r, Value.ownBlock _ = some r → wd.heap.size ≤ r := fun r hr => (own104.lt r hr).1
          have lb105 := hg105.size
          have X105 := X104.grown hg105 (fun he => by have h1 := hrow5 _ he.symm; omega)
          have Q105 := Q104.grown hg105 (fun he => by have h1 := hrow5 _ he.symm; omega)
          have Z105 := Z104.grown hg105 (fun he => by have h1 := hrow5 _ he.symm; omega)
          have N105 : Hid (New w w105) := Lib.hid (Below.grown N104.out hg105 N104.out.size (fun k hk => by have h1 := hrow5 k hk; have h2 := M3.out.size; omega))
          have R105 := Lib.hid (brd_old RB.out R104.out hg105 hrow5)
          rw [if_pos (by rfl)]
          refine wp_run_app (.tmp 40) (.tmp 42) 26 rfl rfl rfl hrun105 ?_
          simp only [Act.put, List.setIfInBounds_toArray, List.set_cons_zero, List.set_cons_succ]
          refine hK.out _ _ Q105 (fun hS => ?_)
          clear hK K hrun105
          rw [Nat.zero_add, List.nil_append] at own105
          obtain ⟨A6, C6, hv6, _, _, r6⟩ := own_form own105
          subst hv6
          refine tkQ (i := 7) (oi := ?o12) (v := ?v12) ?h12 ?q12 ?y12 hS ?_; (case h12 => (simp only [gqA, gqB, gqC]; rfl)); (case q12 => exact fun _ _ _ h => h); (case y12 => (refine Or.inl ⟨by kernel_rfl, ?_⟩; intro wq hSq; clear hSq; go_simp; (try with_reducible rfl))); simp only [Act.put, List.setIfInBounds_toArray, List.set_cons_zero, List.set_cons_succ]
          refine wpAnyH_ready (rs := [8]) (by kernel_rfl) (by simp) ?_
          refine AllReadyH.cons (o := ?oi13) ?hi13 (fun K hK => ?_) AllReadyH.nil
          case hi13 => (simp only [gqA, gqB, gqC]; rfl)
          have cx := X105.cell' 7 _ rfl
          have fx := X105.free 7
          have h6 : ∀ a, A6 = some a → wd.heap.size ≤ a.block := own_far own105
          have X9 := X105.put 7 (.slice A6 (n5 + 1) C6)
          have Z9 := Z105.far (p := ⟨w.heap.size, 7, none⟩) (by show w.heap.size + 1 + 1 ≠ w.heap.size; omega) (.slice A6 (n5 + 1) C6)
          have Q9 := Q105.far (p := ⟨w.heap.size, 7, none⟩) (by show w.heap.size + 1 ≠ w.heap.size; omega) (.slice A6 (n5 + 1) C6)
          have N9 := below_setCell' (p := ⟨w.heap.size, 7, none⟩) N105.out (Nat.le_refl _) (.slice A6 (n5 + 1) C6)
          have B9 := att_rd (w := w) (W := w105) (g := w.heap.size) (v := .slice A6 (n5 + 1) C6) (n := ⟨nm, tx⟩) HR.out R105.out (Nat.le_refl _) (A6 := A6) (C6 := C6) (by have q := r6; rw [← HL.out.2.2.2.2] at q; exact q) (fun a ha => by have := h6 a ha; omega)
          have HO6 := Lib.hid (far_ne h6 hlt)
          clear r6 h6
          go_simp
          refine hK.out _ _ Q9 (fun hS => ?_)
          clear hK K
          refine wpAnyH_done (by kernel_rfl) ?_ _
          generalize w105.setCell ⟨w.heap.size, 7, none⟩ (.slice A6 (n5 + 1) C6) = wx at *
          go_wp2_with (fail)
          go_meet
          case rel => exact ⟨A6, C6, X9, Z9, N9, Lib.hid B9, HO6⟩
        · skip
          have lb107 : w101.heap.size < (w101.alloc (.cells #[.string nm, .string tx] 40)).heap.size := by rw [World.size_alloc]; exact Nat.lt_succ_self _
          have X107 := X101.alloc (.cells #[.string nm, .string tx] 40)
          have Q107 := Q101.alloc (.cells #[.string nm, .string tx] 40)
          have Z107 := Z101.alloc (.cells #[.string nm, .string tx] 40)
          have N107 := Lib.hid (N101.out.alloc (.cells #[.string nm, .string tx] 40))
          have R107 := Lib.hid (R101.out.new ((New.refl _).alloc (.cells #[.string nm, .string tx] 40)))
          have own107 := own201.alloc (.cells #[.string nm, .string tx] 40)
          have rd207 : Rd (w101.alloc (.cells #[.string nm, .string tx] 40)) 2 (some ⟨w101.heap.size, 0, none⟩) 1 ([(⟨nm, tx⟩ : NtD)].flatMap ntC) := blk_one_rd (n := ⟨nm, tx⟩) (Blk.made w101 40 #[.string nm, .string tx])
          go_simp
          refine hK.out _ _ Q107 (fun hS => ?_)
          clear hK K
          generalize w101.alloc (.cells #[.string nm, .string tx] 40) = w107 at *
          refine wpAnyH_ready (rs := [3]) (by kernel_rfl) (by simp) ?_
          refine AllReadyH.cons (o := ?oi14) ?hi14 (fun K hK => ?_) AllReadyH.nil
          case hi14 => (simp only [gqA, gqB, gqC]; rfl)
          have RX8 := Lib.hid (show Rd (w107) 2 a5 n5 (notes.flatMap ntC) from by have q := R107.out.r5; simp only [HL.out.2.2.2.2] at q; exact q)
          obtain ⟨v108, w108, hrun108, own108, hg108⟩ := run_app_nt (w := w107) 26 wd.heap.size _ 0 [] own107 a5 n5 c5 notes RX8.out (by omega) (by omega)
          have hrow8 : ∀ r, Value.ownBlock _ = some r → wd.heap.size ≤ r := fun r hr => (own107.lt r hr).1
          have lb108 := hg108.size
          have X108 := X107.grown hg108 (fun he => by have h1 := hrow8 _ he.symm; omega)
          have Q108 := Q107.grown hg108 (fun he => by have h1 := hrow8 _ he.symm; omega)
          have Z108 := Z107.grown hg108 (fun he => by have h1 := hrow8 _ he.symm; omega)
          have N108 : Hid (New w w108) := Lib.hid (Below.grown N107.out hg108 N107.out.size (fun k hk => by have h1 := hrow8 k hk; have h2 := M3.out.size; omega))
          have R108 := Lib.hid (brd_old RB.out R107.out hg108 hrow8)
          have rd108 := rd_go rd207 hg108 (fun a ha he => by cases ha; simp only [Value.ownBlock, Option.some.injEq] at he; omega)
          rw [if_pos (by rfl)]
          refine wp_run_app (.tmp 37) (.tmp 39) 26 rfl rfl rfl hrun108 ?_
          simp only [Act.put, List.setIfInBounds_toArray, List.set_cons_zero, List.set_cons_succ]
          refine hK.out _ _ Q108 (fun hS => ?_)
          clear hK K hrun108
          refine wpAnyH_ready (rs := [6]) (by kernel_rfl) (by simp) ?_
          refine AllReadyH.cons (o := ?oi15) ?hi15 (fun K hK => ?_) AllReadyH.nil
          case hi15 => (simp only [gqA, gqB, gqC]; rfl)
          obtain ⟨v109, w109, hrun109, own109, hg109⟩ := run_app_nt (w := w108) 26 wd.heap.size _ _ _ own108 _ 1 1 [⟨nm, tx⟩] rd108 (by omega) (by omega)
          have hrow9 : ∀ r, Value.ownBlock _ = some r → wd.heap.size ≤ r := fun r hr => (own108.lt r hr).1
          have lb109 := hg109.size
          have X109 := X108.grown hg109 (fun he => by have h1 := hrow9 _ he.symm; omega)
          have Q109 := Q108.grown hg109 (fun he => by have h1 := hrow9 _ he.symm; omega)
          have Z109 := Z108.grown hg109 (fun he => by have h1 := hrow9 _ he.symm; omega)
          have N109 : Hid (New w w109) := Lib.hid (Below.grown N108.out hg109 N108.out.size (fun k hk => by have h1 := hrow9 k hk; have h2 := M3.out.size; omega))
          have R109 := Lib.hid (brd_old RB.out R108.out hg109 hrow9)
          rw [if_pos (by rfl)]
          refine wp_run_app (.tmp 40) (.tmp 42) 26 rfl rfl rfl hrun109 ?_
          simp only [Act.put, List.setIfInBounds_toArray, List.set_cons_zero, List.set_cons_succ]
          refine hK.out _ _ Q109 (fun hS => ?_)
          clear hK K hrun109
          rw [Nat.zero_add, List.nil_append] at own109
          obtain ⟨A6, C6, hv6, _, _, r6⟩ := own_form own109
          subst hv6
          refine tkQ (i := 7) (oi := ?o16) (v := ?v16) ?h16 ?q16 ?y16 hS ?_; (case h16 => (simp only [gqA, gqB, gqC]; rfl)); (case q16 => exact fun _ _ _ h => h); (case y16 => (refine Or.inl ⟨by kernel_rfl, ?_⟩; intro wq hSq; clear hSq; go_simp; (try with_reducible rfl))); simp only [Act.put, List.setIfInBounds_toArray, List.set_cons_zero, List.set_cons_succ]
          refine wpAnyH_ready (rs := [8]) (by kernel_rfl) (by simp) ?_
          refine AllReadyH.cons (o := ?oi17) ?hi17 (fun K hK => ?_) AllReadyH.nil
          case hi17 => (simp only [gqA, gqB, gqC]; rfl)
          have cx := X109.cell' 7 _ rfl
          have fx := X109.free 7
          have h6 : ∀ a, A6 = some a → wd.heap.size ≤ a.block := own_far own109
          have X9 := X109.put 7 (.slice A6 (n5 + 1) C6)
          have Z9 := Z109.far (p := ⟨w.heap.size, 7, none⟩) (by show w.heap.size + 1 + 1 ≠ w.heap.size; omega) (.slice A6 (n5 + 1) C6)
          have Q9 := Q109.far (p := ⟨w.heap.size, 7, none⟩) (by show w.heap.size + 1 ≠ w.heap.size; omega) (.slice A6 (n5 + 1) C6)
          have N9 := below_setCell' (p := ⟨w.heap.size, 7, none⟩) N109.out (Nat.le_refl _) (.slice A6 (n5 + 1) C6)
          have B9 := att_rd (w := w) (W := w109) (g := w.heap.size) (v := .slice A6 (n5 + 1) C6) (n := ⟨nm, tx⟩) HR.out R109.out (Nat.le_refl _) (A6 := A6) (C6 := C6) (by have q := r6; rw [← HL.out.2.2.2.2] at q; exact q) (fun a ha => by have := h6 a ha; omega)
          have HO6 := Lib.hid (far_ne h6 hlt)
          clear r6 h6
          go_simp
          refine hK.out _ _ Q9 (fun hS => ?_)
          clear hK K
          refine wpAnyH_done (by kernel_rfl) ?_ _
          generalize w109.setCell ⟨w.heap.size, 7, none⟩ (.slice A6 (n5 + 1) C6) = wx at *
          go_wp2_with (fail)
          go_meet
          case rel => exact ⟨A6, C6, X9, Z9, N9, Lib.hid B9, HO6⟩
      · skip
        have lb111 : w101.heap.size < (w101.alloc (.cells #[.string nm, .string tx] 40)).heap.size := by rw [World.size_alloc]; exact Nat.lt_succ_self _
        have X111 := X101.alloc (.cells #[.string nm, .string tx] 40)
        have Q111 := Q101.alloc (.cells #[.string nm, .string tx] 40)
        have Z111 := Z101.alloc (.cells #[.string nm, .string tx] 40)
        have N111 := Lib.hid (N101.out.alloc (.cells #[.string nm, .string tx] 40))
        have R111 := Lib.hid (R101.out.new ((New.refl _).alloc (.cells #[.string nm, .string tx] 40)))
        have own111 := own201.alloc (.cells #[.string nm, .string tx] 40)
        have rd211 : Rd (w101.alloc (.cells #[.string nm, .string tx] 40)) 2 (some ⟨w101.heap.size, 0, none⟩) 1 ([(⟨nm, tx⟩ : NtD)].flatMap ntC) := blk_one_rd (n := ⟨nm, tx⟩) (Blk.made w101 40 #[.string nm, .string tx])
        go_simp
        refine hK.out _ _ Q111 (fun hS => ?_)
        clear hK K
        generalize w101.alloc (.cells #[.string nm, .string tx] 40) = w111 at *
        refine wpAnyH_ready (rs := [2]) (by kernel_rfl) (by simp) ?_
        refine AllReadyH.cons (o := ?oi18) ?hi18 (fun K hK => ?_) AllReadyH.nil
        case hi18 => (simp only [gqA, gqB, gqC]; rfl)
        have ld12 := X111.cell' 7 _ rfl
        go_simp
        refine hK.out _ _ Q111 (fun hS => ?_)
        clear hK K ld12
        refine wpAnyH_ready (rs := [3]) (by kernel_rfl) (by simp) ?_
        refine AllReadyH.cons (o := ?oi19) ?hi19 (fun K hK => ?_) AllReadyH.nil
        case hi19 => (simp only [gqA, gqB, gqC]; rfl)
        have RX13 := Lib.hid (show Rd (w111) 2 a5 n5 (notes.flatMap ntC) from by have q := R111.out.r5; simp only [HL.out.2.2.2.2] at q; exact q)
        obtain ⟨v113, w113, hrun113, own113, hg113⟩ := run_app_nt (w := w111) 26 wd.heap.size _ 0 [] own111 a5 n5 c5 notes RX13.out (by omega) (by omega)
        have hrow13 : ∀ r, Value.ownBlock _ = some r → wd.heap.size ≤ r := fun r hr => (own111.lt r hr).1
        have lb113 := hg113.size
        have X113 := X111.grown hg113 (fun he => by have h1 := hrow13 _ he.symm; omega)
        have Q113 := Q111.grown hg113 (fun he => by have h1 := hrow13 _ he.symm; omega)
        have Z113 := Z111.grown hg113 (fun he => by have h1 := hrow13 _ he.symm; omega)
        have N113 : Hid (New w w113) := Lib.hid (Below.grown N111.out hg113 N111.out.size (fun k hk => by have h1 := hrow13 k hk; have h2 := M3.out.size; omega))
        have R113 := Lib.hid (brd_old RB.out R111.out hg113 hrow13)
        have rd113 := rd_go rd211 hg113 (fun a ha he => by cases ha; simp only [Value.ownBlock, Option.some.injEq] at he; omega)
        rw [if_pos (by rfl)]
        refine wp_run_app (.tmp 37) (.tmp 39) 26 rfl rfl rfl hrun113 ?_
        simp only [Act.put, List.setIfInBounds_toArray, List.set_cons_zero, List.set_cons_succ]
        refine hK.out _ _ Q113 (fun hS => ?_)
        clear hK K hrun113
        refine wpAnyH_ready (rs := [6]) (by kernel_rfl) (by simp) ?_
        refine AllReadyH.cons (o := ?oi20) ?hi20 (fun K hK => ?_) AllReadyH.nil
        case hi20 => (simp only [gqA, gqB, gqC]; rfl)
        obtain ⟨v114, w114, hrun114, own114, hg114⟩ := run_app_nt (w := w113) 26 wd.heap.size _ _ _ own113 _ 1 1 [⟨nm, tx⟩] rd113 (by omega) (by omega)
        have hrow14 : ∀ r, Value.ownBlock _ = some r → wd.heap.size ≤ r := fun r hr => (own113.lt r hr).1
        have lb114 := hg114.size
        have X114 := X113.grown hg114 (fun he => by have h1 := hrow14 _ he.symm; omega)
        have Q114 := Q113.grown hg114 (fun he => by have h1 := hrow14 _ he.symm; omega)
        have Z114 := Z113.grown hg114 (fun he => by have h1 := hrow14 _ he.symm; omega)
        have N114 : Hid (New w w114) := Lib.hid (Below.grown N113.out hg114 N113.out.size (fun k hk => by have h1 := hrow14 k hk; have h2 := M3.out.size; omega))
        have R114 := Lib.hid (brd_old RB.out R113.out hg114 hrow14)
        rw [if_pos (by rfl)]
        refine wp_run_app (.tmp 40) (.tmp 42) 26 rfl rfl rfl hrun114 ?_
        simp only [Act.put, List.setIfInBounds_toArray, List.set_cons_zero, List.set_cons_succ]
        refine hK.out _ _ Q114 (fun hS => ?_)
        clear hK K hrun114
        rw [Nat.zero_add, List.nil_append] at own114
        obtain ⟨A6, C6, hv6, _, _, r6⟩ := own_form own114
        subst hv6
        refine tkQ (i := 7) (oi := ?o21) (v := ?v21) ?h21 ?q21 ?y21 hS ?_; (case h21 => (simp only [gqA, gqB, gqC]; rfl)); (case q21 => exact fun _ _ _ h => h); (case y21 => (refine Or.inl ⟨by kernel_rfl, ?_⟩; intro wq hSq; clear hSq; go_simp; (try with_reducible rfl))); simp only [Act.put, List.setIfInBounds_toArray, List.set_cons_zero, List.set_cons_succ]
        refine wpAnyH_ready (rs := [8]) (by kernel_rfl) (by simp) ?_
        refine AllReadyH.cons (o := ?oi22) ?hi22 (fun K hK => ?_) AllReadyH.nil
        case hi22 => (simp only [gqA, gqB, gqC]; rfl)
        have cx := X114.cell' 7 _ rfl
        have fx := X114.free 7
        have h6 : ∀ a, A6 = some a → wd.heap.size ≤ a.block := own_far own114
        have X9 := X114.put 7 (.slice A6 (n5 + 1) C6)
        have Z9 := Z114.far (p := ⟨w.heap.size, 7, none⟩) (by show w.heap.size + 1 + 1 ≠ w.heap.size; omega) (.slice A6 (n5 + 1) C6)
        have Q9 := Q114.far (p := ⟨w.heap.size, 7, none⟩) (by show w.heap.size + 1 ≠ w.heap.size; omega) (.slice A6 (n5 + 1) C6)
        have N9 := below_setCell' (p := ⟨w.heap.size, 7, none⟩) N114.out (Nat.le_refl _) (.slice A6 (n5 + 1) C6)
        have B9 := att_rd (w := w) (W := w114) (g := w.heap.size) (v := .slice A6 (n5 + 1) C6) (n := ⟨nm, tx⟩) HR.out R114.out (Nat.le_refl _) (A6 := A6) (C6 := C6) (by have q := r6; rw [← HL.out.2.2.2.2] at q; exact q) (fun a ha => by have := h6 a ha; omega)
        have HO6 := Lib.hid (far_ne h6 hlt)
        clear r6 h6
        go_simp
        refine hK.out _ _ Q9 (fun hS => ?_)
        clear hK K
        refine wpAnyH_done (by kernel_rfl) ?_ _
        generalize w114.setCell ⟨w.heap.size, 7, none⟩ (.slice A6 (n5 + 1) C6) = wx at *
        go_wp2_with (fail)
        go_meet
        case rel => exact ⟨A6, C6, X9, Z9, N9, Lib.hid B9, HO6⟩
    · skip
      have ld16 := D3.out.cell' 7 _ rfl
      go_simp
      refine hK.out _ _ E3.out (fun hS => ?_)
      clear hK K ld16
      refine wpAnyH_ready (rs := [0, 5]) (by kernel_rfl) (by simp) ?_
      refine AllReadyH.cons (o := ?oi23) ?hi23 (fun K hK => ?_) (AllReadyH.cons (o := ?oi24) ?hi24 (fun K hK => ?_) AllReadyH.nil)
      case hi23 => (simp only [gqA, gqB, gqC]; rfl)
      case hi24 => (simp only [gqA, gqB, gqC]; rfl)
      · skip
        have lb117 : wd.heap.size < (wd.alloc (.cells #[] 40)).heap.size := by rw [World.size_alloc]; exact Nat.lt_succ_self _
        have X117 := D3.out.alloc (.cells #[] 40)
        have Q117 := E3.out.alloc (.cells #[] 40)
        have Z117 := F3.out.alloc (.cells #[] 40)
        have N117 := Lib.hid (M3.out.alloc (.cells #[] 40))
        have R117 := Lib.hid (RB.out.new ((New.refl _).alloc (.cells #[] 40)))
        have own217 : (wd.alloc (.cells #[] 40)).ownsRow wd.heap.size 40 2 (.slice (some ⟨wd.heap.size, 0, none⟩) 0 0) 0 [] := ⟨rfl, .inr ⟨wd.heap.size, 0, #[], rfl, by omega, Blk.made wd 40 #[], Nat.le_refl _, by simp [maxLen], rfl, rfl⟩⟩
        go_simp
        refine hK.out _ _ Q117 (fun hS => ?_)
        clear hK K
        generalize wd.alloc (.cells #[] 40) = w117 at *
        refine wpAnyH_ready (rs := [3, 5]) (by kernel_rfl) (by simp) ?_
        refine AllReadyH.cons (o := ?oi25) ?hi25 (fun K hK => ?_) (AllReadyH.cons (o := ?oi26) ?hi26 (fun K hK => ?_) AllReadyH.nil)
        case hi25 => (simp only [gqA, gqB, gqC]; rfl)
        case hi26 => (simp only [gqA, gqB, gqC]; rfl)
        · skip
          have RX18 := Lib.hid (show Rd (w117) 2 a5 n5 (notes.flatMap ntC) from by have q := R117.out.r5; simp only [HL.out.2.2.2.2] at q; exact q)
          obtain ⟨v118, w118, hrun118, own118, hg118⟩ := run_app_nt (w := w117) 26 wd.heap.size _ 0 [] own217 a5 n5 c5 notes RX18.out (by omega) (by omega)
          have hrow18 : ∀ r, Value.ownBlock _ = some r → wd.heap.size ≤ r := fun r hr => (own217.lt r hr).1
          have lb118 := hg118.size
          have X118 := X117.grown hg118 (fun he => by have h1 := hrow18 _ he.symm; omega)
          have Q118 := Q117.grown hg118 (fun he => by have h1 := hrow18 _ he.symm; omega)
          have Z118 := Z117.grown hg118 (fun he => by have h1 := hrow18 _ he.symm; omega)
          have N118 : Hid (New w w118) := Lib.hid (Below.grown N117.out hg118 N117.out.size (fun k hk => by have h1 := hrow18 k hk; have h2 := M3.out.size; omega))
          have R118 := Lib.hid (brd_old RB.out R117.out hg118 hrow18)
          rw [if_pos (by rfl)]
          refine wp_run_app (.tmp 37) (.tmp 39) 26 rfl rfl rfl hrun118 ?_
          simp only [Act.put, List.setIfInBounds_toArray, List.set_cons_zero, List.set_cons_succ]
          refine hK.out _ _ Q118 (fun hS => ?_)
          clear hK K hrun118
          refine wpAnyH_ready (rs := [5]) (by kernel_rfl) (by simp) ?_
          refine AllReadyH.cons (o := ?oi27) ?hi27 (fun K hK => ?_) AllReadyH.nil
          case hi27 => (simp only [gqA, gqB, gqC]; rfl)
          have lb119 : w118.heap.size < (w118.alloc (.cells #[.string nm, .string tx] 40)).heap.size := by rw [World.size_alloc]; exact Nat.lt_succ_self _
          have X119 := X118.alloc (.cells #[.string nm, .string tx] 40)
          have Q119 := Q118.alloc (.cells #[.string nm, .string tx] 40)
          have Z119 := Z118.alloc (.cells #[.string nm, .string tx] 40)
          have N119 := Lib.hid (N118.out.alloc (.cells #[.string nm, .string tx] 40))
          have R119 := Lib.hid (R118.out.new ((New.refl _).alloc (.cells #[.string nm, .string tx] 40)))
          have own119 := own118.alloc (.cells #[.string nm, .string tx] 40)
          have rd219 : Rd (w118.alloc (.cells #[.string nm, .string tx] 40)) 2 (some ⟨w118.heap.size, 0, none⟩) 1 ([(⟨nm, tx⟩ : NtD)].flatMap ntC) := blk_one_rd (n := ⟨nm, tx⟩) (Blk.made w118 40 #[.string nm, .string tx])
          go_simp
          refine hK.out _ _ Q119 (fun hS => ?_)
          clear hK K
          generalize w118.alloc (.cells #[.string nm, .string tx] 40) = w119 at *
          refine wpAnyH_ready (rs := [6]) (by kernel_rfl) (by simp) ?_
          refine AllReadyH.cons (o := ?oi28) ?hi28 (fun K hK => ?_) AllReadyH.nil
          case hi28 => (simp only [gqA, gqB, gqC]; rfl)
          obtain ⟨v120, w120, hrun120, own120, hg120⟩ := run_app_nt (w := w119) 26 wd.heap.size _ _ _ own119 _ 1 1 [⟨nm, tx⟩] rd219 (by omega) (by omega)
          have hrow20 : ∀ r, Value.ownBlock _ = some r → wd.heap.size ≤ r := fun r hr => (own119.lt r hr).1
          have lb120 := hg120.size
          have X120 := X119.grown hg120 (fun he => by have h1 := hrow20 _ he.symm; omega)
          have Q120 := Q119.grown hg120 (fun he => by have h1 := hrow20 _ he.symm; omega)
          have Z120 := Z119.grown hg120 (fun he => by have h1 := hrow20 _ he.symm; omega)
          have N120 : Hid (New w w120) := Lib.hid (Below.grown N119.out hg120 N119.out.size (fun k hk => by have h1 := hrow20 k hk; have h2 := M3.out.size; omega))
          have R120 := Lib.hid (brd_old RB.out R119.out hg120 hrow20)
          rw [if_pos (by rfl)]
          refine wp_run_app (.tmp 40) (.tmp 42) 26 rfl rfl rfl hrun120 ?_
          simp only [Act.put, List.setIfInBounds_toArray, List.set_cons_zero, List.set_cons_succ]
          refine hK.out _ _ Q120 (fun hS => ?_)
          clear hK K hrun120
          rw [Nat.zero_add, List.nil_append] at own120
          obtain ⟨A6, C6, hv6, _, _, r6⟩ := own_form own120
          subst hv6
          refine tkQ (i := 7) (oi := ?o29) (v := ?v29) ?h29 ?q29 ?y29 hS ?_; (case h29 => (simp only [gqA, gqB, gqC]; rfl)); (case q29 => exact fun _ _ _ h => h); (case y29 => (refine Or.inl ⟨by kernel_rfl, ?_⟩; intro wq hSq; clear hSq; go_simp; (try with_reducible rfl))); simp only [Act.put, List.setIfInBounds_toArray, List.set_cons_zero, List.set_cons_succ]
          refine wpAnyH_ready (rs := [8]) (by kernel_rfl) (by simp) ?_
          refine AllReadyH.cons (o := ?oi30) ?hi30 (fun K hK => ?_) AllReadyH.nil
          case hi30 => (simp only [gqA, gqB, gqC]; rfl)
          have cx := X120.cell' 7 _ rfl
          have fx := X120.free 7
          have h6 : ∀ a, A6 = some a → wd.heap.size ≤ a.block := own_far own120
          have X9 := X120.put 7 (.slice A6 (n5 + 1) C6)
          have Z9 := Z120.far (p := ⟨w.heap.size, 7, none⟩) (by show w.heap.size + 1 + 1 ≠ w.heap.size; omega) (.slice A6 (n5 + 1) C6)
          have Q9 := Q120.far (p := ⟨w.heap.size, 7, none⟩) (by show w.heap.size + 1 ≠ w.heap.size; omega) (.slice A6 (n5 + 1) C6)
          have N9 := below_setCell' (p := ⟨w.heap.size, 7, none⟩) N120.out (Nat.le_refl _) (.slice A6 (n5 + 1) C6)
          have B9 := att_rd (w := w) (W := w120) (g := w.heap.size) (v := .slice A6 (n5 + 1) C6) (n := ⟨nm, tx⟩) HR.out R120.out (Nat.le_refl _) (A6 := A6) (C6 := C6) (by have q := r6; rw [← HL.out.2.2.2.2] at q; exact q) (fun a ha => by have := h6 a ha; omega)
          have HO6 := Lib.hid (far_ne h6 hlt)
          clear r6 h6
          go_simp
          refine hK.out _ _ Q9 (fun hS => ?_)
          clear hK K
          refine wpAnyH_done (by kernel_rfl) ?_ _
          generalize w120.setCell ⟨w.heap.size, 7, none⟩ (.slice A6 (n5 + 1) C6) = wx at *
          go_wp2_with (fail)
          go_meet
          case rel => exact ⟨A6, C6, X9, Z9, N9, Lib.hid B9, HO6⟩
        · skip
          have lb122 : w117.heap.size < (w117.alloc (.cells #[.string nm, .string tx] 40)).heap.size := by rw [World.size_alloc]; exact Nat.lt_succ_self _
          have X122 := X117.alloc (.cells #[.string nm, .string tx] 40)
          have Q122 := Q117.alloc (.cells #[.string nm, .string tx] 40)
          have Z122 := Z117.alloc (.cells #[.string nm, .string tx] 40)
          have N122 := Lib.hid (N117.out.alloc (.cells #[.string nm, .string tx] 40))
          have R122 := Lib.hid (R117.out.new ((New.refl _).alloc (.cells #[.string nm, .string tx] 40)))
          have own122 := own217.alloc (.cells #[.string nm, .string tx] 40)
          have rd222 : Rd (w117.alloc (.cells #[.string nm, .string tx] 40)) 2 (some ⟨w117.heap.size, 0, none⟩) 1 ([(⟨nm, tx⟩ : NtD)].flatMap ntC) := blk_one_rd (n := ⟨nm, tx⟩) (Blk.made w117 40 #[.string nm, .string tx])
          go_simp
          refine hK.out _ _ Q122 (fun hS => ?_)
          clear hK K
          generalize w117.alloc (.cells #[.string nm, .string tx] 40) = w122 at *
          refine wpAnyH_ready (rs := [3]) (by kernel_rfl) (by simp) ?_
          refine AllReadyH.cons (o := ?oi31) ?hi31 (fun K hK => ?_) AllReadyH.nil
          case hi31 => (simp only [gqA, gqB, gqC]; rfl)
          have RX23 := Lib.hid (show Rd (w122) 2 a5 n5 (notes.flatMap ntC) from by have q := R122.out.r5; simp only [HL.out.2.2.2.2] at q; exact q)
          obtain ⟨v123, w123, hrun123, own123, hg123⟩ := run_app_nt (w := w122) 26 wd.heap.size _ 0 [] own122 a5 n5 c5 notes RX23.out (by omega) (by omega)
          have hrow23 : ∀ r, Value.ownBlock _ = some r → wd.heap.size ≤ r := fun r hr => (own122.lt r hr).1
          have lb123 := hg123.size
          have X123 := X122.grown hg123 (fun he => by have h1 := hrow23 _ he.symm; omega)
          have Q123 := Q122.grown hg123 (fun he => by have h1 := hrow23 _ he.symm; omega)
          have Z123 := Z122.grown hg123 (fun he => by have h1 := hrow23 _ he.symm; omega)
          have N123 : Hid (New w w123) := Lib.hid (Below.grown N122.out hg123 N122.out.size (fun k hk => by have h1 := hrow23 k hk; have h2 := M3.out.size; omega))
          have R123 := Lib.hid (brd_old RB.out R122.out hg123 hrow23)
          have rd123 := rd_go rd222 hg123 (fun a ha he => by cases ha; simp only [Value.ownBlock, Option.some.injEq] at he; omega)
          rw [if_pos (by rfl)]
          refine wp_run_app (.tmp 37) (.tmp 39) 26 rfl rfl rfl hrun123 ?_
          simp only [Act.put, List.setIfInBounds_toArray, List.set_cons_zero, List.set_cons_succ]
          refine hK.out _ _ Q123 (fun hS => ?_)
          clear hK K hrun123
          refine wpAnyH_ready (rs := [6]) (by kernel_rfl) (by simp) ?_
          refine AllReadyH.cons (o := ?oi32) ?hi32 (fun K hK => ?_) AllReadyH.nil
          case hi32 => (simp only [gqA, gqB, gqC]; rfl)
          obtain ⟨v124, w124, hrun124, own124, hg124⟩ := run_app_nt (w := w123) 26 wd.heap.size _ _ _ own123 _ 1 1 [⟨nm, tx⟩] rd123 (by omega) (by omega)
          have hrow24 : ∀ r, Value.ownBlock _ = some r → wd.heap.size ≤ r := fun r hr => (own123.lt r hr).1
          have lb124 := hg124.size
          have X124 := X123.grown hg124 (fun he => by have h1 := hrow24 _ he.symm; omega)
          have Q124 := Q123.grown hg124 (fun he => by have h1 := hrow24 _ he.symm; omega)
          have Z124 := Z123.grown hg124 (fun he => by have h1 := hrow24 _ he.symm; omega)
          have N124 : Hid (New w w124) := Lib.hid (Below.grown N123.out hg124 N123.out.size (fun k hk => by have h1 := hrow24 k hk; have h2 := M3.out.size; omega))
          have R124 := Lib.hid (brd_old RB.out R123.out hg124 hrow24)
          rw [if_pos (by rfl)]
          refine wp_run_app (.tmp 40) (.tmp 42) 26 rfl rfl rfl hrun124 ?_
          simp only [Act.put, List.setIfInBounds_toArray, List.set_cons_zero, List.set_cons_succ]
          refine hK.out _ _ Q124 (fun hS => ?_)
          clear hK K hrun124
          rw [Nat.zero_add, List.nil_append] at own124
          obtain ⟨A6, C6, hv6, _, _, r6⟩ := own_form own124
          subst hv6
          refine tkQ (i := 7) (oi := ?o33) (v := ?v33) ?h33 ?q33 ?y33 hS ?_; (case h33 => (simp only [gqA, gqB, gqC]; rfl)); (case q33 => exact fun _ _ _ h => h); (case y33 => (refine Or.inl ⟨by kernel_rfl, ?_⟩; intro wq hSq; clear hSq; go_simp; (try with_reducible rfl))); simp only [Act.put, List.setIfInBounds_toArray, List.set_cons_zero, List.set_cons_succ]
          refine wpAnyH_ready (rs := [8]) (by kernel_rfl) (by simp) ?_
          refine AllReadyH.cons (o := ?oi34) ?hi34 (fun K hK => ?_) AllReadyH.nil
          case hi34 => (simp only [gqA, gqB, gqC]; rfl)
          have cx := X124.cell' 7 _ rfl
          have fx := X124.free 7
          have h6 : ∀ a, A6 = some a → wd.heap.size ≤ a.block := own_far own124
          have X9 := X124.put 7 (.slice A6 (n5 + 1) C6)
          have Z9 := Z124.far (p := ⟨w.heap.size, 7, none⟩) (by show w.heap.size + 1 + 1 ≠ w.heap.size; omega) (.slice A6 (n5 + 1) C6)
          have Q9 := Q124.far (p := ⟨w.heap.size, 7, none⟩) (by show w.heap.size + 1 ≠ w.heap.size; omega) (.slice A6 (n5 + 1) C6)
          have N9 := below_setCell' (p := ⟨w.heap.size, 7, none⟩) N124.out (Nat.le_refl _) (.slice A6 (n5 + 1) C6)
          have B9 := att_rd (w := w) (W := w124) (g := w.heap.size) (v := .slice A6 (n5 + 1) C6) (n := ⟨nm, tx⟩) HR.out R124.out (Nat.le_refl _) (A6 := A6) (C6 := C6) (by have q := r6; rw [← HL.out.2.2.2.2] at q; exact q) (fun a ha => by have := h6 a ha; omega)
          have HO6 := Lib.hid (far_ne h6 hlt)
          clear r6 h6
          go_simp
          refine hK.out _ _ Q9 (fun hS => ?_)
          clear hK K
          refine wpAnyH_done (by kernel_rfl) ?_ _
          generalize w124.setCell ⟨w.heap.size, 7, none⟩ (.slice A6 (n5 + 1) C6) = wx at *
          go_wp2_with (fail)
          go_meet
          case rel => exact ⟨A6, C6, X9, Z9, N9, Lib.hid B9, HO6⟩
      · skip
        have lb126 : wd.heap.size < (wd.alloc (.cells #[.string nm, .string tx] 40)).heap.size := by rw [World.size_alloc]; exact Nat.lt_succ_self _
        have X126 := D3.out.alloc (.cells #[.string nm, .string tx] 40)
        have Q126 := E3.out.alloc (.cells #[.string nm, .string tx] 40)
        have Z126 := F3.out.alloc (.cells #[.string nm, .string tx] 40)
        have N126 := Lib.hid (M3.out.alloc (.cells #[.string nm, .string tx] 40))
        have R126 := Lib.hid (RB.out.new ((New.refl _).alloc (.cells #[.string nm, .string tx] 40)))
        have rd226 : Rd (wd.alloc (.cells #[.string nm, .string tx] 40)) 2 (some ⟨wd.heap.size, 0, none⟩) 1 ([(⟨nm, tx⟩ : NtD)].flatMap ntC) := blk_one_rd (n := ⟨nm, tx⟩) (Blk.made wd 40 #[.string nm, .string tx])
        go_simp
        refine hK.out _ _ Q126 (fun hS => ?_)
        clear hK K
        generalize wd.alloc (.cells #[.string nm, .string tx] 40) = w126 at *
        refine wpAnyH_ready (rs := [0]) (by kernel_rfl) (by simp) ?_
        refine AllReadyH.cons (o := ?oi35) ?hi35 (fun K hK => ?_) AllReadyH.nil
        case hi35 => (simp only [gqA, gqB, gqC]; rfl)
        have lb127 : w126.heap.size < (w126.alloc (.cells #[] 40)).heap.size := by rw [World.size_alloc]; exact Nat.lt_succ_self _
        have X127 := X126.alloc (.cells #[] 40)
        have Q127 := Q126.alloc (.cells #[] 40)
        have Z127 := Z126.alloc (.cells #[] 40)
        have N127 := Lib.hid (N126.out.alloc (.cells #[] 40))
        have R127 := Lib.hid (R126.out.new ((New.refl _).alloc (.cells #[] 40)))
        have rd127 := rd226.alloc (.cells #[] 40)
        have own227 : (w126.alloc (.cells #[] 40)).ownsRow wd.heap.size 40 2 (.slice (some ⟨w126.heap.size, 0, none⟩) 0 0) 0 [] := ⟨rfl, .inr ⟨w126.heap.size, 0, #[], rfl, by omega, Blk.made w126 40 #[], Nat.le_refl _, by simp [maxLen], rfl, rfl⟩⟩
        go_simp
        refine hK.out _ _ Q127 (fun hS => ?_)
        clear hK K
        generalize w126.alloc (.cells #[] 40) = w127 at *
        refine wpAnyH_ready (rs := [3]) (by kernel_rfl) (by simp) ?_
        refine AllReadyH.cons (o := ?oi36) ?hi36 (fun K hK => ?_) AllReadyH.nil
        case hi36 => (simp only [gqA, gqB, gqC]; rfl)
        have RX28 := Lib.hid (show Rd (w127) 2 a5 n5 (notes.flatMap ntC) from by have q := R127.out.r5; simp only [HL.out.2.2.2.2] at q; exact q)
        obtain ⟨v128, w128, hrun128, own128, hg128⟩ := run_app_nt (w := w127) 26 wd.heap.size _ 0 [] own227 a5 n5 c5 notes RX28.out (by omega) (by omega)
        have hrow28 : ∀ r, Value.ownBlock _ = some r → wd.heap.size ≤ r := fun r hr => (own227.lt r hr).1
        have lb128 := hg128.size
        have X128 := X127.grown hg128 (fun he => by have h1 := hrow28 _ he.symm; omega)
        have Q128 := Q127.grown hg128 (fun he => by have h1 := hrow28 _ he.symm; omega)
        have Z128 := Z127.grown hg128 (fun he => by have h1 := hrow28 _ he.symm; omega)
        have N128 : Hid (New w w128) := Lib.hid (Below.grown N127.out hg128 N127.out.size (fun k hk => by have h1 := hrow28 k hk; have h2 := M3.out.size; omega))
        have R128 := Lib.hid (brd_old RB.out R127.out hg128 hrow28)
        have rd128 := rd_go rd127 hg128 (fun a ha he => by cases ha; simp only [Value.ownBlock, Option.some.injEq] at he; omega)
        rw [if_pos (by rfl)]
        refine wp_run_app (.tmp 37) (.tmp 39) 26 rfl rfl rfl hrun128 ?_
        simp only [Act.put, List.setIfInBounds_toArray, List.set_cons_zero, List.set_cons_succ]
        refine hK.out _ _ Q128 (fun hS => ?_)
        clear hK K hrun128
        refine wpAnyH_ready (rs := [6]) (by kernel_rfl) (by simp) ?_
        refine AllReadyH.cons (o := ?oi37) ?hi37 (fun K hK => ?_) AllReadyH.nil
        case hi37 => (simp only [gqA, gqB, gqC]; rfl)
        obtain ⟨v129, w129, hrun129, own129, hg129⟩ := run_app_nt (w := w128) 26 wd.heap.size _ _ _ own128 _ 1 1 [⟨nm, tx⟩] rd128 (by omega) (by omega)
        have hrow29 : ∀ r, Value.ownBlock _ = some r → wd.heap.size ≤ r := fun r hr => (own128.lt r hr).1
        have lb129 := hg129.size
        have X129 := X128.grown hg129 (fun he => by have h1 := hrow29 _ he.symm; omega)
        have Q129 := Q128.grown hg129 (fun he => by have h1 := hrow29 _ he.symm; omega)
        have Z129 := Z128.grown hg129 (fun he => by have h1 := hrow29 _ he.symm; omega)
        have N129 : Hid (New w w129) := Lib.hid (Below.grown N128.out hg129 N128.out.size (fun k hk => by have h1 := hrow29 k hk; have h2 := M3.out.size; omega))
        have R129 := Lib.hid (brd_old RB.out R128.out hg129 hrow29)
        rw [if_pos (by rfl)]
        refine wp_run_app (.tmp 40) (.tmp 42) 26 rfl rfl rfl hrun129 ?_
        simp only [Act.put, List.setIfInBounds_toArray, List.set_cons_zero, List.set_cons_succ]
        refine hK.out _ _ Q129 (fun hS => ?_)
        clear hK K hrun129
        rw [Nat.zero_add, List.nil_append] at own129
        obtain ⟨A6, C6, hv6, _, _, r6⟩ := own_form own129
        subst hv6
        refine tkQ (i := 7) (oi := ?o38) (v := ?v38) ?h38 ?q38 ?y38 hS ?_; (case h38 => (simp only [gqA, gqB, gqC]; rfl)); (case q38 => exact fun _ _ _ h => h); (case y38 => (refine Or.inl ⟨by kernel_rfl, ?_⟩; intro wq hSq; clear hSq; go_simp; (try with_reducible rfl))); simp only [Act.put, List.setIfInBounds_toArray, List.set_cons_zero, List.set_cons_succ]
        refine wpAnyH_ready (rs := [8]) (by kernel_rfl) (by simp) ?_
        refine AllReadyH.cons (o := ?oi39) ?hi39 (fun K hK => ?_) AllReadyH.nil
        case hi39 => (simp only [gqA, gqB, gqC]; rfl)
        have cx := X129.cell' 7 _ rfl
        have fx := X129.free 7
        have h6 : ∀ a, A6 = some a → wd.heap.size ≤ a.block := own_far own129
        have X9 := X129.put 7 (.slice A6 (n5 + 1) C6)
        have Z9 := Z129.far (p := ⟨w.heap.size, 7, none⟩) (by show w.heap.size + 1 + 1 ≠ w.heap.size; omega) (.slice A6 (n5 + 1) C6)
        have Q9 := Q129.far (p := ⟨w.heap.size, 7, none⟩) (by show w.heap.size + 1 ≠ w.heap.size; omega) (.slice A6 (n5 + 1) C6)
        have N9 := below_setCell' (p := ⟨w.heap.size, 7, none⟩) N129.out (Nat.le_refl _) (.slice A6 (n5 + 1) C6)
        have B9 := att_rd (w := w) (W := w129) (g := w.heap.size) (v := .slice A6 (n5 + 1) C6) (n := ⟨nm, tx⟩) HR.out R129.out (Nat.le_refl _) (A6 := A6) (C6 := C6) (by have q := r6; rw [← HL.out.2.2.2.2] at q; exact q) (fun a ha => by have := h6 a ha; omega)
        have HO6 := Lib.hid (far_ne h6 hlt)
        clear r6 h6
        go_simp
        refine hK.out _ _ Q9 (fun hS => ?_)
        clear hK K
        refine wpAnyH_done (by kernel_rfl) ?_ _
        generalize w129.setCell ⟨w.heap.size, 7, none⟩ (.slice A6 (n5 + 1) C6) = wx at *
        go_wp2_with (fail)
        go_meet
        case rel => exact ⟨A6, C6, X9, Z9, N9, Lib.hid B9, HO6⟩
    · skip
      have lb131 : wd.heap.size < (wd.alloc (.cells #[.string nm, .string tx] 40)).heap.size := by rw [World.size_alloc]; exact Nat.lt_succ_self _
      have X131 := D3.out.alloc (.cells #[.string nm, .string tx] 40)
      have Q131 := E3.out.alloc (.cells #[.string nm, .string tx] 40)
      have Z131 := F3.out.alloc (.cells #[.string nm, .string tx] 40)
      have N131 := Lib.hid (M3.out.alloc (.cells #[.string nm, .string tx] 40))
      have R131 := Lib.hid (RB.out.new ((New.refl _).alloc (.cells #[.string nm, .string tx] 40)))
      have rd231 : Rd (wd.alloc (.cells #[.string nm, .string tx] 40)) 2 (some ⟨wd.heap.size, 0, none⟩) 1 ([(⟨nm, tx⟩ : NtD)].flatMap ntC) := blk_one_rd (n := ⟨nm, tx⟩) (Blk.made wd 40 #[.string nm, .string tx])
      go_simp
      refine hK.out _ _ Q131 (fun hS => ?_)
      clear hK K
      generalize wd.alloc (.cells #[.string nm, .string tx] 40) = w131 at *
      refine wpAnyH_ready (rs := [0, 2]) (by kernel_rfl) (by simp) ?_
      refine AllReadyH.cons (o := ?oi40) ?hi40 (fun K hK => ?_) (AllReadyH.cons (o := ?oi41) ?hi41 (fun K hK => ?_) AllReadyH.nil)
      case hi40 => (simp only [gqA, gqB, gqC]; rfl)
      case hi41 => (simp only [gqA, gqB, gqC]; rfl)
      · skip
        have lb132 : w131.heap.size < (w131.alloc (.cells #[] 40)).heap.size := by rw [World.size_alloc]; exact Nat.lt_succ_self _
        have X132 := X131.alloc (.cells #[] 40)
        have Q132 := Q131.alloc (.cells #[] 40)
        have Z132 := Z131.alloc (.cells #[] 40)
        have N132 := Lib.hid (N131.out.alloc (.cells #[] 40))
        have R132 := Lib.hid (R131.out.new ((New.refl _).alloc (.cells #[] 40)))
        have rd132 := rd231.alloc (.cells #[] 40)
        have own232 : (w131.alloc (.cells #[] 40)).ownsRow wd.heap.size 40 2 (.slice (some ⟨w131.heap.size, 0, none⟩) 0 0) 0 [] := ⟨rfl, .inr ⟨w131.heap.size, 0, #[], rfl, by omega, Blk.made w131 40 #[], Nat.le_refl _, by simp [maxLen], rfl, rfl⟩⟩
        go_simp
        refine hK.out _ _ Q132 (fun hS => ?_)
        clear hK K
        generalize w131.alloc (.cells #[] 40) = w132 at *
        refine wpAnyH_ready (rs := [2]) (by kernel_rfl) (by simp) ?_
        refine AllReadyH.cons (o := ?oi42) ?hi42 (fun K hK => ?_) AllReadyH.nil
        case hi42 => (simp only [gqA, gqB, gqC]; rfl)
        have ld33 := X132.cell' 7 _ rfl
        go_simp
        refine hK.out _ _ Q132 (fun hS => ?_)
        clear hK K ld33
        refine wpAnyH_ready (rs := [3]) (by kernel_rfl) (by simp) ?_
        refine AllReadyH.cons (o := ?oi43) ?hi43 (fun K hK => ?_) AllReadyH.nil
        case hi43 => (simp only [gqA, gqB, gqC]; rfl)
        have RX34 := Lib.hid (show Rd (w132) 2 a5 n5 (notes.flatMap ntC) from by have q := R132.out.r5; simp only [HL.out.2.2.2.2] at q; exact q)
        obtain ⟨v134, w134, hrun134, own134, hg134⟩ := run_app_nt (w := w132) 26 wd.heap.size _ 0 [] own232 a5 n5 c5 notes RX34.out (by omega) (by omega)
        have hrow34 : ∀ r, Value.ownBlock _ = some r → wd.heap.size ≤ r := fun r hr => (own232.lt r hr).1
        have lb134 := hg134.size
        have X134 := X132.grown hg134 (fun he => by have h1 := hrow34 _ he.symm; omega)
        have Q134 := Q132.grown hg134 (fun he => by have h1 := hrow34 _ he.symm; omega)
        have Z134 := Z132.grown hg134 (fun he => by have h1 := hrow34 _ he.symm; omega)
        have N134 : Hid (New w w134) := Lib.hid (Below.grown N132.out hg134 N132.out.size (fun k hk => by have h1 := hrow34 k hk; have h2 := M3.out.size; omega))
        have R134 := Lib.hid (brd_old RB.out R132.out hg134 hrow34)
        have rd134 := rd_go rd132 hg134 (fun a ha he => by cases ha; simp only [Value.ownBlock, Option.some.injEq] at he; omega)
        rw [if_pos (by rfl)]
        refine wp_run_app (.tmp 37) (.tmp 39) 26 rfl rfl rfl hrun134 ?_
        simp only [Act.put, List.setIfInBounds_toArray, List.set_cons_zero, List.set_cons_succ]
        refine hK.out _ _ Q134 (fun hS => ?_)
        clear hK K hrun134
        refine wpAnyH_ready (rs := [6]) (by kernel_rfl) (by simp) ?_
        refine AllReadyH.cons (o := ?oi44) ?hi44 (fun K hK => ?_) AllReadyH.nil
        case hi44 => (simp only [gqA, gqB, gqC]; rfl)
        obtain ⟨v135, w135, hrun135, own135, hg135⟩ := run_app_nt (w := w134) 26 wd.heap.size _ _ _ own134 _ 1 1 [⟨nm, tx⟩] rd134 (by omega) (by omega)
        have hrow35 : ∀ r, Value.ownBlock _ = some r → wd.heap.size ≤ r := fun r hr => (own134.lt r hr).1
        have lb135 := hg135.size
        have X135 := X134.grown hg135 (fun he => by have h1 := hrow35 _ he.symm; omega)
        have Q135 := Q134.grown hg135 (fun he => by have h1 := hrow35 _ he.symm; omega)
        have Z135 := Z134.grown hg135 (fun he => by have h1 := hrow35 _ he.symm; omega)
        have N135 : Hid (New w w135) := Lib.hid (Below.grown N134.out hg135 N134.out.size (fun k hk => by have h1 := hrow35 k hk; have h2 := M3.out.size; omega))
        have R135 := Lib.hid (brd_old RB.out R134.out hg135 hrow35)
        rw [if_pos (by rfl)]
        refine wp_run_app (.tmp 40) (.tmp 42) 26 rfl rfl rfl hrun135 ?_
        simp only [Act.put, List.setIfInBounds_toArray, List.set_cons_zero, List.set_cons_succ]
        refine hK.out _ _ Q135 (fun hS => ?_)
        clear hK K hrun135
        rw [Nat.zero_add, List.nil_append] at own135
        obtain ⟨A6, C6, hv6, _, _, r6⟩ := own_form own135
        subst hv6
        refine tkQ (i := 7) (oi := ?o45) (v := ?v45) ?h45 ?q45 ?y45 hS ?_; (case h45 => (simp only [gqA, gqB, gqC]; rfl)); (case q45 => exact fun _ _ _ h => h); (case y45 => (refine Or.inl ⟨by kernel_rfl, ?_⟩; intro wq hSq; clear hSq; go_simp; (try with_reducible rfl))); simp only [Act.put, List.setIfInBounds_toArray, List.set_cons_zero, List.set_cons_succ]
        refine wpAnyH_ready (rs := [8]) (by kernel_rfl) (by simp) ?_
        refine AllReadyH.cons (o := ?oi46) ?hi46 (fun K hK => ?_) AllReadyH.nil
        case hi46 => (simp only [gqA, gqB, gqC]; rfl)
        have cx := X135.cell' 7 _ rfl
        have fx := X135.free 7
        have h6 : ∀ a, A6 = some a → wd.heap.size ≤ a.block := own_far own135
        have X9 := X135.put 7 (.slice A6 (n5 + 1) C6)
        have Z9 := Z135.far (p := ⟨w.heap.size, 7, none⟩) (by show w.heap.size + 1 + 1 ≠ w.heap.size; omega) (.slice A6 (n5 + 1) C6)
        have Q9 := Q135.far (p := ⟨w.heap.size, 7, none⟩) (by show w.heap.size + 1 ≠ w.heap.size; omega) (.slice A6 (n5 + 1) C6)
        have N9 := below_setCell' (p := ⟨w.heap.size, 7, none⟩) N135.out (Nat.le_refl _) (.slice A6 (n5 + 1) C6)
        have B9 := att_rd (w := w) (W := w135) (g := w.heap.size) (v := .slice A6 (n5 + 1) C6) (n := ⟨nm, tx⟩) HR.out R135.out (Nat.le_refl _) (A6 := A6) (C6 := C6) (by have q := r6; rw [← HL.out.2.2.2.2] at q; exact q) (fun a ha => by have := h6 a ha; omega)
        have HO6 := Lib.hid (far_ne h6 hlt)
        clear r6 h6
        go_simp
        refine hK.out _ _ Q9 (fun hS => ?_)
        clear hK K
        refine wpAnyH_done (by kernel_rfl) ?_ _
        generalize w135.setCell ⟨w.heap.size, 7, none⟩ (.slice A6 (n5 + 1) C6) = wx at *
        go_wp2_with (fail)
        go_meet
        case rel => exact ⟨A6, C6, X9, Z9, N9, Lib.hid B9, HO6⟩
      · skip
        have ld37 := X131.cell' 7 _ rfl
        go_simp
        refine hK.out _ _ Q131 (fun hS => ?_)
        clear hK K ld37
        refine wpAnyH_ready (rs := [0]) (by kernel_rfl) (by simp) ?_
        refine AllReadyH.cons (o := ?oi47) ?hi47 (fun K hK => ?_) AllReadyH.nil
        case hi47 => (simp only [gqA, gqB, gqC]; rfl)
        have lb138 : w131.heap.size < (w131.alloc (.cells #[] 40)).heap.size := by rw [World.size_alloc]; exact Nat.lt_succ_self _
        have X138 := X131.alloc (.cells #[] 40)
        have Q138 := Q131.alloc (.cells #[] 40)
        have Z138 := Z131.alloc (.cells #[] 40)
        have N138 := Lib.hid (N131.out.alloc (.cells #[] 40))
        have R138 := Lib.hid (R131.out.new ((New.refl _).alloc (.cells #[] 40)))
        have rd138 := rd231.alloc (.cells #[] 40)
        have own238 : (w131.alloc (.cells #[] 40)).ownsRow wd.heap.size 40 2 (.slice (some ⟨w131.heap.size, 0, none⟩) 0 0) 0 [] := ⟨rfl, .inr ⟨w131.heap.size, 0, #[], rfl, by omega, Blk.made w131 40 #[], Nat.le_refl _, by simp [maxLen], rfl, rfl⟩⟩
        go_simp
        refine hK.out _ _ Q138 (fun hS => ?_)
        clear hK K
        generalize w131.alloc (.cells #[] 40) = w138 at *
        refine wpAnyH_ready (rs := [3]) (by kernel_rfl) (by simp) ?_
        refine AllReadyH.cons (o := ?oi48) ?hi48 (fun K hK => ?_) AllReadyH.nil
        case hi48 => (simp only [gqA, gqB, gqC]; rfl)
        have RX39 := Lib.hid (show Rd (w138) 2 a5 n5 (notes.flatMap ntC) from by have q := R138.out.r5; simp only [HL.out.2.2.2.2] at q; exact q)
        obtain ⟨v139, w139, hrun139, own139, hg139⟩ := run_app_nt (w := w138) 26 wd.heap.size _ 0 [] own238 a5 n5 c5 notes RX39.out (by omega) (by omega)
        have hrow39 : ∀ r, Value.ownBlock _ = some r → wd.heap.size ≤ r := fun r hr => (own238.lt r hr).1
        have lb139 := hg139.size
        have X139 := X138.grown hg139 (fun he => by have h1 := hrow39 _ he.symm; omega)
        have Q139 := Q138.grown hg139 (fun he => by have h1 := hrow39 _ he.symm; omega)
        have Z139 := Z138.grown hg139 (fun he => by have h1 := hrow39 _ he.symm; omega)
        have N139 : Hid (New w w139) := Lib.hid (Below.grown N138.out hg139 N138.out.size (fun k hk => by have h1 := hrow39 k hk; have h2 := M3.out.size; omega))
        have R139 := Lib.hid (brd_old RB.out R138.out hg139 hrow39)
        have rd139 := rd_go rd138 hg139 (fun a ha he => by cases ha; simp only [Value.ownBlock, Option.some.injEq] at he; omega)
        rw [if_pos (by rfl)]
        refine wp_run_app (.tmp 37) (.tmp 39) 26 rfl rfl rfl hrun139 ?_
        simp only [Act.put, List.setIfInBounds_toArray, List.set_cons_zero, List.set_cons_succ]
        refine hK.out _ _ Q139 (fun hS => ?_)
        clear hK K hrun139
        refine wpAnyH_ready (rs := [6]) (by kernel_rfl) (by simp) ?_
        refine AllReadyH.cons (o := ?oi49) ?hi49 (fun K hK => ?_) AllReadyH.nil
        case hi49 => (simp only [gqA, gqB, gqC]; rfl)
        obtain ⟨v140, w140, hrun140, own140, hg140⟩ := run_app_nt (w := w139) 26 wd.heap.size _ _ _ own139 _ 1 1 [⟨nm, tx⟩] rd139 (by omega) (by omega)
        have hrow40 : ∀ r, Value.ownBlock _ = some r → wd.heap.size ≤ r := fun r hr => (own139.lt r hr).1
        have lb140 := hg140.size
        have X140 := X139.grown hg140 (fun he => by have h1 := hrow40 _ he.symm; omega)
        have Q140 := Q139.grown hg140 (fun he => by have h1 := hrow40 _ he.symm; omega)
        have Z140 := Z139.grown hg140 (fun he => by have h1 := hrow40 _ he.symm; omega)
        have N140 : Hid (New w w140) := Lib.hid (Below.grown N139.out hg140 N139.out.size (fun k hk => by have h1 := hrow40 k hk; have h2 := M3.out.size; omega))
        have R140 := Lib.hid (brd_old RB.out R139.out hg140 hrow40)
        rw [if_pos (by rfl)]
        refine wp_run_app (.tmp 40) (.tmp 42) 26 rfl rfl rfl hrun140 ?_
        simp only [Act.put, List.setIfInBounds_toArray, List.set_cons_zero, List.set_cons_succ]
        refine hK.out _ _ Q140 (fun hS => ?_)
        clear hK K hrun140
        rw [Nat.zero_add, List.nil_append] at own140
        obtain ⟨A6, C6, hv6, _, _, r6⟩ := own_form own140
        subst hv6
        refine tkQ (i := 7) (oi := ?o50) (v := ?v50) ?h50 ?q50 ?y50 hS ?_; (case h50 => (simp only [gqA, gqB, gqC]; rfl)); (case q50 => exact fun _ _ _ h => h); (case y50 => (refine Or.inl ⟨by kernel_rfl, ?_⟩; intro wq hSq; clear hSq; go_simp; (try with_reducible rfl))); simp only [Act.put, List.setIfInBounds_toArray, List.set_cons_zero, List.set_cons_succ]
        refine wpAnyH_ready (rs := [8]) (by kernel_rfl) (by simp) ?_
        refine AllReadyH.cons (o := ?oi51) ?hi51 (fun K hK => ?_) AllReadyH.nil
        case hi51 => (simp only [gqA, gqB, gqC]; rfl)
        have cx := X140.cell' 7 _ rfl
        have fx := X140.free 7
        have h6 : ∀ a, A6 = some a → wd.heap.size ≤ a.block := own_far own140
        have X9 := X140.put 7 (.slice A6 (n5 + 1) C6)
        have Z9 := Z140.far (p := ⟨w.heap.size, 7, none⟩) (by show w.heap.size + 1 + 1 ≠ w.heap.size; omega) (.slice A6 (n5 + 1) C6)
        have Q9 := Q140.far (p := ⟨w.heap.size, 7, none⟩) (by show w.heap.size + 1 ≠ w.heap.size; omega) (.slice A6 (n5 + 1) C6)
        have N9 := below_setCell' (p := ⟨w.heap.size, 7, none⟩) N140.out (Nat.le_refl _) (.slice A6 (n5 + 1) C6)
        have B9 := att_rd (w := w) (W := w140) (g := w.heap.size) (v := .slice A6 (n5 + 1) C6) (n := ⟨nm, tx⟩) HR.out R140.out (Nat.le_refl _) (A6 := A6) (C6 := C6) (by have q := r6; rw [← HL.out.2.2.2.2] at q; exact q) (fun a ha => by have := h6 a ha; omega)
        have HO6 := Lib.hid (far_ne h6 hlt)
        clear r6 h6
        go_simp
        refine hK.out _ _ Q9 (fun hS => ?_)
        clear hK K
        refine wpAnyH_done (by kernel_rfl) ?_ _
        generalize w140.setCell ⟨w.heap.size, 7, none⟩ (.slice A6 (n5 + 1) C6) = wx at *
        go_wp2_with (fail)
        go_meet
        case rel => exact ⟨A6, C6, X9, Z9, N9, Lib.hid B9, HO6⟩
  case rest =>
    obtain ⟨A6, C6, X9, Z9, N9, B9, H6⟩ := hcut
    clear D3 E3 F3 M3 RB
    have x0 := X9.cell' 0 _ rfl
    have x1 := X9.cell' 1 _ rfl
    have x2 := X9.cell' 2 _ rfl
    have x3 := X9.cell' 3 _ rfl
    have x4 := X9.cell' 4 _ rfl
    have x5 := X9.cell' 5 _ rfl
    have x6 := X9.cell' 6 _ rfl
    have x7 := X9.cell' 7 _ rfl
    have y0 := Z9.cell' 0 _ rfl
    have y1 := Z9.cell' 1 _ rfl
    have y2 := Z9.cell' 2 _ rfl
    have y3 := Z9.cell' 3 _ rfl
    have y4 := Z9.cell' 4 _ rfl
    have y5 := Z9.cell' 5 _ rfl
    have y6 := Z9.cell' 6 _ rfl
    have y7 := Z9.cell' 7 _ rfl
    have z0 := Z9.free 0
    have z1 := Z9.free 1
    have z2 := Z9.free 2
    have z3 := Z9.free 3
    have z4 := Z9.free 4
    have z5 := Z9.free 5
    have z6 := Z9.free 6
    have z7 := Z9.free 7
    have YZ := Lib.hid (set8_blk (v0 := .int .i64 kind) (v1 := .int .i64 entry) (v2 := .string image) (v3 := .slice a1 n1 c1) (v4 := .slice a2 n2 c2) (v5 := .slice a3 n3 c3) (v6 := .slice a4 n4 c4) (v7 := .slice A6 (n5 + 1) C6) (Z9))
    have NZ := Lib.hid (set8_new (g := (w.heap.size + 1 + 1)) (v0 := .int .i64 kind) (v1 := .int .i64 entry) (v2 := .string image) (v3 := .slice a1 n1 c1) (v4 := .slice a2 n2 c2) (v5 := .slice a3 n3 c3) (v6 := .slice a4 n4 c4) (v7 := .slice A6 (n5 + 1) C6) (N9) (by omega))
    have BZ9 := Lib.hid (att_rd8 (w := w) (W := wc) (g := w.heap.size + 1 + 1) HR.out B9.out (by omega) H6.out (v0 := .int .i64 kind) (v1 := .int .i64 entry) (v2 := .string image) (v3 := .slice a1 n1 c1) (v4 := .slice a2 n2 c2) (v5 := .slice a3 n3 c3) (v6 := .slice a4 n4 c4) (v7 := .slice A6 (n5 + 1) C6))
    go_wp2
    change bodyPost _ _ _ _ _ (set8 wc (w.heap.size + 1 + 1) (.int .i64 kind) (.int .i64 entry) (.string image) (.slice a1 n1 c1) (.slice a2 n2 c2) (.slice a3 n3 c3) (.slice a4 n4 c4) (.slice A6 (n5 + 1) C6))
    generalize (set8 wc (w.heap.size + 1 + 1) (.int .i64 kind) (.int .i64 entry) (.string image) (.slice a1 n1 c1) (.slice a2 n2 c2) (.slice a3 n3 c3) (.slice a4 n4 c4) (.slice A6 (n5 + 1) C6)) = wZ at *
    have e0 := YZ.out.cell' 0 _ rfl
    have e1 := YZ.out.cell' 1 _ rfl
    have e2 := YZ.out.cell' 2 _ rfl
    have e3 := YZ.out.cell' 3 _ rfl
    have e4 := YZ.out.cell' 4 _ rfl
    have e5 := YZ.out.cell' 5 _ rfl
    have e6 := YZ.out.cell' 6 _ rfl
    have e7 := YZ.out.cell' 7 _ rfl
    exact bodyPost_ret (v := .tuple #[.agg #[.int .i64 kind, .int .i64 entry, .string image, .slice a1 n1 c1, .slice a2 n2 c2, .slice a3 n3 c3, .slice a4 n4 c4, .slice A6 (n5 + 1) C6], .int .i64 0]) (by simp [results, Tryz.results20, go_sem, e0, e1, e2, e3, e4, e5, e6, e7]) rfl (HYES.out ⟨a1, c1, a2, c2, a3, c3, a4, c4, A6, C6⟩ (n5 + 1) rfl (by have hv := HV.out; have hl := HL.out.2.2.2.2; simp [attachV, hv.1, hv.2.1, hv.2.2, hl, GT.out.1, GT.out.2]) _ _ rfl BZ9.out NZ.out)
end Go.Proofs.YtnknmpcgbfmfjaaGreatDoor

