/- Strip of the program and of the reference. Conditions: sizes. (Printed by mk-k3.py.) -/
import Derived.Test.YtnknmpcgbfmfjaaGreatDoorGK2
import Derived.Test.YtnknmpcgbfmfjaaGreatDoorGC2

namespace Go.Proofs.YtnknmpcgbfmfjaaGreatDoor
open Go Go.RowKit Go.Joins
set_option linter.unusedSimpArgs false
set_option linter.unusedVariables false

def zB : Bn := ⟨0, 0, ⟨#[]⟩, [], [], [], [], []⟩
def zH : BH := ⟨none, 0, none, 0, none, 0, none, 0, none, 0⟩
theorem zRd (w : World) : BRd w zB zH := ⟨Rd.none_ _, Rd.none_ _, Rd.none_ _, Rd.none_ _, Rd.none_ _⟩
def stripB (b : Bn) : Bn := if checkV b = true then { b with notes := [] } else zB
def StripP (b : Bn) (w : World) (e : Ending) (w' : World) : Prop := (∃ h', e = .returned (.tuple #[.agg (bcells (stripB b) h'), .int .i64 (chkE b)]) ∧ BRd w' (stripB b) h') ∧ New w w'
theorem strip_no {b : Bn} {w : World} {e : Ending} {w' : World} (hc : checkV b = false) (he : e = .returned (.tuple #[.agg #[.int .i64 0, .int .i64 0, .string ⟨#[]⟩, .slice none 0 0, .slice none 0 0, .slice none 0 0, .slice none 0 0, .slice none 0 0], .int .i64 1])) (hn : New w w') : StripP b w e w' := by
  have h1 : stripB b = zB := by unfold stripB; rw [hc]; rfl
  have h2 : chkE b = 1 := by unfold chkE; rw [hc]; rfl
  exact ⟨⟨zH, by rw [h1, h2, he]; rfl, by rw [h1]; exact zRd _⟩, hn⟩
theorem strip_yes {b : Bn} {w : World} {e : Ending} {w' : World} (h : BH) (hc : checkV b = true) (he : e = .returned (.tuple #[.agg #[.int .i64 b.kind, .int .i64 b.entry, .string b.image, .slice h.a1 b.places.length h.c1, .slice h.a2 b.fix.length h.c2, .slice h.a3 b.imps.length h.c3, .slice h.a4 b.exps.length h.c4, .slice none 0 0], .int .i64 0])) (hr : BRd w' b h) (hn : New w w') : StripP b w e w' := by
  have h1 : stripB b = { b with notes := [] } := by unfold stripB; rw [hc]; rfl
  have h2 : chkE b = 0 := by unfold chkE; rw [hc]; rfl
  exact ⟨⟨{ h with a5 := none, c5 := 0 }, by rw [h1, h2, he]; rfl, by rw [h1]; exact ⟨hr.r1, hr.r2, hr.r3, hr.r4, Rd.none_ _⟩⟩, hn⟩
theorem set8_brd {w : World} {b : Bn} {h : BH} {g : Nat} {v0 v1 v2 v3 v4 v5 v6 v7 : Value} (hr : BRd w b h) (hg : ∀ A, A = h.a1 ∨ A = h.a2 ∨ A = h.a3 ∨ A = h.a4 ∨ A = h.a5 → ∀ a, A = some a → a.block ≠ g) : BRd (set8 w g v0 v1 v2 v3 v4 v5 v6 v7) b h :=
  ⟨set8_rd hr.r1 (hg _ (Or.inl rfl)), set8_rd hr.r2 (hg _ (Or.inr (Or.inl rfl))), set8_rd hr.r3 (hg _ (Or.inr (Or.inr (Or.inl rfl)))), set8_rd hr.r4 (hg _ (Or.inr (Or.inr (Or.inr (Or.inl rfl))))), set8_rd hr.r5 (hg _ (Or.inr (Or.inr (Or.inr (Or.inr rfl)))))⟩
theorem rd_set8 {w W : World} {k n : Nat} {A : Option Addr} {xs : List Value} {v0 v1 v2 v3 v4 v5 v6 v7 : Value} (h : Rd w k A n xs) (hn : New w W) : Rd (set8 W (w.heap.size + 1) v0 v1 v2 v3 v4 v5 v6 v7) k A n xs :=
  h.below (set8_new (B := w.heap.size) hn (Nat.le_succ _))
theorem brd_set8 {w W : World} {b : Bn} {h : BH} {v0 v1 v2 v3 v4 v5 v6 v7 : Value} (hr : BRd w b h) (hn : New w W) : BRd (set8 W (w.heap.size + 1) v0 v1 v2 v3 v4 v5 v6 v7) b h :=
  ⟨rd_set8 hr.r1 hn, rd_set8 hr.r2 hn, rd_set8 hr.r3 hn, rd_set8 hr.r4 hn, rd_set8 hr.r5 hn⟩
set_option maxRecDepth 100000 in
set_option maxHeartbeats 8000000 in
theorem strip_any (b : Bn) (h : BH) (w : World) (hr : BRd w b h) (hz : SzB b) (hE : Env w) :
    Calls Tryz.prog 21 #[.agg (bcells b h)] w (StripP b w) := by
  have HC := Lib.hid (fun W (hn : New w W) => check_any b h W (hr.new hn) hz (hE.new hn))
  have hce : chkE b = if checkV b = true then 0 else 1 := rfl
  rw [hce] at HC
  have HCL := Lib.hid (fun W (hn : New w W) => bclone_any b h W (hr.new hn) hz.l1 hz.l2 hz.l3 hz.l4 hz.l5)
  have HNO := Lib.hid (fun (hc : checkV b = false) e w' he hn => strip_no (b := b) (w := w) (e := e) (w' := w') hc he hn)
  have HYES := Lib.hid (fun (hc : checkV b = true) (h' : BH) e w' he hr hn => strip_yes (b := b) (w := w) (e := e) (w' := w') h' hc he hr hn)
  have HR := Lib.hid hr
  have BX := (Blk.made w 28 (bcells b h)).alloc (.cells #[.int .i64 0, .int .i64 0, .string ⟨#[]⟩, .slice none 0 0, .slice none 0 0, .slice none 0 0, .slice none 0 0, .slice none 0 0] 28)
  have BZ : Blk ((w.alloc (.cells (bcells b h) 28)).alloc (.cells #[.int .i64 0, .int .i64 0, .string ⟨#[]⟩, .slice none 0 0, .slice none 0 0, .slice none 0 0, .slice none 0 0, .slice none 0 0] 28)) (w.heap.size + 1) 28 #[.int .i64 0, .int .i64 0, .string ⟨#[]⟩, .slice none 0 0, .slice none 0 0, .slice none 0 0, .slice none 0 0, .slice none 0 0] := by
    have q := Blk.made (w.alloc (.cells (bcells b h) 28)) 28 #[.int .i64 0, .int .i64 0, .string ⟨#[]⟩, .slice none 0 0, .slice none 0 0, .slice none 0 0, .slice none 0 0, .slice none 0 0]
    rwa [World.size_alloc] at q
  have hnX : New w ((w.alloc (.cells (bcells b h) 28)).alloc (.cells #[.int .i64 0, .int .i64 0, .string ⟨#[]⟩, .slice none 0 0, .slice none 0 0, .slice none 0 0, .slice none 0 0, .slice none 0 0] 28)) := ((New.refl w).alloc _).alloc _
  obtain ⟨cv, hcv⟩ : ∃ v, checkV b = v := ⟨_, rfl⟩
  rw [hcv] at HC HNO HYES
  generalize hP : StripP b w = PP at *
  clear hce hcv hr hz hP hE
  obtain ⟨kind, entry, image, places, fix, imps, exps, notes⟩ := b
  obtain ⟨a1, c1, a2, c2, a3, c3, a4, c4, a5, c5⟩ := h
  simp only [bcells] at BX BZ hnX HC HCL HNO HYES HR ⊢
  obtain ⟨n1, hn1⟩ : ∃ n, places.length = n := ⟨_, rfl⟩
  obtain ⟨n2, hn2⟩ : ∃ n, fix.length = n := ⟨_, rfl⟩
  obtain ⟨n3, hn3⟩ : ∃ n, imps.length = n := ⟨_, rfl⟩
  obtain ⟨n4, hn4⟩ : ∃ n, exps.length = n := ⟨_, rfl⟩
  obtain ⟨n5, hn5⟩ : ∃ n, notes.length = n := ⟨_, rfl⟩
  rw [hn1, hn2, hn3, hn4, hn5] at BX BZ hnX HC HCL ⊢
  rw [hn1, hn2, hn3, hn4] at HYES
  have HL : Hid (places.length = n1 ∧ fix.length = n2 ∧ imps.length = n3 ∧ exps.length = n4 ∧ notes.length = n5) := Lib.hid ⟨hn1, hn2, hn3, hn4, hn5⟩
  clear hn1 hn2 hn3 hn4 hn5
  cases cv
  · skip
    go_enter Tryz.func21, Tryz.ntmps21
    go_wp2_with (go_at_call 14; (with_reducible refine (HC.out _ hnX).mono ?_); rintro e w1 ⟨rfl, k1⟩; have YB := BZ.new k1; have XB := BX.new k1; have y0 := YB.cell' 0 _ rfl; have y1 := YB.cell' 1 _ rfl; have y2 := YB.cell' 2 _ rfl; have y3 := YB.cell' 3 _ rfl; have y4 := YB.cell' 4 _ rfl; have y5 := YB.cell' 5 _ rfl; have y6 := YB.cell' 6 _ rfl; have y7 := YB.cell' 7 _ rfl; have z0 := YB.free 0; have z1 := YB.free 1; have z2 := YB.free 2; have z3 := YB.free 3; have z4 := YB.free 4; have z5 := YB.free 5; have z6 := YB.free 6; have z7 := YB.free 7; have x0 := XB.cell' 0 _ rfl; have x1 := XB.cell' 1 _ rfl; have x2 := XB.cell' 2 _ rfl; have x3 := XB.cell' 3 _ rfl; have x4 := XB.cell' 4 _ rfl; have x5 := XB.cell' 5 _ rfl; have x6 := XB.cell' 6 _ rfl; have x7 := XB.cell' 7 _ rfl)
    have YZ := set8_blk (v0 := .int .i64 0) (v1 := .int .i64 0) (v2 := .string ⟨#[]⟩) (v3 := .slice none 0 0) (v4 := .slice none 0 0) (v5 := .slice none 0 0) (v6 := .slice none 0 0) (v7 := .slice none 0 0) (YB)
    have NZ := Lib.hid (set8_new (g := w.heap.size + 1) (v0 := .int .i64 0) (v1 := .int .i64 0) (v2 := .string ⟨#[]⟩) (v3 := .slice none 0 0) (v4 := .slice none 0 0) (v5 := .slice none 0 0) (v6 := .slice none 0 0) (v7 := .slice none 0 0) (hnX.trans k1) (Nat.le_succ _))
    have HYZ := Lib.hid YZ
    clear YZ
    change bodyPost _ _ _ _ _ (set8 w1 (w.heap.size + 1) (.int .i64 0) (.int .i64 0) (.string ⟨#[]⟩) (.slice none 0 0) (.slice none 0 0) (.slice none 0 0) (.slice none 0 0) (.slice none 0 0))
    generalize (set8 w1 (w.heap.size + 1) (.int .i64 0) (.int .i64 0) (.string ⟨#[]⟩) (.slice none 0 0) (.slice none 0 0) (.slice none 0 0) (.slice none 0 0) (.slice none 0 0)) = wZ at *
    have e0 := HYZ.out.cell' 0 _ rfl
    have e1 := HYZ.out.cell' 1 _ rfl
    have e2 := HYZ.out.cell' 2 _ rfl
    have e3 := HYZ.out.cell' 3 _ rfl
    have e4 := HYZ.out.cell' 4 _ rfl
    have e5 := HYZ.out.cell' 5 _ rfl
    have e6 := HYZ.out.cell' 6 _ rfl
    have e7 := HYZ.out.cell' 7 _ rfl
    exact bodyPost_ret (v := .tuple #[.agg #[.int .i64 0, .int .i64 0, .string ⟨#[]⟩, .slice none 0 0, .slice none 0 0, .slice none 0 0, .slice none 0 0, .slice none 0 0], .int .i64 1]) (by simp [results, Tryz.results21, go_sem, e0, e1, e2, e3, e4, e5, e6, e7]) rfl (HNO.out (by first | rfl | trivial) _ _ rfl NZ.out)
  · skip
    go_enter Tryz.func21, Tryz.ntmps21
    go_wp2_with (first | (go_at_call 74; (with_reducible refine (HCL.out _ (hnX.trans k1)).mono ?_); rintro e w2 ⟨⟨⟨A1, C1, A2, C2, A3, C3, A4, C4, A5, C5⟩, rfl, r, _, far⟩, k2⟩; have RR := Lib.hid r; have FA := Lib.hid far; clear r far; have YB3 := (YB.new k2).alloc (.cells #[.int .i64 kind, .int .i64 entry, .string image, .slice A1 n1 C1, .slice A2 n2 C2, .slice A3 n3 C3, .slice A4 n4 C4, .slice none 0 0] 28); have yy0 := YB3.cell' 0 _ rfl; have yy1 := YB3.cell' 1 _ rfl; have yy2 := YB3.cell' 2 _ rfl; have yy3 := YB3.cell' 3 _ rfl; have yy4 := YB3.cell' 4 _ rfl; have yy5 := YB3.cell' 5 _ rfl; have yy6 := YB3.cell' 6 _ rfl; have yy7 := YB3.cell' 7 _ rfl; have zz0 := YB3.free 0; have zz1 := YB3.free 1; have zz2 := YB3.free 2; have zz3 := YB3.free 3; have zz4 := YB3.free 4; have zz5 := YB3.free 5; have zz6 := YB3.free 6; have zz7 := YB3.free 7) | (go_at_call 14; (with_reducible refine (HC.out _ hnX).mono ?_); rintro e w1 ⟨rfl, k1⟩; have YB := BZ.new k1; have XB := BX.new k1; have y0 := YB.cell' 0 _ rfl; have y1 := YB.cell' 1 _ rfl; have y2 := YB.cell' 2 _ rfl; have y3 := YB.cell' 3 _ rfl; have y4 := YB.cell' 4 _ rfl; have y5 := YB.cell' 5 _ rfl; have y6 := YB.cell' 6 _ rfl; have y7 := YB.cell' 7 _ rfl; have z0 := YB.free 0; have z1 := YB.free 1; have z2 := YB.free 2; have z3 := YB.free 3; have z4 := YB.free 4; have z5 := YB.free 5; have z6 := YB.free 6; have z7 := YB.free 7; have x0 := XB.cell' 0 _ rfl; have x1 := XB.cell' 1 _ rfl; have x2 := XB.cell' 2 _ rfl; have x3 := XB.cell' 3 _ rfl; have x4 := XB.cell' 4 _ rfl; have x5 := XB.cell' 5 _ rfl; have x6 := XB.cell' 6 _ rfl; have x7 := XB.cell' 7 _ rfl))
    have hgr : w.heap.size + 1 < w1.heap.size := YB.lt
    have YZ := set8_blk (v0 := .int .i64 kind) (v1 := .int .i64 entry) (v2 := .string image) (v3 := .slice A1 n1 C1) (v4 := .slice A2 n2 C2) (v5 := .slice A3 n3 C3) (v6 := .slice A4 n4 C4) (v7 := .slice none 0 0) (YB3)
    have NZ := Lib.hid (set8_new (g := w.heap.size + 1) (v0 := .int .i64 kind) (v1 := .int .i64 entry) (v2 := .string image) (v3 := .slice A1 n1 C1) (v4 := .slice A2 n2 C2) (v5 := .slice A3 n3 C3) (v6 := .slice A4 n4 C4) (v7 := .slice none 0 0) (hnX.trans (k1.trans (New.alloc k2 (.cells #[.int .i64 kind, .int .i64 entry, .string image, .slice A1 n1 C1, .slice A2 n2 C2, .slice A3 n3 C3, .slice A4 n4 C4, .slice none 0 0] 28)))) (Nat.le_succ _))
    have HYZ := Lib.hid YZ
    clear YZ
    change bodyPost _ _ _ _ _ (set8 (w2.alloc (.cells #[.int .i64 kind, .int .i64 entry, .string image, .slice A1 n1 C1, .slice A2 n2 C2, .slice A3 n3 C3, .slice A4 n4 C4, .slice none 0 0] 28)) (w.heap.size + 1) (.int .i64 kind) (.int .i64 entry) (.string image) (.slice A1 n1 C1) (.slice A2 n2 C2) (.slice A3 n3 C3) (.slice A4 n4 C4) (.slice none 0 0))
    have HB : Hid (BRd (set8 (w2.alloc (.cells #[.int .i64 kind, .int .i64 entry, .string image, .slice A1 n1 C1, .slice A2 n2 C2, .slice A3 n3 C3, .slice A4 n4 C4, .slice none 0 0] 28)) (w.heap.size + 1) (.int .i64 kind) (.int .i64 entry) (.string image) (.slice A1 n1 C1) (.slice A2 n2 C2) (.slice A3 n3 C3) (.slice A4 n4 C4) (.slice none 0 0)) ⟨kind, entry, image, places, fix, imps, exps, notes⟩ ⟨A1, C1, A2, C2, A3, C3, A4, C4, A5, C5⟩) := Lib.hid (set8_brd (RR.out.new ((New.refl _).alloc _)) (fun A hA a ha => by have := FA.out A hA a ha; omega))
    generalize (set8 (w2.alloc (.cells #[.int .i64 kind, .int .i64 entry, .string image, .slice A1 n1 C1, .slice A2 n2 C2, .slice A3 n3 C3, .slice A4 n4 C4, .slice none 0 0] 28)) (w.heap.size + 1) (.int .i64 kind) (.int .i64 entry) (.string image) (.slice A1 n1 C1) (.slice A2 n2 C2) (.slice A3 n3 C3) (.slice A4 n4 C4) (.slice none 0 0)) = wZ at *
    have e0 := HYZ.out.cell' 0 _ rfl
    have e1 := HYZ.out.cell' 1 _ rfl
    have e2 := HYZ.out.cell' 2 _ rfl
    have e3 := HYZ.out.cell' 3 _ rfl
    have e4 := HYZ.out.cell' 4 _ rfl
    have e5 := HYZ.out.cell' 5 _ rfl
    have e6 := HYZ.out.cell' 6 _ rfl
    have e7 := HYZ.out.cell' 7 _ rfl
    exact bodyPost_ret (v := .tuple #[.agg #[.int .i64 kind, .int .i64 entry, .string image, .slice A1 n1 C1, .slice A2 n2 C2, .slice A3 n3 C3, .slice A4 n4 C4, .slice none 0 0], .int .i64 0]) (by simp [results, Tryz.results21, go_sem, e0, e1, e2, e3, e4, e5, e6, e7]) rfl (HYES.out (by first | rfl | trivial) ⟨A1, C1, A2, C2, A3, C3, A4, C4, A5, C5⟩ _ _ rfl HB.out NZ.out)
set_option maxRecDepth 100000 in
set_option maxHeartbeats 8000000 in
theorem rstrip_any (b : Bn) (h : BH) (w : World) (hr : BRd w b h) (hz : SzB b) :
    Calls Tryz.prog 22 #[.agg (bcells b h)] w (StripP b w) := by
  have HC := Lib.hid (fun W (hn : New w W) => rcheck_any b h W (hr.new hn) hz)
  have hce : chkE b = if checkV b = true then 0 else 1 := rfl
  rw [hce] at HC
  have HCL := Lib.hid (fun W (hn : New w W) => bclone_any b h W (hr.new hn) hz.l1 hz.l2 hz.l3 hz.l4 hz.l5)
  have HNO := Lib.hid (fun (hc : checkV b = false) e w' he hn => strip_no (b := b) (w := w) (e := e) (w' := w') hc he hn)
  have HYES := Lib.hid (fun (hc : checkV b = true) (h' : BH) e w' he hr hn => strip_yes (b := b) (w := w) (e := e) (w' := w') h' hc he hr hn)
  have HR := Lib.hid hr
  have BX := (Blk.made w 28 (bcells b h)).alloc (.cells #[.int .i64 0, .int .i64 0, .string ⟨#[]⟩, .slice none 0 0, .slice none 0 0, .slice none 0 0, .slice none 0 0, .slice none 0 0] 28)
  have BZ : Blk ((w.alloc (.cells (bcells b h) 28)).alloc (.cells #[.int .i64 0, .int .i64 0, .string ⟨#[]⟩, .slice none 0 0, .slice none 0 0, .slice none 0 0, .slice none 0 0, .slice none 0 0] 28)) (w.heap.size + 1) 28 #[.int .i64 0, .int .i64 0, .string ⟨#[]⟩, .slice none 0 0, .slice none 0 0, .slice none 0 0, .slice none 0 0, .slice none 0 0] := by
    have q := Blk.made (w.alloc (.cells (bcells b h) 28)) 28 #[.int .i64 0, .int .i64 0, .string ⟨#[]⟩, .slice none 0 0, .slice none 0 0, .slice none 0 0, .slice none 0 0, .slice none 0 0]
    rwa [World.size_alloc] at q
  have hnX : New w ((w.alloc (.cells (bcells b h) 28)).alloc (.cells #[.int .i64 0, .int .i64 0, .string ⟨#[]⟩, .slice none 0 0, .slice none 0 0, .slice none 0 0, .slice none 0 0, .slice none 0 0] 28)) := ((New.refl w).alloc _).alloc _
  obtain ⟨cv, hcv⟩ : ∃ v, checkV b = v := ⟨_, rfl⟩
  rw [hcv] at HC HNO HYES
  generalize hP : StripP b w = PP at *
  clear hce hcv hr hz hP
  obtain ⟨kind, entry, image, places, fix, imps, exps, notes⟩ := b
  obtain ⟨a1, c1, a2, c2, a3, c3, a4, c4, a5, c5⟩ := h
  simp only [bcells] at BX BZ hnX HC HCL HNO HYES HR ⊢
  obtain ⟨n1, hn1⟩ : ∃ n, places.length = n := ⟨_, rfl⟩
  obtain ⟨n2, hn2⟩ : ∃ n, fix.length = n := ⟨_, rfl⟩
  obtain ⟨n3, hn3⟩ : ∃ n, imps.length = n := ⟨_, rfl⟩
  obtain ⟨n4, hn4⟩ : ∃ n, exps.length = n := ⟨_, rfl⟩
  obtain ⟨n5, hn5⟩ : ∃ n, notes.length = n := ⟨_, rfl⟩
  rw [hn1, hn2, hn3, hn4, hn5] at BX BZ hnX HC HCL ⊢
  rw [hn1, hn2, hn3, hn4] at HYES
  have HL : Hid (places.length = n1 ∧ fix.length = n2 ∧ imps.length = n3 ∧ exps.length = n4 ∧ notes.length = n5) := Lib.hid ⟨hn1, hn2, hn3, hn4, hn5⟩
  clear hn1 hn2 hn3 hn4 hn5
  cases cv
  · skip
    go_enter Tryz.func22, Tryz.ntmps22
    go_wp2_with (go_at_call 15; (with_reducible refine (HC.out _ hnX).mono ?_); rintro e w1 ⟨rfl, k1⟩; have YB := BZ.new k1; have XB := BX.new k1; have y0 := YB.cell' 0 _ rfl; have y1 := YB.cell' 1 _ rfl; have y2 := YB.cell' 2 _ rfl; have y3 := YB.cell' 3 _ rfl; have y4 := YB.cell' 4 _ rfl; have y5 := YB.cell' 5 _ rfl; have y6 := YB.cell' 6 _ rfl; have y7 := YB.cell' 7 _ rfl; have z0 := YB.free 0; have z1 := YB.free 1; have z2 := YB.free 2; have z3 := YB.free 3; have z4 := YB.free 4; have z5 := YB.free 5; have z6 := YB.free 6; have z7 := YB.free 7; have x0 := XB.cell' 0 _ rfl; have x1 := XB.cell' 1 _ rfl; have x2 := XB.cell' 2 _ rfl; have x3 := XB.cell' 3 _ rfl; have x4 := XB.cell' 4 _ rfl; have x5 := XB.cell' 5 _ rfl; have x6 := XB.cell' 6 _ rfl; have x7 := XB.cell' 7 _ rfl)
    have YZ := set8_blk (v0 := .int .i64 0) (v1 := .int .i64 0) (v2 := .string ⟨#[]⟩) (v3 := .slice none 0 0) (v4 := .slice none 0 0) (v5 := .slice none 0 0) (v6 := .slice none 0 0) (v7 := .slice none 0 0) (YB)
    have NZ := Lib.hid (set8_new (g := w.heap.size + 1) (v0 := .int .i64 0) (v1 := .int .i64 0) (v2 := .string ⟨#[]⟩) (v3 := .slice none 0 0) (v4 := .slice none 0 0) (v5 := .slice none 0 0) (v6 := .slice none 0 0) (v7 := .slice none 0 0) (hnX.trans k1) (Nat.le_succ _))
    have HYZ := Lib.hid YZ
    clear YZ
    change bodyPost _ _ _ _ _ (set8 w1 (w.heap.size + 1) (.int .i64 0) (.int .i64 0) (.string ⟨#[]⟩) (.slice none 0 0) (.slice none 0 0) (.slice none 0 0) (.slice none 0 0) (.slice none 0 0))
    generalize (set8 w1 (w.heap.size + 1) (.int .i64 0) (.int .i64 0) (.string ⟨#[]⟩) (.slice none 0 0) (.slice none 0 0) (.slice none 0 0) (.slice none 0 0) (.slice none 0 0)) = wZ at *
    have e0 := HYZ.out.cell' 0 _ rfl
    have e1 := HYZ.out.cell' 1 _ rfl
    have e2 := HYZ.out.cell' 2 _ rfl
    have e3 := HYZ.out.cell' 3 _ rfl
    have e4 := HYZ.out.cell' 4 _ rfl
    have e5 := HYZ.out.cell' 5 _ rfl
    have e6 := HYZ.out.cell' 6 _ rfl
    have e7 := HYZ.out.cell' 7 _ rfl
    exact bodyPost_ret (v := .tuple #[.agg #[.int .i64 0, .int .i64 0, .string ⟨#[]⟩, .slice none 0 0, .slice none 0 0, .slice none 0 0, .slice none 0 0, .slice none 0 0], .int .i64 1]) (by simp [results, Tryz.results22, go_sem, e0, e1, e2, e3, e4, e5, e6, e7]) rfl (HNO.out (by first | rfl | trivial) _ _ rfl NZ.out)
  · skip
    go_enter Tryz.func22, Tryz.ntmps22
    go_wp2_with (go_at_call 15; (with_reducible refine (HC.out _ hnX).mono ?_); rintro e w1 ⟨rfl, k1⟩; have YB := BZ.new k1; have XB := BX.new k1; have y0 := YB.cell' 0 _ rfl; have y1 := YB.cell' 1 _ rfl; have y2 := YB.cell' 2 _ rfl; have y3 := YB.cell' 3 _ rfl; have y4 := YB.cell' 4 _ rfl; have y5 := YB.cell' 5 _ rfl; have y6 := YB.cell' 6 _ rfl; have y7 := YB.cell' 7 _ rfl; have z0 := YB.free 0; have z1 := YB.free 1; have z2 := YB.free 2; have z3 := YB.free 3; have z4 := YB.free 4; have z5 := YB.free 5; have z6 := YB.free 6; have z7 := YB.free 7; have x0 := XB.cell' 0 _ rfl; have x1 := XB.cell' 1 _ rfl; have x2 := XB.cell' 2 _ rfl; have x3 := XB.cell' 3 _ rfl; have x4 := XB.cell' 4 _ rfl; have x5 := XB.cell' 5 _ rfl; have x6 := XB.cell' 6 _ rfl; have x7 := XB.cell' 7 _ rfl; have u7 := XB.free 7; have XB3 := XB.put 7 (.slice none 0 0); have YB3 := YB.far (p := ⟨w.heap.size, 7, none⟩) (by simp) (.slice none 0 0); have nB : New w (w1.setCell ⟨w.heap.size, 7, none⟩ (.slice none 0 0)) := below_setCell' (hnX.trans k1) (Nat.le_refl _) _; have yy0 := YB3.cell' 0 _ rfl; have yy1 := YB3.cell' 1 _ rfl; have yy2 := YB3.cell' 2 _ rfl; have yy3 := YB3.cell' 3 _ rfl; have yy4 := YB3.cell' 4 _ rfl; have yy5 := YB3.cell' 5 _ rfl; have yy6 := YB3.cell' 6 _ rfl; have yy7 := YB3.cell' 7 _ rfl; have zz0 := YB3.free 0; have zz1 := YB3.free 1; have zz2 := YB3.free 2; have zz3 := YB3.free 3; have zz4 := YB3.free 4; have zz5 := YB3.free 5; have zz6 := YB3.free 6; have zz7 := YB3.free 7)
    have YZ := set8_blk (v0 := .int .i64 kind) (v1 := .int .i64 entry) (v2 := .string image) (v3 := .slice a1 n1 c1) (v4 := .slice a2 n2 c2) (v5 := .slice a3 n3 c3) (v6 := .slice a4 n4 c4) (v7 := .slice none 0 0) (YB3)
    have NZ := Lib.hid (set8_new (g := w.heap.size + 1) (v0 := .int .i64 kind) (v1 := .int .i64 entry) (v2 := .string image) (v3 := .slice a1 n1 c1) (v4 := .slice a2 n2 c2) (v5 := .slice a3 n3 c3) (v6 := .slice a4 n4 c4) (v7 := .slice none 0 0) (nB) (Nat.le_succ _))
    have HYZ := Lib.hid YZ
    clear YZ
    change bodyPost _ _ _ _ _ (set8 (w1.setCell ⟨w.heap.size, 7, none⟩ (.slice none 0 0)) (w.heap.size + 1) (.int .i64 kind) (.int .i64 entry) (.string image) (.slice a1 n1 c1) (.slice a2 n2 c2) (.slice a3 n3 c3) (.slice a4 n4 c4) (.slice none 0 0))
    have HB : Hid (BRd (set8 (w1.setCell ⟨w.heap.size, 7, none⟩ (.slice none 0 0)) (w.heap.size + 1) (.int .i64 kind) (.int .i64 entry) (.string image) (.slice a1 n1 c1) (.slice a2 n2 c2) (.slice a3 n3 c3) (.slice a4 n4 c4) (.slice none 0 0)) ⟨kind, entry, image, places, fix, imps, exps, notes⟩ ⟨a1, c1, a2, c2, a3, c3, a4, c4, a5, c5⟩) := Lib.hid (brd_set8 HR.out nB)
    generalize (set8 (w1.setCell ⟨w.heap.size, 7, none⟩ (.slice none 0 0)) (w.heap.size + 1) (.int .i64 kind) (.int .i64 entry) (.string image) (.slice a1 n1 c1) (.slice a2 n2 c2) (.slice a3 n3 c3) (.slice a4 n4 c4) (.slice none 0 0)) = wZ at *
    have e0 := HYZ.out.cell' 0 _ rfl
    have e1 := HYZ.out.cell' 1 _ rfl
    have e2 := HYZ.out.cell' 2 _ rfl
    have e3 := HYZ.out.cell' 3 _ rfl
    have e4 := HYZ.out.cell' 4 _ rfl
    have e5 := HYZ.out.cell' 5 _ rfl
    have e6 := HYZ.out.cell' 6 _ rfl
    have e7 := HYZ.out.cell' 7 _ rfl
    exact bodyPost_ret (v := .tuple #[.agg #[.int .i64 kind, .int .i64 entry, .string image, .slice a1 n1 c1, .slice a2 n2 c2, .slice a3 n3 c3, .slice a4 n4 c4, .slice none 0 0], .int .i64 0]) (by simp [results, Tryz.results22, go_sem, e0, e1, e2, e3, e4, e5, e6, e7]) rfl (HYES.out (by first | rfl | trivial) ⟨a1, c1, a2, c2, a3, c3, a4, c4, a5, c5⟩ _ _ rfl HB.out NZ.out)
end Go.Proofs.YtnknmpcgbfmfjaaGreatDoor

