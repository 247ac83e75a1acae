/- binary.clone. Conditions: sizes. (Printed by mk-k2.py.) -/
import Derived.Test.YtnknmpcgbfmfjaaGreatDoorGK1
import Derived.Deep.RegionWith
import Derived.Deep.DeepCutAuto

namespace Go.Proofs.YtnknmpcgbfmfjaaGreatDoor
open Go Go.RowKit Go.Joins
set_option linter.unusedSimpArgs false
set_option linter.unusedVariables false


def set8 (w : World) (g : Nat) (v0 v1 v2 v3 v4 v5 v6 v7 : Value) : World := ((((((((w.setCell ⟨g, 0, none⟩ v0).setCell ⟨g, 1, none⟩ v1).setCell ⟨g, 2, none⟩ v2).setCell ⟨g, 3, none⟩ v3).setCell ⟨g, 4, none⟩ v4).setCell ⟨g, 5, none⟩ v5).setCell ⟨g, 6, none⟩ v6).setCell ⟨g, 7, none⟩ v7)
theorem set8_blk {w : World} {g : Nat} {t : TypeId} {x0 x1 x2 x3 x4 x5 x6 x7 v0 v1 v2 v3 v4 v5 v6 v7 : Value} (h : Blk w g t #[x0, x1, x2, x3, x4, x5, x6, x7]) : Blk (set8 w g v0 v1 v2 v3 v4 v5 v6 v7) g t #[v0, v1, v2, v3, v4, v5, v6, v7] := by
  unfold set8
  have h0 : Blk _ g t #[v0, x1, x2, x3, x4, x5, x6, x7] := h.put 0 v0
  have h1 : Blk _ g t #[v0, v1, x2, x3, x4, x5, x6, x7] := h0.put 1 v1
  have h2 : Blk _ g t #[v0, v1, v2, x3, x4, x5, x6, x7] := h1.put 2 v2
  have h3 : Blk _ g t #[v0, v1, v2, v3, x4, x5, x6, x7] := h2.put 3 v3
  have h4 : Blk _ g t #[v0, v1, v2, v3, v4, x5, x6, x7] := h3.put 4 v4
  have h5 : Blk _ g t #[v0, v1, v2, v3, v4, v5, x6, x7] := h4.put 5 v5
  have h6 : Blk _ g t #[v0, v1, v2, v3, v4, v5, v6, x7] := h5.put 6 v6
  have h7 : Blk _ g t #[v0, v1, v2, v3, v4, v5, v6, v7] := h6.put 7 v7
  exact h7
theorem set8_rd {w : World} {g k n : Nat} {A : Option Addr} {xs : List Value} {v0 v1 v2 v3 v4 v5 v6 v7 : Value} (h : Rd w k A n xs) (hA : ∀ a, A = some a → a.block ≠ g) : Rd (set8 w g v0 v1 v2 v3 v4 v5 v6 v7) k A n xs := ((((((((h.setFar (p := ⟨g, 0, none⟩) hA v0).setFar (p := ⟨g, 1, none⟩) hA v1).setFar (p := ⟨g, 2, none⟩) hA v2).setFar (p := ⟨g, 3, none⟩) hA v3).setFar (p := ⟨g, 4, none⟩) hA v4).setFar (p := ⟨g, 5, none⟩) hA v5).setFar (p := ⟨g, 6, none⟩) hA v6).setFar (p := ⟨g, 7, none⟩) hA v7)
theorem set8_own {w : World} {base : Nat} {e : TypeId} {g k n : Nat} {A : Option Addr} {c : Nat} {xs : List Value} {v0 v1 v2 v3 v4 v5 v6 v7 : Value} (h : w.ownsRow base e k (.slice A n c) n xs) (hA : ∀ a, A = some a → a.block ≠ g) : (set8 w g v0 v1 v2 v3 v4 v5 v6 v7).ownsRow base e k (.slice A n c) n xs := (own_set (p := ⟨g, 7, none⟩) (own_set (p := ⟨g, 6, none⟩) (own_set (p := ⟨g, 5, none⟩) (own_set (p := ⟨g, 4, none⟩) (own_set (p := ⟨g, 3, none⟩) (own_set (p := ⟨g, 2, none⟩) (own_set (p := ⟨g, 1, none⟩) (own_set (p := ⟨g, 0, none⟩) h hA v0) hA v1) hA v2) hA v3) hA v4) hA v5) hA v6) hA v7)
theorem own_base {w : World} {base B : Nat} {e : TypeId} {k n : Nat} {v : Value} {xs : List Value} (h : w.ownsRow base e k v n xs) (hb : B ≤ base) : w.ownsRow B e k v n xs := by
  refine ⟨h.1, ?_⟩
  rcases h.2 with h0 | ⟨g, cap, cur, h1, h2, h3⟩
  · exact Or.inl h0
  · exact Or.inr ⟨g, cap, cur, h1, Nat.le_trans hb h2, h3⟩
theorem set8_new {w0 w : World} {g B : Nat} {v0 v1 v2 v3 v4 v5 v6 v7 : Value} (h : Below B w0 w) (hg : B ≤ g) : Below B w0 (set8 w g v0 v1 v2 v3 v4 v5 v6 v7) := (below_setCell' (p := ⟨g, 7, none⟩) (below_setCell' (p := ⟨g, 6, none⟩) (below_setCell' (p := ⟨g, 5, none⟩) (below_setCell' (p := ⟨g, 4, none⟩) (below_setCell' (p := ⟨g, 3, none⟩) (below_setCell' (p := ⟨g, 2, none⟩) (below_setCell' (p := ⟨g, 1, none⟩) (below_setCell' (p := ⟨g, 0, none⟩) h hg v0) hg v1) hg v2) hg v3) hg v4) hg v5) hg v6) hg v7)
theorem put_three {w : World} {g : Nat} {t : TypeId} {x0 x1 x2 x3 x4 x5 x6 x7 : Value} (h : Blk w g t #[x0, x1, x2, x3, x4, x5, x6, x7]) (y3 y4 y5 : Value) : Blk (((w.setCell ⟨g, 3, none⟩ y3).setCell ⟨g, 4, none⟩ y4).setCell ⟨g, 5, none⟩ y5) g t #[x0, x1, x2, y3, y4, y5, x6, x7] := ((h.put 3 y3).put 4 y4).put 5 y5
theorem put_two {w : World} {g : Nat} {t : TypeId} {x0 x1 x2 x3 x4 x5 x6 x7 : Value} (h : Blk w g t #[x0, x1, x2, x3, x4, x5, x6, x7]) (y6 y7 : Value) : Blk ((w.setCell ⟨g, 6, none⟩ y6).setCell ⟨g, 7, none⟩ y7) g t #[x0, x1, x2, x3, x4, x5, y6, y7] := (h.put 6 y6).put 7 y7
def OwnN (w W : World) (b : Bn) (h : BH) : Prop := ∃ B, w.heap.size ≤ B ∧ W.ownsRow B 40 2 (.slice h.a5 b.notes.length h.c5) b.notes.length (b.notes.flatMap ntC) ∧ (0 < b.places.length → ∀ a, h.a1 = some a → a.block < B) ∧ (0 < b.fix.length → ∀ a, h.a2 = some a → a.block < B) ∧ (0 < b.imps.length → ∀ a, h.a3 = some a → a.block < B) ∧ (0 < b.exps.length → ∀ a, h.a4 = some a → a.block < B)
theorem rd_lt {w : World} {k n : Nat} {A : Option Addr} {xs : List Value} (h : Rd w k A n xs) (hn : 0 < n) (a : Addr) (ha : A = some a) : a.block < w.heap.size := by
  obtain ⟨b, o, e, hb, _⟩ := h.2 hn
  rw [ha] at e; injection e with e; rw [e]; exact hb
set_option maxRecDepth 100000 in
set_option maxHeartbeats 8000000 in
theorem bclone_any (b : Bn) (h : BH) (w : World) (hr : BRd w b h) (l1 : b.places.length ≤ 1000000) (l2 : b.fix.length ≤ 1000000) (l3 : b.imps.length ≤ 1000000) (l4 : b.exps.length ≤ 1000000) (l5 : b.notes.length ≤ 1000000) :
    Calls Tryz.prog 74 #[.agg (bcells b h)] w fun e w' => (∃ h', e = .returned (.agg (bcells b h')) ∧ BRd w' b h' ∧ OwnN w w' b h' ∧ (∀ A, A = h'.a1 ∨ A = h'.a2 ∨ A = h'.a3 ∨ A = h'.a4 ∨ A = h'.a5 → ∀ a, A = some a → w.heap.size ≤ a.block)) ∧ New w w' := by
  have H1 := Lib.hid (fun W (hn : New w W) => clone_pl b.places h.a1 b.places.length h.c1 W rfl (hr.r1.below hn) l1)
  have H2 := Lib.hid (fun W (hn : New w W) => clone_fx b.fix h.a2 b.fix.length h.c2 W rfl (hr.r2.below hn) l2)
  have H3 := Lib.hid (fun W (hn : New w W) => clone_im b.imps h.a3 b.imps.length h.c3 W rfl (hr.r3.below hn) l3)
  have H4 := Lib.hid (fun W (hn : New w W) => clone_ex b.exps h.a4 b.exps.length h.c4 W rfl (hr.r4.below hn) l4)
  have H5 := Lib.hid (fun W (hn : New w W) => clone_nt b.notes h.a5 b.notes.length h.c5 W rfl (hr.r5.below hn) l5)
  have HEND : Hid (∀ (e : Ending) (W : World) (h' : BH), e = .returned (.agg (bcells b h')) → BRd W b h' → OwnN w W b h' → (∀ A, A = h'.a1 ∨ A = h'.a2 ∨ A = h'.a3 ∨ A = h'.a4 ∨ A = h'.a5 → ∀ a, A = some a → w.heap.size ≤ a.block) → New w W → (∃ h', e = .returned (.agg (bcells b h')) ∧ BRd W b h' ∧ OwnN w W b h' ∧ (∀ A, A = h'.a1 ∨ A = h'.a2 ∨ A = h'.a3 ∨ A = h'.a4 ∨ A = h'.a5 → ∀ a, A = some a → w.heap.size ≤ a.block)) ∧ New w W) := Lib.hid (fun e W h' h1 h2 h4 h5 h3 => ⟨⟨h', h1, h2, h4, h5⟩, h3⟩)
  obtain ⟨kind, entry, image, places, fix, imps, exps, notes⟩ := b
  obtain ⟨a1, c1, a2, c2, a3, c3, a4, c4, a5, c5⟩ := h
  simp only [bcells] at H1 H2 H3 H4 H5 HEND ⊢
  obtain ⟨n1, hn1⟩ : ∃ n, places.length = n := ⟨_, rfl⟩
  obtain ⟨n2, hn2⟩ : ∃ n, fix.length = n := ⟨_, rfl⟩
  obtain ⟨n3, hn3⟩ : ∃ n, imps.length = n := ⟨_, rfl⟩
  obtain ⟨n4, hn4⟩ : ∃ n, exps.length = n := ⟨_, rfl⟩
  obtain ⟨n5, hn5⟩ : ∃ n, notes.length = n := ⟨_, rfl⟩
  have HL : Hid (places.length = n1 ∧ fix.length = n2 ∧ imps.length = n3 ∧ exps.length = n4 ∧ notes.length = n5) := Lib.hid ⟨hn1, hn2, hn3, hn4, hn5⟩
  rw [hn1] at H1
  rw [hn2] at H2
  rw [hn3] at H3
  rw [hn4] at H4
  rw [hn5] at H5
  rw [hn1, hn2, hn3, hn4, hn5] at HEND ⊢
  have BX := (Blk.made w 28 #[.int .i64 kind, .int .i64 entry, .string image, .slice a1 n1 c1, .slice a2 n2 c2, .slice a3 n3 c3, .slice a4 n4 c4, .slice a5 n5 c5]).alloc (.cells #[.int .i64 0, .int .i64 0, .string ⟨#[]⟩, .slice none 0 0, .slice none 0 0, .slice none 0 0, .slice none 0 0, .slice none 0 0] 28)
  have BZ : Blk ((w.alloc (.cells #[.int .i64 kind, .int .i64 entry, .string image, .slice a1 n1 c1, .slice a2 n2 c2, .slice a3 n3 c3, .slice a4 n4 c4, .slice a5 n5 c5] 28)).alloc (.cells #[.int .i64 0, .int .i64 0, .string ⟨#[]⟩, .slice none 0 0, .slice none 0 0, .slice none 0 0, .slice none 0 0, .slice none 0 0] 28)) (w.heap.size + 1) 28 #[.int .i64 0, .int .i64 0, .string ⟨#[]⟩, .slice none 0 0, .slice none 0 0, .slice none 0 0, .slice none 0 0, .slice none 0 0] := by
    have q := Blk.made (w.alloc (.cells #[.int .i64 kind, .int .i64 entry, .string image, .slice a1 n1 c1, .slice a2 n2 c2, .slice a3 n3 c3, .slice a4 n4 c4, .slice a5 n5 c5] 28)) 28 #[.int .i64 0, .int .i64 0, .string ⟨#[]⟩, .slice none 0 0, .slice none 0 0, .slice none 0 0, .slice none 0 0, .slice none 0 0]
    rwa [World.size_alloc] at q
  have hnX : New w ((w.alloc (.cells #[.int .i64 kind, .int .i64 entry, .string image, .slice a1 n1 c1, .slice a2 n2 c2, .slice a3 n3 c3, .slice a4 n4 c4, .slice a5 n5 c5] 28)).alloc (.cells #[.int .i64 0, .int .i64 0, .string ⟨#[]⟩, .slice none 0 0, .slice none 0 0, .slice none 0 0, .slice none 0 0, .slice none 0 0] 28)) := ((New.refl w).alloc _).alloc _
  clear hr l1 l2 l3 l4 l5 hn1 hn2 hn3 hn4 hn5
  go_enter Tryz.func74, Tryz.ntmps74
  go_upto_region 1 with (fail)
  go_cut [] (fun wx => ∃ A1 C1 A2 C2 A3 C3, Blk wx w.heap.size 28 #[.int .i64 kind, .int .i64 entry, .string image, .slice A1 n1 C1, .slice A2 n2 C2, .slice A3 n3 C3, .slice a4 n4 c4, .slice a5 n5 c5] ∧ Blk wx (w.heap.size + 1) 28 #[.int .i64 0, .int .i64 0, .string ⟨#[]⟩, .slice none 0 0, .slice none 0 0, .slice none 0 0, .slice none 0 0, .slice none 0 0] ∧ New w wx ∧ Hid (Rd wx 5 A1 n1 (places.flatMap plC) ∧ Rd wx 1 A2 n2 (fix.flatMap fxC) ∧ Rd wx 3 A3 n3 (imps.flatMap imC) ∧ (∀ a, A1 = some a → w.heap.size + 1 < a.block) ∧ (∀ a, A2 = some a → w.heap.size + 1 < a.block) ∧ (∀ a, A3 = some a → w.heap.size + 1 < a.block)))
  case first =>
    have b0 := BX.cell' 0 _ rfl
    have b3 := BX.cell' 3 _ rfl
    have b4 := BX.cell' 4 _ rfl
    have b5 := BX.cell' 5 _ rfl
    go_region_with (first | (go_at_call 116; (with_reducible refine (H3.out _ (hnX.trans (((New.refl _).drew.trans m1).trans m2))).mono ?_); rintro e w4 ⟨⟨A3, C3, rfl, r3, s3, _⟩, m3⟩; have B4 := BX.new ((((New.refl _).drew.trans m1).trans m2).trans m3); have d3 := B4.cell' 3 _ rfl; have d4 := B4.cell' 4 _ rfl; have d5 := B4.cell' 5 _ rfl; have z3 := B4.free 3; have z4 := B4.free 4; have z5 := B4.free 5) | (go_at_call 115; (with_reducible refine (H2.out _ (hnX.trans ((New.refl _).drew.trans m1))).mono ?_); rintro e w3 ⟨⟨A2, C2, rfl, r2, s2, _⟩, m2⟩; have p5 := (BX.new (((New.refl _).drew.trans m1).trans m2)).cell' 5 _ rfl) | (go_at_call 114; (with_reducible refine (H1.out _ (hnX.trans (New.refl _).drew)).mono ?_); rintro e w2 ⟨⟨A1, C1, rfl, r1, s1, _⟩, m1⟩; have o4 := (BX.new ((New.refl _).drew.trans m1)).cell' 4 _ rfl; have o5 := (BX.new ((New.refl _).drew.trans m1)).cell' 5 _ rfl))
    all_goals
      go_wp2_with (fail)
      go_meet
      have nA := (((New.refl _).drew.trans m1).trans m2).trans m3
      have g1 := m1.size
      have g2 := m2.size
      simp only [World.drew, World.size_alloc] at g1
      case rel => exact ⟨A1, C1, A2, C2, A3, C3, put_three B4 _ _ _, (((BZ.new nA).far (by simp) _).far (by simp) _).far (by simp) _, below_setCell' (below_setCell' (below_setCell' (hnX.trans nA) (Nat.le_refl _) _) (Nat.le_refl _) _) (Nat.le_refl _) _,
        Lib.hid ⟨(((r1.below (m2.trans m3)).setFar (fun a ha => by have := s1 a ha; simp only [World.drew, World.size_alloc] at this ⊢; omega) _).setFar (fun a ha => by have := s1 a ha; simp only [World.drew, World.size_alloc] at this ⊢; omega) _).setFar (fun a ha => by have := s1 a ha; simp only [World.drew, World.size_alloc] at this ⊢; omega) _,
          (((r2.below m3).setFar (fun a ha => by have := s2 a ha; simp only; omega) _).setFar (fun a ha => by have := s2 a ha; simp only; omega) _).setFar (fun a ha => by have := s2 a ha; simp only; omega) _,
          ((r3.setFar (fun a ha => by have := s3 a ha; simp only; omega) _).setFar (fun a ha => by have := s3 a ha; simp only; omega) _).setFar (fun a ha => by have := s3 a ha; simp only; omega) _, fun a ha => by have := s1 a ha; simp only [World.drew, World.size_alloc] at this; omega, fun a ha => by have := s2 a ha; omega, fun a ha => by have := s3 a ha; omega⟩⟩
  case rest =>
    obtain ⟨A1, C1, A2, C2, A3, C3, BB, BY, hn, HRR⟩ := hcut
    have b6 := BB.cell' 6 _ rfl
    have b7 := BB.cell' 7 _ rfl
    go_wp2_with (fail)
    go_region_with (first | (go_at_call 118; (with_reducible refine (H5.out _ (hn.trans ((New.refl _).drew.trans m4))).mono ?_); rintro e w6 ⟨⟨A5, C5, rfl, r5, s5, o5⟩, m5⟩; have B6 := BB.new (((New.refl _).drew.trans m4).trans m5); have Y6 := BY.new (((New.refl _).drew.trans m4).trans m5); have d0 := B6.cell' 0 _ rfl; have d1 := B6.cell' 1 _ rfl; have d2 := B6.cell' 2 _ rfl; have d3 := B6.cell' 3 _ rfl; have d4 := B6.cell' 4 _ rfl; have d5 := B6.cell' 5 _ rfl; have d6 := B6.cell' 6 _ rfl; have d7 := B6.cell' 7 _ rfl; have z6 := B6.free 6; have z7 := B6.free 7) | (go_at_call 117; (with_reducible refine (H4.out _ (hn.trans (New.refl _).drew)).mono ?_); rintro e w5 ⟨⟨A4, C4, rfl, r4, s4, _⟩, m4⟩; have p7 := (BB.new ((New.refl _).drew.trans m4)).cell' 7 _ rfl))
    all_goals
      have BF := put_two B6 (.slice A4 n4 C4) (.slice A5 n5 C5)
      have YF := (Y6.far (by simp) (.slice A4 n4 C4) (p := ⟨w.heap.size, 6, none⟩)).far (by simp) (.slice A5 n5 C5) (p := ⟨w.heap.size, 7, none⟩)
      have nF : New w ((w6.setCell ⟨w.heap.size, 6, none⟩ (.slice A4 n4 C4)).setCell ⟨w.heap.size, 7, none⟩ (.slice A5 n5 C5)) := below_setCell' (below_setCell' (hn.trans (((New.refl _).drew.trans m4).trans m5)) (Nat.le_refl _) _) (Nat.le_refl _) _
      have nA := ((New.refl wc).drew.trans m4).trans m5
      have g0 := hn.size
      have g4 := m4.size
      simp only [World.drew] at g4
      obtain ⟨r1, r2, r3, s1, s2, s3⟩ := HRR.out
      have RF := Lib.hid (And.intro (((r1.below nA).setFar (p := ⟨w.heap.size, 6, none⟩) (fun a ha => by have := s1 a ha; simp only; omega) (.slice A4 n4 C4)).setFar (p := ⟨w.heap.size, 7, none⟩) (fun a ha => by have := s1 a ha; simp only; omega) (.slice A5 n5 C5)) (And.intro (((r2.below nA).setFar (p := ⟨w.heap.size, 6, none⟩) (fun a ha => by have := s2 a ha; simp only; omega) (.slice A4 n4 C4)).setFar (p := ⟨w.heap.size, 7, none⟩) (fun a ha => by have := s2 a ha; simp only; omega) (.slice A5 n5 C5)) (And.intro (((r3.below nA).setFar (p := ⟨w.heap.size, 6, none⟩) (fun a ha => by have := s3 a ha; simp only; omega) (.slice A4 n4 C4)).setFar (p := ⟨w.heap.size, 7, none⟩) (fun a ha => by have := s3 a ha; simp only; omega) (.slice A5 n5 C5))
        (And.intro (((r4.below m5).setFar (p := ⟨w.heap.size, 6, none⟩) (fun a ha => by have := s4 a ha; have := BB.lt; simp only [World.drew] at *; omega) (.slice A4 n4 C4)).setFar (p := ⟨w.heap.size, 7, none⟩) (fun a ha => by have := s4 a ha; have := BB.lt; simp only [World.drew] at *; omega) (.slice A5 n5 C5))
          ((r5.setFar (p := ⟨w.heap.size, 6, none⟩) (fun a ha => by have := s5 a ha; have := BB.lt; simp only at *; omega) (.slice A4 n4 C4)).setFar (p := ⟨w.heap.size, 7, none⟩) (fun a ha => by have := s5 a ha; have := BB.lt; simp only at *; omega) (.slice A5 n5 C5))))))
      have f4 : ∀ a, A4 = some a → w.heap.size + 1 < a.block := fun a ha => by have h1 := s4 a ha; have h2 := BY.lt; simp only [World.drew] at h1; omega
      have f5 : ∀ a, A5 = some a → w.heap.size + 1 < a.block := fun a ha => by have h1 := s5 a ha; have h2 := BY.lt; omega
      have o5b : w6.ownsRow w5.heap.size 40 2 (.slice A5 n5 C5) n5 (notes.flatMap ntC) := own_base o5 (by first | exact Nat.le_refl _ | (simp only [World.drew] at *; omega))
      have nB4 := (New.refl wc).drew.trans m4
      have HBK : Hid (w.heap.size ≤ w5.heap.size ∧ (0 < n1 → ∀ a, A1 = some a → a.block < w5.heap.size) ∧ (0 < n2 → ∀ a, A2 = some a → a.block < w5.heap.size) ∧ (0 < n3 → ∀ a, A3 = some a → a.block < w5.heap.size) ∧ (0 < n4 → ∀ a, A4 = some a → a.block < w5.heap.size)) := Lib.hid ⟨by omega, rd_lt (r1.below nB4), rd_lt (r2.below nB4), rd_lt (r3.below nB4), rd_lt r4⟩
      have OF := Lib.hid (own_set (p := ⟨w.heap.size, 7, none⟩) (own_set (p := ⟨w.heap.size, 6, none⟩) o5b (fun a ha => by have h1 := f5 a ha; simp only; omega) (.slice A4 n4 C4)) (fun a ha => by have h1 := f5 a ha; simp only; omega) (.slice A5 n5 C5))
      have FF := Lib.hid (And.intro s1 (And.intro s2 (And.intro s3 (And.intro f4 f5))))
      clear r1 r2 r3 r4 r5 s1 s2 s3 s4 s5 f4 f5 o5 o5b HRR
      generalize (w6.setCell ⟨w.heap.size, 6, none⟩ (.slice A4 n4 C4)).setCell ⟨w.heap.size, 7, none⟩ (.slice A5 n5 C5) = wF at *
      clear d0 d1 d2 d3 d4 d5 d6 d7 z6 z7 p7 b6 b7
      have d0 := BF.cell' 0 _ rfl
      have d1 := BF.cell' 1 _ rfl
      have d2 := BF.cell' 2 _ rfl
      have d3 := BF.cell' 3 _ rfl
      have d4 := BF.cell' 4 _ rfl
      have d5 := BF.cell' 5 _ rfl
      have d6 := BF.cell' 6 _ rfl
      have d7 := BF.cell' 7 _ rfl
      have y0 := YF.cell' 0 _ rfl
      have y1 := YF.cell' 1 _ rfl
      have y2 := YF.cell' 2 _ rfl
      have y3 := YF.cell' 3 _ rfl
      have y4 := YF.cell' 4 _ rfl
      have y5 := YF.cell' 5 _ rfl
      have y6 := YF.cell' 6 _ rfl
      have y7 := YF.cell' 7 _ rfl
      have z0 := YF.free 0
      have z1 := YF.free 1
      have z2 := YF.free 2
      have z3 := YF.free 3
      have z4 := YF.free 4
      have z5 := YF.free 5
      have z6 := YF.free 6
      have z7 := YF.free 7
      have YZ := set8_blk (v0 := .int .i64 kind) (v1 := .int .i64 entry) (v2 := .string image) (v3 := .slice A1 n1 C1) (v4 := .slice A2 n2 C2) (v5 := .slice A3 n3 C3) (v6 := .slice A4 n4 C4) (v7 := .slice A5 n5 C5) YF
      have RZ := Lib.hid (fun (k n : Nat) (A : Option Addr) (xs : List Value) (h : Rd wF k A n xs) (hA : ∀ a, A = some a → a.block ≠ w.heap.size + 1) => set8_rd (v0 := .int .i64 kind) (v1 := .int .i64 entry) (v2 := .string image) (v3 := .slice A1 n1 C1) (v4 := .slice A2 n2 C2) (v5 := .slice A3 n3 C3) (v6 := .slice A4 n4 C4) (v7 := .slice A5 n5 C5) h hA)
      have NZ := Lib.hid (set8_new (g := w.heap.size + 1) (v0 := .int .i64 kind) (v1 := .int .i64 entry) (v2 := .string image) (v3 := .slice A1 n1 C1) (v4 := .slice A2 n2 C2) (v5 := .slice A3 n3 C3) (v6 := .slice A4 n4 C4) (v7 := .slice A5 n5 C5) nF (Nat.le_succ _))
      have HYZ := Lib.hid YZ
      clear YZ
      go_wp2_with (fail)
      change bodyPost _ _ _ _ _ (set8 wF (w.heap.size + 1) (.int .i64 kind) (.int .i64 entry) (.string image) (.slice A1 n1 C1) (.slice A2 n2 C2) (.slice A3 n3 C3) (.slice A4 n4 C4) (.slice A5 n5 C5))
      obtain ⟨f1, f2, f3, f4, f5⟩ := FF.out
      obtain ⟨r1, r2, r3, r4, r5⟩ := RF.out
      have HB : Hid (BRd (set8 wF (w.heap.size + 1) (.int .i64 kind) (.int .i64 entry) (.string image) (.slice A1 n1 C1) (.slice A2 n2 C2) (.slice A3 n3 C3) (.slice A4 n4 C4) (.slice A5 n5 C5)) ⟨kind, entry, image, places, fix, imps, exps, notes⟩ ⟨A1, C1, A2, C2, A3, C3, A4, C4, A5, C5⟩) := Lib.hid (by
        obtain ⟨l1, l2, l3, l4, l5⟩ := HL.out
        refine ⟨?_, ?_, ?_, ?_, ?_⟩
        · simp only [l1]; exact RZ.out _ _ _ _ r1 (fun a ha => by have := f1 a ha; omega)
        · simp only [l2]; exact RZ.out _ _ _ _ r2 (fun a ha => by have := f2 a ha; omega)
        · simp only [l3]; exact RZ.out _ _ _ _ r3 (fun a ha => by have := f3 a ha; omega)
        · simp only [l4]; exact RZ.out _ _ _ _ r4 (fun a ha => by have := f4 a ha; omega)
        · simp only [l5]; exact RZ.out _ _ _ _ r5 (fun a ha => by have := f5 a ha; omega))
      have HFAR : Hid (∀ A, A = A1 ∨ A = A2 ∨ A = A3 ∨ A = A4 ∨ A = A5 → ∀ a, A = some a → w.heap.size ≤ a.block) := Lib.hid (by
        intro A hA a ha
        rcases hA with rfl | rfl | rfl | rfl | rfl
        · have := f1 a ha; omega
        · have := f2 a ha; omega
        · have := f3 a ha; omega
        · have := f4 a ha; omega
        · have := f5 a ha; omega)
      have HO : Hid (OwnN w (set8 wF (w.heap.size + 1) (.int .i64 kind) (.int .i64 entry) (.string image) (.slice A1 n1 C1) (.slice A2 n2 C2) (.slice A3 n3 C3) (.slice A4 n4 C4) (.slice A5 n5 C5)) ⟨kind, entry, image, places, fix, imps, exps, notes⟩ ⟨A1, C1, A2, C2, A3, C3, A4, C4, A5, C5⟩) := Lib.hid (by
        obtain ⟨l1, l2, l3, l4, l5⟩ := HL.out
        obtain ⟨k0, k1, k2, k3, k4⟩ := HBK.out
        refine ⟨w5.heap.size, k0, ?_, ?_, ?_, ?_, ?_⟩
        · simp only [l5]; exact set8_own OF.out (fun a ha => by have := f5 a ha; omega)
        · simp only [l1]; exact k1
        · simp only [l2]; exact k2
        · simp only [l3]; exact k3
        · simp only [l4]; exact k4)
      generalize set8 wF (w.heap.size + 1) (.int .i64 kind) (.int .i64 entry) (.string image) (.slice A1 n1 C1) (.slice A2 n2 C2) (.slice A3 n3 C3) (.slice A4 n4 C4) (.slice A5 n5 C5) = wZ at *
      have e0 := HYZ.out.cell' 0 _ rfl
      have e1 := HYZ.out.cell' 1 _ rfl
      have e2 := HYZ.out.cell' 2 _ rfl
      have e3 := HYZ.out.cell' 3 _ rfl
      have e4 := HYZ.out.cell' 4 _ rfl
      have e5 := HYZ.out.cell' 5 _ rfl
      have e6 := HYZ.out.cell' 6 _ rfl
      have e7 := HYZ.out.cell' 7 _ rfl
      exact bodyPost_ret (v := .agg #[.int .i64 kind, .int .i64 entry, .string image, .slice A1 n1 C1, .slice A2 n2 C2, .slice A3 n3 C3, .slice A4 n4 C4, .slice A5 n5 C5]) (by simp [results, Tryz.results74, go_sem, e0, e1, e2, e3, e4, e5, e6, e7]) rfl (HEND.out _ _ ⟨A1, C1, A2, C2, A3, C3, A4, C4, A5, C5⟩ rfl HB.out HO.out HFAR.out NZ.out)

end Go.Proofs.YtnknmpcgbfmfjaaGreatDoor

