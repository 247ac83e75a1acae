/- awake, walked: it answers true. No conditions. -/
import Derived.Test.YtpoelhnceebmkaaGreatDoorX
namespace Go.Proofs.YtpoelhnceebmkaaGreatDoor
open Go Go.RowKit Go.Shelf
set_option linter.unusedSimpArgs false
set_option linter.unusedVariables false

abbrev mB (w : World) (ws : List ByteArray) : World := w.alloc (.cells (ws.map Value.string).toArray 9)
set_option maxRecDepth 100000 in
set_option maxHeartbeats 1000000 in
theorem awake_any (w : World) : Calls Tryz.prog 9 #[] w fun e w' => e = .returned (.bool true) ∧ New w w' := by
  go_enter Tryz.func9, Tryz.ntmps9
  go_wp2_with (first
    | (go_at_call 21; refine (aC _).mono ?_; rintro e w10 ⟨rfl, h10⟩)
    | (go_at_call 35; refine (aE _ (hv6.new (((((h5.alloc (.cells (wsB.map Value.string).toArray 9)).trans h6).alloc (.cells #[.string ⟨#[120]⟩, .slice A 2 c] 25)).alloc (.cells (wsC.map Value.string).toArray 9)).trans h7 |>.alloc (.cells #[.string ⟨#[105, 116]⟩] 9) |>.alloc (.cells #[.slice (some ⟨w7.heap.size, 0, none⟩) 1 1] 37) |>.trans h8 |>.alloc _)) (wrd_lit w8 wsA 4 rfl (by omega))).mono ?_; rintro e w9 ⟨rfl, h9⟩; have j3 := cell_new (((h7i.alloc (.cells #[.slice (some ⟨w7.heap.size, 0, none⟩) 1 1] 37)).trans h8 |>.alloc (.cells (wsA.map Value.string).toArray 9)).trans h9) i3; have j4 := cell_new (((h7i.alloc (.cells #[.slice (some ⟨w7.heap.size, 0, none⟩) 1 1] 37)).trans h8 |>.alloc (.cells (wsA.map Value.string).toArray 9)).trans h9) i4; have j5 := cell_new (((h7i.alloc (.cells #[.slice (some ⟨w7.heap.size, 0, none⟩) 1 1] 37)).trans h8 |>.alloc (.cells (wsA.map Value.string).toArray 9)).trans h9) i5)
    | (go_at_call 19; refine (aL _ (T7.new (h7i.alloc _)) ⟨w7.heap.size + 1, 0, .slice (some ⟨w7.heap.size, 0, none⟩) 1 1, rfl, (by have q := (Blk.made (w7.alloc (.cells #[.string ⟨#[105, 116]⟩] 9)) 37 #[.slice (some ⟨w7.heap.size, 0, none⟩) 1 1]).cell' 0 _ rfl; rw [World.size_alloc] at q; exact q), (wrd_lit w7 [xI] 1 rfl (by omega)).new ((New.refl _).alloc _)⟩).mono ?_; rintro e w8 ⟨rfl, h8⟩)
    | (go_at_call 28; refine (aD (v := .slice (some ⟨w6.heap.size + 1, 0, none⟩) 5 5) _ (T6.new (((New.refl w6).alloc (.cells #[.string ⟨#[120]⟩, .slice A 2 c] 25)).alloc (.cells (wsC.map Value.string).toArray 9))) ⟨w6.heap.size, 0, rfl, (((Blk.made w6 25 #[.string ⟨#[120]⟩, .slice A 2 c]).alloc (.cells (wsC.map Value.string).toArray 9)).cell' 0 _ rfl), (((Blk.made w6 25 #[.string ⟨#[120]⟩, .slice A 2 c]).alloc (.cells (wsC.map Value.string).toArray 9)).cell' 1 _ rfl)⟩ (by have q := wrd_lit (w6.alloc (.cells #[.string ⟨#[120]⟩, .slice A 2 c] 25)) wsC 5 rfl (by omega); rw [World.size_alloc] at q; exact q)).mono ?_; rintro e w7 ⟨g, c7, rfl, i3, i4, i5, h7⟩; have B7 := ((B6.alloc (.cells #[.string ⟨#[120]⟩, .slice A 2 c] 25)).alloc (.cells (wsC.map Value.string).toArray 9)).new h7; have k0 := B7.cell' 0 _ rfl; have k1 := B7.cell' 1 _ rfl; have T7 := T6.new ((((New.refl w6).alloc (.cells #[.string ⟨#[120]⟩, .slice A 2 c] 25)).alloc (.cells (wsC.map Value.string).toArray 9)).trans h7); have h7i := (New.refl w7).alloc (.cells #[.string ⟨#[105, 116]⟩] 9))
    | (go_at_call 25; refine (aN _ (T5.new ((New.refl _).alloc _)) (wrd_lit w5 wsB 6 rfl (by omega))).mono ?_; rintro e w6 ⟨rfl, h6⟩; have B6 := (B5.alloc (.cells (wsB.map Value.string).toArray 9)).new h6; have k0 := B6.cell' 0 _ rfl; have k1 := B6.cell' 1 _ rfl; have T6 := T5.new (((New.refl w5).alloc (.cells (wsB.map Value.string).toArray 9)).trans h6))
    | (go_at_call 25; refine (aM _ T4 hv6).mono ?_; rintro e w5 ⟨rfl, h5⟩; have B5 := B4.new h5; have k0 := B5.cell' 0 _ rfl; have k1 := B5.cell' 1 _ rfl; have T5 := T4.new h5)
    | (go_at_call 31; refine (aT _ hr3).mono ?_; rintro e w4 ⟨A6, c6, rfl, hv6, h4⟩; have B4 := ((B0.new h2).new h3).new h4; have k0 := B4.cell' 0 _ rfl; have k1 := B4.cell' 1 _ rfl; have T4 := ((T1.new h2).new h3).new h4)
    | (go_at_call 32; refine (aW _).mono ?_; rintro e w3 ⟨A3, c3, rfl, hr3, h3⟩)
    | (go_at_call 17; refine (aF _ T1).mono ?_; rintro e w2 ⟨rfl, h2⟩)
    | (go_at_call 10; refine (aP _).mono ?_; rintro e w1 ⟨A, c, rfl, T0, h1⟩; have B0 := Blk.made w1 25 #[.string ⟨#[120]⟩, .slice A 2 c]; have k0 := B0.cell' 0 _ rfl; have k1 := B0.cell' 1 _ rfl; have T1 := T0.new ((New.refl w1).alloc (.cells #[.string ⟨#[120]⟩, .slice A 2 c] 25))))
  go_ret
  exact ⟨rfl, ((h1.alloc _).trans h2).trans h3 |>.trans h4 |>.trans h5 |>.alloc _ |>.trans h6 |>.alloc _ |>.alloc _ |>.trans h7 |>.alloc _ |>.alloc _ |>.trans h8 |>.alloc _ |>.trans h9 |>.trans h10⟩
end Go.Proofs.YtpoelhnceebmkaaGreatDoor
