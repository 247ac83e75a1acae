/- awake: the example of the chapter. No conditions. awake, walked: it answers true. No conditions. awake, walked: it answers true. No conditions. -/
import Derived.Test.YtpoelhnceebmkaaGreatDoorGV

namespace Go.Proofs.YtpoelhnceebmkaaGreatDoor
open Go Go.RowKit Go.Shelf
set_option linter.unusedSimpArgs false
set_option linter.unusedVariables false

def sA : ByteArray := ⟨#[117, 115, 101, 32, 123, 51, 125, 32, 102, 114, 101, 101, 108, 121]⟩
def sW : ByteArray := ⟨#[85, 115, 101, 32, 105, 116, 44, 32, 118, 101, 114, 121, 32, 70, 82, 69, 69, 76, 89, 33]⟩
def xU : ByteArray := ⟨#[117, 115, 101]⟩
def xF : ByteArray := ⟨#[102, 114, 101, 101, 108, 121]⟩
def xI : ByteArray := ⟨#[105, 116]⟩
def xV : ByteArray := ⟨#[118, 101, 114, 121]⟩
def xL (c : UInt8) : ByteArray := ⟨#[c]⟩
def psA : List Pt := [(0, [xU]), (3, [xF])]
def wsA : List ByteArray := [xU, xI, xV, xF]
def wsB : List ByteArray := [xU, xL 97, xL 98, xL 99, xL 100, xF]
def wsC : List ByteArray := [xL 97, xU, xF, xU, xF]
theorem exP : parseV sA = (some psA, 0, 0) := by kernel_rfl
theorem exF : formatV psA = (sA, 0) := by kernel_rfl
theorem exW : (wordsT sW).map Prod.fst = wsA := by kernel_rfl
theorem exM : matchT psA wsA 0 = some 4 := by kernel_rfl
theorem exN : matchT psA wsB 0 = none := by kernel_rfl
theorem exD : findV [(xL 120, psA)] wsC (goodV 0 [(xL 120, psA)]) wsC.length 0 = [(0, 1, 3), (0, 3, 5)] := by kernel_rfl
theorem exL : fillV psA [[xI]] = (⟨#[117, 115, 101, 32, 105, 116, 32, 102, 114, 101, 101, 108, 121]⟩, 0) := by kernel_rfl
theorem exC : checkV [] = 1 := by kernel_rfl
theorem smA : SmT psA := ⟨by decide, by intro p hp; simp [psA] at hp; rcases hp with rfl | rfl <;> simp⟩
end Go.Proofs.YtpoelhnceebmkaaGreatDoor

namespace Go.Proofs.YtpoelhnceebmkaaGreatDoor
open Go Go.RowKit Go.Shelf
set_option linter.unusedSimpArgs false
set_option linter.unusedVariables false

abbrev tvA (A : Option Addr) (c : Nat) : Value := .agg #[.string ⟨#[120]⟩, .slice A 2 c]
theorem wrd_lit (w : World) (ws : List ByteArray) (n : Nat) (hn : ws.length = n) (hm : n ≤ 1000) : WRd (w.alloc (.cells (ws.map Value.string).toArray 9)) (.slice (some ⟨w.heap.size, 0, none⟩) n n) ws := by
  subst hn
  refine ⟨_, _, rfl, Nat.le_refl _, by simp [maxLen]; omega, by simp, fun _ => ⟨_, 0, rfl, by simp, fun j u hu => ?_⟩⟩
  rw [Nat.zero_add, cell_of_row _ w.heap.size j (ws.map Value.string).toArray 9 (0, 0) (heap_alloc_new w _)]
  simpa using hu
theorem cA_ext (a : Nat) : ∀ (j : Nat) b, (sA.extract a sA.size).data.toList[j]? = some b → b.toNat < 128 := by
  intro j b h
  rw [ext_drop, List.getElem?_drop] at h
  exact ascii_of_all (l := sA.data.toList) (by decide) (a + j) b h
theorem aP (w : World) : Calls Tryz.prog 10 #[.string ⟨#[120]⟩, .string ⟨#[117, 115, 101, 32, 123, 51, 125, 32, 102, 114, 101, 101, 108, 121]⟩] w fun e w' => ∃ A c, e = .returned (.tuple #[tvA A c, .int .i64 0, .int .i64 0]) ∧ TRd w' (tvA A c) ⟨#[120]⟩ psA ∧ New w w' := by
  refine (parse_any ⟨#[120]⟩ sA w (by decide) (fun a W => Tryz.strings_IndexAny_laid _ _ W (by rw [size_eq, ext_drop, List.length_drop]; have : sA.data.toList.length = 14 := rfl; omega) (by decide) (cA_ext a) (ascii_of_all (by decide)) |>.mono (fun e w' h => ⟨by rw [h.1, brk, ext_drop], h.2⟩))).mono ?_
  rintro e w' ⟨tv, rfl, hn, h1, h2⟩
  rw [exP] at h1 h2 ⊢
  have hT := h2 psA rfl
  obtain ⟨A, c, rfl, hc1, hc2, hp⟩ := hT
  exact ⟨A, c, rfl, ⟨A, c, rfl, hc1, hc2, hp⟩, hn⟩
theorem szA : ∀ p ∈ psA, SzW p.2 := by
  intro p hp x hx
  simp [psA] at hp
  rcases hp with rfl | rfl <;> (simp at hx; subst hx; decide)
theorem aF {A : Option Addr} {c : Nat} (w : World) (h : TRd w (tvA A c) ⟨#[120]⟩ psA) : Calls Tryz.prog 17 #[tvA A c] w fun e w' => e = .returned (.tuple #[.string ⟨#[117, 115, 101, 32, 123, 51, 125, 32, 102, 114, 101, 101, 108, 121]⟩, .int .i64 0]) ∧ New w w' := by
  have := format_any _ _ psA w h smA szA
  rw [exF] at this
  exact this
theorem aW (w : World) : Calls Tryz.prog 32 #[.string ⟨#[85, 115, 101, 32, 105, 116, 44, 32, 118, 101, 114, 121, 32, 70, 82, 69, 69, 76, 89, 33]⟩] w fun e w' => ∃ A c, e = .returned (.slice A 4 c) ∧ Rd w' 2 A 4 (twCells (wordsT sW)) ∧ New w w' := by
  refine (words_any sW w (by decide)).mono ?_
  rintro e w' ⟨v, rfl, h, hn⟩
  have hl : (wordsT sW).length = 4 := by kernel_rfl
  rw [hl] at h
  obtain ⟨A, c, rfl, _, _, hr⟩ := own_form h
  exact ⟨A, c, rfl, hr, hn⟩
theorem aT {A : Option Addr} {c : Nat} (w : World) (h : Rd w 2 A 4 (twCells (wordsT sW))) : Calls Tryz.prog 31 #[.slice A 4 c] w fun e w' => ∃ A c, e = .returned (.slice A 4 c) ∧ WRd w' (.slice A 4 c) wsA ∧ New w w' := by
  refine (texts_any A c 4 _ (by kernel_rfl) w h (by omega)).mono ?_
  rintro e w' ⟨v, rfl, h, hn⟩
  obtain ⟨A, c, rfl, h1, h2, hr⟩ := own_form h
  rw [tCells_eq, exW] at hr
  exact ⟨A, c, rfl, ⟨A, c, rfl, h1, h2, hr⟩, hn⟩
theorem aM {A : Option Addr} {c : Nat} {v : Value} (w : World) (h : TRd w (tvA A c) ⟨#[120]⟩ psA) (h' : WRd w v wsA) : Calls Tryz.prog 25 #[tvA A c, v, .int .i64 0] w fun e w' => e = .returned (.tuple #[.int .i64 4, .bool true]) ∧ New w w' := by
  have := matchT_any _ v _ psA wsA 0 w h h' smA (by decide)
  rw [exM] at this
  exact this
theorem aN {A : Option Addr} {c : Nat} {v : Value} (w : World) (h : TRd w (tvA A c) ⟨#[120]⟩ psA) (h' : WRd w v wsB) : Calls Tryz.prog 25 #[tvA A c, v, .int .i64 0] w fun e w' => e = .returned (.tuple #[.int .i64 0, .bool false]) ∧ New w w' := by
  have := matchT_any _ v _ psA wsB 0 w h h' smA (by decide)
  rw [exN] at this
  exact this
theorem aD {A A' : Option Addr} {c : Nat} {v : Value} (w : World) (h : TRd w (tvA A c) ⟨#[120]⟩ psA) (hc : ∃ b o, A' = some ⟨b, o, none⟩ ∧ w.cell? ⟨b, o, none⟩ = some (.string ⟨#[120]⟩) ∧ w.cell? ⟨b, o + 1, none⟩ = some (.slice A 2 c)) (h' : WRd w v wsC) :
    Calls Tryz.prog 28 #[.slice A' 1 1, v] w fun e w' => ∃ g c, e = .returned (.slice (some ⟨g, 0, none⟩) 2 c) ∧ w'.cell? ⟨g, 3, none⟩ = some (.int .i64 0) ∧ w'.cell? ⟨g, 4, none⟩ = some (.int .i64 3) ∧ w'.cell? ⟨g, 5, none⟩ = some (.int .i64 5) ∧ New w w' := by
  obtain ⟨b, o, rfl, k0, k1⟩ := hc
  have hts : TsRd w (some ⟨b, o, none⟩) 1 [(⟨#[120]⟩, psA)] := ⟨rfl, fun _ => ⟨b, o, rfl, fun i hi => by
    obtain rfl : i = 0 := by simpa using hi
    exact ⟨_, by simpa using k0, by simpa using k1, h⟩⟩⟩
  refine (find_any _ 1 1 _ v wsC w hts h' (by intro t ht; rw [List.mem_singleton.1 ht]; exact smA) (by omega) (by decide)).mono ?_
  rintro e w' ⟨v, rfl, h, hn⟩
  rw [show findV [(⟨#[120]⟩, psA)] wsC (goodV 0 [(⟨#[120]⟩, psA)]) wsC.length 0 = [(0, 1, 3), (0, 3, 5)] from exD] at h
  obtain ⟨g, c, rfl, _, _⟩ := h.form (by simp)
  exact ⟨g, c, rfl, h.cellAt 3 (by simp), h.cellAt 4 (by simp), h.cellAt 5 (by simp), hn⟩
theorem aL {A A' : Option Addr} {c : Nat} (w : World) (h : TRd w (tvA A c) ⟨#[120]⟩ psA) (hc : ∃ b o v, A' = some ⟨b, o, none⟩ ∧ w.cell? ⟨b, o, none⟩ = some v ∧ WRd w v [xI]) :
    Calls Tryz.prog 19 #[tvA A c, .slice A' 1 1] w fun e w' => e = .returned (.tuple #[.string ⟨#[117, 115, 101, 32, 105, 116, 32, 102, 114, 101, 101, 108, 121]⟩, .int .i64 0]) ∧ New w w' := by
  obtain ⟨b, o, v, rfl, k0, k1⟩ := hc
  have hls : LsRd w (some ⟨b, o, none⟩) 1 [[xI]] := ⟨rfl, fun _ => ⟨b, o, rfl, fun i hi => by
    obtain rfl : i = 0 := by simpa using hi
    exact ⟨_, by simpa using k0, k1⟩⟩⟩
  have := fill_any _ _ psA _ 1 1 _ w h smA hls (by omega) szA (by intro l hl; rw [List.mem_singleton.1 hl]; exact ⟨fun x hx => by rw [List.mem_singleton.1 hx]; decide, by simp⟩)
  rw [exL] at this
  exact this
theorem aE {A : Option Addr} {c c' : Nat} {A' : Option Addr} (w : World) (h : WRd w (.slice A 4 c) wsA) (h' : WRd w (.slice A' 4 c') wsA) : Calls Tryz.prog 35 #[.slice A 4 c, .slice A' 4 c'] w fun e w' => e = .returned (.bool true) ∧ New w w' := by
  obtain ⟨A1, c1, e1, _, _, hr⟩ := h
  obtain ⟨A2, c2, e2, _, _, hr'⟩ := h'
  injection e1 with e1
  injection e2 with e2
  subst e1 e2
  refine (eqStr A A' 4 4 c c' wsA wsA rfl rfl w hr hr' (by omega)).mono ?_
  rintro e w' ⟨rfl, hn⟩
  exact ⟨by simp, hn⟩
theorem aC (w : World) : Calls Tryz.prog 21 #[.agg #[.string ⟨#[]⟩, .slice none 0 0]] w fun e w' => e = .returned (.int .i64 1) ∧ New w w' :=
  check_any _ ⟨#[]⟩ [] w ⟨none, 0, rfl, Nat.le_refl _, by simp [maxLen], rfl, [], rfl, Rd.none_ _, fun i h => by simp at h⟩ ⟨by simp, fun p hp => by cases hp⟩
end Go.Proofs.YtpoelhnceebmkaaGreatDoor

namespace Go.Proofs.YtpoelhnceebmkaaGreatDoor
open Go Go.RowKit Go.Shelf
set_option linter.unusedSimpArgs false
set_option linter.unusedVariables false

abbrev mB (w : World) (ws : List ByteArray) : World := w.alloc (.cells (ws.map Value.string).toArray 9)
set_option maxRecDepth 100000 in
set_option maxHeartbeats 1000000 in
theorem awake_any (w : World) : Calls Tryz.prog 9 #[] w fun e w' => e = .returned (.bool true) ∧ New w w' := by
  go_enter Tryz.func9, Tryz.ntmps9
  go_wp2_with (first
    | (go_at_call 21; refine (aC _).mono ?_; rintro e w10 ⟨rfl, h10⟩)
    | (go_at_call 35; refine (aE _ (hv6.new (((((h5.alloc (.cells (wsB.map Value.string).toArray 9)).trans h6).alloc (.cells #[.string ⟨#[120]⟩, .slice A 2 c] 25)).alloc (.cells (wsC.map Value.string).toArray 9)).trans h7 |>.alloc (.cells #[.string ⟨#[105, 116]⟩] 9) |>.alloc (.cells #[.slice (some ⟨w7.heap.size, 0, none⟩) 1 1] 37) |>.trans h8 |>.alloc _)) (wrd_lit w8 wsA 4 rfl (by omega))).mono ?_; rintro e w9 ⟨rfl, h9⟩; have j3 := cell_new (((h7i.alloc (.cells #[.slice (some ⟨w7.heap.size, 0, none⟩) 1 1] 37)).trans h8 |>.alloc (.cells (wsA.map Value.string).toArray 9)).trans h9) i3; have j4 := cell_new (((h7i.alloc (.cells #[.slice (some ⟨w7.heap.size, 0, none⟩) 1 1] 37)).trans h8 |>.alloc (.cells (wsA.map Value.string).toArray 9)).trans h9) i4; have j5 := cell_new (((h7i.alloc (.cells #[.slice (some ⟨w7.heap.size, 0, none⟩) 1 1] 37)).trans h8 |>.alloc (.cells (wsA.map Value.string).toArray 9)).trans h9) i5)
    | (go_at_call 19; refine (aL _ (T7.new (h7i.alloc _)) ⟨w7.heap.size + 1, 0, .slice (some ⟨w7.heap.size, 0, none⟩) 1 1, rfl, (by have q := (Blk.made (w7.alloc (.cells #[.string ⟨#[105, 116]⟩] 9)) 37 #[.slice (some ⟨w7.heap.size, 0, none⟩) 1 1]).cell' 0 _ rfl; rw [World.size_alloc] at q; exact q), (wrd_lit w7 [xI] 1 rfl (by omega)).new ((New.refl _).alloc _)⟩).mono ?_; rintro e w8 ⟨rfl, h8⟩)
    | (go_at_call 28; refine (aD (v := .slice (some ⟨w6.heap.size + 1, 0, none⟩) 5 5) _ (T6.new (((New.refl w6).alloc (.cells #[.string ⟨#[120]⟩, .slice A 2 c] 25)).alloc (.cells (wsC.map Value.string).toArray 9))) ⟨w6.heap.size, 0, rfl, (((Blk.made w6 25 #[.string ⟨#[120]⟩, .slice A 2 c]).alloc (.cells (wsC.map Value.string).toArray 9)).cell' 0 _ rfl), (((Blk.made w6 25 #[.string ⟨#[120]⟩, .slice A 2 c]).alloc (.cells (wsC.map Value.string).toArray 9)).cell' 1 _ rfl)⟩ (by have q := wrd_lit (w6.alloc (.cells #[.string ⟨#[120]⟩, .slice A 2 c] 25)) wsC 5 rfl (by omega); rw [World.size_alloc] at q; exact q)).mono ?_; rintro e w7 ⟨g, c7, rfl, i3, i4, i5, h7⟩; have B7 := ((B6.alloc (.cells #[.string ⟨#[120]⟩, .slice A 2 c] 25)).alloc (.cells (wsC.map Value.string).toArray 9)).new h7; have k0 := B7.cell' 0 _ rfl; have k1 := B7.cell' 1 _ rfl; have T7 := T6.new ((((New.refl w6).alloc (.cells #[.string ⟨#[120]⟩, .slice A 2 c] 25)).alloc (.cells (wsC.map Value.string).toArray 9)).trans h7); have h7i := (New.refl w7).alloc (.cells #[.string ⟨#[105, 116]⟩] 9))
    | (go_at_call 25; refine (aN _ (T5.new ((New.refl _).alloc _)) (wrd_lit w5 wsB 6 rfl (by omega))).mono ?_; rintro e w6 ⟨rfl, h6⟩; have B6 := (B5.alloc (.cells (wsB.map Value.string).toArray 9)).new h6; have k0 := B6.cell' 0 _ rfl; have k1 := B6.cell' 1 _ rfl; have T6 := T5.new (((New.refl w5).alloc (.cells (wsB.map Value.string).toArray 9)).trans h6))
    | (go_at_call 25; refine (aM _ T4 hv6).mono ?_; rintro e w5 ⟨rfl, h5⟩; have B5 := B4.new h5; have k0 := B5.cell' 0 _ rfl; have k1 := B5.cell' 1 _ rfl; have T5 := T4.new h5)
    | (go_at_call 31; refine (aT _ hr3).mono ?_; rintro e w4 ⟨A6, c6, rfl, hv6, h4⟩; have B4 := ((B0.new h2).new h3).new h4; have k0 := B4.cell' 0 _ rfl; have k1 := B4.cell' 1 _ rfl; have T4 := ((T1.new h2).new h3).new h4)
    | (go_at_call 32; refine (aW _).mono ?_; rintro e w3 ⟨A3, c3, rfl, hr3, h3⟩)
    | (go_at_call 17; refine (aF _ T1).mono ?_; rintro e w2 ⟨rfl, h2⟩)
    | (go_at_call 10; refine (aP _).mono ?_; rintro e w1 ⟨A, c, rfl, T0, h1⟩; have B0 := Blk.made w1 25 #[.string ⟨#[120]⟩, .slice A 2 c]; have k0 := B0.cell' 0 _ rfl; have k1 := B0.cell' 1 _ rfl; have T1 := T0.new ((New.refl w1).alloc (.cells #[.string ⟨#[120]⟩, .slice A 2 c] 25))))
  go_ret
  exact ⟨rfl, ((h1.alloc _).trans h2).trans h3 |>.trans h4 |>.trans h5 |>.alloc _ |>.trans h6 |>.alloc _ |>.alloc _ |>.trans h7 |>.alloc _ |>.alloc _ |>.trans h8 |>.alloc _ |>.trans h9 |>.trans h10⟩
end Go.Proofs.YtpoelhnceebmkaaGreatDoor

