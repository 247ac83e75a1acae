/- awake: the example of the chapter. The package-level variables that the library reads hold what the row lists (Env). -/
import Derived.Test.YtlecocmopeainaaDoorK
namespace Go.Proofs.YtlecocmopeainaaDoor
open Go Go.RowKit Go.Joins Go.Shelf
set_option linter.unusedSimpArgs false

def lA : ByteArray := ⟨#[97]⟩
def l1 : ByteArray := ⟨#[108, 101, 116, 32, 120, 49, 32, 61, 32, 49, 48, 59]⟩
def l3 : ByteArray := ⟨#[110, 111, 116, 101, 32, 49, 10, 108, 101, 116, 32, 121, 32, 61, 32, 50, 10, 122]⟩
def t1 : List ByteArray := [⟨#[108, 101, 116]⟩, ⟨#[120, 49]⟩, ⟨#[61]⟩, ⟨#[49, 48]⟩, ⟨#[59]⟩]
def t2 : List ByteArray := [⟨#[36, 110]⟩, ⟨#[36, 110]⟩, ⟨#[61]⟩, ⟨#[36, 48]⟩, ⟨#[59]⟩]
def x1 : List Lx := [(⟨#[108, 101, 116]⟩, 0), (⟨#[120, 49]⟩, 0), (⟨#[61]⟩, 0), (⟨#[49, 48]⟩, 0), (⟨#[59]⟩, 0)]
def x2 : List Lx := [(⟨#[36, 110]⟩, 0), (⟨#[36, 110]⟩, 0), (⟨#[61]⟩, 0), (⟨#[36, 48]⟩, 0), (⟨#[59]⟩, 0)]
def x3 : List Lx := [(⟨#[122]⟩, 2)]

theorem wordsV_of {a b : Bool} {path data : ByteArray} {ls : List ByteArray} {ws : List Lx} (h1 : pathOK path = true) (h2 : data.size ≤ 65536) (h3 : nl data < 1024) (h4 : parts 10 data = ls) (h5 : (wst a b ls).2.2 = ws) (h6 : ws.length ≤ 8192) : wordsV a b path data = (0, ws) := by
  rw [wordsV, h1, if_neg (by simp), if_neg (by omega), h4, h5, if_neg (by omega)]
theorem pathA : pathOK lA = true := by kernel_rfl
theorem parts1 : parts 10 l1 = [l1] := by kernel_rfl
theorem parts3 : parts 10 l3 = [⟨#[110, 111, 116, 101, 32, 49]⟩, ⟨#[108, 101, 116, 32, 121, 32, 61, 32, 50]⟩, ⟨#[122]⟩] := by kernel_rfl
theorem wds1 : wds l1 = t1 := by kernel_rfl
theorem wds3a : wds ⟨#[110, 111, 116, 101, 32, 49]⟩ = [noteS, ⟨#[49]⟩] := by kernel_rfl
theorem wds3c : wds ⟨#[122]⟩ = [⟨#[122]⟩] := by kernel_rfl
theorem note1 : noteV t1 = -1 := by kernel_rfl
theorem note3a : noteV [noteS, ⟨#[49]⟩] = 1 := by
  have h : isNum (ByteArray.mk #[49]).data.toList = true := by kernel_rfl
  rw [noteV_two, if_pos ⟨rfl, by decide⟩, numV_num _ h]; rfl
theorem note3c : noteV [⟨#[122]⟩] = -1 := by kernel_rfl
theorem V1 : wordsV false false lA l1 = (0, x1) := wordsV_of pathA (by decide) (by decide) parts1 (by
  show (wstep false false (0, 0, []) l1).2.2 = x1
  rw [wstep, wds1, note1]; rfl) (by decide)
theorem V2 : wordsV true true lA l1 = (0, x2) := wordsV_of pathA (by decide) (by decide) parts1 (by
  show (wstep true true (0, 0, []) l1).2.2 = x2
  rw [wstep, wds1, note1, if_neg (by decide), if_neg (by decide)]
  show [] ++ lexOf true true 0 l1 = x2
  rw [lexOf, wds1]; rfl) (by decide)
theorem V3 : wordsV false false lA l3 = (0, x3) := wordsV_of pathA (by decide) (by decide) parts3 (by
  show (wstep false false (wstep false false (wstep false false (0, 0, []) ⟨#[110, 111, 116, 101, 32, 49]⟩) ⟨#[108, 101, 116, 32, 121, 32, 61, 32, 50]⟩) ⟨#[122]⟩).2.2 = x3
  have e1 : wstep false false (0, 0, []) ⟨#[110, 111, 116, 101, 32, 49]⟩ = (1, 1, []) := by rw [wstep, wds3a, note3a]; rfl
  have e2 : wstep false false (1, 1, []) ⟨#[108, 101, 116, 32, 121, 32, 61, 32, 50]⟩ = (2, 0, []) := rfl
  rw [e1, e2, wstep, wds3c, note3c, if_neg (by decide), if_neg (by decide)]
  show [] ++ lexOf false false 2 ⟨#[122]⟩ = x3
  rw [lexOf, wds3c]; rfl) (by decide)

/-- Words, where the outcome is known. -/
theorem words_lit (path data : ByteArray) (a b : Bool) (ws : List Lx) (n : Nat) (w : World) (hV : wordsV a b path data = (0, ws)) (hl : ws.length = n) (hp : path.size < 4294967281) (hE : Env w) :
    Calls Tryd.prog 13 #[.string path, .string data, .bool a, .bool b] w fun e w' => ∃ A c, e = .returned (.tuple #[.agg #[.string path, .slice A n c], .int .i64 0]) ∧ Rd w' 2 A n (lxCells ws) ∧ n ≤ c ∧ c ≤ maxLen ∧ New w w' := by
  subst hl
  refine (words_any path data a b w hp hE).mono ?_
  rintro e w' ⟨v, rfl, h, hn⟩
  rw [hV] at h ⊢
  obtain ⟨A, c, rfl, h1, h2, hr⟩ := h
  exact ⟨A, c, rfl, hr, h1, h2, hn⟩
theorem texts_n (A : Option Addr) (c n : Nat) (p : ByteArray) (ws : List Lx) (w : World) (hn : ws.length = n) (h1 : n ≤ c) (h2 : c ≤ maxLen) (hr : Rd w 2 A n (lxCells ws)) (hz : n ≤ 100000) :
    Calls Tryd.prog 37 #[.agg #[.string p, .slice A n c]] w fun e w' => ∃ A c, e = .returned (.slice A n c) ∧ Rd w' 1 A n (txs ws) ∧ New w w' := by
  subst hn
  exact texts_any _ p ws w ⟨A, c, rfl, h1, h2, hr⟩ hz
theorem eqStr_n (A A' : Option Addr) (c c' n n' : Nat) (ws ws' : List ByteArray) (w : World) (hn : ws.length = n) (hn' : ws'.length = n') (hr : Rd w 1 A n (ws.map Value.string)) (hr' : Rd w 1 A' n' (ws'.map Value.string)) (hz : n ≤ 4294967295) (he : ws = ws') :
    Calls Tryd.prog 36 #[.slice A n c, .slice A' n' c'] w fun e w' => e = .returned (.bool true) ∧ New w w' := by
  subst hn hn' he
  refine (eqStr_any A A' c c' ws ws w hr hr' hz).mono ?_
  rintro e w' ⟨rfl, hn⟩
  exact ⟨by simp, hn⟩
theorem eqLx_n (A A' : Option Addr) (c c' n n' : Nat) (ws ws' : List Lx) (w : World) (hn : ws.length = n) (hn' : ws'.length = n') (hr : Rd w 2 A n (lxCells ws)) (hr' : Rd w 2 A' n' (lxCells ws')) (hz : n ≤ 4294967295) (he : ws = ws') :
    Calls Tryd.prog 30 #[.slice A n c, .slice A' n' c'] w fun e w' => e = .returned (.bool true) ∧ New w w' := by
  subst hn hn' he
  refine (eqLx_any A A' c c' ws ws w hr hr' hz).mono ?_
  rintro e w' ⟨rfl, hn⟩
  exact ⟨by simp, hn⟩
theorem rd_new' (w : World) (vs : List Value) (t : TypeId) (size n : Nat) (hn : vs.length = n * size) : Rd (w.alloc (.cells vs.toArray t)) size (some ⟨w.heap.size, 0, none⟩) n vs := by
  refine ⟨hn, fun _ => ⟨_, 0, rfl, by simp, fun j u hu => ?_⟩⟩
  rw [Nat.zero_add, cell_of_row _ w.heap.size j vs.toArray t (0, 0) (heap_alloc_new w _)]
  simpa using hu

set_option maxRecDepth 100000 in
set_option maxHeartbeats 400000 in
theorem awake_any (w : World) (hE : Env w) : Calls Tryd.prog 12 #[] w fun e w' => e = .returned (.bool true) ∧ New w w' := by
  have hsA : lA.size < 4294967281 := by decide
  obtain ⟨n1, hn1⟩ : ∃ n, x1.length = n := ⟨_, rfl⟩
  obtain ⟨n2, hn2⟩ : ∃ n, x2.length = n := ⟨_, rfl⟩
  obtain ⟨n3, hn3⟩ : ∃ n, x3.length = n := ⟨_, rfl⟩
  have C1 : ∀ w, Env w → Calls Tryd.prog 13 #[.string ⟨#[97]⟩, .string ⟨#[108, 101, 116, 32, 120, 49, 32, 61, 32, 49, 48, 59]⟩, .bool false, .bool false] w fun e w' => ∃ A c, e = .returned (.tuple #[.agg #[.string ⟨#[97]⟩, .slice A n1 c], .int .i64 0]) ∧ Rd w' 2 A n1 (lxCells x1) ∧ n1 ≤ c ∧ c ≤ maxLen ∧ New w w' := fun w h => words_lit lA l1 false false x1 n1 w V1 hn1 hsA h
  have C2 : ∀ w, Env w → Calls Tryd.prog 13 #[.string ⟨#[97]⟩, .string ⟨#[108, 101, 116, 32, 120, 49, 32, 61, 32, 49, 48, 59]⟩, .bool true, .bool true] w fun e w' => ∃ A c, e = .returned (.tuple #[.agg #[.string ⟨#[97]⟩, .slice A n2 c], .int .i64 0]) ∧ Rd w' 2 A n2 (lxCells x2) ∧ n2 ≤ c ∧ c ≤ maxLen ∧ New w w' := fun w h => words_lit lA l1 true true x2 n2 w V2 hn2 hsA h
  have C3 : ∀ w, Env w → Calls Tryd.prog 13 #[.string ⟨#[97]⟩, .string ⟨#[110, 111, 116, 101, 32, 49, 10, 108, 101, 116, 32, 121, 32, 61, 32, 50, 10, 122]⟩, .bool false, .bool false] w fun e w' => ∃ A c, e = .returned (.tuple #[.agg #[.string ⟨#[97]⟩, .slice A n3 c], .int .i64 0]) ∧ Rd w' 2 A n3 (lxCells x3) ∧ n3 ≤ c ∧ c ≤ maxLen ∧ New w w' := fun w h => words_lit lA l3 false false x3 n3 w V3 hn3 hsA h
  have z1 : n1 ≤ 100000 := by rw [← hn1]; decide
  have z2 : n2 ≤ 100000 := by rw [← hn2]; decide
  have z3 : n3 ≤ 100000 := by rw [← hn3]; decide
  have D1 := Lib.hid C1
  have D2 := Lib.hid C2
  have D3 := Lib.hid C3
  have M1 := Lib.hid hn1
  have M2 := Lib.hid hn2
  have M3 := Lib.hid hn3
  clear C1 C2 C3 hn1 hn2 hn3
  go_enter Tryd.func12, Tryd.ntmps12
  go_wp2_with (first
    | (go_at_call 30; refine (eqLx_n A3 _ c3 1 n3 1 x3 x3 _ M3.out rfl ((hr3w.below hw7).alloc _) (rd_new' w7 (lxCells x3) 33 2 1 rfl) (by omega) rfl).mono ?_; rintro e w8 ⟨rfl, hw8⟩)
    | (go_at_call 36; refine (eqStr_n A6 _ c6 5 n2 5 (x2.map Prod.fst) t2 _ ((List.length_map _).trans M2.out) rfl (hr6.alloc _) (rd_new' w6 (t2.map Value.string) 9 1 5 rfl) (by omega) rfl).mono ?_; rintro e w7 ⟨rfl, hw7⟩; have B3w := (((B3v.new hw6).alloc (.cells (t2.map Value.string).toArray 9)).new hw7); have e31 := B3w.cell' 1 _ rfl; have hr3w := ((hr3v.below hw6).alloc (.cells (t2.map Value.string).toArray 9)))
    | (go_at_call 37; refine (texts_n A2 c2 n2 _ x2 _ M2.out ha2 hb2 (hr2v.below hw5) z2).mono ?_; rintro e w6 ⟨A6, c6, rfl, hr6, hw6⟩; have B3v := (((B3.new hw4).alloc (.cells (t1.map Value.string).toArray 9)).new hw5); have hr3v := ((((hr3.alloc (.cells #[.string ⟨#[97]⟩, .slice A3 n3 c3] 25)).below hw4).alloc (.cells (t1.map Value.string).toArray 9)).below hw5))
    | (go_at_call 36; refine (eqStr_n A4 _ c4 5 n1 5 (x1.map Prod.fst) t1 _ ((List.length_map _).trans M1.out) rfl (hr4.alloc _) (rd_new' w4 (t1.map Value.string) 9 1 5 rfl) (by omega) rfl).mono ?_; rintro e w5 ⟨rfl, hw5⟩; have B2v := (((B2.new hw4).alloc (.cells (t1.map Value.string).toArray 9)).new hw5); have e20 := B2v.cell' 0 _ rfl; have e21 := B2v.cell' 1 _ rfl; have hr2v := ((((((hr2.alloc (.cells #[.string ⟨#[97]⟩, .slice A2 n2 c2] 25)).below hw3).alloc (.cells #[.string ⟨#[97]⟩, .slice A3 n3 c3] 25)).below hw4).alloc (.cells (t1.map Value.string).toArray 9))))
    | (go_at_call 37; refine (texts_n A1 c1 n1 _ x1 _ M1.out ha1 hb1 ((((hr1.alloc _).below hw2).alloc _).below hw3 |>.alloc _) z1).mono ?_; rintro e w4 ⟨A4, c4, rfl, hr4, hw4⟩)
    | (go_at_call 13; refine (D3.out _ hE2).mono ?_; rintro e w3 ⟨A3, c3, rfl, hr3, ha3, hb3, hw3⟩; have B1 := (((((Blk.made w1 25 #[.string ⟨#[97]⟩, .slice A1 n1 c1]).new hw2).alloc (.cells #[.string ⟨#[97]⟩, .slice A2 n2 c2] 25)).new hw3).alloc (.cells #[.string ⟨#[97]⟩, .slice A3 n3 c3] 25)); have e10 := B1.cell' 0 _ rfl; have e11 := B1.cell' 1 _ rfl; have B2 := (((Blk.made w2 25 #[.string ⟨#[97]⟩, .slice A2 n2 c2]).new hw3).alloc (.cells #[.string ⟨#[97]⟩, .slice A3 n3 c3] 25)); have B3 := (Blk.made w3 25 #[.string ⟨#[97]⟩, .slice A3 n3 c3]))
    | (go_at_call 13; refine (D2.out _ hE1).mono ?_; rintro e w2 ⟨A2, c2, rfl, hr2, ha2, hb2, hw2⟩; have hE2 := (hE1.new hw2).new ((New.refl _).alloc (.cells #[.string ⟨#[97]⟩, .slice A2 n2 c2] 25)))
    | (go_at_call 13; refine (D1.out _ hE).mono ?_; rintro e w1 ⟨A1, c1, rfl, hr1, ha1, hb1, hw1⟩; have hE1 := (hE.new hw1).new ((New.refl _).alloc (.cells #[.string ⟨#[97]⟩, .slice A1 n1 c1] 25))))
  go_ret
  exact ⟨rfl, (((((((hw1.alloc _).trans hw2).alloc _).trans hw3).alloc _).trans hw4).alloc _).trans hw5 |>.trans hw6 |>.alloc _ |>.trans hw7 |>.alloc _ |>.trans hw8⟩
end Go.Proofs.YtlecocmopeainaaDoor
