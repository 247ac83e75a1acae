/- normalize.Words: what it returns, for any path and data (shorter than 2^32 - 15 bytes: the model's bound for strings.Split). -/
import Derived.Test.YtlecocmopeainaaDoorD
import Derived.Test.YtlecocmopeainaaDoorE
import Derived.Test.YtlecocmopeainaaDoorBlk
namespace Go.Proofs.YtlecocmopeainaaDoor
open Go Go.RowKit Go.Joins Go.Shelf
attribute [local go_sem] Oper.semAt_some

theorem count_any (s : ByteArray) (w : World) : Calls Tryd.prog 28 #[.string s, .string ⟨#[10]⟩] w fun e w' => e = .returned (.int .i64 (nl s)) ∧ w = w' :=
  (Tryd.strings_Count_one s 10 w).mono fun _ _ ⟨he, hw⟩ => ⟨he, hw.symm⟩
/-- The text that is returned with an error. -/
abbrev noText : Value := .agg #[.string ⟨#[]⟩, .slice none 0 0]
theorem rtext_empty (w : World) : RText w noText ⟨#[]⟩ [] := ⟨none, 0, rfl, Nat.le_refl _, by simp [maxLen], Rd.none_ _⟩

set_option maxRecDepth 100000 in
set_option maxHeartbeats 1000000 in
theorem words_name (path data : ByteArray) (a b : Bool) (w : World) (hp : path.size < 4294967281) (hE : Env w) (h : pathOK path = false) :
    Calls Tryd.prog 13 #[.string path, .string data, .bool a, .bool b] w fun e w' => e = .returned (.tuple #[noText, .int .i64 2]) ∧ New w w' := by
  have he : pathE path = 2 := by rw [pathE, h]; rfl
  have H := Lib.hid he; clear he
  go_enter Tryd.func13, Tryd.ntmps13
  go_wp2_with (go_at_call 38; refine (path_any _ _ hp (((hE.new ((New.refl w).alloc _)).new ((New.refl _).alloc _)).new ((New.refl _).alloc _))).mono ?_; rw [H.out]; rintro e w1 ⟨rfl, hn⟩; have hf := hn.facts; have hz := hn.size; simp at hz)
  refine bodyPost_ret (v := .tuple #[noText, .int .i64 2]) (by simp [results, Tryd.results13, go_sem, hf]) rfl ⟨rfl, ?_⟩
  exact ((((((New.refl w).alloc _).alloc _).alloc _).trans hn).setCell (by simp; omega) _).setCell (by simp; omega) _

set_option maxRecDepth 100000 in
set_option maxHeartbeats 1000000 in
theorem words_large (path data : ByteArray) (a b : Bool) (w : World) (hp : path.size < 4294967281) (hE : Env w) (h : pathOK path = true) (hl : 65536 < data.size ∨ 1024 ≤ nl data) :
    Calls Tryd.prog 13 #[.string path, .string data, .bool a, .bool b] w fun e w' => e = .returned (.tuple #[noText, .int .i64 10]) ∧ New w w' := by
  have he : pathE path = 0 := by rw [pathE, h]; rfl
  have H := Lib.hid he; clear he
  by_cases h1 : 65536 < data.size
  · have h2 : (65536 : Int) < (data.size : Int) := by omega
    clear hl h1
    go_enter Tryd.func13, Tryd.ntmps13
    go_wp2_with (go_at_call 38; refine (path_any _ _ hp (((hE.new ((New.refl w).alloc _)).new ((New.refl _).alloc _)).new ((New.refl _).alloc _))).mono ?_; rw [H.out]; rintro e w1 ⟨rfl, hn⟩; have hf := hn.facts; have hz := hn.size; simp at hz)
    refine bodyPost_ret (v := .tuple #[noText, .int .i64 10]) (by simp [results, Tryd.results13, go_sem, hf]) rfl ⟨rfl, ?_⟩
    exact ((((((New.refl w).alloc _).alloc _).alloc _).trans hn).setCell (by simp; omega) _).setCell (by simp; omega) _
  · have h2 : ¬ (65536 : Int) < (data.size : Int) := by omega
    have h3 : (1024 : Int) ≤ (nl data : Int) := by omega
    clear hl h1
    go_enter Tryd.func13, Tryd.ntmps13
    go_wp2_with (first | (go_at_call 38; refine (path_any _ _ hp (((hE.new ((New.refl w).alloc _)).new ((New.refl _).alloc _)).new ((New.refl _).alloc _))).mono ?_; rw [H.out]; rintro e w1 ⟨rfl, hn⟩; have hf := hn.facts; have hz := hn.size; simp at hz) | (go_at_call 28; refine (count_any data _).mono ?_; rintro e w2 ⟨rfl, rfl⟩))
    refine bodyPost_ret (v := .tuple #[noText, .int .i64 10]) (by simp [results, Tryd.results13, go_sem, hf]) rfl ⟨rfl, ?_⟩
    exact ((((((New.refl w).alloc _).alloc _).alloc _).trans hn).setCell (by simp; omega) _).setCell (by simp; omega) _
end Go.Proofs.YtlecocmopeainaaDoor
