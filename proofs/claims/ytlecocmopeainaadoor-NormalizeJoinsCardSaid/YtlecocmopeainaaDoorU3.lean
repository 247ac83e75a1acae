/- What Joins calls: slices.Clone, strings.Split, strings.TrimFunc at blanks, slices.Equal at equal words. The package-level variables that the library reads hold what the row lists (Env; utf8's two tables). -/
import Derived.Test.YtlecocmopeainaaDoorU2
import Derived.Test.YtlecocmopeainaaDoorFin
import Derived.Lib.LaidU8T
import Derived.Lib.SliceRun
namespace Go.Proofs.YtlecocmopeainaaDoor
open Go Go.RowKit Go.Joins Go.Shelf
set_option linter.unusedSimpArgs false
set_option linter.unusedVariables false

/-- utf8's two tables, as the row lists them. -/
def Tabs (w : World) : Prop := Lib.Utf8Tabs 1 2 w
theorem Tabs.new {w w' : World} (h : Tabs w) (hn : New w w') : Tabs w' := Utf8Tabs_below h hn
theorem u8t : U8Types Tryd.prog Tryd.lays237_ren := { t5 := Tryd.underlying5, t119 := Tryd.underlying133, t138 := Tryd.underlying135, t139 := Tryd.underlying136 }
theorem u8x : U8Extra Tryd.prog Tryd.lays237_ren := { n3 := by kernel_rfl, n4 := by kernel_rfl, y3 := by kernel_rfl, y4 := by kernel_rfl, c5 := by kernel_rfl, c119 := by kernel_rfl, c138 := by kernel_rfl }
theorem tabs_of {W : World} (h : laidMetH Tryd.prog laidList W) : Tabs W := by
  have h0 := laid_plain h
  have e1 : (Rows.laid_unicode_utf8_acceptRanges : DataW Unit) = Lib.acceptData := by kernel_rfl
  have e2 : (Rows.laid_unicode_utf8_first : DataW Unit) = Lib.firstData := by kernel_rfl
  have r1 := Lib.laidMet.reads h0 (n := "unicode/utf8.acceptRanges") (d := Rows.laid_unicode_utf8_acceptRanges) (.tail _ (.tail _ (.tail _ (.head _))))
  have r2 := Lib.laidMet.reads h0 (n := "unicode/utf8.first") (d := Rows.laid_unicode_utf8_first) (.tail _ (.tail _ (.tail _ (.tail _ (.tail _ (.tail _ (.head _)))))))
  rw [e1] at r1
  rw [e2] at r2
  exact utf8Tabs_of_readsT u8t u8x r2 r1

set_option maxRecDepth 100000 in
theorem blankFn (r : Nat) (w : World) : Calls Tryd.prog 33 (#[.int .i32 (r : Int)] ++ #[]) w fun e w' => e = .returned (.bool (blN r)) ∧ ∃ q, w' = w.drewN q := by
  by_cases h : (r : Int) ≤ 32
  · have e : blN r = true := by simp [blN, blankB, h]
    rw [e]
    go_enter Tryd.func33, Tryd.ntmps33
    go_wp2
    go_ret
    exact ⟨rfl, 0, rfl⟩
  · by_cases h2 : (r : Int) = 127
    · have e : blN r = true := by simp [blN, blankB, h2]
      have t1 : decide ((r : Int) ≤ 32) = false := decide_eq_false h
      have t2 : ((r : Int) == 127) = true := by simp [h2]
      have t3 : decide ((r : Int) = 127) = true := by simp [h2]
      rw [e]
      go_enter Tryd.func33, Tryd.ntmps33
      go_wp2
      go_ret
      exact ⟨rfl, 0, rfl⟩
    · have e : blN r = false := by simp [blN, blankB, h2]; omega
      have t1 : decide ((r : Int) ≤ 32) = false := decide_eq_false h
      have t2 : ((r : Int) == 127) = false := by simp [h2]
      have t3 : decide ((r : Int) = 127) = false := by simp [h2]
      rw [e]
      go_enter Tryd.func33, Tryd.ntmps33
      go_wp2
      go_ret
      exact ⟨rfl, 0, rfl⟩
theorem trim_any (s : ByteArray) (w : World) (hs : s.size ≤ 9223372036854775807) (hT : Tabs w) : Calls Tryd.prog 32 #[.string s, .func (.func 33) #[] #[]] w fun e w' => e = .returned (.string (Lib.trimF blN s)) ∧ New w w' :=
  Tryd.strings_TrimFunc 33 #[] (enters_of Tryd.func33 (by kernel_rfl) rfl) blN s w hs hT (fun W r _ => blankFn r W)

theorem split_lines (s : ByteArray) (w : World) (hs : s.size ≤ 4294967280) (hE : Env w) (n : Nat) (hn : (parts 10 s).length = n) :
    Calls Tryd.prog 31 #[.string s, .string ⟨#[10]⟩] w fun e w' => e = .returned (.slice (some ⟨w.heap.size, 0, none⟩) n n) ∧ Rd w' 1 (some ⟨w.heap.size, 0, none⟩) n ((parts 10 s).map Value.string) ∧ New w w' := by
  obtain ⟨m, hm⟩ := hE.maxlen
  refine (Tryd.strings_Split s ⟨#[10]⟩ m w (by omega) hm (by show 1 ≤ 1; omega)).mono ?_
  rintro e w' ⟨rfl, rfl⟩
  have hc := countB_one 10 s
  rw [hn] at hc
  rw [splitB_cut 10 _ s rfl, hc]
  refine ⟨rfl, ?_, (New.refl w).alloc _⟩
  refine rd_new w _ 9 n (by simp [hn])

theorem eqLx_same (A A' : Option Addr) (c c' n : Nat) (ws : List Lx) (hl : ws.length = n) (w : World) (hr : Rd w 2 A n (lxCells ws)) (hr' : Rd w 2 A' n (lxCells ws)) (hz : n ≤ 4294967295) :
    Calls Tryd.prog 30 #[.slice A n c, .slice A' n c'] w fun e w' => e = .returned (.bool true) ∧ New w w' := by
  subst hl
  have h := eqLx_any A A' c c' ws ws w hr hr' hz
  rwa [decide_eq_true rfl] at h

set_option maxRecDepth 100000 in
set_option maxHeartbeats 1000000 in
theorem clone_lx (A : Option Addr) (c n : Nat) (ws : List Lx) (hl : ws.length = n) (w : World) (hr : Rd w 2 A n (lxCells ws)) (hn0 : n ≤ 100000) :
    Calls Tryd.prog 29 #[.slice A n c] w fun e w' => ∃ v, e = .returned v ∧ w'.ownsRow w.heap.size 33 2 v n (lxCells ws) ∧ New w w' := by
  obtain ⟨i0, hi, hz0, hz1, hz2⟩ := info_parts Tryd.info33
  have hlen := hr.1
  cases A with
  | none =>
    have hn : n = 0 := by
      rcases Nat.eq_zero_or_pos n with h | h
      · exact h
      · obtain ⟨_, _, h2, _⟩ := hr.2 h
        cases h2
    subst hn
    obtain rfl : ws = [] := List.eq_nil_of_length_eq_zero hl
    have hnil := Lib.run_eql_slice_nil (P := Tryd.prog) w 23 33 none 0 c 0 0 Tryd.underlying23
    go_enter Tryd.func29, Tryd.ntmps29
    go_wp2
    go_ret
    exact ⟨_, rfl, World.ownsRow_nil _ _ _ _, New.refl w⟩
  | some ad =>
    have hnews : ∀ j u, (lxCells ws)[j]? = some u → w.cell? (ad.add j) = some u := by
      intro j u hj
      have hj2 := (List.getElem?_eq_some_iff.1 hj).1
      obtain ⟨b, o, e, _, hc⟩ := hr.2 (by omega)
      injection e with e
      subst e
      rw [add_none rfl]
      exact hc j u hj
    have hone : ∀ u ∈ lxCells ws, u.oneCell' = true := by
      intro u hu
      obtain ⟨x, _, hx⟩ := List.mem_flatMap.1 hu
      simp at hx
      rcases hx with rfl | rfl <;> rfl
    have hlt : ∀ j u, (lxCells ws)[j]? = some u → (w.alloc (.cells #[] 33)).cell? (ad.add j) = some u := fun j u hj => by
      have h1 := hnews j u hj
      exact (World.cell?_alloc_lt w _ _ (World.block_lt_of_cell? w _ h1)).trans h1
    clear hr
    have hnil := Lib.run_eql_slice_nil (P := Tryd.prog) w 23 33 (some ad) n c 0 0 Tryd.underlying23
    go_enter Tryd.func29, Tryd.ntmps29
    go_wp2_with (at_builtin; refine wpList_append_own _ rfl (.tmp 5) (.tmp 6) 23 rfl w.heap.size 33 i0 (.agg #[.string ⟨#[]⟩, .int .i64 0]) 2 24 Tryd.underlying23 hi hz0 hz1 hz2 rfl (by decide) _ _ _ rfl (World.ownsRow_lit w #[] 0 (Nat.le_refl _) (by simp [maxLen]) rfl) ad n c (lxCells ws) rfl hlen hlt hone ?c3 ?c4 ?c5 ?_)
    case c3 => simp [maxLen]; omega
    case c4 => omega
    case c5 => simp
    intro v' w2 hown hg _
    go_wp2
    go_ret
    exact ⟨v', rfl, own_len hown (by simp) (by simp), Below.grown ((New.refl w).alloc _) hg (by simp) (fun q hq => by simp [Value.ownBlock] at hq; omega)⟩
end Go.Proofs.YtlecocmopeainaaDoor
