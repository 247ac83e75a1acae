/- lineset.Has at spans of a valid set of lines of one file. The package-level variables that the library reads hold what the row lists (Env). -/
import Derived.Test.YtlecocmopeainaaDoorU1
import Derived.Test.YtlecocmopeainaaDoorS2
import Derived.Test.YtlecocmopeainaaDoorM11
namespace Go.Proofs.YtlecocmopeainaaDoor
open Go Go.RowKit Go.Joins Go.Shelf
set_option linter.unusedSimpArgs false
set_option linter.unusedVariables false

set_option maxRecDepth 100000 in
set_option maxHeartbeats 1000000 in
theorem inside_any (p : ByteArray) (f t : Int) (w : World) (h0 : 0 ≤ f) (h1 : f < t) (h2 : t ≤ 1024) :
    Calls Tryd.prog 93 #[.agg #[.string p, .int .i64 f, .int .i64 t]] w fun e w' => e = .returned (.bool true) ∧ New w w' := by
  go_enter Tryd.func93, Tryd.ntmps93
  go_wp2
  go_ret
  exact ⟨rfl, (New.refl w).alloc _⟩
set_option maxRecDepth 100000 in
set_option maxHeartbeats 1000000 in
theorem behind_any (p : ByteArray) (f t f' t' : Int) (w : World) (h0 : t < f') :
    Calls Tryd.prog 94 #[.agg #[.string p, .int .i64 f, .int .i64 t], .agg #[.string p, .int .i64 f', .int .i64 t']] w fun e w' => e = .returned (.bool true) ∧ New w w' := by
  have f1 : (p.toList == p.toList) = true := beq_self_eq_true _
  go_enter Tryd.func94, Tryd.ntmps94
  go_wp2
  all_goals (go_ret; exact ⟨by simp_all, ((New.refl w).alloc _).alloc _⟩)
set_option maxRecDepth 100000 in
set_option maxHeartbeats 1000000 in
theorem hasFn_any (p : ByteArray) (f t i : Int) (g : Nat) (w : World) (h0 : w.cell? ⟨g, 0, none⟩ = some (.string p)) (h1 : w.cell? ⟨g, 1, none⟩ = some (.int .i64 i)) :
    Calls Tryd.prog 64 #[.agg #[.string p, .int .i64 f, .int .i64 t], .pointer (some ⟨g, 0, none⟩)] w fun e w' => e = .returned (.bool (decide (f ≤ i) && decide (i < t))) ∧ New w w' := by
  have f1 : (p.toList == p.toList) = true := beq_self_eq_true _
  have hg := cell_lt h0
  have c0 : (w.alloc (.cells #[.string p, .int .i64 f, .int .i64 t] 46)).cell? ⟨g, 0, none⟩ = some (.string p) := (World.cell?_alloc_lt w _ ⟨g, 0, none⟩ hg).trans h0
  have c1 : (w.alloc (.cells #[.string p, .int .i64 f, .int .i64 t] 46)).cell? ⟨g, 1, none⟩ = some (.int .i64 i) := (World.cell?_alloc_lt w _ ⟨g, 1, none⟩ hg).trans h1
  by_cases a1 : f ≤ i
  · have t1 : decide (f ≤ i) = true := decide_eq_true a1
    by_cases a2 : i < t
    · have t2 : decide (i < t) = true := decide_eq_true a2
      rw [t1, t2]
      go_enter Tryd.func64, Tryd.ntmps64
      go_wp2
      go_ret
      exact ⟨rfl, (New.refl w).alloc _⟩
    · have t2 : decide (i < t) = false := decide_eq_false a2
      rw [t1, t2]
      go_enter Tryd.func64, Tryd.ntmps64
      go_wp2
      go_ret
      exact ⟨rfl, (New.refl w).alloc _⟩
  · have t1 : decide (f ≤ i) = false := decide_eq_false a1
    rw [t1, Bool.false_and]
    go_enter Tryd.func64, Tryd.ntmps64
    go_wp2
    go_ret
    exact ⟨rfl, (New.refl w).alloc _⟩

set_option maxRecDepth 100000 in
set_option maxHeartbeats 2000000 in
theorem indexFunc_spans (A : Option Addr) (c n : Nat) (p : ByteArray) (i : Int) (g : Nat) (sp : List (Int × Int)) (hl : sp.length = n) (w : World) (hn0 : n ≤ 9223372036854775806) (hr : Rd w 3 A n (spCells p sp)) (h0 : w.cell? ⟨g, 0, none⟩ = some (.string p)) (h1 : w.cell? ⟨g, 1, none⟩ = some (.int .i64 i)) :
    Calls Tryd.prog 92 #[.slice A n c, .func (.func 64) #[] #[.pointer (some ⟨g, 0, none⟩)]] w fun e w' => (∃ k : Int, e = .returned (.int .i64 k) ∧ decide (0 ≤ k) = hasB sp i) ∧ New w w' := by
  have HL := Lib.hid hl
  have hg := cell_lt h0
  have H0 := Lib.hid h0
  have H1 := Lib.hid h1
  clear hl h0 h1
  go_enter Tryd.func92, Tryd.ntmps92
  go_wp2
  go_loopw [8] (fun v wr => ∃ k : Nat, k ≤ n ∧ v = .int .i64 k ∧ New w wr ∧ Hid (hasB (sp.take k) i = false)) (fun v _ => n - (intOf v).toNat)
  case atStart => exact ⟨0, Nat.zero_le _, rfl, New.refl _, Lib.hid rfl⟩
  case round =>
    obtain ⟨k, hk, rfl, hn, H⟩ := hrel
    by_cases hlt : k < n
    · obtain ⟨bk, o, rfl, _, hc⟩ := (hr.below hn).2 (by omega)
      have hkl : k < sp.length := by rw [HL.out]; exact hlt
      obtain ⟨q1, q2, q3⟩ := spCells_get p sp k hkl
      have d1 := hc _ _ q1
      have d2 : wr.cell? ⟨bk, o + k * 3 + 1, none⟩ = some (.int .i64 sp[k].1) := hc _ _ q2
      have d3 : wr.cell? ⟨bk, o + k * 3 + 2, none⟩ = some (.int .i64 sp[k].2) := hc _ _ q3
      have ht : hasB (sp.take (k + 1)) i = (decide (sp[k].1 ≤ i) && decide (i < sp[k].2)) := by
        rw [List.take_succ_eq_append_getElem hkl, hasB_app, H.out]; simp [hasB]
      have hmem : sp[k] ∈ sp := List.getElem_mem hkl
      have HM := Lib.hid hmem
      generalize sp[k] = x at *
      have HT := Lib.hid ht
      have e0 := (hn.cell (p := ⟨g, 0, none⟩) hg).trans H0.out
      have e1 := (hn.cell (p := ⟨g, 1, none⟩) hg).trans H1.out
      have HC := Lib.hid (hasFn_any p x.1 x.2 i g wr e0 e1)
      clear hc q1 q2 q3 ht hkl hmem e0 e1
      cases hb : (decide (x.1 ≤ i) && decide (i < x.2))
      · rw [hb] at HC
        have HB := Lib.hid hb
        clear hb
        go_wp2_with (go_at_call 64; refine HC.out.mono ?_; rintro e w' ⟨rfl, hn2⟩)
        go_roundw
        case rel => exact ⟨k + 1, by omega, by go_num, hn.trans hn2, Lib.hid (by rw [HT.out, HB.out])⟩
        case measure => simp [intOf]; omega
      · rw [hb] at HC
        have HB := Lib.hid hb
        clear hb
        go_wp2_with (go_at_call 64; refine HC.out.mono ?_; rintro e w' ⟨rfl, hn2⟩)
        go_ret
        refine ⟨⟨k, rfl, ?_⟩, hn.trans hn2⟩
        have : hasB sp i = true := by
          rw [hasB, List.any_eq_true]
          exact ⟨x, HM.out, HB.out⟩
        rw [this]; simp
    · have : k = n := by omega
      subst this
      go_wp2
      go_ret
      refine ⟨⟨-1, rfl, ?_⟩, hn⟩
      have h2 := H.out
      rw [List.take_of_length_le (by rw [HL.out]; exact Nat.le_refl _)] at h2
      rw [h2]; rfl
set_option maxRecDepth 100000 in
set_option maxHeartbeats 1000000 in
theorem containsFunc_spans (A : Option Addr) (c n : Nat) (p : ByteArray) (i : Int) (g : Nat) (sp : List (Int × Int)) (bb : Bool) (hbb : Hid (hasB sp i = bb)) (hl : sp.length = n) (w : World) (hn0 : n ≤ 9223372036854775806) (hr : Rd w 3 A n (spCells p sp)) (h0 : w.cell? ⟨g, 0, none⟩ = some (.string p)) (h1 : w.cell? ⟨g, 1, none⟩ = some (.int .i64 i)) :
    Calls Tryd.prog 65 #[.slice A n c, .func (.func 64) #[] #[.pointer (some ⟨g, 0, none⟩)]] w fun e w' => e = .returned (.bool bb) ∧ New w w' := by
  have HC := Lib.hid (indexFunc_spans A c n p i g sp hl w hn0 hr h0 h1)
  clear hl
  go_enter Tryd.func65, Tryd.ntmps65
  go_wp2_with (go_at_call 92; refine HC.out.mono ?_; rintro e w' ⟨⟨k, rfl, hi⟩, hn⟩; have HI := Lib.hid hi; clear hi)
  go_ret
  exact ⟨ret_b (HI.out.trans hbb.out), hn⟩

/-- Three cells of a block, in a world that has grown. -/
abbrev Tri (wB : World) (g o : Nat) (a b c : Value) (W : World) : Prop :=
  W.cell? ⟨g, o, none⟩ = some a ∧ W.cell? ⟨g, o + 1, none⟩ = some b ∧ W.cell? ⟨g, o + 2, none⟩ = some c ∧ New wB W
theorem Tri.new {wB W W' : World} {g o : Nat} {a b c : Value} (s : Tri wB g o a b c W) (hn : New W W') : Tri wB g o a b c W' :=
  ⟨(hn.cell (p := ⟨g, o, none⟩) (cell_lt s.1)).trans s.1, (hn.cell (p := ⟨g, o + 1, none⟩) (cell_lt s.2.1)).trans s.2.1, (hn.cell (p := ⟨g, o + 2, none⟩) (cell_lt s.2.2.1)).trans s.2.2.1, s.2.2.2.trans hn⟩
theorem Tri.drew {wB W : World} {g o : Nat} {a b c : Value} (s : Tri wB g o a b c W) : Tri wB g o a b c W.drew := ⟨s.1, s.2.1, s.2.2.1, s.2.2.2.drew⟩
/-- The box of a span, and the span before it. -/
abbrev Six (wB : World) (g h o : Nat) (a b c a' b' c' : Value) (W : World) : Prop :=
  W.cell? ⟨g, 0, none⟩ = some a ∧ W.cell? ⟨g, 1, none⟩ = some b ∧ W.cell? ⟨g, 2, none⟩ = some c ∧ W.cell? ⟨h, o, none⟩ = some a' ∧ W.cell? ⟨h, o + 1, none⟩ = some b' ∧ W.cell? ⟨h, o + 2, none⟩ = some c' ∧ New wB W
theorem Six.new {wB W W' : World} {g h o : Nat} {a b c a' b' c' : Value} (s : Six wB g h o a b c a' b' c' W) (hn : New W W') : Six wB g h o a b c a' b' c' W' :=
  ⟨(hn.cell (p := ⟨g, 0, none⟩) (cell_lt s.1)).trans s.1, (hn.cell (p := ⟨g, 1, none⟩) (cell_lt s.2.1)).trans s.2.1, (hn.cell (p := ⟨g, 2, none⟩) (cell_lt s.2.2.1)).trans s.2.2.1,
   (hn.cell (p := ⟨h, o, none⟩) (cell_lt s.2.2.2.1)).trans s.2.2.2.1, (hn.cell (p := ⟨h, o + 1, none⟩) (cell_lt s.2.2.2.2.1)).trans s.2.2.2.2.1, (hn.cell (p := ⟨h, o + 2, none⟩) (cell_lt s.2.2.2.2.2.1)).trans s.2.2.2.2.2.1, s.2.2.2.2.2.2.trans hn⟩
theorem Six.drew {wB W : World} {g h o : Nat} {a b c a' b' c' : Value} (s : Six wB g h o a b c a' b' c' W) : Six wB g h o a b c a' b' c' W.drew := ⟨s.1, s.2.1, s.2.2.1, s.2.2.2.1, s.2.2.2.2.1, s.2.2.2.2.2.1, s.2.2.2.2.2.2.drew⟩

set_option maxRecDepth 100000 in
set_option maxHeartbeats 4000000 in
theorem validL_any (A : Option Addr) (c n : Nat) (p : ByteArray) (sp : List (Int × Int)) (hl : sp.length = n) (hg : GoodSp sp) (hp : pathOK p = true) (hps : p.size < 4294967281) (w : World) (hn0 : n ≤ 9223372036854775806) (hr : Rd w 3 A n (spCells p sp)) (hE : Env w) :
    Calls Tryd.prog 66 #[.slice A n c] w fun e w' => e = .returned (.bool true) ∧ New w w' := by
  have HL := Lib.hid hl
  have HG := Lib.hid hg
  have HP : ∀ w, Env w → Calls Tryd.prog 38 #[.string p] w fun e w' => e = .returned (.int .i64 0) ∧ New w w' := fun w h => by
    have := path_any p w hps h
    rwa [pathE, hp] at this
  have HP := Lib.hid HP
  clear hl hg hp hps
  go_enter Tryd.func66, Tryd.ntmps66
  go_wp2
  go_loopw [7] (fun v wr => ∃ k : Nat, k ≤ n ∧ v = .int .i64 k ∧ New w wr) (fun v _ => n - (intOf v).toNat)
  case atStart => exact ⟨0, Nat.zero_le _, rfl, New.refl _⟩
  case round =>
    obtain ⟨k, hk, rfl, hn⟩ := hrel
    by_cases hlt : k < n
    · obtain ⟨bk, o, rfl, hbk, hc⟩ := (hr.below hn).2 (by omega)
      have hkl : k < sp.length := by rw [HL.out]; exact hlt
      obtain ⟨q1, q2, q3⟩ := spCells_get p sp k hkl
      have d1 := hc _ _ q1
      have d2 : wr.cell? ⟨bk, o + k * 3 + 1, none⟩ = some (.int .i64 sp[k].1) := hc _ _ q2
      have d3 : wr.cell? ⟨bk, o + k * 3 + 2, none⟩ = some (.int .i64 sp[k].2) := hc _ _ q3
      have hx := HG.out.1 sp[k] (List.getElem_mem hkl)
      have hEr := hE.new hn
      by_cases hk0 : k = 0
      · generalize sp[k] = x at *
        have t0 : decide ((0 : Int) < (k : Int)) = false := decide_eq_false (by omega)
        have t1 : decide (0 < k) = false := decide_eq_false (by omega)
        clear hk0
        obtain ⟨hx0, hx1, hx2⟩ := hx
        have HI := Lib.hid (fun w => inside_any p x.1 x.2 w hx0 hx1 hx2)
        have hEB := hEr.new ((New.refl wr).alloc (.cells #[.string p, .int .i64 x.1, .int .i64 x.2] 46))
        clear hc q1 q2 q3 hx0 hx1 hx2
        go_wp2_with (fail)
        have hS : Tri (wr.alloc (.cells #[.string p, .int .i64 x.1, .int .i64 x.2] 46)) wr.heap.size 0 (.string p) (.int .i64 x.1) (.int .i64 x.2) (wr.alloc (.cells #[.string p, .int .i64 x.1, .int .i64 x.2] 46)) := ⟨(Blk.made wr 46 _).cell' 0 _ rfl, (Blk.made wr 46 _).cell' 1 _ rfl, (Blk.made wr 46 _).cell' 2 _ rfl, New.refl _⟩
        refine wp_region_held_drew (S := fun W => Tri (wr.alloc (.cells #[.string p, .int .i64 x.1, .int .i64 x.2] 46)) wr.heap.size 0 (.string p) (.int .i64 x.1) (.int .i64 x.2) W) (by kernel_rfl) hS.drew (fun hS => ?_)
        refine wpAnyH_take (i := 0) (v := .agg #[.string p, .int .i64 x.1, .int .i64 x.2]) rfl (by kernel_rfl) (by kernel_rfl) (by kernel_rfl) (fun _ _ _ h => h) (Or.inl ⟨by kernel_rfl, fun w hS => by (try dsimp only at hS); go_simp⟩) hS ?_
        simp only [Act.put, List.setIfInBounds_toArray, List.set_cons_zero, List.set_cons_succ]
        refine wpAnyH_ready (rs := [1]) (by kernel_rfl) (by simp) ?_
        refine AllReadyH.cons rfl (fun K hK => ?_) AllReadyH.nil
        go_simp
        refine (HI.out _).mono ?_
        rintro e w2 ⟨rfl, hn2⟩
        refine hK.out _ _ (Tri.new hS hn2) (fun hS => ?_)
        clear hK K
        refine wpAnyH_take (i := 2) (v := .bool false) rfl (by kernel_rfl) (by kernel_rfl) (by kernel_rfl) (fun _ _ _ h => h) (Or.inl ⟨by kernel_rfl, fun w hS => by (try dsimp only at hS); go_simp⟩) hS ?_
        simp only [Act.put, List.setIfInBounds_toArray, List.set_cons_zero, List.set_cons_succ]
        refine wpAnyH_take (i := 3) (v := .bool false) rfl (by kernel_rfl) (by kernel_rfl) (by kernel_rfl) (fun _ _ _ h => h) (Or.inl ⟨by kernel_rfl, fun w hS => by (try dsimp only at hS); go_simp⟩) hS ?_
        simp only [Act.put, List.setIfInBounds_toArray, List.set_cons_zero, List.set_cons_succ]
        refine wpAnyH_take (i := 4) (v := .int .i64 k) rfl (by kernel_rfl) (by kernel_rfl) (by kernel_rfl) (fun _ _ _ h => h) (Or.inl ⟨by kernel_rfl, fun w hS => by (try dsimp only at hS); go_simp⟩) hS ?_
        simp only [Act.put, List.setIfInBounds_toArray, List.set_cons_zero, List.set_cons_succ]
        refine wpAnyH_take (i := 5) (v := .bool false) rfl (by kernel_rfl) (by kernel_rfl) (by kernel_rfl) (fun _ _ _ h => h) (Or.inl ⟨by kernel_rfl, fun w hS => by (try dsimp only at hS); go_simp⟩) hS ?_
        simp only [Act.put, List.setIfInBounds_toArray, List.set_cons_zero, List.set_cons_succ]
        refine wpAnyH_take (i := 6) (v := .bool false) rfl (by kernel_rfl) (by kernel_rfl) (by kernel_rfl) (fun _ _ _ h => h) (Or.inl ⟨by kernel_rfl, fun w hS => by (try dsimp only at hS); go_simp⟩) hS ?_
        simp only [Act.put, List.setIfInBounds_toArray, List.set_cons_zero, List.set_cons_succ]
        refine wpAnyH_take (i := 7) (v := undef) rfl (by kernel_rfl) (by kernel_rfl) (by kernel_rfl) (fun _ _ _ h => h) (Or.inr ⟨by kernel_rfl, rfl⟩) hS ?_
        simp only [Act.put, List.setIfInBounds_toArray, List.set_cons_zero, List.set_cons_succ]
        refine wpAnyH_take (i := 8) (v := undef) rfl (by kernel_rfl) (by kernel_rfl) (by kernel_rfl) (fun _ _ _ h => h) (Or.inr ⟨by kernel_rfl, rfl⟩) hS ?_
        simp only [Act.put, List.setIfInBounds_toArray, List.set_cons_zero, List.set_cons_succ]
        refine wpAnyH_take (i := 9) (v := undef) rfl (by kernel_rfl) (by kernel_rfl) (by kernel_rfl) (fun _ _ _ h => h) (Or.inr ⟨by kernel_rfl, rfl⟩) hS ?_
        simp only [Act.put, List.setIfInBounds_toArray, List.set_cons_zero, List.set_cons_succ]
        refine wpAnyH_take (i := 10) (v := undef) rfl (by kernel_rfl) (by kernel_rfl) (by kernel_rfl) (fun _ _ _ h => h) (Or.inr ⟨by kernel_rfl, rfl⟩) hS ?_
        simp only [Act.put, List.setIfInBounds_toArray, List.set_cons_zero, List.set_cons_succ]
        refine wpAnyH_take (i := 11) (v := undef) rfl (by kernel_rfl) (by kernel_rfl) (by kernel_rfl) (fun _ _ _ h => h) (Or.inr ⟨by kernel_rfl, rfl⟩) hS ?_
        simp only [Act.put, List.setIfInBounds_toArray, List.set_cons_zero, List.set_cons_succ]
        refine wpAnyH_take (i := 12) (v := undef) rfl (by kernel_rfl) (by kernel_rfl) (by kernel_rfl) (fun _ _ _ h => h) (Or.inr ⟨by kernel_rfl, rfl⟩) hS ?_
        simp only [Act.put, List.setIfInBounds_toArray, List.set_cons_zero, List.set_cons_succ]
        refine wpAnyH_take (i := 13) (v := undef) rfl (by kernel_rfl) (by kernel_rfl) (by kernel_rfl) (fun _ _ _ h => h) (Or.inr ⟨by kernel_rfl, rfl⟩) hS ?_
        simp only [Act.put, List.setIfInBounds_toArray, List.set_cons_zero, List.set_cons_succ]
        refine wpAnyH_take (i := 14) (v := undef) rfl (by kernel_rfl) (by kernel_rfl) (by kernel_rfl) (fun _ _ _ h => h) (Or.inr ⟨by kernel_rfl, rfl⟩) hS ?_
        simp only [Act.put, List.setIfInBounds_toArray, List.set_cons_zero, List.set_cons_succ]
        refine wpAnyH_take (i := 15) (v := .bool false) rfl (by kernel_rfl) (by kernel_rfl) (by kernel_rfl) (fun _ _ _ h => h) (Or.inl ⟨by kernel_rfl, fun w hS => by (try dsimp only at hS); go_simp⟩) hS ?_
        simp only [Act.put, List.setIfInBounds_toArray, List.set_cons_zero, List.set_cons_succ]
        refine wpAnyH_take (i := 16) (v := .bool false) rfl (by kernel_rfl) (by kernel_rfl) (by kernel_rfl) (fun _ _ _ h => h) (Or.inl ⟨by kernel_rfl, fun w hS => by (try dsimp only at hS); go_simp⟩) hS ?_
        simp only [Act.put, List.setIfInBounds_toArray, List.set_cons_zero, List.set_cons_succ]
        refine wpAnyH_take (i := 17) (v := .bool false) rfl (by kernel_rfl) (by kernel_rfl) (by kernel_rfl) (fun _ _ _ h => h) (Or.inl ⟨by kernel_rfl, fun w hS => by (try dsimp only at hS); go_simp⟩) hS ?_
        simp only [Act.put, List.setIfInBounds_toArray, List.set_cons_zero, List.set_cons_succ]
        refine wpAnyH_take (i := 18) (v := .pointer (some ⟨wr.heap.size, 0, none⟩)) rfl (by kernel_rfl) (by kernel_rfl) (by kernel_rfl) (fun _ _ _ h => h) (Or.inl ⟨by kernel_rfl, fun w hS => by (try dsimp only at hS); go_simp⟩) hS ?_
        simp only [Act.put, List.setIfInBounds_toArray, List.set_cons_zero, List.set_cons_succ]
        refine wpAnyH_take (i := 19) (v := .string p) rfl (by kernel_rfl) (by kernel_rfl) (by kernel_rfl) (fun _ _ _ h => h) (Or.inl ⟨by kernel_rfl, fun w hS => by (try dsimp only at hS); go_simp⟩) hS ?_
        simp only [Act.put, List.setIfInBounds_toArray, List.set_cons_zero, List.set_cons_succ]
        refine wpAnyH_ready (rs := [20]) (by kernel_rfl) (by simp) ?_
        refine AllReadyH.cons rfl (fun K hK => ?_) AllReadyH.nil
        go_simp
        refine (HP.out _ (hEB.new hS.2.2.2)).mono ?_
        rintro e w3 ⟨rfl, hn3⟩
        refine hK.out _ _ (Tri.new hS hn3) (fun hS => ?_)
        clear hK K
        refine wpAnyH_take (i := 21) (v := .bool false) rfl (by kernel_rfl) (by kernel_rfl) (by kernel_rfl) (fun _ _ _ h => h) (Or.inl ⟨by kernel_rfl, fun w hS => by (try dsimp only at hS); go_simp⟩) hS ?_
        simp only [Act.put, List.setIfInBounds_toArray, List.set_cons_zero, List.set_cons_succ]
        refine wpAnyH_take (i := 22) (v := .bool false) rfl (by kernel_rfl) (by kernel_rfl) (by kernel_rfl) (fun _ _ _ h => h) (Or.inl ⟨by kernel_rfl, fun w hS => by (try dsimp only at hS); go_simp⟩) hS ?_
        simp only [Act.put, List.setIfInBounds_toArray, List.set_cons_zero, List.set_cons_succ]
        refine wpAnyH_done (by kernel_rfl) ?_ _
        go_wp2
        go_roundw
        case rel => exact ⟨k + 1, by omega, by go_num, (hn.alloc _).trans hS.2.2.2⟩
        case measure => simp [intOf]; omega
      · obtain ⟨m, rfl⟩ : ∃ m, k = m + 1 := ⟨k - 1, by omega⟩
        have hml : m < sp.length := by omega
        obtain ⟨q4, q5, q6⟩ := spCells_get p sp m hml
        have d4 := hc _ _ q4
        have d5 : wr.cell? ⟨bk, o + m * 3 + 1, none⟩ = some (.int .i64 sp[m].1) := hc _ _ q5
        have d6 : wr.cell? ⟨bk, o + m * 3 + 2, none⟩ = some (.int .i64 sp[m].2) := hc _ _ q6
        have hyx := HG.out.2 m sp[m] sp[m + 1] (List.getElem?_eq_getElem hml) (List.getElem?_eq_getElem hkl)
        generalize sp[m + 1] = x at *
        generalize sp[m] = y at *
        obtain ⟨hx0, hx1, hx2⟩ := hx
        have HI := Lib.hid (fun w => inside_any p x.1 x.2 w hx0 hx1 hx2)
        have HB := Lib.hid (fun w => behind_any p y.1 y.2 x.1 x.2 w hyx)
        have hEB := hEr.new ((New.refl wr).alloc (.cells #[.string p, .int .i64 x.1, .int .i64 x.2] 46))
        have k7 : IntKind.i64.wrap ((m : Int) + 1 - 1) = (m : Int) := by rw [IntWalk.i64_in _ (by omega)]; omega
        have k8 : IntKind.i64.wrap (((m + 1 : Nat) : Int) - 1) = (m : Int) := by rw [IntWalk.i64_in _ (by omega)]; omega
        have k10 : (0 : Int) < (m : Int) + 1 := by omega
        have k11 : (0 : Int) ≤ (m : Int) := by omega
        have k12 : (m : Int) < (n : Int) := by omega
        have k13 : (m : Int).toNat = m := by omega
        have k14 : m < n := by omega
        have k15 : IntKind.i64.wrap (m : Int) = (m : Int) := IntWalk.i64_in _ (by omega)
        have t1 : decide (0 < m + 1) = true := decide_eq_true (by omega)
        have t2 : decide ((0 : Int) < (m : Int) + 1) = true := decide_eq_true (by omega)
        clear hc q1 q2 q3 q4 q5 q6 hx0 hx1 hx2 hyx
        go_wp2_with (fail)
        have hbr : bk < wr.heap.size := hbk
        have hS : Six (wr.alloc (.cells #[.string p, .int .i64 x.1, .int .i64 x.2] 46)) wr.heap.size bk (o + m * 3) (.string p) (.int .i64 x.1) (.int .i64 x.2) (.string p) (.int .i64 y.1) (.int .i64 y.2) (wr.alloc (.cells #[.string p, .int .i64 x.1, .int .i64 x.2] 46)) := ⟨(Blk.made wr 46 _).cell' 0 _ rfl, (Blk.made wr 46 _).cell' 1 _ rfl, (Blk.made wr 46 _).cell' 2 _ rfl, (World.cell?_alloc_lt wr _ ⟨bk, _, none⟩ hbr).trans d4, (World.cell?_alloc_lt wr _ ⟨bk, _, none⟩ hbr).trans d5, (World.cell?_alloc_lt wr _ ⟨bk, _, none⟩ hbr).trans d6, New.refl _⟩
        go_region_held3 (fun W => Six (wr.alloc (.cells #[.string p, .int .i64 x.1, .int .i64 x.2] 46)) wr.heap.size bk (o + m * 3) (.string p) (.int .i64 x.1) (.int .i64 x.2) (.string p) (.int .i64 y.1) (.int .i64 y.2) W) (first | exact hS | exact Six.new ‹_› ‹_› | exact Six.drew ‹_›)
          (first | (go_at_call 93; refine (HI.out _).mono ?_; rintro e w2 ⟨rfl, hn2⟩) | (go_at_call 94; refine (HB.out _).mono ?_; rintro e w4 ⟨rfl, hn4⟩) | (go_at_call 38; refine (HP.out _ (hEB.new (((New.refl _).drew.trans hn2).trans hn4))).mono ?_; rintro e w3 ⟨rfl, hn3⟩))
        go_wp2
        go_roundw
        case rel => exact ⟨m + 1 + 1, by omega, by go_num, (hn.alloc _).trans ((((New.refl _).drew.trans hn2).trans hn4).trans hn3)⟩
        case measure => simp [intOf]; omega
    · have : k = n := by omega
      subst this
      go_wp2
      go_ret
      exact ⟨rfl, hn⟩

set_option maxRecDepth 100000 in
set_option maxHeartbeats 2000000 in
theorem has_any (A : Option Addr) (c n : Nat) (p : ByteArray) (i : Int) (sp : List (Int × Int)) (b : Bool) (hb : hasB sp i = b) (hl : sp.length = n) (hg : GoodSp sp) (hp : pathOK p = true) (hps : p.size < 4294967281) (w : World) (hn0 : n ≤ 9223372036854775806) (hr : Rd w 3 A n (spCells p sp)) (hE : Env w) :
    Calls Tryd.prog 34 #[.slice A n c, .agg #[.string p, .int .i64 i]] w fun e w' => e = .returned (.bool b) ∧ New w w' := by
  have hn0' : New w (w.alloc (.cells #[.string p, .int .i64 i] 59)) := (New.refl w).alloc _
  have HC := Lib.hid (containsFunc_spans A c n p i w.heap.size sp b (Lib.hid hb) hl _ hn0 (hr.below hn0') ((Blk.made w 59 #[.string p, .int .i64 i]).cell' 0 _ rfl) ((Blk.made w 59 #[.string p, .int .i64 i]).cell' 1 _ rfl))
  have HV := Lib.hid (fun w hr hE => validL_any A c n p sp hl hg hp hps w hn0 hr hE)
  clear hl hg hp hps hb
  cases b
  · go_enter Tryd.func34, Tryd.ntmps34
    go_wp2_with (go_at_call 65; refine HC.out.mono ?_; rintro e w' ⟨rfl, hn⟩)
    go_ret
    exact ⟨rfl, hn0'.trans hn⟩
  · go_enter Tryd.func34, Tryd.ntmps34
    go_wp2_with (first | (go_at_call 65; refine HC.out.mono ?_; rintro e w1 ⟨rfl, hn⟩) | (go_at_call 66; refine (HV.out _ (hr.below (hn0'.trans hn)) (hE.new (hn0'.trans hn))).mono ?_; rintro e w2 ⟨rfl, hn2⟩))
    go_ret
    exact ⟨rfl, (hn0'.trans hn).trans hn2⟩
end Go.Proofs.YtlecocmopeainaaDoor
