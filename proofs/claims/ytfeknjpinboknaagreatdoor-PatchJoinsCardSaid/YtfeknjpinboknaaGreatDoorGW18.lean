/- The builder's keep. Conditions: sizes. The builder's patch. Conditions: sizes. -/
import Derived.Test.YtfeknjpinboknaaGreatDoorGW15

namespace Go.Proofs.YtfeknjpinboknaaGreatDoor
open Go Go.RowKit Go.Joins Go.Shelf
set_option linter.unusedSimpArgs false
set_option linter.unusedVariables false

def NB (B : Int) (l : List Hk) : Prop := ∀ h ∈ l, 0 ≤ h.n ∧ h.n ≤ B
theorem NB.nil (B : Int) : NB B [] := fun _ h => by cases h
theorem NB.mono {B C : Int} {l : List Hk} (h : NB B l) (hb : B ≤ C) : NB C l := fun x hx => ⟨(h x hx).1, Int.le_trans (h x hx).2 hb⟩
theorem NB.app {B : Int} {l r : List Hk} (h : NB B l) (k : NB B r) : NB B (l ++ r) := fun x hx => by
  rcases List.mem_append.1 hx with q | q
  · exact h x q
  · exact k x q
theorem NB.dropH {B : Int} {d : Nat} (h : (d : Int) ≤ B) : NB B (dropH d) := fun x hx => by
  unfold Proofs.YtfeknjpinboknaaGreatDoor.dropH at hx
  split at hx
  · cases hx
  · rw [List.mem_singleton] at hx; subst hx; exact ⟨by simp, h⟩
theorem NB.addH {B : Int} {a : List ByteArray} (h : (a.length : Int) ≤ B) : NB B (addH a) := fun x hx => by
  unfold Proofs.YtfeknjpinboknaaGreatDoor.addH at hx
  split at hx
  · cases hx
  · rw [List.mem_singleton] at hx; subst hx; exact ⟨by simp, h⟩
theorem NB.flush {B : Int} {b : Bs} (h : NB B b.l) (hd : (b.d : Int) ≤ B) (ha : (b.a.length : Int) ≤ B) : NB B b.flush.l := (h.app (NB.dropH hd)).app (NB.addH ha)
theorem NB.bump {B : Int} {l : List Hk} {n : Nat} (h : NB B l) (hB : 0 ≤ B) : NB (B + n) (bump l n) := by
  have h' := h.mono (show B ≤ B + n by omega)
  rcases List.eq_nil_or_concat l with rfl | ⟨i, y, rfl⟩
  · rw [bump_nil]; intro x hx; rw [List.mem_singleton] at hx; subst hx; simp; omega
  · rw [List.concat_eq_append] at h h' ⊢
    rw [bump_last]
    have hy := h y (by simp)
    split
    · intro x hx
      rcases List.mem_append.1 hx with q | q
      · exact h' x (List.mem_append_left _ q)
      · rw [List.mem_singleton] at q; subst q; simp; omega
    · exact h'.app (fun x hx => by rw [List.mem_singleton] at hx; subst hx; simp; omega)
theorem last_split {α : Type} {l : List α} (h : 0 < l.length) : ∃ init y, l = init ++ [y] := by
  rcases List.eq_nil_or_concat l with rfl | ⟨i, y, rfl⟩
  · simp at h
  · exact ⟨i, y, by simp⟩
theorem hmC_len (l : List Hm) : (l.flatMap hmC).length = 3 * l.length := by
  induction l with
  | nil => rfl
  | cons x l ih => rw [List.flatMap_cons, List.length_append, ih, List.length_cons]; simp [hmC]; omega
theorem hmC_at (l : List Hm) (y : Hm) (j : Nat) (hj : j < 3) : ((l ++ [y]).flatMap hmC)[l.length * 3 + j]? = (hmC y)[j]? := by
  rw [List.flatMap_append, List.getElem?_append_right (by rw [hmC_len]; omega), hmC_len, show l.length * 3 + j - 3 * l.length = j by omega]
  simp
theorem hmC_set (l : List Hm) (y : Hm) (u : Int) : ((l ++ [y]).flatMap hmC).set (l.length * 3 + 1) (.int .i64 u) = (l ++ [(⟨y.kind, u, y.lines, y.adr, y.cap⟩ : Hm)]).flatMap hmC := by
  rw [List.flatMap_append, List.flatMap_append, List.set_append_right _ _ (by rw [hmC_len]; omega), hmC_len, show l.length * 3 + 1 - 3 * l.length = 1 by omega]
  rfl
theorem BM.last {w0 w : World} {g b1 b2 gg cap n : Nat} {init : List Hm} {y : Hm} {d : Nat} {a : List ByteArray} {VA : Value} (h : BM w0 w g b1 b2 (init ++ [y]) d a (.slice (some ⟨gg, 0, none⟩) n cap) VA) (u : Int) (hn : n = init.length + 1) :
    BM w0 (w.setCell ⟨gg, init.length * 3 + 1, none⟩ (.int .i64 u)) g b1 b2 (init ++ [⟨y.kind, u, y.lines, y.adr, y.cap⟩]) d a (.slice (some ⟨gg, 0, none⟩) n cap) VA := by
  have hgg : gg ≠ g := fun e => ne_kind (cs := []) h.own h.blk (by decide) (show (Value.slice (some ⟨gg, 0, none⟩) n cap).ownBlock = some g by rw [← e]; rfl)
  have hlt : b1 ≤ gg ∧ gg < w.heap.size := h.own.lt gg rfl
  obtain ⟨c, fz, hk⟩ := own_kind3 h.own gg rfl
  subst hn
  have own := own_len h.own (n' := init.length + 1) (by simp) rfl
  have own2 := (own.stored (init.length * 3 + 1) (.int .i64 u)).1
  refine ⟨h.blk.far (p := ⟨gg, _, none⟩) (Ne.symm hgg) _, ?_, h.add.kept (grown_set _ _ _ _) ?_, ?_, ?_, h.nw.setCell (p := ⟨gg, _, none⟩) (Nat.le_trans h.h1 hlt.1) _, h.g0, h.h1, h.h2, by rw [World.size_setCell]; exact h.k1, by rw [World.size_setCell]; exact h.k2⟩
  · exact own_len own2 (by simp) (hmC_set init y u)
  · have := row_ne h.add h.own (by decide)
    simpa [Value.ownBlock] using this
  · have hl : LnOK w (init ++ [⟨y.kind, u, y.lines, y.adr, y.cap⟩]) := fun x hx => by
      rcases List.mem_append.1 hx with q | q
      · exact h.ln x (List.mem_append_left _ q)
      · rw [List.mem_singleton] at q; subst q; exact h.ln y (by simp)
    exact hl.keep (grown_set _ _ _ _) (fun q e => by injection e with e; subst e; exact ⟨c, 55, fz, hk, by decide⟩)
  · intro x hx
    rcases List.mem_append.1 hx with q | q
    · exact h.lt x (List.mem_append_left _ q)
    · rw [List.mem_singleton] at q; subst q; exact h.lt y (by simp)
theorem Fr.last {w w' : World} {g gg n cap i : Nat} {V : Value} (h : Fr w w' g V (.slice (some ⟨gg, 0, none⟩) n cap)) (u : Value) : Fr w (w'.setCell ⟨gg, i, none⟩ u) g V (.slice (some ⟨gg, 0, none⟩) n cap) :=
  ⟨by rw [World.size_setCell]; exact h.sz, fun k hk hg hv => by
    refine (Below.heap_setCell w' ⟨gg, i, none⟩ u k (fun e => ?_)).trans (h.ot k hk hg hv)
    simp only at e
    subst e
    rcases h.at' with q | q
    · exact hv q.symm
    · have q2 : w.heap.size ≤ k := q k rfl
      omega, h.at'⟩

theorem BM.more {w0 w w1 w2 : World} {g b1 b3 n : Nat} {hs1 : List Hm} {V V1 v' : Value} {o : Obj} (h : BM w0 w1 g b1 b3 hs1 0 [] V1 (.slice none 0 0)) (fr : Fr w w1 g V V1) (hg : (w1.alloc o).grownBy w2 V1.ownBlock) (own2 : w2.ownsRow b1 55 3 v' (hs1.length + 1) (hs1.flatMap hmC ++ [.int .i64 1, .int .i64 (n : Int), .slice none 0 0])) (h5 : v'.ownBlock = V1.ownBlock ∨ v'.ownBlock = some (w1.heap.size + 1)) :
    ∃ b2', BM w0 (w2.setCell ⟨g, 0, none⟩ v') g b1 b2' (hs1 ++ [⟨1, n, [], none, 0⟩]) 0 [] v' (.slice none 0 0) ∧ Fr w (w2.setCell ⟨g, 0, none⟩ v') g V v' := by
  obtain ⟨gg, cap, rfl, hg1, hg2⟩ := own2.form (by omega)
  obtain ⟨q1, q2, q3, q4⟩ := h.push hg (x := ⟨1, n, [], none, 0⟩) (n := hs1.length + 1) (by simp) own2 (by
    simp only [Value.ownBlock] at h5
    rcases h5 with q | q
    · exact Or.inl q.symm
    · injection q with q; exact Or.inr q) (fun y hy => by rw [List.mem_singleton] at hy; subst hy; exact ⟨Nat.le_refl _, Rd.none_ _, fun h0 => absurd h0 (by simp)⟩)
  exact ⟨b3, ⟨q1, q3.own, q2, q3.ln, h.lt.snoc (fun h0 => absurd h0 (by simp)), q3.nw, q3.g0, q3.h1, h.h2, q3.k1, Nat.le_trans h.k2 q4.sz⟩, fr.trans q4⟩
theorem bump_miss {l : List Hk} {n : Nat} (h : ∀ y, l.getLast? = some y → y.kind ≠ 1) : bump l n = l ++ [⟨1, n, []⟩] := by
  rcases List.eq_nil_or_concat l with rfl | ⟨i, y, rfl⟩
  · rfl
  · rw [List.concat_eq_append] at h ⊢
    rw [bump_last, if_neg (h y (by simp))]
theorem bump_hit {l : List Hk} {y : Hk} {n : Nat} (h : y.kind = 1) : bump (l ++ [y]) n = l ++ [⟨1, y.n + n, y.lines⟩] := by rw [bump_last, if_pos h]

set_option maxRecDepth 100000 in
set_option maxHeartbeats 16000000 in
theorem keep_any {w0 w : World} {g b1 b2 : Nat} {hs : List Hm} {d n : Nat} {a : List ByteArray} {V VA : Value} (B : Int) (h : BM w0 w g b1 b2 hs d a V VA) (hl : hs.length ≤ 90000) (ha : (a.length : Int) ≤ B) (hd : (d : Int) ≤ B) (hB : NB B (hs.map Hm.d)) (hB2 : B ≤ 1000000) (hn1 : 1 ≤ n) (hn : n ≤ 1000000) :
    Calls Tryz.prog 52 #[.pointer (some ⟨g, 0, none⟩), .int .i64 (n : Int)] w fun e w' => e = .returned (.tuple #[]) ∧ ∃ V' hs' b2', BM w0 w' g b1 b2' hs' 0 [] V' (.slice none 0 0) ∧ Fr w w' g V V' ∧ hs'.map Hm.d = bump (Bs.flush ⟨hs.map Hm.d, d, a⟩).l n ∧ hs'.length ≤ hs.length + 3 := by
  obtain ⟨j0, hinf, hz0, hz1, hz2⟩ := info_parts Tryz.info55'
  have HF := Lib.hid (flush_any h (by omega) (by omega) (by omega))
  have HNB := Lib.hid (NB.flush (b := ⟨hs.map Hm.d, d, a⟩) hB hd ha)
  have n0 : ((n : Int) == 0) = false := by simp; omega
  clear h hB
  go_enter Tryz.func52, Tryz.ntmps52
  go_wp2_with (fail)
  with_reducible refine HF.out.mono ?_
  rintro e w1 ⟨rfl, V1, hs1, b3, h1, fr1, hm1, hl1⟩
  have f0 := h1.blk.cell' 0 _ rfl
  have z0 := h1.blk.free 0
  by_cases hp : 0 < hs1.length
  · obtain ⟨init, y, rfl⟩ := last_split hp
    obtain ⟨yk, yn, yl, ya, yc⟩ := y
    have own1 := own_len h1.own (show (init ++ [(⟨yk, yn, yl, ya, yc⟩ : Hm)]).length = init.length + 1 by simp) rfl
    obtain ⟨gg, cap, rfl, hg1, hg2⟩ := own1.form (by omega)
    have hny : 0 ≤ yn ∧ yn ≤ B := by
      have := HNB.out ⟨yk, yn, yl⟩ (by rw [← hm1]; simp [Hm.d])
      exact this
    have ck := own1.cellAt (init.length * 3) (by omega)
    rw [show (init.length * 3) = init.length * 3 + 0 from rfl, hmC_at init _ 0 (by omega)] at ck
    have cn := own1.cellAt (init.length * 3 + 1) (by omega)
    rw [hmC_at init _ 1 (by omega)] at cn
    have ck' : w1.cell? ⟨gg, init.length * 3, none⟩ = some (.int .i64 yk) := ck
    have cn' : w1.cell? ⟨gg, init.length * 3 + 1, none⟩ = some (.int .i64 yn) := cn
    have fz := own1.frozenAt (init.length * 3 + 1)
    have k9 : init.length ≤ 90002 := by simp at hl1; omega
    have k2 : (0 : Int) ≤ (init.length : Int) := by omega
    have k4 : (init.length : Int) < ((init.length + 1 : Nat) : Int) := by omega
    have k5 : (init.length : Int) < (init.length : Int) + 1 := by omega
    have k6 : decide (0 < init.length + 1) = true := by simp
    have HM := Lib.hid hm1
    have H1 := Lib.hid h1
    have FR := Lib.hid fr1
    have HL1 := Lib.hid hl1
    clear ck cn h1 own1 hm1 fr1 hl1 hp
    by_cases hk : yk = 1
    · subst hk
      have k7 : ((1 : Int) == 1) = true := rfl
      have k8 : IntKind.i64.wrap (yn + (n : Int)) = yn + (n : Int) := IntWalk.i64_in _ (by omega)
      have D := Lib.hid (H1.out.last (yn + (n : Int)) (by simp))
      have F2 := Lib.hid (FR.out.last (i := init.length * 3 + 1) (.int .i64 (yn + (n : Int))))
      go_wp2
      (try simp only [Exit.inBlock, Exit.then]); refine bodyPost_ret (results_none rfl _ _ _) rfl ?_
      exact ⟨rfl, _, _, b3, D.out, F2.out, by
        have hm := HM.out
        rw [List.map_append] at hm
        rw [← hm, List.map_append]
        exact (bump_hit (y := ⟨1, yn, yl⟩) rfl).symm, by have := HL1.out; simp at this ⊢; omega⟩
    · have k7 : (yk == 1) = false := by simp [hk]
      have HLB : Hid (init.length + 1 ≤ 90003) := Lib.hid (by omega)
      have hnV : (Value.slice (some ⟨gg, 0, none⟩) (init.length + 1) cap).ownBlock ≠ some g := ne_kind (cs := []) H1.out.own H1.out.blk (by decide)
      have hk1 := H1.out.k1
      have hlb := HLB.out
      go_wp2_with (at_builtin; refine wpList_append_own_at _ rfl _ _ 22 rfl b1 55 j0 (.agg #[.int .i64 0, .int .i64 0, .slice none 0 0]) 3 40 Tryz.underlying22 hinf hz0 hz1 hz2 rfl (by decide) _ (init.length + 1) _ rfl ((own_len H1.out.own (n' := init.length + 1) (by simp) rfl).alloc _) ⟨w1.heap.size, 0, none⟩ 1 1 [.int .i64 1, .int .i64 (n : Int), .slice none 0 0] rfl rfl ?c1 ?c2 ?c3 ?c4 ?c5 ?_)
      case c1 => exact World.news_of_block (cs := #[.int .i64 1, .int .i64 (n : Int), .slice none 0 0]) (t := 55) (fr := (0, 0)) (heap_alloc_new _ _)
      case c2 => simp [Value.oneCell']
      case c3 => unfold maxLen; omega
      case c4 => omega
      case c5 => simp; omega
      intro v5 w5 hown5 hg5 _ h5
      obtain ⟨g5, c5, rfl, hx5, hy5⟩ := hown5.form (by omega)
      have BG := (H1.out.blk.alloc (.cells #[.int .i64 1, .int .i64 (n : Int), .slice none 0 0] 55)).grown hg5 (Ne.symm hnV)
      have p0 := BG.cell' 0 _ rfl
      have p1 := BG.free 0
      obtain ⟨b2', D, F2⟩ := H1.out.more (n := n) FR.out hg5 (own_len hown5 (by simp) (by simp)) h5
      clear f0 BG hg5 hown5
      go_wp2
      go_end0
      exact ⟨rfl, _, _, b2', D, F2, by
        have hm := HM.out
        rw [List.map_append, hm, bump_miss (by rw [← hm]; intro y hy; simp at hy; subst hy; exact hk)]
        rfl, by have := HL1.out; simp at this ⊢; omega⟩
  · obtain rfl : hs1 = [] := List.eq_nil_of_length_eq_zero (by omega)
    obtain ⟨A, c, rfl, hAc, hAd, hAr⟩ := own_form h1.own
    have HM := Lib.hid hm1
    have H1 := Lib.hid h1
    have FR := Lib.hid fr1
    have HL1 := Lib.hid hl1
    have HLB : Hid (0 + 1 ≤ 90002) := Lib.hid (by omega)
    clear h1 hm1 fr1 hl1 hp
    have hnV : (Value.slice A 0 c).ownBlock ≠ some g := ne_kind (cs := []) H1.out.own H1.out.blk (by decide)
    have hk1 := H1.out.k1
    have hlb := HLB.out
    go_wp2_with (at_builtin; refine wpList_append_own_at _ rfl _ _ 22 rfl b1 55 j0 (.agg #[.int .i64 0, .int .i64 0, .slice none 0 0]) 3 40 Tryz.underlying22 hinf hz0 hz1 hz2 rfl (by decide) _ (0) _ rfl (H1.out.own.alloc _) ⟨w1.heap.size, 0, none⟩ 1 1 [.int .i64 1, .int .i64 (n : Int), .slice none 0 0] rfl rfl ?c1 ?c2 ?c3 ?c4 ?c5 ?_)
    case c1 => exact World.news_of_block (cs := #[.int .i64 1, .int .i64 (n : Int), .slice none 0 0]) (t := 55) (fr := (0, 0)) (heap_alloc_new _ _)
    case c2 => simp [Value.oneCell']
    case c3 => unfold maxLen; omega
    case c4 => omega
    case c5 => simp; omega
    intro v5 w5 hown5 hg5 _ h5
    obtain ⟨g5, c5, rfl, hx5, hy5⟩ := hown5.form (by omega)
    have BG := (H1.out.blk.alloc (.cells #[.int .i64 1, .int .i64 (n : Int), .slice none 0 0] 55)).grown hg5 (Ne.symm hnV)
    have p0 := BG.cell' 0 _ rfl
    have p1 := BG.free 0
    obtain ⟨b2', D, F2⟩ := H1.out.more (n := n) FR.out hg5 hown5 h5
    clear f0 BG hg5 hown5
    go_wp2
    go_end0
    exact ⟨rfl, _, _, b2', D, F2, by
      have hm := HM.out
      rw [List.map_append, hm, ← hm]
      rfl, by simp⟩
end Go.Proofs.YtfeknjpinboknaaGreatDoor

namespace Go.Proofs.YtfeknjpinboknaaGreatDoor
open Go Go.RowKit Go.Joins Go.Shelf
set_option linter.unusedSimpArgs false
set_option linter.unusedVariables false

theorem BP.new {w0 w w' : World} {g b1 : Nat} {hs : List Hm} {V : Value} (h : BP w0 w g b1 hs V) (hn : New w w') : BP w0 w' g b1 hs V :=
  ⟨own_new h.own hn, h.ln.new hn, h.nw.trans hn, h.g0, h.h1, Nat.le_trans h.k1 hn.size⟩
theorem BP.far {w0 w : World} {g b1 r t i : Nat} {hs : List Hm} {V : Value} {cs : Array Value} (h : BP w0 w g b1 hs V) (B : Blk w r t cs) (h55 : t ≠ 55) (h9 : t ≠ 9) (hr : w0.heap.size ≤ r) (u : Value) : BP w0 (w.setCell ⟨r, i, none⟩ u) g b1 hs V :=
  ⟨h.own.kept (grown_set _ _ _ _) (Or.inr (ne_kind (cs := []) h.own B h55)), h.ln.keep (grown_set _ _ _ _) (fun q e => by injection e with e; subst e; exact ⟨_, t, _, B, h9⟩), h.nw.setCell (p := ⟨r, i, none⟩) hr u, h.g0, h.h1, by rw [World.size_setCell]; exact h.k1⟩
theorem Fr.blk {w w' : World} {g r t : Nat} {V V' : Value} {cs : Array Value} (h : Fr w w' g V V') (B : Blk w r t cs) (hg : r ≠ g) (hV : V.ownBlock ≠ some r) : Blk w' r t cs := (h.ot r B.lt hg hV).trans B
def PatP (w0 : World) (base : ByteArray) (l : List Hk) (e : Ending) (w' : World) : Prop := New w0 w' ∧
  if validV base l = true then ∃ A c hs', e = .returned (.tuple #[.agg #[.string base, .slice A hs'.length c], .int .i64 0]) ∧ PRd w' A hs'.length hs' ∧ LnOK w' hs' ∧ hs'.length ≤ c ∧ hs'.map Hm.d = l
  else e = .returned (.tuple #[.agg #[.string ⟨#[]⟩, .slice none 0 0], .int .i64 10])
def PatB (w0 : World) (base : ByteArray) (l : List Hk) (e : Ending) (w' : World) : Prop := New w0 w' ∧
  if validV base l = true then ∃ g b1 A c hs', e = .returned (.tuple #[.agg #[.string base, .slice A hs'.length c], .int .i64 0]) ∧ BP w0 w' g b1 hs' (.slice A hs'.length c) ∧ hs'.length ≤ c ∧ hs'.map Hm.d = l
  else e = .returned (.tuple #[.agg #[.string ⟨#[]⟩, .slice none 0 0], .int .i64 10])
def SzK (l : List Hk) : Prop := ∀ h ∈ l, h.lines.length ≤ 1000000 ∧ ∀ s ∈ h.lines, s.size ≤ 1000000
theorem SzK.nil : SzK [] := fun _ h => by cases h
theorem SzK.app {l r : List Hk} (h : SzK l) (k : SzK r) : SzK (l ++ r) := fun x hx => by
  rcases List.mem_append.1 hx with q | q
  · exact h x q
  · exact k x q
theorem SzK.one {k n : Int} : SzK [⟨k, n, []⟩] := fun x hx => by
  rw [List.mem_singleton] at hx; subst hx; exact ⟨by simp, fun _ h => by cases h⟩
theorem SzK.dropH (d : Nat) : SzK (dropH d) := by
  unfold Proofs.YtfeknjpinboknaaGreatDoor.dropH; split
  · exact SzK.nil
  · exact SzK.one
theorem SzK.addH {a : List ByteArray} (h : a.length ≤ 1000000) (hs : ∀ s ∈ a, s.size ≤ 1000000) : SzK (addH a) := by
  unfold Proofs.YtfeknjpinboknaaGreatDoor.addH; split
  · exact SzK.nil
  · intro x hx; rw [List.mem_singleton] at hx; subst hx; exact ⟨h, hs⟩
theorem SzK.flush {b : Bs} (h : SzK b.l) (ha : b.a.length ≤ 1000000) (hs : ∀ s ∈ b.a, s.size ≤ 1000000) : SzK b.flush.l := (h.app (SzK.dropH _)).app (SzK.addH ha hs)
theorem SzK.bump {l : List Hk} {n : Nat} (h : SzK l) : SzK (bump l n) := by
  rcases List.eq_nil_or_concat l with rfl | ⟨i, y, rfl⟩
  · exact SzK.one
  · rw [List.concat_eq_append] at h ⊢
    rw [bump_last]
    split
    · intro x hx
      rcases List.mem_append.1 hx with q | q
      · exact h x (List.mem_append_left _ q)
      · rw [List.mem_singleton] at q; subst q; exact h y (by simp)
    · exact h.app SzK.one
theorem SzK.szh {hs : List Hm} (h : SzK (hs.map Hm.d)) (hl : hs.length ≤ 100000) : SzH hs :=
  ⟨hl, fun x hx => by have := (h x.d (List.mem_map_of_mem hx)).1; simp only [Hm.d] at this; omega, fun x hx s hs => (h x.d (List.mem_map_of_mem hx)).2 s hs⟩

set_option maxRecDepth 100000 in
set_option maxHeartbeats 16000000 in
theorem patch_any {w0 w : World} {g b1 b2 : Nat} {hs : List Hm} {d : Nat} {a : List ByteArray} {V VA : Value} (base : ByteArray) (h : BM w0 w g b1 b2 hs d a V VA) (hl : hs.length ≤ 90000) (ha : a.length ≤ 1000000) (hd : d ≤ 1000000) (hz : SzK (Bs.flush ⟨hs.map Hm.d, d, a⟩).l) (hb : base.size ≤ 1000000) (hE : Env w0) :
    Calls Tryz.prog 54 #[.pointer (some ⟨g, 0, none⟩), .string base] w (PatB w0 base (Bs.flush ⟨hs.map Hm.d, d, a⟩).l) := by
  have hgr : g < w.heap.size := h.blk.lt
  have hVr : V.ownBlock ≠ some w.heap.size := fun e => by have := (h.own.lt _ e).2; omega
  have hr0 : w0.heap.size ≤ w.heap.size := h.nw.size
  have HF := Lib.hid (flush_any (h.new ((New.refl w).alloc (.cells #[.string ⟨#[]⟩, .slice none 0 0] 24))) (by omega) ha hd)
  have B0 := Blk.made w 24 #[.string ⟨#[]⟩, .slice none 0 0]
  have HE := Lib.hid hE
  generalize (Bs.flush ⟨hs.map Hm.d, d, a⟩).l = L at *
  have HY : Hid (∀ (e : Ending) (w' : World) (A : Option Addr) (n c : Nat) (hs' : List Hm), validV base L = true → hs'.map Hm.d = L → n = hs'.length → e = .returned (.tuple #[.agg #[.string base, .slice A n c], .int .i64 0]) → (∃ b1, BP w0 w' g b1 hs' (.slice A n c)) → n ≤ c → PatB w0 base L e w') := Lib.hid (fun e w' A n c hs' hv hm hn he h1 h2 => ⟨h1.elim fun _ q => q.nw, by
    rw [if_pos hv]; subst hn; obtain ⟨b1, h1⟩ := h1; exact ⟨g, b1, A, c, hs', he, h1, h2, hm⟩⟩)
  have HN : Hid (∀ (e : Ending) (w' : World), validV base L = false → e = .returned (.tuple #[.agg #[.string ⟨#[]⟩, .slice none 0 0], .int .i64 10]) → New w0 w' → PatB w0 base L e w') := Lib.hid (fun e w' hv he hnw => ⟨hnw, by
    rw [if_neg (by rw [hv]; decide)]; exact he⟩)
  obtain ⟨r, hr⟩ : ∃ r, w.heap.size = r := ⟨_, rfl⟩
  rw [hr] at B0 hVr hr0 hgr
  have HR := Lib.hid hr
  clear h hE hr
  go_enter Tryz.func54, Tryz.ntmps54
  go_wp2_with (fail)
  rw [HR.out]
  generalize w.alloc (.cells #[.string ⟨#[]⟩, .slice none 0 0] 24) = w1 at *
  with_reducible refine HF.out.mono ?_
  rintro e w2 ⟨rfl, V1, hs1, b3, h1, fr1, hm1, hl1⟩
  have B2 := fr1.blk B0 (by omega) hVr
  have f0 := h1.blk.cell' 0 _ rfl
  have H1 := Lib.hid h1
  have HM := Lib.hid hm1
  obtain ⟨A, c, rfl, hc, hp⟩ := own_prd h1.own h1.ln
  have n3 := (New.refl w2).alloc (.cells #[.string base, .slice A hs1.length c] 24)
  have B3 := B2.alloc (.cells #[.string base, .slice A hs1.length c] 24)
  have P3 := Lib.hid (h1.bp.new n3)
  have hzz : SzH hs1 := SzK.szh (by rw [hm1]; exact hz) (by omega)
  have HC := Lib.hid (check_any base A hs1.length c hs1 _ (hp.new n3) hzz hb (HE.out.new (h1.nw.trans n3)))
  rw [hm1] at HC
  have C3 := Blk.made w2 24 #[.string base, .slice A hs1.length c]
  obtain ⟨n, hn⟩ : ∃ n, hs1.length = n := ⟨_, rfl⟩
  have HNN := Lib.hid hn
  rw [hn] at f0 C3 B3 hc HC P3
  clear h1 fr1 hm1 hl1 hp hzz n3 hl ha hd B0 B2 hz hn
  cases hv : validV base L
  · have HNO := Lib.hid (fun e w' => HN.out e w' hv)
    rw [hv] at HC
    clear hv HN HY
    go_wp2_with (fail)
    with_reducible refine HC.out.mono ?_
    rintro e w4 ⟨rfl, n4⟩
    have B4 := B3.new n4
    have C4 := C3.new n4
    have P4 := Lib.hid (P3.out.new n4)
    have d0 := C4.cell' 0 _ rfl
    have d1 := C4.cell' 1 _ rfl
    have u0 := B4.cell' 0 _ rfl
    have u1 := B4.cell' 1 _ rfl
    have z0 := B4.free 0
    have z1 := B4.free 1
    go_wp2
    have BE := put2 B4 (.string ⟨#[]⟩) (.slice none 0 0)
    have e0 := BE.cell' 0 _ rfl
    have e1 := BE.cell' 1 _ rfl
    have nn := (P4.out.nw.setCell (p := ⟨r, 0, none⟩) hr0 (.string ⟨#[]⟩)).setCell (p := ⟨r, 1, none⟩) hr0 (.slice none 0 0)
    exact bodyPost_ret (v := .tuple #[.agg #[.string ⟨#[]⟩, .slice none 0 0], .int .i64 10]) (by simp [results, Tryz.results54, go_sem, e0, e1]) rfl (HNO.out _ _ rfl nn)
  · have HYO := Lib.hid (fun e w' => HY.out e w' A n c hs1 hv HM.out HNN.out.symm)
    rw [hv] at HC
    clear hv HN HY
    go_wp2_with (fail)
    with_reducible refine HC.out.mono ?_
    rintro e w4 ⟨rfl, n4⟩
    have B4 := B3.new n4
    have C4 := C3.new n4
    have P4 := Lib.hid (P3.out.new n4)
    have d0 := C4.cell' 0 _ rfl
    have d1 := C4.cell' 1 _ rfl
    have u0 := B4.cell' 0 _ rfl
    have u1 := B4.cell' 1 _ rfl
    have z0 := B4.free 0
    have z1 := B4.free 1
    go_wp2
    have BE := put2 B4 (.string base) (.slice A n c)
    have e0 := BE.cell' 0 _ rfl
    have e1 := BE.cell' 1 _ rfl
    have P5 := P4.out.far (i := 0) B4 (by decide) (by decide) hr0 (.string base)
    have P6 := P5.far (i := 1) (B4.put 0 (.string base)) (by decide) (by decide) hr0 (.slice A n c)
    exact bodyPost_ret (v := .tuple #[.agg #[.string base, .slice A n c], .int .i64 0]) (by simp [results, Tryz.results54, go_sem, e0, e1]) rfl (HYO.out _ _ rfl ⟨_, P6⟩ hc)
end Go.Proofs.YtfeknjpinboknaaGreatDoor

