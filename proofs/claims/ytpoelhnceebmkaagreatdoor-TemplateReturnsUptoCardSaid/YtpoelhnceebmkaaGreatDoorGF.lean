/- template.Words: the words of a text, with their lines. No conditions but the text's length. The reference's Words, and slices.Equal at equal words. No conditions but the text's length. isWord; slices.ContainsFunc over strings at 'no word'. No conditions but the lengths' own. Templates as data; stands, Check, texts. No conditions but that a template is small. -/
import Derived.Test.YtpoelhnceebmkaaGreatDoorGB
import Derived.Test.YtpoelhnceebmkaaGreatDoorGBlk
import Derived.Maps.AppendAt
import Derived.RegionIn
import Derived.Laws.AppendOwn
import Derived.Lib.ConvBytes
import Derived.BigQuiet
import Derived.Shelf.GgClosure.StringsIndexFunc

namespace Go.Proofs.YtpoelhnceebmkaaGreatDoor
open Go Go.RowKit Go.Shelf
set_option linter.unusedSimpArgs false
set_option linter.unusedVariables false
attribute [local go_sem] Oper.semAt_some

/-! ### places rise -/
def Inc (hi : Nat) : Nat → List (Nat × List UInt8) → Prop
  | _, [] => True
  | lo, x :: r => lo ≤ x.1 ∧ x.1 ≤ hi ∧ Inc hi x.1 r
theorem Inc.low {hi : Nat} : ∀ {l : List (Nat × List UInt8)} {lo lo' : Nat}, lo' ≤ lo → Inc hi lo l → Inc hi lo' l
  | [], _, _, _, _ => trivial
  | _ :: _, _, _, h, h2 => ⟨Nat.le_trans h h2.1, h2.2.1, h2.2.2⟩
theorem spF_inc (hi : Nat) : ∀ (l : List UInt8) (i f lo : Nat) (cur : List UInt8), (cur ≠ [] → lo ≤ f ∧ f ≤ i) → lo ≤ i → i + l.length ≤ hi → Inc hi lo (spF i f cur l)
  | [], i, f, lo, cur, hc, hl, hh => by
    rw [spF]
    split
    · trivial
    · rename_i h
      have := hc h
      exact ⟨this.1, by simp at hh; omega, trivial⟩
  | c :: r, i, f, lo, cur, hc, hl, hh => by
    rw [List.length_cons] at hh
    rw [spF]
    split
    · have ih := fun lo' h => spF_inc hi r (i + 1) f lo' [] (fun h => absurd rfl h) h (by omega)
      split
      · exact ih lo (by omega)
      · rename_i h
        have := hc h
        exact ⟨this.1, by omega, ih f (by omega)⟩
    · refine spF_inc hi r (i + 1) _ lo _ (fun _ => ?_) (by omega) (by omega)
      split
      · omega
      · rename_i h
        have := hc h
        omega
theorem spans_inc (s : ByteArray) : Inc s.size 0 (spansV s) := spF_inc s.size _ 0 0 0 [] (fun h => absurd rfl h) (Nat.le_refl _) (by rw [← size_eq]; omega)
def lastF (lo : Nat) : List (Nat × List UInt8) → Nat
  | [] => lo
  | x :: r => lastF x.1 r
theorem lastF_snoc (x : Nat × List UInt8) : ∀ (pre : List (Nat × List UInt8)) (lo : Nat), lastF lo (pre ++ [x]) = x.1
  | [], _ => rfl
  | y :: r, _ => lastF_snoc x r y.1
theorem inc_next {hi : Nat} {x : Nat × List UInt8} {r : List (Nat × List UInt8)} : ∀ {pre : List (Nat × List UInt8)} {lo : Nat}, Inc hi lo (pre ++ [x] ++ r) → lastF lo pre ≤ x.1 ∧ x.1 ≤ hi
  | [], lo, h => ⟨h.1, h.2.1⟩
  | y :: pre, lo, h => inc_next (pre := pre) h.2.2
theorem prefix_next {s : ByteArray} {pre : List (Nat × List UInt8)} {x : Nat × List UInt8} (h : (pre ++ [x]) <+: spansV s) : lastF 0 pre ≤ x.1 ∧ x.1 ≤ s.size := by
  obtain ⟨r, hr⟩ := h
  exact inc_next (r := r) (by rw [hr]; exact spans_inc s)
theorem spF_len : ∀ (l : List UInt8) (i f : Nat) (cur : List UInt8), (spF i f cur l).length ≤ l.length + (if cur = [] then 0 else 1)
  | [], i, f, cur => by rw [spF]; split <;> simp
  | c :: r, i, f, cur => by
    rw [spF]
    split
    · have ih := spF_len r (i + 1) f []
      rw [if_pos rfl] at ih
      rw [List.length_append, List.length_cons]
      by_cases hc : cur = []
      · rw [if_pos hc, if_pos hc]; simp; omega
      · rw [if_neg hc, if_neg hc]; simp; omega
    · have ih := spF_len r (i + 1) (if cur = [] then i else f) (cur ++ [sm c])
      have e : (if cur ++ [sm c] = [] then 0 else 1) = 1 := if_neg (by simp)
      rw [e] at ih
      rw [List.length_cons]; omega
theorem spans_len (s : ByteArray) : (spansV s).length ≤ s.size := by
  have := spF_len s.data.toList 0 0 []
  rw [if_pos rfl] at this
  rw [size_eq]; exact this
/-- How many lines end ahead of a place. -/
def lns (s : ByteArray) (i : Nat) : Nat := (s.data.toList.take i).count 10
theorem lns_step (s : ByteArray) {a b : Nat} (h : a ≤ b) (hb : b ≤ s.size) : lns s a + Lib.countByte (s.extract a b).data.toList 10 = lns s b := by
  have e1 : (s.extract a b).data.toList = (s.data.toList.drop a).take (b - a) := by rw [extract_S]; rfl
  have e2 : s.data.toList.take b = s.data.toList.take a ++ (s.data.toList.drop a).take (b - a) := by
    rw [← List.take_append_drop a (s.data.toList.take b), List.take_take, Nat.min_eq_left h, List.drop_take]
  rw [e1, lns, lns, e2, List.count_append]
  rfl
/-- The words of a text, with their lines. -/
abbrev Tw := ByteArray × Nat
def twOf (s : ByteArray) (x : Nat × List UInt8) : Tw := (S x.2, lns s x.1)
def wordsT (s : ByteArray) : List Tw := (spansV s).map (twOf s)
def twCells (l : List Tw) : List Value := l.flatMap fun x => [.string x.1, .int .i64 x.2]
theorem twCells_app (l l' : List Tw) : twCells (l ++ l') = twCells l ++ twCells l' := by simp [twCells]
theorem twCells_len (l : List Tw) : (twCells l).length = l.length * 2 := by
  induction l with
  | nil => rfl
  | cons x l ih => simp [twCells] at ih ⊢; omega
theorem Tryz.info74 : (Tryz.prog.info? 74).map (fun i => (i.zero, i.size, i.bytes)) = some (some (.agg #[.string ⟨#[]⟩, .int .i64 0]), 2, 24) := by kernel_rfl

theorem spans_any (s : ByteArray) (w : World) : Calls Tryz.prog 37 #[.string s] w fun e w' => e = .returned (.func (.func 58) #[] #[.pointer (some ⟨w.heap.size, 0, none⟩)]) ∧ w' = w.alloc (.cells #[.string s] 9) := by
  go_enter Tryz.func37, Tryz.ntmps37
  go_wp2
  go_ret
  exact ⟨rfl, rfl⟩

/-- Between two rounds: 'pre' has come. -/
structure InvT (s : ByteArray) (M : Nat) (w1 : World) (pre : List (Nat × List UInt8)) (W : World) : Prop where
  low : Below M w1 W
  size : M + 5 ≤ W.heap.size
  txt : ∃ v, Blk W (M + 1) 60 #[v] ∧ W.ownsRow (M + 5) 74 2 v pre.length (twCells (pre.map (twOf s)))
  line : Blk W (M + 2) 3 #[.int .i64 (lns s (lastF 0 pre) : Nat)]
  at_ : Blk W (M + 3) 3 #[.int .i64 (lastF 0 pre : Nat)]
  src : Blk W M 9 #[.string s]
theorem blk_kind {W W' : World} {g B : Nat} {t t' : TypeId} {cs : Array Value} {row : Option Nat} (h : Blk W g t cs) (hg : W.grownBy W' row) (hr : ∀ r, row = some r → B ≤ r ∧ ∃ c fz, W.heap[r]? = some (.cells c t' fz)) (ht : t ≠ t') : Blk W' g t cs :=
  h.grown hg (fun e => by
    obtain ⟨_, c, fz, h2⟩ := hr g e.symm
    unfold Blk at h
    rw [h] at h2
    injection h2 with h2
    injection h2 with _ h3
    exact ht h3)
theorem own_kind' {W W' : World} {base size n B : Nat} {e t' : TypeId} {v : Value} {xs : List Value} {row : Option Nat} (h : W.ownsRow base e size v n xs) (hg : W.grownBy W' row) (hr : ∀ r, row = some r → B ≤ r ∧ ∃ c fz, W.heap[r]? = some (.cells c t' fz)) (ht : e ≠ t') : W'.ownsRow base e size v n xs := by
  refine h.kept hg ?_
  rcases h.2 with ⟨rfl, _⟩ | ⟨g, cap, cur, rfl, _, hh, _⟩
  · exact .inl rfl
  · refine .inr (fun e2 => ?_)
    obtain ⟨_, c, fz, h2⟩ := hr g (by rw [← e2]; rfl)
    rw [hh] at h2
    injection h2 with h2
    injection h2 with _ h3
    exact ht h3
theorem own_others {W W' : World} {base size n : Nat} {e : TypeId} {v : Value} {xs : List Value} {row : Option Nat} (h : W.ownsRow base e size v n xs) (hg : W.grownBy W' row) (hc : ∀ r, row = some r → ∃ o : Obj, W.heap[r]? = some o ∧ (∀ c e f, o ≠ .cells c e f)) : W'.ownsRow base e size v n xs := by
  refine h.kept hg ?_
  rcases h.2 with ⟨rfl, _⟩ | ⟨g, cap, cur, rfl, _, hh, _⟩
  · exact .inl rfl
  · refine .inr (fun e => ?_)
    obtain ⟨o, ho, hn⟩ := hc g (by rw [← e]; rfl)
    rw [hh] at ho
    exact hn _ _ _ (Option.some.inj ho).symm
theorem InvT.own {s : ByteArray} {M B : Nat} {w2 : World} (hM : M ≤ w2.heap.size) (hB : M ≤ B) : OwnFrom B (InvT s M w2) := by
  intro pre W W' row hs hg hr
  have hc : ∀ r, row = some r → ∃ o : Obj, W.heap[r]? = some o ∧ (∀ c e f, o ≠ .cells c e f) := fun r e => by
    obtain ⟨_, o, ho, hn⟩ := hr r e
    exact ⟨o, ho, fun c e f h => by subst h; simp [Obj.isCells] at hn⟩
  obtain ⟨v, hv, hw⟩ := hs.txt
  exact ⟨hs.low.grown hg (Nat.le_trans hM hs.low.size) (fun k e => Nat.le_trans hB (hr k e).1), Nat.le_trans hs.size hg.size, ⟨v, hv.others hg hc, own_others hw hg hc⟩, hs.line.others hg hc, hs.at_.others hg hc, hs.src.others hg hc⟩
theorem InvT.ownT {s : ByteArray} {M B : Nat} {w2 : World} (hM : M ≤ w2.heap.size) (hB : M ≤ B) : AbidesT 21 B (InvT s M w2) := by
  intro pre W W' row hs hg hr
  obtain ⟨v, hv, hw⟩ := hs.txt
  exact ⟨hs.low.grown hg (Nat.le_trans hM hs.low.size) (fun k e => Nat.le_trans hB (hr k e).1), Nat.le_trans hs.size hg.size, ⟨v, blk_kind hv hg hr (by decide), own_kind' hw hg hr (by decide)⟩, blk_kind hs.line hg hr (by decide), blk_kind hs.at_ hg hr (by decide), blk_kind hs.src hg hr (by decide)⟩

theorem new_putObj {w W : World} {D : Nat} {o : Obj} (h : New w W) (hD : w.heap.size ≤ D) : New w (W.putObj D o) :=
  Below.grown h (grownBy_putObj' W D o) h.size (fun k e => by cases e; exact hD)
theorem own_putObj {W : World} {D : Nat} {o : Obj} {base size n : Nat} {e : TypeId} {v : Value} {xs : List Value} (h : W.ownsRow base e size v n xs) (hD : W.heap[D]? = some (.deferred (some []))) : (W.putObj D o).ownsRow base e size v n xs := by
  refine h.kept (grownBy_putObj' W D o) ?_
  rcases h.2 with ⟨rfl, _⟩ | ⟨g, cap, cur, rfl, _, hh, _⟩
  · exact .inl rfl
  · refine .inr (fun e => ?_)
    have : g = D := by simpa [Value.ownBlock] using e
    subst this
    rw [hD] at hh
    cases hh
theorem blk_apart {W : World} {g b s n : Nat} {t e : TypeId} {v : Value} {cs : Array Value} {xs : List Value} (h : Blk W g t cs) (h' : W.ownsRow b e s v n xs) (he : t ≠ e) : some g ≠ v.ownBlock := by
  rcases h'.2 with ⟨rfl, _⟩ | ⟨g', cap', cur', rfl, _, hh', _⟩
  · simp [Value.ownBlock]
  · intro e1
    have : g = g' := by simpa [Value.ownBlock] using e1
    subst this
    unfold Blk at h
    rw [h] at hh'
    injection hh' with hh'
    injection hh' with _ h2
    exact he h2
theorem cell_two_at (w : World) (g : Nat) (hg : g = w.heap.size) (a b : Value) (t : TypeId) : ∀ j u, [a, b][j]? = some u → (w.alloc (.cells #[a, b] t)).cell? ((⟨g, 0, none⟩ : Addr).add j) = some u := by
  subst hg
  intro j u hu
  rw [add_none rfl, Nat.zero_add]
  exact ((Blk.made w t #[a, b]).cell j).trans (by simpa using hu)
set_option maxRecDepth 100000 in
set_option maxHeartbeats 4000000 in
theorem words_any (s : ByteArray) (w : World) (hs : s.size ≤ 100000) :
    Calls Tryz.prog 32 #[.string s] w fun e w' => ∃ v, e = .returned v ∧ w'.ownsRow (w.heap.size + 5) 74 2 v (wordsT s).length (twCells (wordsT s)) ∧ New w w' := by
  refine (callsIn_wide (n := 9)).1 (callsIn_of_wp_marks Tryz.func32 rfl trivial ?_ rfl)
  simp only [Tryz.ntmps32, List.size_toArray, List.length_cons, List.length_nil, Nat.reduceAdd, Nat.reduceSub, Array.replicate_succ, Array.replicate_zero, List.push_toArray, List.append_toArray, List.nil_append, List.cons_append]
  gi_wp2_with (first | (refine ⟨trivial, ?_⟩; gi_at_call 37; refine (callsIn_wide.2 (spans_any s _)).mono ?_; rintro e w3 ⟨rfl, rfl⟩))
  obtain ⟨wS, hwS⟩ : ∃ x, x = ((((w.alloc (.cells #[.string s] 9)).alloc (.cells #[.slice none 0 0] 60)).alloc (.cells #[.int .i64 0] 3)).alloc (.cells #[.int .i64 0] 3)).alloc (.cells #[.string s] 9) := ⟨_, rfl⟩
  rw [← hwS]
  have hwz : wS.heap.size = w.heap.size + 5 := by rw [hwS]; simp
  have hlow : Below w.heap.size w wS := by rw [hwS]; exact (((((New.refl w).alloc _).alloc _).alloc _).alloc _).alloc _
  have b0 : Blk wS w.heap.size 9 #[.string s] := by rw [hwS]; exact ((((Blk.made w _ _).alloc _).alloc _).alloc _).alloc _
  have b1 : Blk wS (w.heap.size + 1) 60 #[.slice none 0 0] := by rw [hwS]; have := Blk.made (w.alloc (.cells #[.string s] 9)) 60 #[.slice none 0 0]; rw [World.size_alloc] at this; exact ((this.alloc _).alloc _).alloc _
  have b2 : Blk wS (w.heap.size + 2) 3 #[.int .i64 0] := by rw [hwS]; have := Blk.made ((w.alloc (.cells #[.string s] 9)).alloc (.cells #[.slice none 0 0] 60)) 3 #[.int .i64 0]; simp only [World.size_alloc] at this; exact (this.alloc _).alloc _
  have b3 : Blk wS (w.heap.size + 3) 3 #[.int .i64 0] := by rw [hwS]; have := Blk.made (((w.alloc (.cells #[.string s] 9)).alloc (.cells #[.slice none 0 0] 60)).alloc (.cells #[.int .i64 0] 3)) 3 #[.int .i64 0]; simp only [World.size_alloc] at this; exact this.alloc _
  have b4 : Blk wS (w.heap.size + 4) 9 #[.string s] := by rw [hwS]; have := Blk.made ((((w.alloc (.cells #[.string s] 9)).alloc (.cells #[.slice none 0 0] 60)).alloc (.cells #[.int .i64 0] 3)).alloc (.cells #[.int .i64 0] 3)) 9 #[.string s]; simp only [World.size_alloc] at this; exact this
  have hiter := spans_iter 8 s (w.heap.size + 4) wS (by omega) (by omega) (b4.cell' 0 _ rfl)
  have hsl := spans_len s
  clear hwS b4
  apply wpIn_rangeFunc_T (gf := 58) (lb := #[.pointer (some ⟨w.heap.size + 4, 0, none⟩)]) rfl (enters_of Tryz.func58 (by kernel_rfl) rfl) hiter (New.refl _) (by omega) (fun x => rfl)
    (InvT s w.heap.size w) (InvT.own (Nat.le_refl _) (by omega)) (InvT.ownT (Nat.le_refl _) (by omega))
    ⟨hlow, by omega, ⟨_, b1, World.ownsRow_nil _ _ _ _⟩, b2, b3, b0⟩
  case hassign =>
    intro l x W K hK
    simp only [spEnc]
    gi_wp2
    exact hK
  case hbody =>
    intro l pre x W hpx hI
    obtain ⟨low, hsz, ⟨v, bt, own⟩, bline, bat, bsrc⟩ := hI
    obtain ⟨hx1, hx2⟩ := prefix_next hpx
    have hpl : pre.length + 1 ≤ s.size := by
      have := hpx.length_le
      rw [List.length_append, List.length_singleton] at this
      omega
    have hln := lns_step s hx1 hx2
    obtain ⟨at0, hat⟩ : ∃ a, lastF 0 pre = a := ⟨_, rfl⟩
    rw [hat] at bline bat hln hx1
    have hcc := fun W => Tryz.strings_Count_one (s.extract at0 x.1) 10 W
    obtain ⟨cnt, hcnt⟩ : ∃ c, Lib.countByte (s.extract at0 x.1).data.toList 10 = c := ⟨_, rfl⟩
    rw [hcnt] at hcc hln
    have hlx : lns s x.1 ≤ 100000 := by
      have h1 : lns s x.1 ≤ (s.data.toList.take x.1).length := List.count_le_length
      rw [List.length_take, ← size_eq] at h1
      omega
    have hw1 : IntKind.i64.wrap ((lns s at0 : Int) + (cnt : Int)) = (lns s x.1 : Int) := by rw [IntWalk.i64_in _ (by omega)]; omega
    gi_wp2
    refine wpIn_region_tail 7 (by kernel_rfl) (by kernel_rfl) (by kernel_rfl) ?_
    simp only [List.take_succ_cons, List.take_zero, List.drop_succ_cons, List.drop_zero]
    have c2 : W.drew.cell? ⟨w.heap.size + 1 + 1, 0, none⟩ = some (.int .i64 (lns s at0 : Nat)) := bline.cell' 0 _ rfl
    have c0 : W.drew.cell? ⟨w.heap.size, 0, none⟩ = some (.string s) := bsrc.cell' 0 _ rfl
    have c3 : W.drew.cell? ⟨w.heap.size + 1 + 1 + 1, 0, none⟩ = some (.int .i64 (at0 : Nat)) := bat.cell' 0 _ rfl
    still_step
    still_step
    still_step
    still_step
    still_step
    refine wpStill_step (fun K hK => ?_)
    go_simp
    refine ⟨_, hcc W.drew, hK _ ?_⟩
    clear hK K
    have f2 : W.drew.frozen? ⟨w.heap.size + 1 + 1, 0, none⟩ = false := bline.free 0
    still_step
    refine wpStill_nil ?_
    go_wp2
    rw [noOut_normal]
    have KO1 : KeepsOthers W (W.setCell ⟨w.heap.size + 1 + 1, 0, none⟩ (.int .i64 (lns s x.1 : Nat))).drew := (KeepsOthers.setCell _ _ _).trans (KeepsOthers.drew _)
    have KT1 : KpT (w.heap.size + 4) (w.heap.size + 4 + 1) W (W.setCell ⟨w.heap.size + 1 + 1, 0, none⟩ (.int .i64 (lns s x.1 : Nat))).drew := ⟨fun k h1 h2 => Below.heap_setCell W ⟨w.heap.size + 1 + 1, 0, none⟩ _ k (by show k ≠ w.heap.size + 1 + 1; omega), by simp [World.setCell]⟩
    have low1 : Below w.heap.size w (W.setCell ⟨w.heap.size + 1 + 1, 0, none⟩ (.int .i64 (lns s x.1 : Nat))).drew := (low.setCell (p := ⟨w.heap.size + 1 + 1, 0, none⟩) (by show w.heap.size ≤ w.heap.size + 1 + 1; omega) _).drew
    have bt1 : Blk (W.setCell ⟨w.heap.size + 1 + 1, 0, none⟩ (.int .i64 (lns s x.1 : Nat))).drew (w.heap.size + 1) 60 #[v] := (bt.far (by show w.heap.size + 1 ≠ w.heap.size + 1 + 1; omega) _).drew
    have bl1 : Blk (W.setCell ⟨w.heap.size + 1 + 1, 0, none⟩ (.int .i64 (lns s x.1 : Nat))).drew (w.heap.size + 2) 3 #[.int .i64 (lns s x.1 : Nat)] := ((bline.put 0 _).same (by simp)).drew
    have ba1 : Blk (W.setCell ⟨w.heap.size + 1 + 1, 0, none⟩ (.int .i64 (lns s x.1 : Nat))).drew (w.heap.size + 3) 3 #[.int .i64 at0] := (bat.far (by show w.heap.size + 3 ≠ w.heap.size + 1 + 1; omega) _).drew
    have bs1 : Blk (W.setCell ⟨w.heap.size + 1 + 1, 0, none⟩ (.int .i64 (lns s x.1 : Nat))).drew w.heap.size 9 #[.string s] := (bsrc.far (by show w.heap.size ≠ w.heap.size + 1 + 1; omega) _).drew
    have ow1 : (W.setCell ⟨w.heap.size + 1 + 1, 0, none⟩ (.int .i64 (lns s x.1 : Nat))).drew.ownsRow (w.heap.size + 5) 74 2 v pre.length (twCells (pre.map (twOf s))) := (ownsRow_setCell_below own (a := ⟨w.heap.size + 1 + 1, 0, none⟩) (by show w.heap.size + 1 + 1 < _; omega) _).drew
    have sz1 : w.heap.size + 5 ≤ (W.setCell ⟨w.heap.size + 1 + 1, 0, none⟩ (.int .i64 (lns s x.1 : Nat))).drew.heap.size := by simpa [World.setCell] using hsz
    generalize (W.setCell ⟨w.heap.size + 1 + 1, 0, none⟩ (.int .i64 (lns s x.1 : Nat))).drew = Wa at *
    clear c0 c2 c3 f2
    have KO2 := KO1.trans (KeepsOthers.setCell Wa ⟨w.heap.size + 1 + 1 + 1, 0, none⟩ (.int .i64 (x.1 : Nat)))
    have KT2 : KpT (w.heap.size + 4) (w.heap.size + 4 + 1) W (Wa.setCell ⟨w.heap.size + 1 + 1 + 1, 0, none⟩ (.int .i64 (x.1 : Nat))) := KT1.trans ⟨fun k h1 h2 => Below.heap_setCell Wa ⟨w.heap.size + 1 + 1 + 1, 0, none⟩ _ k (by show k ≠ w.heap.size + 1 + 1 + 1; omega), by simp [World.setCell]⟩
    have low2 : Below w.heap.size w (Wa.setCell ⟨w.heap.size + 1 + 1 + 1, 0, none⟩ (.int .i64 (x.1 : Nat))) := low1.setCell (p := ⟨w.heap.size + 1 + 1 + 1, 0, none⟩) (by show w.heap.size ≤ w.heap.size + 1 + 1 + 1; omega) _
    have bt2 := bt1.far (p := ⟨w.heap.size + 1 + 1 + 1, 0, none⟩) (by show w.heap.size + 1 ≠ w.heap.size + 1 + 1 + 1; omega) (.int .i64 (x.1 : Nat))
    have bl2 := bl1.far (p := ⟨w.heap.size + 1 + 1 + 1, 0, none⟩) (by show w.heap.size + 2 ≠ w.heap.size + 1 + 1 + 1; omega) (.int .i64 (x.1 : Nat))
    have bs2 := bs1.far (p := ⟨w.heap.size + 1 + 1 + 1, 0, none⟩) (by show w.heap.size ≠ w.heap.size + 1 + 1 + 1; omega) (.int .i64 (x.1 : Nat))
    have ba2 : Blk (Wa.setCell ⟨w.heap.size + 1 + 1 + 1, 0, none⟩ (.int .i64 (x.1 : Nat))) (w.heap.size + 3) 3 #[.int .i64 (x.1 : Nat)] := (ba1.put 0 _).same (by simp)
    have ow2 := ownsRow_setCell_below ow1 (a := ⟨w.heap.size + 1 + 1 + 1, 0, none⟩) (by show w.heap.size + 1 + 1 + 1 < _; omega) (.int .i64 (x.1 : Nat))
    have sz2 : w.heap.size + 5 ≤ (Wa.setCell ⟨w.heap.size + 1 + 1 + 1, 0, none⟩ (.int .i64 (x.1 : Nat))).heap.size := by simpa [World.setCell] using sz1
    have d1 := bt2.cell' 0 _ rfl
    have d2 := bl2.cell' 0 _ rfl
    have d4 : Wa.frozen? ⟨w.heap.size + 1 + 1 + 1, 0, none⟩ = false := ba1.free 0
    have d3 : Wa.cell? ⟨w.heap.size + 1 + 1 + 1, 0, none⟩ = some (.int .i64 at0) := ba1.cell' 0 _ rfl
    obtain ⟨i0, hi, hz0, hz1, hz2⟩ := info_parts Tryz.info74
    gi_wp2_with (gi_at_builtin; refine wpListIn_append_own _ rfl _ _ 60 rfl (w.heap.size + 5) 74 i0 (.agg #[.string ⟨#[]⟩, .int .i64 0]) 2 24 Tryz.underlying60 hi hz0 hz1 hz2 rfl (by decide) _ _ _ rfl (ow2.alloc _) ⟨Wa.heap.size, 0, none⟩ 1 1 [.string (S x.2), .int .i64 (lns s x.1 : Nat)] rfl rfl ?c1 ?c2 ?c3 ?c4 ?c5 ?_)
    case c1 => exact cell_two_at _ _ (by simp [World.setCell]) _ _ _
    case c2 => simp [Value.oneCell']
    case c3 => simp [maxLen]; omega
    case c4 => omega
    case c5 => simp [World.setCell] at sz2 ⊢; omega
    intro v' w2 hown2 hg2 _
    obtain ⟨A', c', rfl, _, _, _⟩ := own_form hown2
    have hlow := ow2.lt
    have bt3 : Blk w2 (w.heap.size + 1) 60 #[v] := (bt2.alloc _).grown hg2 (blk_apart bt2 ow2 (by decide))
    have bl3 : Blk w2 (w.heap.size + 2) 3 #[.int .i64 (lns s x.1 : Nat)] := (bl2.alloc _).grown hg2 (blk_apart bl2 ow2 (by decide))
    have ba3 : Blk w2 (w.heap.size + 3) 3 #[.int .i64 (x.1 : Nat)] := (ba2.alloc _).grown hg2 (blk_apart ba2 ow2 (by decide))
    have bs3 : Blk w2 w.heap.size 9 #[.string s] := (bs2.alloc _).grown hg2 (blk_apart bs2 ow2 (by decide))
    have e1 : w2.cell? ⟨w.heap.size + 1, 0, none⟩ = some v := bt3.cell' 0 _ rfl
    have e2 : w2.frozen? ⟨w.heap.size + 1, 0, none⟩ = false := bt3.free 0
    have hrow : ∀ g, v.ownBlock = some g → ∃ cs, (Wa.setCell ⟨w.heap.size + 1 + 1 + 1, 0, none⟩ (.int .i64 (x.1 : Nat))).heap[g]? = some (.cells cs 74 (0, 0)) := fun g e => by
      rcases ow2.2 with ⟨rfl, _⟩ | ⟨g', cap, cur, rfl, _, hh, _⟩
      · simp [Value.ownBlock] at e
      · have : g' = g := by simpa [Value.ownBlock] using e
        subst this
        exact ⟨_, hh⟩
    have KO3 : KeepsOthers W w2 := (KO2.trans (KeepsOthers.alloc _ _)).trans (KeepsOthers.of_grownBy hg2 fun g o' e ho => by
      obtain ⟨cs, hcs⟩ := hrow g e
      have := (Below.heap_alloc _ (.cells #[.string (S x.2), .int .i64 (lns s x.1 : Nat)] 74) g (Array.getElem?_eq_some_iff.1 hcs).1).trans hcs
      rw [this] at ho
      cases ho; rfl)
    have KT3 : KpT (w.heap.size + 4) (w.heap.size + 4 + 1) W w2 := KT2.trans ⟨fun k h1 h2 => by
      refine (hg2.block k (by rw [World.size_alloc]; omega) (fun e => by have := (hlow k e.symm).1; omega)).trans (Below.heap_alloc _ _ k (by omega)), by have := hg2.size; rw [World.size_alloc] at this; omega⟩
    have low3 : Below w.heap.size w w2 := (low2.alloc (by omega) _).grown hg2 (by rw [World.size_alloc]; omega) (fun g e => by have := (hlow g e).1; omega)
    have sz3 : w.heap.size + 5 ≤ w2.heap.size := by have := hg2.size; rw [World.size_alloc] at this; omega
    gi_wp2
    refine ⟨KO3.trans (KeepsOthers.setCell _ _ _), KT3.trans ⟨fun k h1 h2 => Below.heap_setCell w2 ⟨w.heap.size + 1, 0, none⟩ _ k (by show k ≠ w.heap.size + 1; omega), by simp [World.setCell]⟩, ?_⟩
    refine ⟨low3.setCell (p := ⟨w.heap.size + 1, 0, none⟩) (by show w.heap.size ≤ w.heap.size + 1; omega) _, by simpa [World.setCell] using sz3, ⟨.slice A' (pre.length + 1) c', (bt3.put 0 (.slice A' (pre.length + 1) c')).same (by simp), ?_⟩, ?_, ?_, bs3.far (by show w.heap.size ≠ w.heap.size + 1; omega) _⟩
    · refine ownsRow_setCell_below (own_to hown2 (by simp) ?_) (by show w.heap.size + 1 < _; omega) _
      rw [List.map_append, List.map_cons, List.map_nil, twCells_app]; rfl
    · rw [lastF_snoc]; exact bl3.far (by show w.heap.size + 2 ≠ w.heap.size + 1; omega) _
    · rw [lastF_snoc]; exact ba3.far (by show w.heap.size + 3 ≠ w.heap.size + 1; omega) _
  case hdone =>
    intro D W hD hI hk
    obtain ⟨low, hsz, ⟨v, bt, own⟩, bline, bat, bsrc⟩ := hI
    have e1 : W.cell? ⟨w.heap.size + 1, 0, none⟩ = some v := bt.cell' 0 _ rfl
    have hwW : New w W := low
    have hDz : D < W.heap.size := (Array.getElem?_eq_some_iff.1 hk).1
    have hlen : (spansV s).length = (wordsT s).length := by rw [wordsT, List.length_map]
    obtain ⟨nn, hnn⟩ : ∃ n, (wordsT s).length = n := ⟨_, rfl⟩
    rw [hlen, hnn] at own
    have HNN := Lib.hid hnn
    clear hlen hnn
    rw [show (spansV s).map (twOf s) = wordsT s from rfl] at own
    obtain ⟨A', c', rfl, _, _, _⟩ := own_form own
    gi_wp2
    refine ⟨by simp, .inl ⟨_, _, rfl, run_takeDeferred hk, ?_⟩⟩
    exact ⟨.slice A' nn c', by simp [results, Tryz.results32, go_sem], _, rfl, own_to (own_putObj own hk) HNN.out.symm rfl, new_putObj hwW (by omega)⟩
end Go.Proofs.YtpoelhnceebmkaaGreatDoor

namespace Go.Proofs.YtpoelhnceebmkaaGreatDoor
open Go Go.RowKit Go.Shelf
set_option linter.unusedSimpArgs false
set_option linter.unusedVariables false

theorem spF_free : ∀ (l : List UInt8) (i f f' : Nat), spF i f [] l = spF i f' [] l
  | [], i, f, f' => by rw [spF, spF]; rfl
  | c :: r, i, f, f' => by
    rw [spF, spF]
    split
    · rw [spF_free r (i + 1) f f', if_pos rfl, if_pos rfl]
    · rfl
theorem spF_close {s : ByteArray} {k f : Nat} {cur : List UInt8} (hc : cur ≠ []) (h : k = s.size ∨ ∃ hk : k < s.size, smN (s[k]'hk).toNat = 0) : spF k f cur (s.data.toList.drop k) = (f, cur) :: spF k f [] (s.data.toList.drop k) := by
  rcases h with rfl | ⟨hk, hz⟩
  · rw [spF_end, spF_end, if_neg hc, if_pos rfl]
  · rw [spF_gap hk hz, spF_gap hk hz, if_neg hc, if_pos rfl]; rfl
theorem lns_succ {s : ByteArray} {i : Nat} (h : i < s.size) : lns s (i + 1) = lns s i + if s[i] = 10 then 1 else 0 := by
  have hl : i < s.data.toList.length := by rw [← size_eq]; exact h
  rw [lns, lns, List.take_succ_eq_append_getElem hl, List.count_append, ← get_eq s i h]
  simp only [List.count_cons, List.count_nil, Nat.zero_add, beq_iff_eq]
theorem lns_le (s : ByteArray) (i : Nat) : lns s i ≤ s.size := by
  have h1 : lns s i ≤ (s.data.toList.take i).length := List.count_le_length
  rw [List.length_take, ← size_eq] at h1
  omega
def u8Cells (l : List UInt8) : List Value := l.map fun c => .int .u8 (c.toNat : Nat)
theorem own_bytes {w : World} {B k : Nat} {v : Value} {l : List UInt8} (h : w.ownsRow B 5 1 v k (u8Cells l)) (hk : l.length = k) (h0 : 0 < k) : (convert 104 9 v).run Tryz.prog w = .ok (.string (S l)) w := by
  subst hk
  obtain ⟨g, cap, rfl, _, _⟩ := h.form h0
  refine run_convert_bytes_back (P := Tryz.prog) w 104 9 5 ⟨g, 0, none⟩ cap l Tryz.underlying104 Tryz.underlying5 Tryz.underlying9 (fun j hj => ?_)
  rw [add_none rfl, Nat.zero_add, h.cellAt j (by omega), u8Cells]
  simp [List.getD, List.getElem?_eq_getElem hj]
theorem Tryz.info5 : (Tryz.prog.info? 5).map (fun i => (i.zero, i.size, i.bytes)) = some (some (.int .u8 0), 1, 1) := by kernel_rfl
theorem own_new {W W' : World} {base size n : Nat} {e : TypeId} {v : Value} {xs : List Value} (h : W.ownsRow base e size v n xs) (hn : New W W') : W'.ownsRow base e size v n xs :=
  h.kept (hn.grown_ none) (by cases v.ownBlock <;> simp)

theorem twCells_at : ∀ (l : List Tw) (k : Nat) (h : k < l.length), (twCells l)[k * 2]? = some (.string l[k].1) ∧ (twCells l)[k * 2 + 1]? = some (.int .i64 l[k].2)
  | [], k, h => by simp at h
  | x :: l, 0, _ => ⟨rfl, rfl⟩
  | x :: l, k + 1, h => by
    have ih := twCells_at l k (by simpa using h)
    have e1 : (k + 1) * 2 = k * 2 + 2 := by omega
    have e2 : twCells (x :: l) = .string x.1 :: .int .i64 x.2 :: twCells l := rfl
    rw [e1, e2]
    simpa using ih
set_option maxRecDepth 100000 in
set_option maxHeartbeats 2000000 in
theorem rwords_any (s : ByteArray) (w : World) (hs : s.size ≤ 100000) :
    Calls Tryz.prog 41 #[.string s] w fun e w' => ∃ v, e = .returned v ∧ w'.ownsRow w.heap.size 74 2 v (wordsT s).length (twCells (wordsT s)) ∧ New w w' := by
  obtain ⟨i0, hi, hz0, hz1, hz2⟩ := info_parts Tryz.info74
  obtain ⟨j0, hj, hy0, hy1, hy2⟩ := info_parts Tryz.info5
  go_enter Tryz.func41, Tryz.ntmps41
  go_wp2
  go_loopw [3, 4, 5] (fun v3 v4 v5 wr => ∃ (i : Nat) (acc : List Tw), v4 = .int .i64 (lns s i : Nat) ∧ v5 = .int .i64 i ∧ i ≤ s.size ∧ acc.length ≤ i ∧ wr.ownsRow w.heap.size 74 2 v3 acc.length (twCells acc) ∧ New w wr ∧ Hid (acc ++ (spF i 0 [] (s.data.toList.drop i)).map (twOf s) = wordsT s))
    (fun _ _ v5 _ => s.size - (intOf v5).toNat)
  case atStart => exact ⟨0, [], by simp [lns], rfl, by omega, by simp, World.ownsRow_nil _ _ _ _, New.refl _, Lib.hid rfl⟩
  case round =>
    obtain ⟨i, acc, rfl, rfl, hle, hal, own, hn, H⟩ := hrel
    have hzr := hn.size
    have hll := lns_le s i
    by_cases hlt : i < s.size
    · have hn8 := (s[i]).toNat_lt
      have hC := Lib.hid (fun w => small_any s[i].toNat (by omega) w)
      have hsuc := lns_succ hlt
      by_cases hw : smN s[i].toNat = 0
      · rw [hw] at hC
        have hg := spF_gap (f := 0) (cur := []) hlt hw
        rw [if_pos rfl, List.nil_append] at hg
        have HN : Hid (acc ++ (spF (i + 1) 0 [] (s.data.toList.drop (i + 1))).map (twOf s) = wordsT s) := Lib.hid (by rw [← hg]; exact H.out)
        clear hg hw
        by_cases h10 : s[i] = 10
        · rw [if_pos h10] at hsuc
          have h10' : s[i].toNat = 10 := by rw [h10]; rfl
          have t1 : ((s[i].toNat : Int) == 10) = true := by rw [h10']; rfl
          have t2 : (s[i].toNat : Int) = 10 := by rw [h10']; rfl
          have HS := Lib.hid hsuc
          clear hsuc h10
          have hC10 : ∀ w, Calls Tryz.prog 68 #[.int .u8 10] w fun e w' => e = .returned (.int .u8 0) ∧ w = w' := fun w => by
            have := small_any 10 (by omega) w
            exact this
          have HC10 := Lib.hid hC10
          clear hC hC10
          go_wp2_with (go_at_call 68; refine (HC10.out _).mono ?_; rintro e w' ⟨rfl, rfl⟩)
          go_roundw
          case rel => exact ⟨i + 1, acc, by rw [HS.out]; go_num, by go_num, by omega, by omega, own, hn, HN⟩
          case measure => simp [intOf]; omega
        · rw [if_neg h10] at hsuc
          have h10' : ¬ s[i].toNat = 10 := fun e => h10 (UInt8.toNat_inj.1 e)
          have t1 : ((s[i].toNat : Int) == 10) = false := beq_eq_false_iff_ne.2 (by omega)
          have t2 : ¬ (s[i].toNat : Int) = 10 := by omega
          have HS := Lib.hid hsuc
          clear hsuc h10
          go_wp2_with (go_at_call 68; refine (hC.out _).mono ?_; rintro e w' ⟨rfl, rfl⟩)
          go_roundw
          case rel => exact ⟨i + 1, acc, by rw [HS.out]; rfl, by go_num, by omega, by omega, own, hn, HN⟩
          case measure => simp [intOf]; omega
      · have HWI := Lib.hid hw
        obtain ⟨m, hm⟩ : ∃ m, smN s[i].toNat = m := ⟨_, rfl⟩
        rw [hm] at hC hw
        have m1 : ((m : Int) == 0) = false := beq_eq_false_iff_ne.2 (by omega)
        have m2 : ¬ (m : Int) = 0 := by omega
        have HM := Lib.hid hm
        clear hm hsuc
        go_wp2_with (go_at_call 68; refine (hC.out _).mono ?_; rintro e w' ⟨rfl, rfl⟩)
        obtain ⟨wo, rfl⟩ : ∃ x, x = wr := ⟨_, rfl⟩
        go_loopw [5, 6] (fun v5 v6 wr2 => ∃ (k : Nat) (cur : List UInt8), v5 = .int .i64 k ∧ i ≤ k ∧ k ≤ s.size ∧ wr2.ownsRow wo.heap.size 5 1 v6 (k - i) (u8Cells cur) ∧ New wo wr2 ∧ Hid (cur.length = k - i) ∧ Hid (lns s k = lns s i) ∧ Hid (spF k i cur (s.data.toList.drop k) = spF i 0 [] (s.data.toList.drop i))) (fun v5 _ _ => s.size - (intOf v5).toNat)
        case atStart => exact ⟨i, [], rfl, Nat.le_refl _, by omega, by rw [Nat.sub_self]; exact World.ownsRow_nil _ _ _ _, New.refl _, Lib.hid (by simp), Lib.hid rfl, Lib.hid (spF_free _ _ _ _)⟩
        case round =>
          obtain ⟨k, cur, rfl, hik, hks, ownw, hn2, HL, HLN, HSP⟩ := hrel
          have hz2' := hn2.size
          obtain ⟨d, hd⟩ : ∃ d, k - i = d := ⟨_, rfl⟩
          rw [hd] at ownw HL
          obtain ⟨A7, c7, rfl, _, _, _⟩ := own_form ownw
          by_cases hk2 : k < s.size
          · have hk8 := (s[k]).toNat_lt
            have hCk := Lib.hid (fun w => small_any s[k].toNat (by omega) w)
            by_cases hwk : smN s[k].toNat = 0
            · rw [hwk] at hCk
              have hki : k ≠ i := fun e => by subst e; exact HWI.out hwk
              have hcl : 0 < d := by omega
              have hcne : cur ≠ [] := fun e => by have := HL.out; rw [e] at this; simp at this; omega
              have hcl2 := spF_close (f := i) (cur := cur) hcne (.inr ⟨hk2, hwk⟩)
              rw [HSP.out] at hcl2
              have HCL := Lib.hid hcl2
              have hconv := own_bytes ownw HL.out hcl
              have own2 := own_new own hn2
              go_wp2_with (first | (go_at_call 68; refine (hCk.out _).mono ?_; rintro e w' ⟨rfl, rfl⟩) | (at_builtin; (refine wpList_append_own _ rfl (.tmp 44) (.tmp 49) 60 rfl w.heap.size 74 i0 (.agg #[.string ⟨#[]⟩, .int .i64 0]) 2 24 Tryz.underlying60 hi hz0 hz1 hz2 rfl (by decide) _ _ _ rfl (own2.alloc _) ⟨wr.heap.size, 0, none⟩ 1 1 [.string (S cur), .int .i64 (lns s i : Nat)] rfl rfl ?c1 ?c2 ?c3 ?c4 ?c5 ?_)))
              case c1 => exact cell_two_at _ _ rfl _ _ _
              case c2 => simp [Value.oneCell']
              case c3 => simp [maxLen]; omega
              case c4 => omega
              case c5 => simp; omega
              intro v' w9 hown9 hg9 _
              go_wp2
              go_roundw
              case rel => exact ⟨k, acc ++ [(S cur, lns s i)], by rw [HLN.out], rfl, by omega, by simp; omega, own_to hown9 (by simp) (by rw [twCells_app]; rfl), Below.grown ((hn.trans hn2).alloc _) hg9 (by simp; omega) (fun q hq => (own2.lt q hq).1), Lib.hid (by rw [← H.out, HCL.out, List.map_cons, List.append_assoc, List.singleton_append, spF_free _ _ 0 i]; rfl)⟩
              case measure => simp [intOf]; omega
            · have hne10 : s[k] ≠ 10 := fun e => hwk (by rw [e]; rfl)
              have hls := lns_succ hk2
              rw [if_neg hne10, Nat.add_zero] at hls
              have hsp := spF_word (f := i) (cur := cur) hk2 hwk
              have hf : (if cur = [] then k else i) = i := by
                split
                · rename_i e
                  have := HL.out
                  rw [e] at this; simp at this; omega
                · rfl
              rw [hf] at hsp
              have HSP2 : Hid (spF (k + 1) i (cur ++ [sm s[k]]) (s.data.toList.drop (k + 1)) = spF i 0 [] (s.data.toList.drop i)) := Lib.hid (hsp.symm.trans HSP.out)
              have HL2 : Hid ((cur ++ [sm s[k]]).length = k + 1 - i) := Lib.hid (by have := HL.out; rw [List.length_append, this]; simp; omega)
              have HLN2 : Hid (lns s (k + 1) = lns s i) := Lib.hid (hls.trans HLN.out)
              have HCE : Hid (u8Cells (cur ++ [sm s[k]]) = u8Cells cur ++ [.int .u8 (smN s[k].toNat : Nat)]) := Lib.hid (by simp [u8Cells, sm_nat])
              generalize sm s[k] = sc at *
              obtain ⟨m', hm'⟩ : ∃ m', smN s[k].toNat = m' := ⟨_, rfl⟩
              rw [hm'] at hCk hwk HCE
              have m3 : ((m' : Int) == 0) = false := beq_eq_false_iff_ne.2 (by omega)
              have m4 : ¬ (m' : Int) = 0 := by omega
              clear hls hsp hf hm' hne10
              go_wp2_with (first | (go_at_call 68; refine (hCk.out _).mono ?_; rintro e w' ⟨rfl, rfl⟩) | (at_builtin; refine wpList_append_own _ rfl (.tmp 35) (.tmp 40) 104 rfl wo.heap.size 5 j0 (.int .u8 0) 1 1 Tryz.underlying104 hj hy0 hy1 hy2 rfl (by decide) _ _ _ rfl (ownw.alloc _) ⟨wr.heap.size, 0, none⟩ 1 1 [.int .u8 m'] rfl rfl ?c1 ?c2 ?c3 ?c4 ?c5 ?_))
              case c1 => exact cell_one_new _ _ _
              case c2 => simp [Value.oneCell']
              case c3 => simp [maxLen]; omega
              case c4 => omega
              case c5 => simp; omega
              intro v' w9 hown9 hg9 _
              go_wp2
              go_roundw
              case rel => exact ⟨k + 1, _, by go_num, by omega, by omega, own_to hown9 (by omega) HCE.out.symm, Below.grown (hn2.alloc _) hg9 (by simp; omega) (fun q hq => (ownw.lt q hq).1), HL2, HLN2, HSP2⟩
              case measure => simp [intOf]; omega
          · obtain rfl : k = s.size := by omega
            have hcl : 0 < d := by omega
            have hcne : cur ≠ [] := fun e => by have := HL.out; rw [e] at this; simp at this; omega
            have hcl2 := spF_close (s := s) (k := s.size) (f := i) (cur := cur) hcne (.inl rfl)
            rw [HSP.out] at hcl2
            have HCL := Lib.hid hcl2
            have hconv := own_bytes ownw HL.out hcl
            have own2 := own_new own hn2
            clear hcl2 hcne
            go_wp2_with (first | (at_builtin; refine wpList_append_own _ rfl (.tmp 44) (.tmp 49) 60 rfl w.heap.size 74 i0 (.agg #[.string ⟨#[]⟩, .int .i64 0]) 2 24 Tryz.underlying60 hi hz0 hz1 hz2 rfl (by decide) _ _ _ rfl (own2.alloc _) ⟨wr.heap.size, 0, none⟩ 1 1 [.string (S cur), .int .i64 (lns s i : Nat)] rfl rfl ?c1 ?c2 ?c3 ?c4 ?c5 ?_))
            case c1 => exact cell_two_at _ _ rfl _ _ _
            case c2 => simp [Value.oneCell']
            case c3 => simp [maxLen]; omega
            case c4 => omega
            case c5 => simp; omega
            intro v' w9 hown9 hg9 _
            go_wp2
            go_roundw
            case rel => exact ⟨s.size, acc ++ [(S cur, lns s i)], by rw [HLN.out], rfl, Nat.le_refl _, by simp; omega, own_to hown9 (by simp) (by rw [twCells_app]; rfl), Below.grown ((hn.trans hn2).alloc _) hg9 (by simp; omega) (fun q hq => (own2.lt q hq).1), Lib.hid (by rw [← H.out, HCL.out, List.map_cons, List.append_assoc, List.singleton_append, spF_free _ _ 0 i]; rfl)⟩
            case measure => simp [intOf]; omega
    · obtain rfl : i = s.size := by omega
      have h9 : acc = wordsT s := by have := H.out; rw [spF_end, if_pos rfl] at this; simpa using this
      obtain ⟨A9, c9, rfl, _, _, _⟩ := own_form own
      have H9 := Lib.hid h9
      clear h9
      go_wp2
      go_ret
      exact ⟨_, rfl, own_to own (by rw [H9.out]) (by rw [H9.out]), hn⟩
end Go.Proofs.YtpoelhnceebmkaaGreatDoor

namespace Go.Proofs.YtpoelhnceebmkaaGreatDoor
open Go Go.RowKit Go.Shelf
set_option linter.unusedSimpArgs false
set_option linter.unusedVariables false

/-! ### strings.IndexFunc at a predicate that holds of all that is not ASCII -/
theorem decode_big (s : ByteArray) (pos : Nat) (h : pos < s.size) (ha : 128 ≤ (s[pos]'h).toNat) : 128 ≤ (Utf8.decode s pos).1 := by
  have e : s.get! (pos + 0) = s[pos]'h := by
    show s.get! pos = _
    simp [ByteArray.get!, getElem!_pos, h]
    rfl
  have hn : ¬ (s[pos]'h).toNat < 128 := by omega
  simp only [Utf8.decode, e, hn, if_false, Utf8.runeError]
  repeat' split
  all_goals first | omega | (simp_all; omega)
theorem idx_any (p : Nat → Bool) (hp : ∀ r, 128 ≤ r → p r = true) (s : ByteArray) : ∀ (f pos : Nat), pos ≤ s.size → s.size ≤ pos + f →
    decide (0 ≤ Lib.idxFuncFrom p true s f pos) = (s.data.toList.drop pos).any fun c => p c.toNat
  | 0, pos, h, h' => by
    rw [Lib.idxFuncFrom, List.drop_of_length_le (by rw [← size_eq]; omega)]; rfl
  | f + 1, pos, h, h' => by
    unfold Lib.idxFuncFrom
    by_cases hlt : pos < s.size
    · have hl : pos < s.data.toList.length := by rw [← size_eq]; exact hlt
      rw [if_pos hlt, List.drop_eq_getElem_cons hl, ← get_eq s pos hlt, List.any_cons]
      by_cases ha : (s[pos]'hlt).toNat < 128
      · rw [decode_ascii s pos hlt ha]
        by_cases hq : p (s[pos]'hlt).toNat = true
        · rw [if_pos hq, hq]; simp
        · rw [if_neg hq, idx_any p hp s f (pos + 1) (by omega) (by omega)]
          have : p (s[pos]'hlt).toNat = false := by simpa using hq
          rw [this, Bool.false_or]
      · have hq : p (s[pos]'hlt).toNat = true := hp _ (by omega)
        rw [if_pos (hp _ (decode_big s pos hlt (by omega))), hq]; simp
    · rw [if_neg hlt, List.drop_of_length_le (by rw [← size_eq]; omega)]; rfl

/-! ### words -/
def okC (c : UInt8) : Bool := (decide (97 ≤ c.toNat) && decide (c.toNat ≤ 122)) || (decide (48 ≤ c.toNat) && decide (c.toNat ≤ 57))
def okW (s : ByteArray) : Bool := decide (0 < s.size) && s.data.toList.all okC
def notSm (r : Nat) : Bool := mapR r != (r : Int)
theorem notSm_byte (c : UInt8) : notSm c.toNat = !okC c := by
  unfold notSm okC mapR
  rw [Bool.eq_iff_iff]
  simp only [bne_iff_ne, ne_eq, Bool.not_eq_true', Bool.or_eq_false_iff, Bool.and_eq_false_iff, decide_eq_false_iff_not]
  split
  · omega
  · split <;> omega
theorem notSm_big (r : Nat) (h : 128 ≤ r) : notSm r = true := by
  unfold notSm mapR
  rw [if_neg (by omega), if_neg (by omega)]
  simp only [bne_iff_ne, ne_eq]; omega
set_option maxRecDepth 100000 in
theorem wordFn (r : Nat) (w : World) (hr : r ≤ 1114111) : Calls Tryz.prog 75 (#[.int .i32 (r : Int)] ++ #[]) w fun e w' => e = .returned (.bool (notSm r)) ∧ w' = w := by
  have hC := Lib.hid (fun w => mapped_any (r : Int) w (by omega) (by omega))
  obtain ⟨m, hm⟩ : ∃ m, mapR (r : Int) = m := ⟨_, rfl⟩
  rw [hm] at hC
  by_cases h : m = (r : Int)
  · have e : notSm r = false := by unfold notSm; rw [hm, h]; simp
    rw [e]
    subst h
    clear hm
    go_enter Tryz.func75, Tryz.ntmps75
    go_wp2_with (go_at_call 59; refine (hC.out _).mono ?_; rintro e w' ⟨rfl, rfl⟩)
    go_ret
    exact ⟨by simp, rfl⟩
  · have e : notSm r = true := by unfold notSm; rw [hm]; simpa using h
    rw [e]
    have h1 : (m == (r : Int)) = false := beq_eq_false_iff_ne.2 h
    clear hm
    go_enter Tryz.func75, Tryz.ntmps75
    go_wp2_with (go_at_call 59; refine (hC.out _).mono ?_; rintro e w' ⟨rfl, rfl⟩)
    go_ret
    exact ⟨by simp [h], rfl⟩
theorem containsW (s : ByteArray) (w : World) : Calls Tryz.prog 74 #[.string s, .func (.func 75) #[] #[]] w fun e w' => e = .returned (.bool (s.data.toList.any fun c => !okC c)) ∧ New w w' := by
  have h := Tryz.strings_ContainsFunc_grows 75 #[] (enters_of Tryz.func75 (by kernel_rfl) rfl) notSm s w (fun W r hr _ => (wordFn r W hr).mono fun e w' ⟨he, hw⟩ => ⟨he, by subst hw; exact Below.refl _ _⟩)
  have e : decide (0 ≤ Lib.idxFunc notSm true s) = s.data.toList.any fun c => !okC c := by
    rw [Lib.idxFunc, idx_any notSm notSm_big s s.size 0 (Nat.zero_le _) (by omega), List.drop_zero]
    congr 1
    funext c
    exact notSm_byte c
  rwa [e] at h
set_option maxRecDepth 100000 in
theorem isWord_any (s : ByteArray) (w : World) : Calls Tryz.prog 51 #[.string s] w fun e w' => e = .returned (.bool (okW s)) ∧ New w w' := by
  by_cases h : 0 < s.size
  · have hv : okW s = !(s.data.toList.any fun c => !okC c) := by
      rw [okW, decide_eq_true h, Bool.true_and, List.any_eq_not_all_not]; simp
    have hne : s.toList.isEmpty = false := by
      rw [toList_eq]
      cases hq : s.data.toList with
      | nil => rw [size_eq, hq] at h; simp at h
      | cons a b => rfl
    have hC := Lib.hid (fun w => containsW s w)
    rw [hv]
    obtain ⟨b, hb⟩ : ∃ b, (s.data.toList.any fun c => !okC c) = b := ⟨_, rfl⟩
    rw [hb] at hC ⊢
    clear hv hb
    go_enter Tryz.func51, Tryz.ntmps51
    go_wp2_with (go_at_call 74; refine (hC.out _).mono ?_; rintro e w' ⟨rfl, hn⟩)
    go_ret
    exact ⟨rfl, hn⟩
  · have hv : okW s = false := by rw [okW, decide_eq_false h]; rfl
    have hne : s.toList.isEmpty = true := by
      rw [toList_eq]
      cases hq : s.data.toList with
      | nil => rfl
      | cons a b => rw [size_eq, hq] at h; simp at h
    rw [hv]
    clear hv h
    go_enter Tryz.func51, Tryz.ntmps51
    go_wp2
    go_ret
    exact ⟨rfl, New.refl _⟩
set_option maxRecDepth 100000 in
theorem noWord33 (s : ByteArray) (w : World) : Calls Tryz.prog 53 #[.string s] w fun e w' => e = .returned (.bool (!okW s)) ∧ New w w' := by
  have hC := Lib.hid (fun w => isWord_any s w)
  go_enter Tryz.func53, Tryz.ntmps53
  go_wp2_with (go_at_call 51; refine (hC.out _).mono ?_; rintro e w' ⟨rfl, hn⟩)
  go_ret
  exact ⟨rfl, hn⟩
set_option maxRecDepth 100000 in
theorem noWord31 (s : ByteArray) (w : World) : Calls Tryz.prog 50 #[.string s] w fun e w' => e = .returned (.bool (!okW s)) ∧ New w w' := by
  have hC := Lib.hid (fun w => isWord_any s w)
  go_enter Tryz.func50, Tryz.ntmps50
  go_wp2_with (go_at_call 51; refine (hC.out _).mono ?_; rintro e w' ⟨rfl, hn⟩)
  go_ret
  exact ⟨rfl, hn⟩
def allOk (ws : List ByteArray) : Bool := ws.all okW
theorem any_not (ws : List ByteArray) : (ws.any fun s => !okW s) = !allOk ws := by rw [allOk, List.any_eq_not_all_not]; simp

set_option maxRecDepth 100000 in
set_option maxHeartbeats 1000000 in
theorem indexFn33 (A : Option Addr) (c n : Nat) (ws : List ByteArray) (hl : ws.length = n) (w : World) (hz : n ≤ 4294967295) (hr : Rd w 1 A n (ws.map Value.string)) :
    Calls Tryz.prog 73 #[.slice A n c, .func (.func 53) #[] #[]] w fun e w' => (∃ i : Int, e = .returned (.int .i64 i) ∧ decide (0 ≤ i) = ws.any (fun s => !okW s)) ∧ New w w' := by
  have HL := Lib.hid hl
  clear hl
  go_enter Tryz.func73, Tryz.ntmps73
  go_wp2
  go_loopw [8] (fun v wr => ∃ k : Nat, k ≤ n ∧ v = .int .i64 k ∧ New w wr ∧ Hid ((ws.take k).any (fun s => !okW s) = false)) (fun v _ => n - (intOf v).toNat)
  case atStart => exact ⟨0, Nat.zero_le _, rfl, New.refl _, Lib.hid rfl⟩
  case round =>
    obtain ⟨k, hk, rfl, hn, H⟩ := hrel
    by_cases hlt : k < n
    · obtain ⟨bk, o, rfl, _, hc⟩ := (hr.below hn).2 (by omega)
      have hkl : k < ws.length := by rw [HL.out]; exact hlt
      have hck : wr.cell? ⟨bk, o + k, none⟩ = some (.string ws[k]) := hc k _ (by simp [hkl])
      have ht : (ws.take (k + 1)).any (fun s => !okW s) = (!okW ws[k]) := by
        rw [List.take_succ_eq_append_getElem hkl, List.any_append, H.out]; simp
      generalize ws[k] = s at *
      have HT := Lib.hid ht
      clear hc ht hkl
      cases hb : okW s
      · have HB := Lib.hid hb; clear hb
        go_wp2_with (go_at_call 53; refine (noWord33 _ _).mono ?_; rw [HB.out]; rintro e w' ⟨rfl, hn2⟩)
        go_ret
        refine ⟨⟨k, rfl, ?_⟩, hn.trans hn2⟩
        rw [← List.take_append_drop (k + 1) ws, List.any_append, HT.out, HB.out]; simp
      · have HB := Lib.hid hb; clear hb
        go_wp2_with (go_at_call 53; refine (noWord33 _ _).mono ?_; rw [HB.out]; rintro e w' ⟨rfl, hn2⟩)
        go_roundw
        case rel => exact ⟨k + 1, by omega, by go_num, hn.trans hn2, Lib.hid (by rw [HT.out, HB.out]; rfl)⟩
        case measure => simp [intOf]; omega
    · have : k = n := by omega
      subst this
      go_wp2
      go_ret
      exact ⟨⟨-1, rfl, by have := H.out; rw [List.take_of_length_le (by rw [HL.out]; exact Nat.le_refl _)] at this; rw [this]; rfl⟩, hn⟩
set_option maxRecDepth 100000 in
theorem containsFn33 (A : Option Addr) (c n : Nat) (ws : List ByteArray) (hl : ws.length = n) (w : World) (hz : n ≤ 4294967295) (hr : Rd w 1 A n (ws.map Value.string)) :
    Calls Tryz.prog 49 #[.slice A n c, .func (.func 53) #[] #[]] w fun e w' => e = .returned (.bool (!allOk ws)) ∧ New w w' := by
  have HC := Lib.hid (indexFn33 A c n ws hl w hz hr)
  have HA := Lib.hid (any_not ws)
  clear hl
  go_enter Tryz.func49, Tryz.ntmps49
  go_wp2_with (go_at_call 73; refine HC.out.mono ?_; rintro e w' ⟨⟨i, rfl, hi⟩, hn⟩; have HI := Lib.hid hi; clear hi)
  go_ret
  exact ⟨by rw [← HA.out, ← HI.out]; rfl, hn⟩

set_option maxRecDepth 100000 in
set_option maxHeartbeats 1000000 in
theorem indexFn31 (A : Option Addr) (c n : Nat) (ws : List ByteArray) (hl : ws.length = n) (w : World) (hz : n ≤ 4294967295) (hr : Rd w 1 A n (ws.map Value.string)) :
    Calls Tryz.prog 73 #[.slice A n c, .func (.func 50) #[] #[]] w fun e w' => (∃ i : Int, e = .returned (.int .i64 i) ∧ decide (0 ≤ i) = ws.any (fun s => !okW s)) ∧ New w w' := by
  have HL := Lib.hid hl
  clear hl
  go_enter Tryz.func73, Tryz.ntmps73
  go_wp2
  go_loopw [8] (fun v wr => ∃ k : Nat, k ≤ n ∧ v = .int .i64 k ∧ New w wr ∧ Hid ((ws.take k).any (fun s => !okW s) = false)) (fun v _ => n - (intOf v).toNat)
  case atStart => exact ⟨0, Nat.zero_le _, rfl, New.refl _, Lib.hid rfl⟩
  case round =>
    obtain ⟨k, hk, rfl, hn, H⟩ := hrel
    by_cases hlt : k < n
    · obtain ⟨bk, o, rfl, _, hc⟩ := (hr.below hn).2 (by omega)
      have hkl : k < ws.length := by rw [HL.out]; exact hlt
      have hck : wr.cell? ⟨bk, o + k, none⟩ = some (.string ws[k]) := hc k _ (by simp [hkl])
      have ht : (ws.take (k + 1)).any (fun s => !okW s) = (!okW ws[k]) := by
        rw [List.take_succ_eq_append_getElem hkl, List.any_append, H.out]; simp
      generalize ws[k] = s at *
      have HT := Lib.hid ht
      clear hc ht hkl
      cases hb : okW s
      · have HB := Lib.hid hb; clear hb
        go_wp2_with (go_at_call 50; refine (noWord31 _ _).mono ?_; rw [HB.out]; rintro e w' ⟨rfl, hn2⟩)
        go_ret
        refine ⟨⟨k, rfl, ?_⟩, hn.trans hn2⟩
        rw [← List.take_append_drop (k + 1) ws, List.any_append, HT.out, HB.out]; simp
      · have HB := Lib.hid hb; clear hb
        go_wp2_with (go_at_call 50; refine (noWord31 _ _).mono ?_; rw [HB.out]; rintro e w' ⟨rfl, hn2⟩)
        go_roundw
        case rel => exact ⟨k + 1, by omega, by go_num, hn.trans hn2, Lib.hid (by rw [HT.out, HB.out]; rfl)⟩
        case measure => simp [intOf]; omega
    · have : k = n := by omega
      subst this
      go_wp2
      go_ret
      exact ⟨⟨-1, rfl, by have := H.out; rw [List.take_of_length_le (by rw [HL.out]; exact Nat.le_refl _)] at this; rw [this]; rfl⟩, hn⟩
set_option maxRecDepth 100000 in
theorem containsFn31 (A : Option Addr) (c n : Nat) (ws : List ByteArray) (hl : ws.length = n) (w : World) (hz : n ≤ 4294967295) (hr : Rd w 1 A n (ws.map Value.string)) :
    Calls Tryz.prog 49 #[.slice A n c, .func (.func 50) #[] #[]] w fun e w' => e = .returned (.bool (!allOk ws)) ∧ New w w' := by
  have HC := Lib.hid (indexFn31 A c n ws hl w hz hr)
  have HA := Lib.hid (any_not ws)
  clear hl
  go_enter Tryz.func49, Tryz.ntmps49
  go_wp2_with (go_at_call 73; refine HC.out.mono ?_; rintro e w' ⟨⟨i, rfl, hi⟩, hn⟩; have HI := Lib.hid hi; clear hi)
  go_ret
  exact ⟨by rw [← HA.out, ← HI.out]; rfl, hn⟩
end Go.Proofs.YtpoelhnceebmkaaGreatDoor

namespace Go.Proofs.YtpoelhnceebmkaaGreatDoor
open Go Go.RowKit Go.Shelf
set_option linter.unusedSimpArgs false
set_option linter.unusedVariables false

/-! ### templates as data -/
abbrev Pt := Int × List ByteArray
/-- A list of strings as a value. -/
def WRd (w : World) (v : Value) (ws : List ByteArray) : Prop := ∃ A c, v = .slice A ws.length c ∧ ws.length ≤ c ∧ c ≤ maxLen ∧ Rd w 1 A ws.length (ws.map Value.string)
theorem WRd.new {w w' : World} {v : Value} {ws : List ByteArray} (h : WRd w v ws) (hn : New w w') : WRd w' v ws :=
  let ⟨A, c, e, h1, h2, hr⟩ := h
  ⟨A, c, e, h1, h2, hr.below hn⟩
def pCells : List Pt → List Value → List Value
  | p :: ps, v :: vs => .int .i64 p.1 :: v :: pCells ps vs
  | _, _ => []
theorem pCells_at : ∀ (ps : List Pt) (vs : List Value) (i : Nat) (h : i < ps.length) (h' : i < vs.length), (pCells ps vs)[i * 2]? = some (.int .i64 ps[i].1) ∧ (pCells ps vs)[i * 2 + 1]? = some vs[i]
  | [], _, _, h, _ => by simp at h
  | _ :: _, [], _, _, h => by simp at h
  | p :: ps, v :: vs, 0, _, _ => ⟨rfl, rfl⟩
  | p :: ps, v :: vs, i + 1, h, h' => by
    have ih := pCells_at ps vs i (by simpa using h) (by simpa using h')
    have e1 : (i + 1) * 2 = i * 2 + 2 := by omega
    have e2 : pCells (p :: ps) (v :: vs) = .int .i64 p.1 :: v :: pCells ps vs := rfl
    rw [e1, e2]
    simpa using ih
theorem pCells_len : ∀ (ps : List Pt) (vs : List Value), vs.length = ps.length → (pCells ps vs).length = ps.length * 2
  | [], _, _ => by simp [pCells]
  | _ :: _, [], h => by simp at h
  | p :: ps, v :: vs, h => by
    have ih := pCells_len ps vs (by simpa using h)
    simp only [pCells, List.length_cons, ih]; omega
/-- The parts of a template as a value. -/
def PRd (w : World) (A : Option Addr) (n : Nat) (ps : List Pt) : Prop := ps.length = n ∧ ∃ vs, vs.length = n ∧ Rd w 2 A n (pCells ps vs) ∧ ∀ i (h : i < ps.length) (h' : i < vs.length), WRd w vs[i] ps[i].2
theorem PRd.new {w w' : World} {A : Option Addr} {n : Nat} {ps : List Pt} (h : PRd w A n ps) (hn : New w w') : PRd w' A n ps :=
  let ⟨h0, vs, h1, hr, hw⟩ := h
  ⟨h0, vs, h1, hr.below hn, fun i h h' => (hw i h h').new hn⟩
theorem PRd.at {w : World} {A : Option Addr} {n : Nat} {ps : List Pt} (h : PRd w A n ps) {i : Nat} (hi : i < n) : ∃ b o v p, A = some ⟨b, o, none⟩ ∧ ps[i]? = some p ∧ w.cell? ⟨b, o + i * 2, none⟩ = some (.int .i64 p.1) ∧ w.cell? ⟨b, o + i * 2 + 1, none⟩ = some v ∧ WRd w v p.2 := by
  obtain ⟨h0, vs, h1, hr, hw⟩ := h
  obtain ⟨b, o, rfl, _, hc⟩ := hr.2 (by omega)
  obtain ⟨q1, q2⟩ := pCells_at ps vs i (by omega) (by omega)
  exact ⟨b, o, vs[i], ps[i], rfl, List.getElem?_eq_getElem (by omega), hc _ _ q1, hc _ _ q2, hw i (by omega) (by omega)⟩
def TRd (w : World) (v : Value) (nm : ByteArray) (ps : List Pt) : Prop := ∃ A c, v = .agg #[.string nm, .slice A ps.length c] ∧ ps.length ≤ c ∧ c ≤ maxLen ∧ PRd w A ps.length ps
theorem TRd.new {w w' : World} {v : Value} {nm : ByteArray} {ps : List Pt} (h : TRd w v nm ps) (hn : New w w') : TRd w' v nm ps :=
  let ⟨A, c, e, h1, h2, hr⟩ := h
  ⟨A, c, e, h1, h2, hr.new hn⟩
/-- A template of a size that does not matter. -/
def SmT (ps : List Pt) : Prop := ps.length ≤ 1000 ∧ ∀ p ∈ ps, p.2.length ≤ 1000

/-! ### slices.Equal at strings -/
theorem eqStr (A A' : Option Addr) (n n' c c' : Nat) (xs ys : List ByteArray) (hx : xs.length = n) (hy : ys.length = n') (w : World) (hr : Rd w 1 A n (xs.map Value.string)) (hr' : Rd w 1 A' n' (ys.map Value.string)) (hz : n ≤ 4294967295) :
    Calls Tryz.prog 35 #[.slice A n c, .slice A' n' c'] w fun e w' => e = .returned (.bool (decide (xs = ys))) ∧ New w w' := by
  subst hx hy
  by_cases hl : xs.length = ys.length
  · by_cases h0 : 0 < xs.length
    · obtain ⟨b, o, rfl, _, hc⟩ := hr.2 h0
      obtain ⟨b', o', rfl, _, hc'⟩ := hr'.2 (by omega)
      have := Tryz.slices_Equal_string b o xs.length c b' o' ys.length c' xs ys w (Nat.le_refl _) (Nat.le_refl _) (by omega) (by omega)
        (fun j hj => hc j _ (by simp [List.getD, hj])) (fun j hj => hc' j _ (by simp [List.getD, hj]))
      refine this.mono ?_
      rintro e w' ⟨rfl, q, rfl⟩
      refine ⟨?_, (New.refl w).drewN q⟩
      rw [List.take_of_length_le (Nat.le_refl _), List.take_of_length_le (Nat.le_refl _)]
    · obtain rfl : xs = [] := List.eq_nil_of_length_eq_zero (by omega)
      obtain rfl : ys = [] := List.eq_nil_of_length_eq_zero (by simpa using hl.symm)
      refine (Tryz.slices_Equal_string_empty A A' c 0 c' w (by omega)).mono ?_
      rintro e w' ⟨rfl, rfl⟩
      exact ⟨rfl, New.refl _⟩
  · refine (Tryz.slices_Equal_string_lens A A' xs.length c ys.length c' w hl).mono ?_
    rintro e w' ⟨rfl, rfl⟩
    exact ⟨by rw [decide_eq_false (fun e => hl (by rw [e]))], New.refl _⟩

/-! ### stands -/
def standsV (part words : List ByteArray) (i : Nat) : Bool := decide (i + part.length ≤ words.length) && decide (part = (words.drop i).take part.length)
set_option maxRecDepth 100000 in
set_option maxHeartbeats 1000000 in
theorem stands_any (v v' : Value) (part words : List ByteArray) (i : Nat) (w : World) (h : WRd w v part) (h' : WRd w v' words) (h1 : part.length ≤ 100000) (h2 : words.length ≤ 100000) (h3 : i ≤ 1000000) :
    Calls Tryz.prog 76 #[v, v', .int .i64 i] w fun e w' => e = .returned (.bool (standsV part words i)) ∧ New w w' := by
  obtain ⟨A, c, rfl, hc1, hc2, hr⟩ := h
  obtain ⟨A', c', rfl, hc1', hc2', hr'⟩ := h'
  have u1 : IntKind.i64.wrap ((i : Int) + (part.length : Int)) = (i : Int) + (part.length : Int) := IntWalk.i64_in _ (by omega)
  by_cases hle : i + part.length ≤ words.length
  · have hv : standsV part words i = decide (part = (words.drop i).take part.length) := by rw [standsV, decide_eq_true hle, Bool.true_and]
    rw [hv]
    have t1 : decide ((i : Int) + (part.length : Int) ≤ (words.length : Int)) = true := decide_eq_true (by omega)
    have t2 : (i : Int) + (part.length : Int) ≤ (words.length : Int) := by omega
    clear hv
    have i0 : (0 : Int) ≤ (i : Int) := by omega
    have i1 : (i : Int) ≤ (i : Int) + (part.length : Int) := by omega
    have i2 : (i : Int) + (part.length : Int) ≤ (c' : Int) := by omega
    have i3 : ((i : Int) + (part.length : Int)).toNat = i + part.length := by omega
    have i4 : i + part.length ≤ c' := by omega
    have i5 : i ≤ i + part.length := by omega
    by_cases hp0 : 0 < part.length
    · obtain ⟨b', o', rfl, hb', hc'⟩ := hr'.2 (by omega)
      have hci : ¬ c' = i := by omega
      have hR : Rd w 1 (some ⟨b', o' + i, none⟩) part.length (((words.drop i).take part.length).map Value.string) := ⟨by simp; omega, fun _ => ⟨b', o' + i, rfl, hb', fun j u hu => by
        have hj : j < part.length := by have := (List.getElem?_eq_some_iff.1 hu).1; simp at this; omega
        rw [List.getElem?_map, List.getElem?_take_of_lt hj, List.getElem?_drop] at hu
        rw [Nat.add_assoc]
        exact hc' (i + j) u (by rw [List.getElem?_map]; exact hu)⟩⟩
      have HE := Lib.hid (fun c c' => eqStr A (some ⟨b', o' + i, none⟩) part.length part.length c c' part ((words.drop i).take part.length) rfl (by simp; omega) w hr hR (by omega))
      clear hR hc'
      generalize decide (part = (words.drop i).take part.length) = bb at *
      go_enter Tryz.func76, Tryz.ntmps76
      go_wp2_with (go_at_call 35; refine (HE.out _ _).mono ?_; rintro e w' ⟨rfl, hn⟩)
      go_ret
      exact ⟨rfl, hn⟩
    · obtain rfl : part = [] := List.eq_nil_of_length_eq_zero (by omega)
      rw [show decide (([] : List ByteArray) = (words.drop i).take ([] : List ByteArray).length) = true by simp]
      have HE := Lib.hid (fun (a1 a2 : Option Addr) (c d : Nat) (w : World) => Tryz.slices_Equal_string_empty a1 a2 c 0 d w (by omega))
      simp only [List.length_nil, Int.natCast_zero, Int.add_zero, Nat.add_zero] at *
      cases A' with
      | none =>
        go_enter Tryz.func76, Tryz.ntmps76
        go_wp2_with (go_at_call 35; refine (HE.out _ _ _ _ _).mono ?_; rintro e w' ⟨rfl, rfl⟩)
        all_goals (go_ret; exact ⟨rfl, New.refl _⟩)
      | some ad =>
        go_enter Tryz.func76, Tryz.ntmps76
        go_wp2_with (go_at_call 35; refine (HE.out _ _ _ _ _).mono ?_; rintro e w' ⟨rfl, rfl⟩)
        all_goals (go_ret; exact ⟨rfl, New.refl _⟩)
  · have hv : standsV part words i = false := by rw [standsV, decide_eq_false hle, Bool.false_and]
    rw [hv]
    have t1 : decide ((i : Int) + (part.length : Int) ≤ (words.length : Int)) = false := decide_eq_false (by omega)
    have t2 : ¬ (i : Int) + (part.length : Int) ≤ (words.length : Int) := by omega
    clear hv
    go_enter Tryz.func76, Tryz.ntmps76
    go_wp2
    go_ret
    exact ⟨rfl, New.refl _⟩
end Go.Proofs.YtpoelhnceebmkaaGreatDoor

