/- template.Words: the words of a text, with their lines. No conditions but the text's length. -/
import Derived.Test.YtpoelhnceebmkaaGreatDoorB
import Derived.Test.YtpoelhnceebmkaaGreatDoorTail
import Derived.Maps.AppendAt
import Derived.RegionIn
import Derived.Laws.AppendOwn
namespace Go.Proofs.YtpoelhnceebmkaaGreatDoor
open Go Go.RowKit Go.Shelf
set_option linter.unusedSimpArgs false
set_option linter.unusedVariables false
attribute [local go_sem] Oper.semAt_some

/-! ### places rise -/
def Inc (hi : Nat) : Nat → List (Nat × List UInt8) → Prop
  | _, [] => True
  | lo, x :: r => lo ≤ x.1 ∧ x.1 ≤ hi ∧ Inc hi x.1 r
theorem Inc.low {hi : Nat} : ∀ {l : List (Nat × List UInt8)} {lo lo' : Nat}, lo' ≤ lo → Inc hi lo l → Inc hi lo' l
  | [], _, _, _, _ => trivial
  | _ :: _, _, _, h, h2 => ⟨Nat.le_trans h h2.1, h2.2.1, h2.2.2⟩
theorem spF_inc (hi : Nat) : ∀ (l : List UInt8) (i f lo : Nat) (cur : List UInt8), (cur ≠ [] → lo ≤ f ∧ f ≤ i) → lo ≤ i → i + l.length ≤ hi → Inc hi lo (spF i f cur l)
  | [], i, f, lo, cur, hc, hl, hh => by
    rw [spF]
    split
    · trivial
    · rename_i h
      have := hc h
      exact ⟨this.1, by simp at hh; omega, trivial⟩
  | c :: r, i, f, lo, cur, hc, hl, hh => by
    rw [List.length_cons] at hh
    rw [spF]
    split
    · have ih := fun lo' h => spF_inc hi r (i + 1) f lo' [] (fun h => absurd rfl h) h (by omega)
      split
      · exact ih lo (by omega)
      · rename_i h
        have := hc h
        exact ⟨this.1, by omega, ih f (by omega)⟩
    · refine spF_inc hi r (i + 1) _ lo _ (fun _ => ?_) (by omega) (by omega)
      split
      · omega
      · rename_i h
        have := hc h
        omega
theorem spans_inc (s : ByteArray) : Inc s.size 0 (spansV s) := spF_inc s.size _ 0 0 0 [] (fun h => absurd rfl h) (Nat.le_refl _) (by rw [← size_eq]; omega)
def lastF (lo : Nat) : List (Nat × List UInt8) → Nat
  | [] => lo
  | x :: r => lastF x.1 r
theorem lastF_snoc (x : Nat × List UInt8) : ∀ (pre : List (Nat × List UInt8)) (lo : Nat), lastF lo (pre ++ [x]) = x.1
  | [], _ => rfl
  | y :: r, _ => lastF_snoc x r y.1
theorem inc_next {hi : Nat} {x : Nat × List UInt8} {r : List (Nat × List UInt8)} : ∀ {pre : List (Nat × List UInt8)} {lo : Nat}, Inc hi lo (pre ++ [x] ++ r) → lastF lo pre ≤ x.1 ∧ x.1 ≤ hi
  | [], lo, h => ⟨h.1, h.2.1⟩
  | y :: pre, lo, h => inc_next (pre := pre) h.2.2
theorem prefix_next {s : ByteArray} {pre : List (Nat × List UInt8)} {x : Nat × List UInt8} (h : (pre ++ [x]) <+: spansV s) : lastF 0 pre ≤ x.1 ∧ x.1 ≤ s.size := by
  obtain ⟨r, hr⟩ := h
  exact inc_next (r := r) (by rw [hr]; exact spans_inc s)
theorem spF_len : ∀ (l : List UInt8) (i f : Nat) (cur : List UInt8), (spF i f cur l).length ≤ l.length + (if cur = [] then 0 else 1)
  | [], i, f, cur => by rw [spF]; split <;> simp
  | c :: r, i, f, cur => by
    rw [spF]
    split
    · have ih := spF_len r (i + 1) f []
      rw [if_pos rfl] at ih
      rw [List.length_append, List.length_cons]
      by_cases hc : cur = []
      · rw [if_pos hc, if_pos hc]; simp; omega
      · rw [if_neg hc, if_neg hc]; simp; omega
    · have ih := spF_len r (i + 1) (if cur = [] then i else f) (cur ++ [sm c])
      have e : (if cur ++ [sm c] = [] then 0 else 1) = 1 := if_neg (by simp)
      rw [e] at ih
      rw [List.length_cons]; omega
theorem spans_len (s : ByteArray) : (spansV s).length ≤ s.size := by
  have := spF_len s.data.toList 0 0 []
  rw [if_pos rfl] at this
  rw [size_eq]; exact this
/-- How many lines end ahead of a place. -/
def lns (s : ByteArray) (i : Nat) : Nat := (s.data.toList.take i).count 10
theorem lns_step (s : ByteArray) {a b : Nat} (h : a ≤ b) (hb : b ≤ s.size) : lns s a + Lib.countByte (s.extract a b).data.toList 10 = lns s b := by
  have e1 : (s.extract a b).data.toList = (s.data.toList.drop a).take (b - a) := by rw [extract_S]; rfl
  have e2 : s.data.toList.take b = s.data.toList.take a ++ (s.data.toList.drop a).take (b - a) := by
    rw [← List.take_append_drop a (s.data.toList.take b), List.take_take, Nat.min_eq_left h, List.drop_take]
  rw [e1, lns, lns, e2, List.count_append]
  rfl
/-- The words of a text, with their lines. -/
abbrev Tw := ByteArray × Nat
def twOf (s : ByteArray) (x : Nat × List UInt8) : Tw := (S x.2, lns s x.1)
def wordsT (s : ByteArray) : List Tw := (spansV s).map (twOf s)
def twCells (l : List Tw) : List Value := l.flatMap fun x => [.string x.1, .int .i64 x.2]
theorem twCells_app (l l' : List Tw) : twCells (l ++ l') = twCells l ++ twCells l' := by simp [twCells]
theorem twCells_len (l : List Tw) : (twCells l).length = l.length * 2 := by
  induction l with
  | nil => rfl
  | cons x l ih => simp [twCells] at ih ⊢; omega
theorem Tryz.info74 : (Tryz.prog.info? 74).map (fun i => (i.zero, i.size, i.bytes)) = some (some (.agg #[.string ⟨#[]⟩, .int .i64 0]), 2, 24) := by kernel_rfl

theorem spans_any (s : ByteArray) (w : World) : Calls Tryz.prog 37 #[.string s] w fun e w' => e = .returned (.func (.func 58) #[] #[.pointer (some ⟨w.heap.size, 0, none⟩)]) ∧ w' = w.alloc (.cells #[.string s] 9) := by
  go_enter Tryz.func37, Tryz.ntmps37
  go_wp2
  go_ret
  exact ⟨rfl, rfl⟩

/-- Between two rounds: 'pre' has come. -/
structure InvT (s : ByteArray) (M : Nat) (w1 : World) (pre : List (Nat × List UInt8)) (W : World) : Prop where
  low : Below M w1 W
  size : M + 5 ≤ W.heap.size
  txt : ∃ v, Blk W (M + 1) 60 #[v] ∧ W.ownsRow (M + 5) 74 2 v pre.length (twCells (pre.map (twOf s)))
  line : Blk W (M + 2) 3 #[.int .i64 (lns s (lastF 0 pre) : Nat)]
  at_ : Blk W (M + 3) 3 #[.int .i64 (lastF 0 pre : Nat)]
  src : Blk W M 9 #[.string s]
theorem blk_kind {W W' : World} {g B : Nat} {t t' : TypeId} {cs : Array Value} {row : Option Nat} (h : Blk W g t cs) (hg : W.grownBy W' row) (hr : ∀ r, row = some r → B ≤ r ∧ ∃ c fz, W.heap[r]? = some (.cells c t' fz)) (ht : t ≠ t') : Blk W' g t cs :=
  h.grown hg (fun e => by
    obtain ⟨_, c, fz, h2⟩ := hr g e.symm
    unfold Blk at h
    rw [h] at h2
    injection h2 with h2
    injection h2 with _ h3
    exact ht h3)
theorem own_kind' {W W' : World} {base size n B : Nat} {e t' : TypeId} {v : Value} {xs : List Value} {row : Option Nat} (h : W.ownsRow base e size v n xs) (hg : W.grownBy W' row) (hr : ∀ r, row = some r → B ≤ r ∧ ∃ c fz, W.heap[r]? = some (.cells c t' fz)) (ht : e ≠ t') : W'.ownsRow base e size v n xs := by
  refine h.kept hg ?_
  rcases h.2 with ⟨rfl, _⟩ | ⟨g, cap, cur, rfl, _, hh, _⟩
  · exact .inl rfl
  · refine .inr (fun e2 => ?_)
    obtain ⟨_, c, fz, h2⟩ := hr g (by rw [← e2]; rfl)
    rw [hh] at h2
    injection h2 with h2
    injection h2 with _ h3
    exact ht h3
theorem own_others {W W' : World} {base size n : Nat} {e : TypeId} {v : Value} {xs : List Value} {row : Option Nat} (h : W.ownsRow base e size v n xs) (hg : W.grownBy W' row) (hc : ∀ r, row = some r → ∃ o : Obj, W.heap[r]? = some o ∧ (∀ c e f, o ≠ .cells c e f)) : W'.ownsRow base e size v n xs := by
  refine h.kept hg ?_
  rcases h.2 with ⟨rfl, _⟩ | ⟨g, cap, cur, rfl, _, hh, _⟩
  · exact .inl rfl
  · refine .inr (fun e => ?_)
    obtain ⟨o, ho, hn⟩ := hc g (by rw [← e]; rfl)
    rw [hh] at ho
    exact hn _ _ _ (Option.some.inj ho).symm
theorem InvT.own {s : ByteArray} {M B : Nat} {w2 : World} (hM : M ≤ w2.heap.size) (hB : M ≤ B) : OwnFrom B (InvT s M w2) := by
  intro pre W W' row hs hg hr
  have hc : ∀ r, row = some r → ∃ o : Obj, W.heap[r]? = some o ∧ (∀ c e f, o ≠ .cells c e f) := fun r e => by
    obtain ⟨_, o, ho, hn⟩ := hr r e
    exact ⟨o, ho, fun c e f h => by subst h; simp [Obj.isCells] at hn⟩
  obtain ⟨v, hv, hw⟩ := hs.txt
  exact ⟨hs.low.grown hg (Nat.le_trans hM hs.low.size) (fun k e => Nat.le_trans hB (hr k e).1), Nat.le_trans hs.size hg.size, ⟨v, hv.others hg hc, own_others hw hg hc⟩, hs.line.others hg hc, hs.at_.others hg hc, hs.src.others hg hc⟩
theorem InvT.ownT {s : ByteArray} {M B : Nat} {w2 : World} (hM : M ≤ w2.heap.size) (hB : M ≤ B) : AbidesT 21 B (InvT s M w2) := by
  intro pre W W' row hs hg hr
  obtain ⟨v, hv, hw⟩ := hs.txt
  exact ⟨hs.low.grown hg (Nat.le_trans hM hs.low.size) (fun k e => Nat.le_trans hB (hr k e).1), Nat.le_trans hs.size hg.size, ⟨v, blk_kind hv hg hr (by decide), own_kind' hw hg hr (by decide)⟩, blk_kind hs.line hg hr (by decide), blk_kind hs.at_ hg hr (by decide), blk_kind hs.src hg hr (by decide)⟩

theorem new_putObj {w W : World} {D : Nat} {o : Obj} (h : New w W) (hD : w.heap.size ≤ D) : New w (W.putObj D o) :=
  Below.grown h (grownBy_putObj' W D o) h.size (fun k e => by cases e; exact hD)
theorem own_putObj {W : World} {D : Nat} {o : Obj} {base size n : Nat} {e : TypeId} {v : Value} {xs : List Value} (h : W.ownsRow base e size v n xs) (hD : W.heap[D]? = some (.deferred (some []))) : (W.putObj D o).ownsRow base e size v n xs := by
  refine h.kept (grownBy_putObj' W D o) ?_
  rcases h.2 with ⟨rfl, _⟩ | ⟨g, cap, cur, rfl, _, hh, _⟩
  · exact .inl rfl
  · refine .inr (fun e => ?_)
    have : g = D := by simpa [Value.ownBlock] using e
    subst this
    rw [hD] at hh
    cases hh
theorem blk_apart {W : World} {g b s n : Nat} {t e : TypeId} {v : Value} {cs : Array Value} {xs : List Value} (h : Blk W g t cs) (h' : W.ownsRow b e s v n xs) (he : t ≠ e) : some g ≠ v.ownBlock := by
  rcases h'.2 with ⟨rfl, _⟩ | ⟨g', cap', cur', rfl, _, hh', _⟩
  · simp [Value.ownBlock]
  · intro e1
    have : g = g' := by simpa [Value.ownBlock] using e1
    subst this
    unfold Blk at h
    rw [h] at hh'
    injection hh' with hh'
    injection hh' with _ h2
    exact he h2
theorem cell_two_at (w : World) (g : Nat) (hg : g = w.heap.size) (a b : Value) (t : TypeId) : ∀ j u, [a, b][j]? = some u → (w.alloc (.cells #[a, b] t)).cell? ((⟨g, 0, none⟩ : Addr).add j) = some u := by
  subst hg
  intro j u hu
  rw [add_none rfl, Nat.zero_add]
  exact ((Blk.made w t #[a, b]).cell j).trans (by simpa using hu)
set_option maxRecDepth 100000 in
set_option maxHeartbeats 4000000 in
theorem words_any (s : ByteArray) (w : World) (hs : s.size ≤ 100000) :
    Calls Tryz.prog 32 #[.string s] w fun e w' => ∃ v, e = .returned v ∧ w'.ownsRow (w.heap.size + 5) 74 2 v (wordsT s).length (twCells (wordsT s)) ∧ New w w' := by
  refine (callsIn_wide (n := 9)).1 (callsIn_of_wp_marks Tryz.func32 rfl trivial ?_ rfl)
  simp only [Tryz.ntmps32, List.size_toArray, List.length_cons, List.length_nil, Nat.reduceAdd, Nat.reduceSub, Array.replicate_succ, Array.replicate_zero, List.push_toArray, List.append_toArray, List.nil_append, List.cons_append]
  gi_wp2_with (first | (refine ⟨trivial, ?_⟩; gi_at_call 37; refine (callsIn_wide.2 (spans_any s _)).mono ?_; rintro e w3 ⟨rfl, rfl⟩))
  obtain ⟨wS, hwS⟩ : ∃ x, x = ((((w.alloc (.cells #[.string s] 9)).alloc (.cells #[.slice none 0 0] 60)).alloc (.cells #[.int .i64 0] 3)).alloc (.cells #[.int .i64 0] 3)).alloc (.cells #[.string s] 9) := ⟨_, rfl⟩
  rw [← hwS]
  have hwz : wS.heap.size = w.heap.size + 5 := by rw [hwS]; simp
  have hlow : Below w.heap.size w wS := by rw [hwS]; exact (((((New.refl w).alloc _).alloc _).alloc _).alloc _).alloc _
  have b0 : Blk wS w.heap.size 9 #[.string s] := by rw [hwS]; exact ((((Blk.made w _ _).alloc _).alloc _).alloc _).alloc _
  have b1 : Blk wS (w.heap.size + 1) 60 #[.slice none 0 0] := by rw [hwS]; have := Blk.made (w.alloc (.cells #[.string s] 9)) 60 #[.slice none 0 0]; rw [World.size_alloc] at this; exact ((this.alloc _).alloc _).alloc _
  have b2 : Blk wS (w.heap.size + 2) 3 #[.int .i64 0] := by rw [hwS]; have := Blk.made ((w.alloc (.cells #[.string s] 9)).alloc (.cells #[.slice none 0 0] 60)) 3 #[.int .i64 0]; simp only [World.size_alloc] at this; exact (this.alloc _).alloc _
  have b3 : Blk wS (w.heap.size + 3) 3 #[.int .i64 0] := by rw [hwS]; have := Blk.made (((w.alloc (.cells #[.string s] 9)).alloc (.cells #[.slice none 0 0] 60)).alloc (.cells #[.int .i64 0] 3)) 3 #[.int .i64 0]; simp only [World.size_alloc] at this; exact this.alloc _
  have b4 : Blk wS (w.heap.size + 4) 9 #[.string s] := by rw [hwS]; have := Blk.made ((((w.alloc (.cells #[.string s] 9)).alloc (.cells #[.slice none 0 0] 60)).alloc (.cells #[.int .i64 0] 3)).alloc (.cells #[.int .i64 0] 3)) 9 #[.string s]; simp only [World.size_alloc] at this; exact this
  have hiter := spans_iter 8 s (w.heap.size + 4) wS (by omega) (by omega) (b4.cell' 0 _ rfl)
  have hsl := spans_len s
  clear hwS b4
  apply wpIn_rangeFunc_T (gf := 58) (lb := #[.pointer (some ⟨w.heap.size + 4, 0, none⟩)]) rfl (enters_of Tryz.func58 (by kernel_rfl) rfl) hiter (New.refl _) (by omega) (fun x => rfl)
    (InvT s w.heap.size w) (InvT.own (Nat.le_refl _) (by omega)) (InvT.ownT (Nat.le_refl _) (by omega))
    ⟨hlow, by omega, ⟨_, b1, World.ownsRow_nil _ _ _ _⟩, b2, b3, b0⟩
  case hassign =>
    intro l x W K hK
    simp only [spEnc]
    gi_wp2
    exact hK
  case hbody =>
    intro l pre x W hpx hI
    obtain ⟨low, hsz, ⟨v, bt, own⟩, bline, bat, bsrc⟩ := hI
    obtain ⟨hx1, hx2⟩ := prefix_next hpx
    have hpl : pre.length + 1 ≤ s.size := by
      have := hpx.length_le
      rw [List.length_append, List.length_singleton] at this
      omega
    have hln := lns_step s hx1 hx2
    obtain ⟨at0, hat⟩ : ∃ a, lastF 0 pre = a := ⟨_, rfl⟩
    rw [hat] at bline bat hln hx1
    have hcc := fun W => Tryz.strings_Count_one (s.extract at0 x.1) 10 W
    obtain ⟨cnt, hcnt⟩ : ∃ c, Lib.countByte (s.extract at0 x.1).data.toList 10 = c := ⟨_, rfl⟩
    rw [hcnt] at hcc hln
    have hlx : lns s x.1 ≤ 100000 := by
      have h1 : lns s x.1 ≤ (s.data.toList.take x.1).length := List.count_le_length
      rw [List.length_take, ← size_eq] at h1
      omega
    have hw1 : IntKind.i64.wrap ((lns s at0 : Int) + (cnt : Int)) = (lns s x.1 : Int) := by rw [IntWalk.i64_in _ (by omega)]; omega
    gi_wp2
    refine wpIn_region_tail 7 (by kernel_rfl) (by kernel_rfl) (by kernel_rfl) ?_
    simp only [List.take_succ_cons, List.take_zero, List.drop_succ_cons, List.drop_zero]
    have c2 : W.drew.cell? ⟨w.heap.size + 1 + 1, 0, none⟩ = some (.int .i64 (lns s at0 : Nat)) := bline.cell' 0 _ rfl
    have c0 : W.drew.cell? ⟨w.heap.size, 0, none⟩ = some (.string s) := bsrc.cell' 0 _ rfl
    have c3 : W.drew.cell? ⟨w.heap.size + 1 + 1 + 1, 0, none⟩ = some (.int .i64 (at0 : Nat)) := bat.cell' 0 _ rfl
    still_step
    still_step
    still_step
    still_step
    still_step
    refine wpStill_step (fun K hK => ?_)
    go_simp
    refine ⟨_, hcc W.drew, hK _ ?_⟩
    clear hK K
    have f2 : W.drew.frozen? ⟨w.heap.size + 1 + 1, 0, none⟩ = false := bline.free 0
    still_step
    refine wpStill_nil ?_
    go_wp2
    rw [noOut_normal]
    have KO1 : KeepsOthers W (W.setCell ⟨w.heap.size + 1 + 1, 0, none⟩ (.int .i64 (lns s x.1 : Nat))).drew := (KeepsOthers.setCell _ _ _).trans (KeepsOthers.drew _)
    have KT1 : KpT (w.heap.size + 4) (w.heap.size + 4 + 1) W (W.setCell ⟨w.heap.size + 1 + 1, 0, none⟩ (.int .i64 (lns s x.1 : Nat))).drew := ⟨fun k h1 h2 => Below.heap_setCell W ⟨w.heap.size + 1 + 1, 0, none⟩ _ k (by show k ≠ w.heap.size + 1 + 1; omega), by simp [World.setCell]⟩
    have low1 : Below w.heap.size w (W.setCell ⟨w.heap.size + 1 + 1, 0, none⟩ (.int .i64 (lns s x.1 : Nat))).drew := (low.setCell (p := ⟨w.heap.size + 1 + 1, 0, none⟩) (by show w.heap.size ≤ w.heap.size + 1 + 1; omega) _).drew
    have bt1 : Blk (W.setCell ⟨w.heap.size + 1 + 1, 0, none⟩ (.int .i64 (lns s x.1 : Nat))).drew (w.heap.size + 1) 60 #[v] := (bt.far (by show w.heap.size + 1 ≠ w.heap.size + 1 + 1; omega) _).drew
    have bl1 : Blk (W.setCell ⟨w.heap.size + 1 + 1, 0, none⟩ (.int .i64 (lns s x.1 : Nat))).drew (w.heap.size + 2) 3 #[.int .i64 (lns s x.1 : Nat)] := ((bline.put 0 _).same (by simp)).drew
    have ba1 : Blk (W.setCell ⟨w.heap.size + 1 + 1, 0, none⟩ (.int .i64 (lns s x.1 : Nat))).drew (w.heap.size + 3) 3 #[.int .i64 at0] := (bat.far (by show w.heap.size + 3 ≠ w.heap.size + 1 + 1; omega) _).drew
    have bs1 : Blk (W.setCell ⟨w.heap.size + 1 + 1, 0, none⟩ (.int .i64 (lns s x.1 : Nat))).drew w.heap.size 9 #[.string s] := (bsrc.far (by show w.heap.size ≠ w.heap.size + 1 + 1; omega) _).drew
    have ow1 : (W.setCell ⟨w.heap.size + 1 + 1, 0, none⟩ (.int .i64 (lns s x.1 : Nat))).drew.ownsRow (w.heap.size + 5) 74 2 v pre.length (twCells (pre.map (twOf s))) := (ownsRow_setCell_below own (a := ⟨w.heap.size + 1 + 1, 0, none⟩) (by show w.heap.size + 1 + 1 < _; omega) _).drew
    have sz1 : w.heap.size + 5 ≤ (W.setCell ⟨w.heap.size + 1 + 1, 0, none⟩ (.int .i64 (lns s x.1 : Nat))).drew.heap.size := by simpa [World.setCell] using hsz
    generalize (W.setCell ⟨w.heap.size + 1 + 1, 0, none⟩ (.int .i64 (lns s x.1 : Nat))).drew = Wa at *
    clear c0 c2 c3 f2
    have KO2 := KO1.trans (KeepsOthers.setCell Wa ⟨w.heap.size + 1 + 1 + 1, 0, none⟩ (.int .i64 (x.1 : Nat)))
    have KT2 : KpT (w.heap.size + 4) (w.heap.size + 4 + 1) W (Wa.setCell ⟨w.heap.size + 1 + 1 + 1, 0, none⟩ (.int .i64 (x.1 : Nat))) := KT1.trans ⟨fun k h1 h2 => Below.heap_setCell Wa ⟨w.heap.size + 1 + 1 + 1, 0, none⟩ _ k (by show k ≠ w.heap.size + 1 + 1 + 1; omega), by simp [World.setCell]⟩
    have low2 : Below w.heap.size w (Wa.setCell ⟨w.heap.size + 1 + 1 + 1, 0, none⟩ (.int .i64 (x.1 : Nat))) := low1.setCell (p := ⟨w.heap.size + 1 + 1 + 1, 0, none⟩) (by show w.heap.size ≤ w.heap.size + 1 + 1 + 1; omega) _
    have bt2 := bt1.far (p := ⟨w.heap.size + 1 + 1 + 1, 0, none⟩) (by show w.heap.size + 1 ≠ w.heap.size + 1 + 1 + 1; omega) (.int .i64 (x.1 : Nat))
    have bl2 := bl1.far (p := ⟨w.heap.size + 1 + 1 + 1, 0, none⟩) (by show w.heap.size + 2 ≠ w.heap.size + 1 + 1 + 1; omega) (.int .i64 (x.1 : Nat))
    have bs2 := bs1.far (p := ⟨w.heap.size + 1 + 1 + 1, 0, none⟩) (by show w.heap.size ≠ w.heap.size + 1 + 1 + 1; omega) (.int .i64 (x.1 : Nat))
    have ba2 : Blk (Wa.setCell ⟨w.heap.size + 1 + 1 + 1, 0, none⟩ (.int .i64 (x.1 : Nat))) (w.heap.size + 3) 3 #[.int .i64 (x.1 : Nat)] := (ba1.put 0 _).same (by simp)
    have ow2 := ownsRow_setCell_below ow1 (a := ⟨w.heap.size + 1 + 1 + 1, 0, none⟩) (by show w.heap.size + 1 + 1 + 1 < _; omega) (.int .i64 (x.1 : Nat))
    have sz2 : w.heap.size + 5 ≤ (Wa.setCell ⟨w.heap.size + 1 + 1 + 1, 0, none⟩ (.int .i64 (x.1 : Nat))).heap.size := by simpa [World.setCell] using sz1
    have d1 := bt2.cell' 0 _ rfl
    have d2 := bl2.cell' 0 _ rfl
    have d4 : Wa.frozen? ⟨w.heap.size + 1 + 1 + 1, 0, none⟩ = false := ba1.free 0
    have d3 : Wa.cell? ⟨w.heap.size + 1 + 1 + 1, 0, none⟩ = some (.int .i64 at0) := ba1.cell' 0 _ rfl
    obtain ⟨i0, hi, hz0, hz1, hz2⟩ := info_parts Tryz.info74
    gi_wp2_with (gi_at_builtin; refine wpListIn_append_own _ rfl _ _ 60 rfl (w.heap.size + 5) 74 i0 (.agg #[.string ⟨#[]⟩, .int .i64 0]) 2 24 Tryz.underlying60 hi hz0 hz1 hz2 rfl (by decide) _ _ _ rfl (ow2.alloc _) ⟨Wa.heap.size, 0, none⟩ 1 1 [.string (S x.2), .int .i64 (lns s x.1 : Nat)] rfl rfl ?c1 ?c2 ?c3 ?c4 ?c5 ?_)
    case c1 => exact cell_two_at _ _ (by simp [World.setCell]) _ _ _
    case c2 => simp [Value.oneCell']
    case c3 => simp [maxLen]; omega
    case c4 => omega
    case c5 => simp [World.setCell] at sz2 ⊢; omega
    intro v' w2 hown2 hg2 _
    obtain ⟨A', c', rfl, _, _, _⟩ := own_form hown2
    have hlow := ow2.lt
    have bt3 : Blk w2 (w.heap.size + 1) 60 #[v] := (bt2.alloc _).grown hg2 (blk_apart bt2 ow2 (by decide))
    have bl3 : Blk w2 (w.heap.size + 2) 3 #[.int .i64 (lns s x.1 : Nat)] := (bl2.alloc _).grown hg2 (blk_apart bl2 ow2 (by decide))
    have ba3 : Blk w2 (w.heap.size + 3) 3 #[.int .i64 (x.1 : Nat)] := (ba2.alloc _).grown hg2 (blk_apart ba2 ow2 (by decide))
    have bs3 : Blk w2 w.heap.size 9 #[.string s] := (bs2.alloc _).grown hg2 (blk_apart bs2 ow2 (by decide))
    have e1 : w2.cell? ⟨w.heap.size + 1, 0, none⟩ = some v := bt3.cell' 0 _ rfl
    have e2 : w2.frozen? ⟨w.heap.size + 1, 0, none⟩ = false := bt3.free 0
    have hrow : ∀ g, v.ownBlock = some g → ∃ cs, (Wa.setCell ⟨w.heap.size + 1 + 1 + 1, 0, none⟩ (.int .i64 (x.1 : Nat))).heap[g]? = some (.cells cs 74 (0, 0)) := fun g e => by
      rcases ow2.2 with ⟨rfl, _⟩ | ⟨g', cap, cur, rfl, _, hh, _⟩
      · simp [Value.ownBlock] at e
      · have : g' = g := by simpa [Value.ownBlock] using e
        subst this
        exact ⟨_, hh⟩
    have KO3 : KeepsOthers W w2 := (KO2.trans (KeepsOthers.alloc _ _)).trans (KeepsOthers.of_grownBy hg2 fun g o' e ho => by
      obtain ⟨cs, hcs⟩ := hrow g e
      have := (Below.heap_alloc _ (.cells #[.string (S x.2), .int .i64 (lns s x.1 : Nat)] 74) g (Array.getElem?_eq_some_iff.1 hcs).1).trans hcs
      rw [this] at ho
      cases ho; rfl)
    have KT3 : KpT (w.heap.size + 4) (w.heap.size + 4 + 1) W w2 := KT2.trans ⟨fun k h1 h2 => by
      refine (hg2.block k (by rw [World.size_alloc]; omega) (fun e => by have := (hlow k e.symm).1; omega)).trans (Below.heap_alloc _ _ k (by omega)), by have := hg2.size; rw [World.size_alloc] at this; omega⟩
    have low3 : Below w.heap.size w w2 := (low2.alloc (by omega) _).grown hg2 (by rw [World.size_alloc]; omega) (fun g e => by have := (hlow g e).1; omega)
    have sz3 : w.heap.size + 5 ≤ w2.heap.size := by have := hg2.size; rw [World.size_alloc] at this; omega
    gi_wp2
    refine ⟨KO3.trans (KeepsOthers.setCell _ _ _), KT3.trans ⟨fun k h1 h2 => Below.heap_setCell w2 ⟨w.heap.size + 1, 0, none⟩ _ k (by show k ≠ w.heap.size + 1; omega), by simp [World.setCell]⟩, ?_⟩
    refine ⟨low3.setCell (p := ⟨w.heap.size + 1, 0, none⟩) (by show w.heap.size ≤ w.heap.size + 1; omega) _, by simpa [World.setCell] using sz3, ⟨.slice A' (pre.length + 1) c', (bt3.put 0 (.slice A' (pre.length + 1) c')).same (by simp), ?_⟩, ?_, ?_, bs3.far (by show w.heap.size ≠ w.heap.size + 1; omega) _⟩
    · refine ownsRow_setCell_below (own_to hown2 (by simp) ?_) (by show w.heap.size + 1 < _; omega) _
      rw [List.map_append, List.map_cons, List.map_nil, twCells_app]; rfl
    · rw [lastF_snoc]; exact bl3.far (by show w.heap.size + 2 ≠ w.heap.size + 1; omega) _
    · rw [lastF_snoc]; exact ba3.far (by show w.heap.size + 3 ≠ w.heap.size + 1; omega) _
  case hdone =>
    intro D W hD hI hk
    obtain ⟨low, hsz, ⟨v, bt, own⟩, bline, bat, bsrc⟩ := hI
    have e1 : W.cell? ⟨w.heap.size + 1, 0, none⟩ = some v := bt.cell' 0 _ rfl
    have hwW : New w W := low
    have hDz : D < W.heap.size := (Array.getElem?_eq_some_iff.1 hk).1
    have hlen : (spansV s).length = (wordsT s).length := by rw [wordsT, List.length_map]
    obtain ⟨nn, hnn⟩ : ∃ n, (wordsT s).length = n := ⟨_, rfl⟩
    rw [hlen, hnn] at own
    have HNN := Lib.hid hnn
    clear hlen hnn
    rw [show (spansV s).map (twOf s) = wordsT s from rfl] at own
    obtain ⟨A', c', rfl, _, _, _⟩ := own_form own
    gi_wp2
    refine ⟨by simp, .inl ⟨_, _, rfl, run_takeDeferred hk, ?_⟩⟩
    exact ⟨.slice A' nn c', by simp [results, Tryz.results32, go_sem], _, rfl, own_to (own_putObj own hk) HNN.out.symm rfl, new_putObj hwW (by omega)⟩
end Go.Proofs.YtpoelhnceebmkaaGreatDoor
