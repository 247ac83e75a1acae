/- normalize.Words where the path and the sizes are right. -/
import Derived.Test.YtlecocmopeainaaDoorW
import Derived.Test.YtlecocmopeainaaDoorTail
import Derived.Maps.AppendAt
import Derived.RegionIn
set_option linter.unusedSimpArgs false
namespace Go.Proofs.YtlecocmopeainaaDoor
open Go Go.RowKit Go.Joins Go.Shelf
attribute [local go_sem] Oper.semAt_some

theorem splitSeq_any (s : ByteArray) (w : World) : Calls Tryd.prog 39 #[.string s, .string ⟨#[10]⟩] w fun e w' =>
    e = .returned (.func (.func 102) #[] #[.pointer (some ⟨w.heap.size + 1, 0, none⟩), .pointer (some ⟨w.heap.size, 0, none⟩), .pointer (some ⟨w.heap.size + 2, 0, none⟩)]) ∧
    w' = ((w.alloc (.cells #[.string s] 9)).alloc (.cells #[.string ⟨#[10]⟩] 9)).alloc (.cells #[.int .i64 0] 3) := by
  go_enter Tryd.func39, Tryd.ntmps39
  go_wp2
  go_ret
  exact ⟨rfl, rfl⟩

theorem cell_putObj {W : World} {D : Nat} {o : Obj} {b k : Nat} {u : Option Value} (hb : b ≠ D) (h : W.cell? ⟨b, k, none⟩ = u) : (W.putObj D o).cell? ⟨b, k, none⟩ = u :=
  (World.cell?_of_block (a := ⟨b, k, none⟩) (World.putObj_heap_other hb)).trans h
theorem new_putObj {w W : World} {D : Nat} {o : Obj} (h : New w W) (hD : w.heap.size ≤ D) : New w (W.putObj D o) :=
  Below.grown h (grownBy_putObj' W D o) h.size (fun k e => by cases e; exact hD)
theorem own_putObj {W : World} {D : Nat} {o : Obj} {base size n : Nat} {e : TypeId} {v : Value} {xs : List Value} (h : W.ownsRow base e size v n xs) (hD : W.heap[D]? = some (.deferred (some []))) : (W.putObj D o).ownsRow base e size v n xs := by
  refine h.kept (grownBy_putObj' W D o) ?_
  rcases h.2 with ⟨rfl, _⟩ | ⟨g, cap, cur, rfl, _, hh, _⟩
  · exact .inl rfl
  · refine .inr (fun e => ?_)
    have : g = D := by simpa [Value.ownBlock] using e
    subst this
    rw [hD] at hh
    cases hh

/-- What Words leaves. -/
def WPost (a b : Bool) (path data : ByteArray) (w : World) (e : Ending) (w' : World) : Prop :=
  ∃ v, e = .returned (.tuple #[v, .int .i64 (wordsV a b path data).1]) ∧ RText w' v (if (wordsV a b path data).1 = 0 then path else ⟨#[]⟩) (wordsV a b path data).2 ∧ New w w'

/-- Between two rounds: 'pre' has come. -/
structure InvW (a b : Bool) (path : ByteArray) (M : Nat) (w2 : World) (pre : List ByteArray) (W : World) : Prop where
  low : Below M w2 W
  size : M + 6 ≤ W.heap.size
  txt : ∃ v, Blk W M 25 #[.string path, v] ∧ W.ownsRow (M + 6) 33 2 v (wst a b pre).2.2.length (lxCells (wst a b pre).2.2)
  at_ : Blk W (M + 1) 3 #[.int .i64 (pre.length : Nat)]
  skip : Blk W (M + 2) 3 #[.int .i64 ((wst a b pre).2.1 : Nat)]

theorem new_ko {W W' : World} (h : New W W') : KeepsOthers W W' := ⟨h.size, fun k _ hk _ => (h.block k (Array.getElem?_eq_some_iff.1 hk).1).trans hk⟩
theorem KpR.of_new {K1 K2 : Nat} {W W' : World} (h : New W W') (hK : K2 ≤ W.heap.size) : KpR K1 K2 W W' := fun k _ h2 => h.block k (by omega)
theorem KpR.trans {K1 K2 : Nat} {A B C : World} (h : KpR K1 K2 A B) (k : KpR K1 K2 B C) : KpR K1 K2 A C := fun i h1 h2 => (k i h1 h2).trans (h i h1 h2)
theorem KpR.setCell {K1 K2 : Nat} {A B : World} (h : KpR K1 K2 A B) {p : Addr} (hp : p.block < K1 ∨ K2 ≤ p.block) (v : Value) : KpR K1 K2 A (B.setCell p v) :=
  h.trans fun k h1 h2 => Below.heap_setCell B p v k (by omega)
theorem own_new {W W' : World} {base size n : Nat} {e : TypeId} {v : Value} {xs : List Value} (h : W.ownsRow base e size v n xs) (hn : New W W') : W'.ownsRow base e size v n xs :=
  h.kept (hn.grown_ none) (by cases v.ownBlock <;> simp)
theorem InvW.own {a b : Bool} {path : ByteArray} {M B : Nat} {w2 : World} (hM : M ≤ w2.heap.size) (hB : M ≤ B) : OwnFrom B (InvW a b path M w2) := by
  intro pre W W' row hs hg hr
  have hc : ∀ r, row = some r → ∃ o : Obj, W.heap[r]? = some o ∧ (∀ c e f, o ≠ .cells c e f) := fun r e => by
    obtain ⟨_, o, ho, hn⟩ := hr r e
    exact ⟨o, ho, fun c e f h => by subst h; simp [Obj.isCells] at hn⟩
  obtain ⟨v, hv, hw⟩ := hs.txt
  refine ⟨hs.low.grown hg (Nat.le_trans hM hs.low.size) (fun k e => Nat.le_trans hB (hr k e).1), Nat.le_trans hs.size hg.size, ⟨v, hv.others hg hc, hw.kept hg ?_⟩, hs.at_.others hg hc, hs.skip.others hg hc⟩
  rcases hw.2 with ⟨rfl, _⟩ | ⟨g, cap, cur, rfl, _, hh, _⟩
  · exact .inl rfl
  · refine .inr (fun e => ?_)
    obtain ⟨o, ho, hn⟩ := hc g (by rw [← e]; rfl)
    rw [hh] at ho
    exact hn _ _ _ (Option.some.inj ho).symm
theorem InvW.store {a b : Bool} {path : ByteArray} {M : Nat} {w2 W : World} {pre : List ByteArray} (h : InvW a b path M w2 pre W) (v : Value) : InvW a b path M w2 pre (W.setCell ⟨M + 3, 0, none⟩ v) := by
  obtain ⟨u, hu, hw⟩ := h.txt
  exact ⟨h.low.setCell (p := ⟨M + 3, 0, none⟩) (by show M ≤ M + 3; omega) v, by simpa [World.setCell] using h.size, ⟨u, hu.far (by show M ≠ M + 3; omega) v, ownsRow_setCell_below hw (by show M + 3 < M + 6; omega) v⟩, h.at_.far (by show M + 1 ≠ M + 3; omega) v, h.skip.far (by show M + 2 ≠ M + 3; omega) v⟩

/-- Two rows of different element types lie apart. -/
theorem own_apart {W : World} {b b' s s' n n' : Nat} {e e' : TypeId} {v v' : Value} {xs xs' : List Value} (h : W.ownsRow b e s v n xs) (h' : W.ownsRow b' e' s' v' n' xs') (he : e ≠ e') : v.ownBlock = none ∨ v.ownBlock ≠ v'.ownBlock := by
  rcases h.2 with ⟨rfl, _⟩ | ⟨g, cap, cur, rfl, _, hh, _⟩
  · exact .inl rfl
  · right
    rcases h'.2 with ⟨rfl, _⟩ | ⟨g', cap', cur', rfl, _, hh', _⟩
    · simp [Value.ownBlock]
    · intro e1
      have : g = g' := by simpa [Value.ownBlock] using e1
      subst this
      rw [hh] at hh'
      injection hh' with hh'
      injection hh' with _ h2
      exact he h2
theorem blk_apart {W : World} {g b s n : Nat} {t e : TypeId} {v : Value} {cs : Array Value} {xs : List Value} (h : Blk W g t cs) (h' : W.ownsRow b e s v n xs) (he : t ≠ e) : some g ≠ v.ownBlock := by
  rcases h'.2 with ⟨rfl, _⟩ | ⟨g', cap', cur', rfl, _, hh', _⟩
  · simp [Value.ownBlock]
  · intro e1
    have : g = g' := by simpa [Value.ownBlock] using e1
    subst this
    unfold Blk at h
    rw [h] at hh'
    injection hh' with hh'
    injection hh' with _ h2
    exact he h2

/-- While the words of a line are collected: k have been. -/
structure InColl (path : ByteArray) (M : Nat) (w1 W : World) (plen sk : Nat) (acc lexs : List Lx) (ws : List ByteArray) (A : Option Addr) (c : Nat) (k : Nat) (v : Value) (wr : World) : Prop where
  low : Below M w1 wr
  size : W.heap.size ≤ wr.heap.size
  ko : KeepsOthers W wr
  kp : KpR (M + 3) (M + 3 + 3) W wr
  bt : Blk wr M 25 #[.string path, v]
  own : wr.ownsRow (M + 6) 33 2 v (acc.length + k) (lxCells (acc ++ lexs.take k))
  bat : Blk wr (M + 1) 3 #[.int .i64 (plen : Nat)]
  bsk : Blk wr (M + 2) 3 #[.int .i64 (sk : Nat)]
  words : wr.ownsRow W.heap.size 9 1 (.slice A ws.length c) ws.length (ws.map Value.string)

theorem InColl.fin {a b : Bool} {path : ByteArray} {M : Nat} {w1 W wr : World} {pre : List ByteArray} {x : ByteArray} {acc lexs : List Lx} {ws : List ByteArray} {A : Option Addr} {c : Nat} {v : Value}
    (R : InColl path M w1 W pre.length 0 acc lexs ws A c ws.length v wr) (hz : M + 6 ≤ W.heap.size) (hl : lexs.length = ws.length) (hv : Hid (wst a b (pre ++ [x]) = (pre.length + 1, 0, acc ++ lexs))) (u' : Value) (hu' : u' = .int .i64 ((pre.length + 1 : Nat) : Int)) :
    KeepsOthers W (wr.setCell ⟨M + 1, 0, none⟩ u') ∧ KpR (M + 3) (M + 3 + 3) W (wr.setCell ⟨M + 1, 0, none⟩ u') ∧ InvW a b path M w1 (pre ++ [x]) (wr.setCell ⟨M + 1, 0, none⟩ u') := by
  refine ⟨R.ko.trans (KeepsOthers.setCell _ _ _), R.kp.setCell (.inl (by show M + 1 < _; omega)) _, ?_⟩
  refine ⟨R.low.setCell (p := ⟨M + 1, 0, none⟩) (by show M ≤ M + 1; omega) _, ?_, ⟨v, R.bt.far (by show M ≠ M + 1; omega) _, ?_⟩, ?_, ?_⟩
  · have := R.size; simp [World.setCell]; omega
  · have := ownsRow_setCell_below R.own (a := ⟨M + 1, 0, none⟩) (by show M + 1 < M + 6; omega) u'
    rw [hv.out]
    rw [List.take_of_length_le (by omega)] at this
    rw [List.length_append, hl]
    exact this
  · have := R.bat.put 0 u'
    subst hu'
    exact this.same (by simp)
  · have := R.bsk.far (p := ⟨M + 1, 0, none⟩) (by show M + 2 ≠ M + 1; omega) u'
    rw [hv.out]
    exact this
theorem InColl.step {path : ByteArray} {M : Nat} {w1 W wr w2 : World} {plen sk : Nat} {acc lexs : List Lx} {ws : List ByteArray} {A : Option Addr} {c k : Nat} {v v2 : Value} {o : Obj} {y : Lx}
    (R : InColl path M w1 W plen sk acc lexs ws A c k v wr) (hz : M + 6 ≤ W.heap.size) (hk : lexs[k]? = some y) (hg : (wr.alloc o).drew.grownBy w2 v.ownBlock)
    (hown : w2.ownsRow (M + 6) 33 2 v2 (acc.length + k + 1) (lxCells (acc ++ lexs.take k) ++ [.string y.1, .int .i64 (y.2 : Nat)])) :
    InColl path M w1 W plen sk acc lexs ws A c (k + 1) v2 (w2.setCell ⟨M, 1, none⟩ v2) := by
  have hlow2 : Below M w1 w2 := (R.low.alloc (by have := R.size; omega) o).drew.grown hg (by have := R.size; show M ≤ (wr.alloc o).heap.size; simp; omega) (fun g e => by have := (R.own.lt g e).1; omega)
  have hsz2 : wr.heap.size ≤ w2.heap.size := Nat.le_trans (by show wr.heap.size ≤ (wr.alloc o).heap.size; simp) hg.size
  have hrow : ∀ g, v.ownBlock = some g → ∃ cs, wr.heap[g]? = some (.cells cs 33 (0, 0)) := fun g e => by
    rcases R.own.2 with ⟨rfl, _⟩ | ⟨g', cap, cur, rfl, _, hh, _⟩
    · simp [Value.ownBlock] at e
    · have : g' = g := by simpa [Value.ownBlock] using e
      subst this
      exact ⟨_, hh⟩
  refine ⟨hlow2.setCell (p := ⟨M, 1, none⟩) (Nat.le_refl _) _, by have := R.size; simp [World.setCell]; omega, ?_, ?_, ?_, ?_, ?_, ?_, ?_⟩
  · refine (R.ko.trans ?_).trans (KeepsOthers.setCell _ _ _)
    refine ((KeepsOthers.alloc wr o).trans (KeepsOthers.drew _)).trans (KeepsOthers.of_grownBy hg fun g o' e ho => ?_)
    obtain ⟨cs, hcs⟩ := hrow g e
    have : (wr.alloc o).drew.heap[g]? = some (.cells cs 33 (0, 0)) := (Below.heap_alloc wr o g (Array.getElem?_eq_some_iff.1 hcs).1).trans hcs
    rw [this] at ho
    cases ho; rfl
  · refine (R.kp.trans fun g h1 h2 => ?_).setCell (.inl (by show M < _; omega)) _
    have hgs : g < wr.heap.size := by have := R.size; omega
    refine (hg.block g (by show g < (wr.alloc o).heap.size; simp; omega) ?_).trans (Below.heap_alloc wr o g hgs)
    intro e
    have := (R.own.lt g e.symm).1
    omega
  · have hb : Blk w2 M 25 #[.string path, v] := ((R.bt.alloc o).drew).grown hg (blk_apart R.bt R.own (by decide))
    exact (hb.put 1 v2).same (by simp)
  · have e1 : lxCells (acc ++ lexs.take (k + 1)) = lxCells (acc ++ lexs.take k) ++ [.string y.1, .int .i64 (y.2 : Nat)] := by
      obtain ⟨hkl, he⟩ := List.getElem?_eq_some_iff.1 hk
      rw [List.take_succ_eq_append_getElem hkl, ← List.append_assoc, lxCells_app, he]
      rfl
    rw [e1]
    exact ownsRow_setCell_below hown (by show M < M + 6; omega) _
  · exact (((R.bat.alloc o).drew).grown hg (blk_apart R.bat R.own (by decide))).far (by show M + 1 ≠ M; omega) _
  · exact (((R.bsk.alloc o).drew).grown hg (blk_apart R.bsk R.own (by decide))).far (by show M + 2 ≠ M; omega) _
  · have h1 : (wr.alloc o).drew.ownsRow W.heap.size 9 1 (.slice A ws.length c) ws.length (ws.map Value.string) := R.words.alloc o
    have h2 := h1.kept hg (own_apart R.words R.own (by decide))
    exact ownsRow_setCell_below h2 (by show M < _; omega) _

theorem Tryd.info33 : (Tryd.prog.info? 33).map (fun i => (i.zero, i.size, i.bytes)) = some (some (.agg #[.string ⟨#[]⟩, .int .i64 0]), 2, 24) := by kernel_rfl

/-- The end of a round that collects nothing. -/
theorem InvW.pass {a b : Bool} {path : ByteArray} {M : Nat} {w1 W W2 : World} {pre : List ByteArray} {x : ByteArray} {v : Value} {sk sk' : Nat} {acc : List Lx} (low : Below M w1 W) (hsz : M + 6 ≤ W.heap.size)
    (bt : Blk W M 25 #[.string path, v]) (own : W.ownsRow (M + 6) 33 2 v acc.length (lxCells acc)) (bat : Blk W (M + 1) 3 #[.int .i64 (pre.length : Nat)]) (bsk : Blk W (M + 2) 3 #[.int .i64 (sk : Nat)])
    (hn : New W W2) (hv : Hid (wst a b (pre ++ [x]) = (pre.length + 1, sk', acc))) (u u' : Value) (hu : u = .int .i64 (sk' : Nat)) (hu' : u' = .int .i64 ((pre.length + 1 : Nat) : Int)) :
    KeepsOthers W ((W2.setCell ⟨M + 1 + 1, 0, none⟩ u).setCell ⟨M + 1, 0, none⟩ u') ∧ KpR (M + 3) (M + 3 + 3) W ((W2.setCell ⟨M + 1 + 1, 0, none⟩ u).setCell ⟨M + 1, 0, none⟩ u') ∧
      InvW a b path M w1 (pre ++ [x]) ((W2.setCell ⟨M + 1 + 1, 0, none⟩ u).setCell ⟨M + 1, 0, none⟩ u') := by
  refine ⟨((new_ko hn).trans (KeepsOthers.setCell _ _ _)).trans (KeepsOthers.setCell _ _ _), ((KpR.of_new hn (by omega)).setCell (.inl (by show M + 1 + 1 < _; omega)) _).setCell (.inl (by show M + 1 < _; omega)) _, ?_⟩
  refine ⟨((low.trans (hn.mono (by omega))).setCell (p := ⟨M + 1 + 1, 0, none⟩) (by show M ≤ M + 1 + 1; omega) _).setCell (p := ⟨M + 1, 0, none⟩) (by show M ≤ M + 1; omega) _, ?_, ⟨v, ?_, ?_⟩, ?_, ?_⟩
  · have := hn.size; simp [World.setCell]; omega
  · exact ((bt.new hn).far (by show M ≠ M + 1 + 1; omega) _).far (by show M ≠ M + 1; omega) _
  · rw [hv.out]
    exact ownsRow_setCell_below (ownsRow_setCell_below (own_new own hn) (by show M + 1 + 1 < M + 6; omega) _) (by show M + 1 < M + 6; omega) _
  · have := (((bat.new hn).far (p := ⟨M + 1 + 1, 0, none⟩) (by show M + 1 ≠ M + 1 + 1; omega) u).put 0 u')
    subst hu'
    exact this.same (by simp)
  · have := (((bsk.new hn).put 0 u).far (p := ⟨M + 1, 0, none⟩) (by show M + 2 ≠ M + 1; omega) u')
    subst hu
    rw [hv.out]
    exact this.same (by simp)

set_option maxRecDepth 100000 in
set_option maxHeartbeats 4000000 in
theorem words_go (path data : ByteArray) (a b : Bool) (w : World) (hp : path.size < 4294967281) (hE : Env w) (h : pathOK path = true) (hl1 : data.size ≤ 65536) (hl2 : nl data < 1024) :
    Calls Tryd.prog 13 #[.string path, .string data, .bool a, .bool b] w (WPost a b path data w) := by
  have he : pathE path = 0 := by rw [pathE, h]; rfl
  have H := Lib.hid he; clear he
  have h1 : ¬ (65536 : Int) < (data.size : Int) := by omega
  have h2 : ¬ (1024 : Int) ≤ (nl data : Int) := by omega
  refine (callsIn_wide (n := 9)).1 (callsIn_of_wp_marks Tryd.func13 rfl trivial ?_ rfl)
  simp only [Tryd.ntmps13, List.size_toArray, List.length_cons, List.length_nil, Nat.reduceAdd, Nat.reduceSub, Array.replicate_succ, Array.replicate_zero, List.push_toArray, List.append_toArray, List.nil_append, List.cons_append]
  gi_wp2_with (first | (refine ⟨trivial, ?_⟩; gi_at_call 38; refine (callsIn_wide.2 (path_any _ _ hp (((hE.new ((New.refl w).alloc _)).new ((New.refl _).alloc _)).new ((New.refl _).alloc _)))).mono ?_; rw [H.out]; rintro e w1 ⟨rfl, hn⟩; have hf := hn.facts; have hz := hn.size; simp at hz) | (refine ⟨trivial, ?_⟩; gi_at_call 28; refine (callsIn_wide.2 (count_any data _)).mono ?_; rintro e w2 ⟨rfl, rfl⟩) | (refine ⟨trivial, ?_⟩; gi_at_call 39; refine (callsIn_wide.2 (splitSeq_any data _)).mono ?_; rintro e w3 ⟨rfl, rfl⟩))
  obtain ⟨wS, hwS⟩ : ∃ x, x = (((((w1.alloc (.cells #[.string path, .slice none 0 0] 25)).alloc (.cells #[.int .i64 0] 3)).alloc (.cells #[.int .i64 0] 3)).alloc (.cells #[.string data] 9)).alloc (.cells #[.string ⟨#[10]⟩] 9)).alloc (.cells #[.int .i64 0] 3) := ⟨_, rfl⟩
  rw [← hwS]
  have hwz : wS.heap.size = w1.heap.size + 6 := by rw [hwS]; simp
  have hlow : Below w1.heap.size w1 wS := by rw [hwS]; exact ((((((New.refl w1).alloc _).alloc _).alloc _).alloc _).alloc _).alloc _
  have b0 : Blk wS w1.heap.size 25 #[.string path, .slice none 0 0] := by rw [hwS]; exact (((((Blk.made w1 _ _).alloc _).alloc _).alloc _).alloc _).alloc _
  have b1 : Blk wS (w1.heap.size + 1) 3 #[.int .i64 0] := by rw [hwS]; have := Blk.made (w1.alloc (.cells #[.string path, .slice none 0 0] 25)) 3 #[.int .i64 0]; rw [World.size_alloc] at this; exact (((this.alloc _).alloc _).alloc _).alloc _
  have b2 : Blk wS (w1.heap.size + 2) 3 #[.int .i64 0] := by rw [hwS]; have := Blk.made ((w1.alloc (.cells #[.string path, .slice none 0 0] 25)).alloc (.cells #[.int .i64 0] 3)) 3 #[.int .i64 0]; simp only [World.size_alloc] at this; exact ((this.alloc _).alloc _).alloc _
  have b3 : Blk wS (w1.heap.size + 3) 9 #[.string data] := by rw [hwS]; have := Blk.made (((w1.alloc (.cells #[.string path, .slice none 0 0] 25)).alloc (.cells #[.int .i64 0] 3)).alloc (.cells #[.int .i64 0] 3)) 9 #[.string data]; simp only [World.size_alloc] at this; exact (this.alloc _).alloc _
  have b4 : Blk wS (w1.heap.size + 4) 9 #[.string ⟨#[10]⟩] := by rw [hwS]; have := Blk.made ((((w1.alloc (.cells #[.string path, .slice none 0 0] 25)).alloc (.cells #[.int .i64 0] 3)).alloc (.cells #[.int .i64 0] 3)).alloc (.cells #[.string data] 9)) 9 #[.string ⟨#[10]⟩]; simp only [World.size_alloc] at this; exact this.alloc _
  have b5 : Blk wS (w1.heap.size + 5) 3 #[.int .i64 0] := by rw [hwS]; have := Blk.made (((((w1.alloc (.cells #[.string path, .slice none 0 0] 25)).alloc (.cells #[.int .i64 0] 3)).alloc (.cells #[.int .i64 0] 3)).alloc (.cells #[.string data] 9)).alloc (.cells #[.string ⟨#[10]⟩] 9)) 3 #[.int .i64 0]; simp only [World.size_alloc] at this; exact this
  have hiter := splitSeq_iter 8 data (w1.heap.size + 3) wS (by omega) (by omega) (b3.cell' 0 _ rfl) (b4.cell' 0 _ rfl) (b5.cell' 0 _ rfl) (b3.free 0)
  clear hwS b3 b4 b5
  apply wpIn_rangeFunc_S (gf := 102) (lb := #[.pointer (some ⟨w1.heap.size + 3 + 1, 0, none⟩), .pointer (some ⟨w1.heap.size + 3, 0, none⟩), .pointer (some ⟨w1.heap.size + 3 + 2, 0, none⟩)]) rfl (enters_of Tryd.func102 (by kernel_rfl) rfl) hiter (New.refl _) (by omega) (by omega) rfl
    (InvW a b path w1.heap.size w1) (InvW.own (Nat.le_refl _) (by omega)) (fun pre W v h => h.store v)
    ⟨hlow, by omega, ⟨_, b0, World.ownsRow_nil _ _ _ _⟩, b1, b2⟩
  case hassign =>
    intro l x W K hK
    gi_wp2
    exact hK
  case hbody =>
    intro l pre x W hpx hI
    obtain ⟨low, hsz, ⟨v, bt, own⟩, bat, bsk⟩ := hI
    have hwW : New w W := ((((New.refl w).alloc _).alloc _).alloc _).trans hn |>.trans low
    have hE0 := hE.new hwW
    have cN : W.cell? ⟨w.heap.size, 0, none⟩ = some (.bool a) := by rw [low.cell (p := ⟨w.heap.size, 0, none⟩) (by show w.heap.size < _; omega), hf.1 _ _ (by simp; omega)]; simp [go_sem]
    have cM : W.cell? ⟨w.heap.size + 1, 0, none⟩ = some (.bool b) := by rw [low.cell (p := ⟨w.heap.size + 1, 0, none⟩) (by show w.heap.size + 1 < _; omega), hf.1 _ _ (by simp)]; simp [go_sem]
    have hz2 := bsk.lt
    have hpl : pre.length + 1 ≤ 1024 := by
      have := hpx.length_le
      rw [parts_length, List.length_append, List.length_singleton] at this
      unfold nl at hl2
      omega
    obtain ⟨sk, hsk⟩ : ∃ sk, (wst a b pre).2.1 = sk := ⟨_, rfl⟩
    have hskr := wst_skip a b pre
    have hacc := wst_small a b (List.IsPrefix.trans (List.prefix_append pre [x]) hpx)
    have hxs := last_total hpx
    rw [hsk] at bsk hskr
    have hst := wst_snoc a b pre x
    have hat := wst_at a b pre
    obtain ⟨acc, hac⟩ : ∃ acc, (wst a b pre).2.2 = acc := ⟨_, rfl⟩
    rw [hac] at own hacc
    have hst' : wst a b (pre ++ [x]) = wstep a b (pre.length, sk, acc) x := by rw [hst, ← hat, ← hsk, ← hac]
    have HST := Lib.hid hst'
    clear hsk hac hat hst hst' hpx
    obtain ⟨nv, hnv⟩ : ∃ nv, noteV (wds x) = nv := ⟨_, rfl⟩
    have hnr := noteV_range (wds x)
    rw [hnv] at hnr
    have HNV := Lib.hid hnv; clear hnv
    have facts : ∀ W' : World, New W W' → W'.cell? ⟨w.heap.size, 0, none⟩ = some (.bool a) ∧ W'.cell? ⟨w.heap.size + 1, 0, none⟩ = some (.bool b) ∧ W'.cell? ⟨w1.heap.size + 1, 0, none⟩ = some (.int .i64 (pre.length : Nat)) ∧ W'.frozen? ⟨w1.heap.size + 1, 0, none⟩ = false ∧
        W'.cell? ⟨w1.heap.size + 1 + 1, 0, none⟩ = some (.int .i64 (sk : Nat)) ∧ W'.frozen? ⟨w1.heap.size + 1 + 1, 0, none⟩ = false := fun W' hn =>
      ⟨(hn.cell (p := ⟨w.heap.size, 0, none⟩) (by show w.heap.size < _; omega)).trans cN, (hn.cell (p := ⟨w.heap.size + 1, 0, none⟩) (by show w.heap.size + 1 < _; omega)).trans cM,
        (bat.new hn).cell' 0 _ rfl, (bat.new hn).free 0, (bsk.new hn).cell' 0 _ rfl, (bsk.new hn).free 0⟩
    have FA := Lib.hid facts
    clear facts cN cM
    by_cases hs0 : 0 < sk
    · have hs1 : (0 : Int) < (sk : Int) := by omega
      have HV : Hid (wst a b (pre ++ [x]) = (pre.length + 1, sk - 1, acc)) := by show _ = _; rw [HST.out, wstep, if_pos (show 0 < sk from hs0)]
      clear HST
      gi_wp2_with (first | (refine ⟨trivial, ?_⟩; gi_at_call 40; refine (CallsIn.inRound l (callsIn_wide.2 (split_any x _ (by omega)))).mono ?_; rintro e W1 ⟨v1, rfl, hown, hn1⟩; obtain ⟨A, c, rfl, hnc, hcm, hr⟩ := own_form hown; have HR := Lib.hid hr; clear hr hown) | (refine ⟨trivial, ?_⟩; gi_at_call 41; refine (CallsIn.inRound l (callsIn_wide.2 (note_any A c (wds x) _ HR.out (hE0.new hn1)))).mono ?_; rw [HNV.out]; rintro e W2 ⟨rfl, hn2⟩; have hn12 := hn1.trans hn2; obtain ⟨d1, d2, d3, d4, d5, d6⟩ := FA.out W2 hn12; clear hn1 hn2))
      exact InvW.pass low hsz bt own bat bsk hn12 HV _ _ (by congr 1; omega) (by congr 1)
    · have hs1 : ¬ (0 : Int) < (sk : Int) := by omega
      by_cases hnn : 0 ≤ nv
      · have HV : Hid (wst a b (pre ++ [x]) = (pre.length + 1, nv.toNat, acc)) := by show _ = _; rw [HST.out, wstep, if_neg (show ¬ 0 < sk from hs0), HNV.out, if_pos hnn]
        clear HST
        gi_wp2_with (first | (refine ⟨trivial, ?_⟩; gi_at_call 40; refine (CallsIn.inRound l (callsIn_wide.2 (split_any x _ (by omega)))).mono ?_; rintro e W1 ⟨v1, rfl, hown, hn1⟩; obtain ⟨A, c, rfl, hnc, hcm, hr⟩ := own_form hown; have HR := Lib.hid hr; clear hr hown) | (refine ⟨trivial, ?_⟩; gi_at_call 41; refine (CallsIn.inRound l (callsIn_wide.2 (note_any A c (wds x) _ HR.out (hE0.new hn1)))).mono ?_; rw [HNV.out]; rintro e W2 ⟨rfl, hn2⟩; have hn12 := hn1.trans hn2; obtain ⟨d1, d2, d3, d4, d5, d6⟩ := FA.out W2 hn12; clear hn1 hn2))
        exact InvW.pass low hsz bt own bat bsk hn12 HV _ _ (by congr 1; omega) (by congr 1)
      · have hz0 : sk = 0 := by omega
        subst hz0
        have HV : Hid (wst a b (pre ++ [x]) = (pre.length + 1, 0, acc ++ lexOf a b pre.length x)) := by show _ = _; rw [HST.out, wstep, if_neg (show ¬ 0 < 0 by omega), HNV.out, if_neg hnn]
        clear HST
        have hlowF : ∀ W' : World, Below w1.heap.size w1 W' → W'.cell? ⟨w.heap.size, 0, none⟩ = some (.bool a) ∧ W'.cell? ⟨w.heap.size + 1, 0, none⟩ = some (.bool b) := fun W' hl =>
          ⟨by rw [hl.cell (p := ⟨w.heap.size, 0, none⟩) (by show w.heap.size < _; omega), hf.1 _ _ (by simp; omega)]; simp [go_sem], by rw [hl.cell (p := ⟨w.heap.size + 1, 0, none⟩) (by show w.heap.size + 1 < _; omega), hf.1 _ _ (by simp)]; simp [go_sem]⟩
        have HLF := Lib.hid hlowF
        clear hlowF
        gi_wp2_with (first | (refine ⟨trivial, ?_⟩; gi_at_call 40; refine (CallsIn.inRound l (callsIn_wide.2 (split_any x _ (by omega)))).mono ?_; rintro e W1 ⟨v1, rfl, hown, hn1⟩; obtain ⟨A, c, rfl, hnc, hcm, hr⟩ := own_form hown; have HR := Lib.hid hr; clear hr) | (refine ⟨trivial, ?_⟩; gi_at_call 41; refine (CallsIn.inRound l (callsIn_wide.2 (note_any A c (wds x) _ HR.out (hE0.new hn1)))).mono ?_; rw [HNV.out]; rintro e W2 ⟨rfl, hn2⟩; have hn12 := hn1.trans hn2; obtain ⟨d1, d2, d3, d4, d5, d6⟩ := FA.out W2 hn12; have hown2 := own_new hown hn2; clear hn1 hn2 hown))
        clear d1 d2 d3 d4 d5 d6
        have hwl := wds_len x
        generalize hws : wds x = ws at *
        have HWS := Lib.hid hws
        clear hws
        gi_loopw [44] (fun i wr => ∃ (k : Nat) (v' : Value), k ≤ ws.length ∧ i = .int .i64 k ∧ InColl path w1.heap.size w1 W pre.length 0 acc (lexOf a b pre.length x) ws A c k v' wr) (fun i _ => ws.length - (intOf i).toNat)
        case atStart => exact ⟨0, v, Nat.zero_le _, rfl, low.trans (hn12.mono (by omega)), hn12.size, new_ko hn12, KpR.of_new hn12 (by omega), bt.new hn12, by simpa using own_new own hn12, bat.new hn12, bsk.new hn12, hown2⟩
        case round =>
          obtain ⟨k, v', hk, rfl, R⟩ := hrel
          by_cases hlt : k < ws.length
          · have hlx : (lexOf a b pre.length x)[k]? = some (cls a b ws[k], pre.length) := by simp [lexOf, HWS.out, hlt]
            have hpos : 0 < (ws[k]).size := by
              have : ws[k] ∈ wds x := by rw [HWS.out]; exact List.getElem_mem hlt
              exact wds_pos this
            obtain ⟨bk, o, rfl, _, hc⟩ := (Rd.of_own R.words).2 (by omega)
            have hck : wr.cell? ⟨bk, o + k, none⟩ = some (.string ws[k]) := hc k _ (by simp [hlt])
            clear hc
            generalize hs : ws[k] = s at *
            clear hs
            have HLX := Lib.hid hlx
            clear hlx
            obtain ⟨g1, g2⟩ := HLF.out wr R.low
            have e0 : wr.cell? ⟨w1.heap.size, 1, none⟩ = some v' := R.bt.cell' 1 _ rfl
            have e0f : wr.frozen? ⟨w1.heap.size, 1, none⟩ = false := R.bt.free 1
            have e3 : wr.cell? ⟨w1.heap.size + 1, 0, none⟩ = some (.int .i64 (pre.length : Nat)) := R.bat.cell' 0 _ rfl
            obtain ⟨i0, hi, hz0, hz1, hz2⟩ := info_parts Tryd.info33
            obtain ⟨v2, w2, hrun, hown3, hgrow, _, _⟩ := run_append_own_at (P := Tryd.prog) (wr.alloc (.cells #[.string (cls a b s), .int .i64 (pre.length : Nat)] 33)).drew (w1.heap.size + 6) 23 23 33 i0 _ 2 24 Tryd.underlying23 hi hz0 hz1 hz2 rfl (by decide)
              v' _ _ (R.own.alloc _) ⟨wr.heap.size, 0, none⟩ 1 1 [.string (cls a b s), .int .i64 (pre.length : Nat)] rfl (cell_two_new _ _ _ _) (by simp [Value.oneCell']) (by simp [maxLen]; omega) (by omega) (by have := R.size; show _ ≤ (wr.alloc _).heap.size; simp; omega)
            have bt2 : Blk w2 w1.heap.size 25 #[.string path, v'] := ((R.bt.alloc _).drew).grown hgrow (blk_apart R.bt R.own (by decide))
            have e5 : w2.cell? ⟨w1.heap.size, 1, none⟩ = some v' := bt2.cell' 1 _ rfl
            have e6 : w2.frozen? ⟨w1.heap.size, 1, none⟩ = false := bt2.free 1
            obtain ⟨gv, cv, hv2, _, _⟩ := hown3.form (by omega)
            subst hv2
            have HN := Lib.hid (R.step hsz HLX.out hgrow hown3)
            have hsr := R.size
            have hS2 : (wr.alloc (.cells #[.string (cls a b s), .int .i64 (pre.length : Nat)] 33)).drew.cell? ⟨w.heap.size, 0, none⟩ = some (.bool a) ∧ (wr.alloc (.cells #[.string (cls a b s), .int .i64 (pre.length : Nat)] 33)).drew.cell? ⟨w.heap.size + 1, 0, none⟩ = some (.bool b) ∧
                (wr.alloc (.cells #[.string (cls a b s), .int .i64 (pre.length : Nat)] 33)).drew.cell? ⟨w1.heap.size + 1, 0, none⟩ = some (.int .i64 (pre.length : Nat)) :=
              ⟨(World.cell?_alloc_lt wr _ ⟨w.heap.size, 0, none⟩ (by show w.heap.size < _; omega)).trans g1, (World.cell?_alloc_lt wr _ ⟨w.heap.size + 1, 0, none⟩ (by show w.heap.size + 1 < _; omega)).trans g2, (World.cell?_alloc_lt wr _ ⟨w1.heap.size + 1, 0, none⟩ (by show w1.heap.size + 1 < _; omega)).trans e3⟩
            have e0X : (wr.alloc (.cells #[.string (cls a b s), .int .i64 (pre.length : Nat)] 33)).cell? ⟨w1.heap.size, 1, none⟩ = some v' := (World.cell?_alloc_lt wr _ ⟨w1.heap.size, 1, none⟩ (by show w1.heap.size < _; omega)).trans e0
            have hlowv := R.own.lt
            have hS3 : w2.cell? ⟨w.heap.size, 0, none⟩ = some (.bool a) ∧ w2.cell? ⟨w.heap.size + 1, 0, none⟩ = some (.bool b) ∧ w2.cell? ⟨w1.heap.size + 1, 0, none⟩ = some (.int .i64 (pre.length : Nat)) :=
              ⟨hgrow.cell hS2.1 (fun e => by have h1 : w1.heap.size + 6 ≤ w.heap.size := (hlowv _ e.symm).1; omega), hgrow.cell hS2.2.1 (fun e => by have h1 : w1.heap.size + 6 ≤ w.heap.size + 1 := (hlowv _ e.symm).1; omega), hgrow.cell hS2.2.2 (fun e => by have h1 : w1.heap.size + 6 ≤ w1.heap.size + 1 := (hlowv _ e.symm).1; omega)⟩
            have hS4 : (w2.setCell ⟨w1.heap.size, 1, none⟩ (.slice (some ⟨gv, 0, none⟩) (acc.length + k + 1) cv)).cell? ⟨w.heap.size, 0, none⟩ = some (.bool a) ∧ (w2.setCell ⟨w1.heap.size, 1, none⟩ (.slice (some ⟨gv, 0, none⟩) (acc.length + k + 1) cv)).cell? ⟨w.heap.size + 1, 0, none⟩ = some (.bool b) ∧ (w2.setCell ⟨w1.heap.size, 1, none⟩ (.slice (some ⟨gv, 0, none⟩) (acc.length + k + 1) cv)).cell? ⟨w1.heap.size + 1, 0, none⟩ = some (.int .i64 (pre.length : Nat)) := by
              refine ⟨?_, ?_, ?_⟩
              · rw [World.cell?_setCell_other _ _ _ _ (by intro e; have := congrArg Addr.block e; simp at this; omega)]; exact hS3.1
              · rw [World.cell?_setCell_other _ _ _ _ (by intro e; have := congrArg Addr.block e; simp at this; omega)]; exact hS3.2.1
              · rw [World.cell?_setCell_other _ _ _ _ (by intro e; have := congrArg Addr.block e; simp at this)]; exact hS3.2.2
            clear hlowv
            have hmx : Tryd.prog.follows .mixedOrders = true := by kernel_rfl
            clear hown3 hgrow bt2 R
            gi_wp2
            refine wpIn_region_held (fun w' => w'.cell? ⟨w.heap.size, 0, none⟩ = some (.bool a) ∧ w'.cell? ⟨w.heap.size + 1, 0, none⟩ = some (.bool b) ∧ w'.cell? ⟨w1.heap.size + 1, 0, none⟩ = some (.int .i64 (pre.length : Nat))) (by kernel_rfl) (by kernel_rfl) ⟨g1, g2, e3⟩ (fun hS => ?_)
            refine wpAnyH_take (i := 0) (v := .pointer (some ⟨w1.heap.size, 1, none⟩)) rfl (by kernel_rfl) (by kernel_rfl) (by kernel_rfl) (fun _ _ _ h => h) (Or.inl ⟨by rfl, fun w hS => by obtain ⟨h1, h2, h3⟩ := hS; go_simp⟩) hS ?_
            simp only [Act.put, List.setIfInBounds_toArray, List.set_cons_zero, List.set_cons_succ]
            refine wpAnyH_take (i := 2) (v := .string s) rfl (by kernel_rfl) (by kernel_rfl) (by kernel_rfl) (fun _ _ _ h => h) (Or.inl ⟨by rfl, fun w hS => by obtain ⟨h1, h2, h3⟩ := hS; go_simp⟩) hS ?_
            simp only [Act.put, List.setIfInBounds_toArray, List.set_cons_zero, List.set_cons_succ]
            refine wpAnyH_take (i := 3) (v := .bool a) rfl (by kernel_rfl) (by kernel_rfl) (by kernel_rfl) (fun _ _ _ h => h) (Or.inl ⟨by rfl, fun w hS => by obtain ⟨h1, h2, h3⟩ := hS; go_simp⟩) hS ?_
            simp only [Act.put, List.setIfInBounds_toArray, List.set_cons_zero, List.set_cons_succ]
            refine wpAnyH_take (i := 4) (v := .bool b) rfl (by kernel_rfl) (by kernel_rfl) (by kernel_rfl) (fun _ _ _ h => h) (Or.inl ⟨by rfl, fun w hS => by obtain ⟨h1, h2, h3⟩ := hS; go_simp⟩) hS ?_
            simp only [Act.put, List.setIfInBounds_toArray, List.set_cons_zero, List.set_cons_succ]
            refine wpAnyH_take (i := 6) (v := .int .i64 (pre.length : Nat)) rfl (by kernel_rfl) (by kernel_rfl) (by kernel_rfl) (fun _ _ _ h => h) (Or.inl ⟨by rfl, fun w hS => by obtain ⟨h1, h2, h3⟩ := hS; go_simp⟩) hS ?_
            simp only [Act.put, List.setIfInBounds_toArray, List.set_cons_zero, List.set_cons_succ]
            refine wpAnyH_ready (rs := [1, 5]) (by kernel_rfl) (by simp) ?_
            refine AllReadyH.cons rfl (fun K hK => ?_) (AllReadyH.cons rfl (fun K hK => ?_) AllReadyH.nil)
            · go_simp
              refine hK.out _ _ hS (fun _ => ?_)
              clear hK K
              refine wpAnyH_ready (rs := [5]) (by kernel_rfl) (by simp) ?_
              refine AllReadyH.cons rfl (fun K hK => ?_) AllReadyH.nil
              go_simp
              refine (class_any s a b _ hpos).mono ?_
              rintro e w' ⟨rfl, rfl⟩
              refine hK.out _ _ hS (fun _ => ?_)
              clear hK K
              refine wpAnyH_take (i := 7) (v := .agg #[.string (cls a b s), .int .i64 (pre.length : Nat)]) rfl (by kernel_rfl) (by kernel_rfl) (by kernel_rfl) (fun _ _ _ h => h) (Or.inl ⟨by rfl, fun w hS => by obtain ⟨h1, h2, h3⟩ := hS; go_simp⟩) hS ?_
              simp only [Act.put, List.setIfInBounds_toArray, List.set_cons_zero, List.set_cons_succ]
              refine wpAnyH_ready (rs := [8]) (by kernel_rfl) (by simp) ?_
              refine AllReadyH.cons rfl (fun K hK => ?_) AllReadyH.nil
              go_simp
              refine hK.out _ _ hS2 (fun _ => ?_)
              clear hK K
              refine wpAnyH_ready (rs := [9]) (by kernel_rfl) (by simp) ?_
              refine AllReadyH.cons rfl (fun K hK => ?_) AllReadyH.nil
              rw [if_pos (by rfl)]
              refine wp_run_append (.tmp 49) (.tmp 56) 23 rfl rfl rfl hrun ?_
              simp only [Act.put, List.setIfInBounds_toArray, List.set_cons_zero, List.set_cons_succ]
              refine hK.out _ _ hS3 (fun _ => ?_)
              clear hK K
              refine wpAnyH_take (i := 10) (v := .pointer (some ⟨w1.heap.size, 1, none⟩)) rfl (by kernel_rfl) (by kernel_rfl) (by kernel_rfl) (fun _ _ _ h => h) (Or.inl ⟨by rfl, fun w hS => by obtain ⟨h1, h2, h3⟩ := hS; go_simp⟩) hS3 ?_
              simp only [Act.put, List.setIfInBounds_toArray, List.set_cons_zero, List.set_cons_succ]
              refine wpAnyH_ready (rs := [11]) (by kernel_rfl) (by simp) ?_
              refine AllReadyH.cons rfl (fun K hK => ?_) AllReadyH.nil
              go_simp
              refine hK.out _ _ hS4 (fun _ => ?_)
              clear hK K
              refine wpAnyH_done (by kernel_rfl) ?_ _
              rw [noOut_normal]
              gi_wp2
              go_roundw
              case rel => exact ⟨k + 1, _, by omega, by go_num, HN.out⟩
              case measure => simp [intOf]; omega
            · go_simp
              refine (class_any s a b _ hpos).mono ?_
              rintro e w' ⟨rfl, rfl⟩
              refine hK.out _ _ hS (fun _ => ?_)
              clear hK K
              refine wpAnyH_take (i := 7) (v := .agg #[.string (cls a b s), .int .i64 (pre.length : Nat)]) rfl (by kernel_rfl) (by kernel_rfl) (by kernel_rfl) (fun _ _ _ h => h) (Or.inl ⟨by rfl, fun w hS => by obtain ⟨h1, h2, h3⟩ := hS; go_simp⟩) hS ?_
              simp only [Act.put, List.setIfInBounds_toArray, List.set_cons_zero, List.set_cons_succ]
              refine wpAnyH_ready (rs := [1, 8]) (by kernel_rfl) (by simp) ?_
              refine AllReadyH.cons rfl (fun K hK => ?_) (AllReadyH.cons rfl (fun K hK => ?_) AllReadyH.nil)
              · go_simp
                refine hK.out _ _ hS (fun _ => ?_)
                clear hK K
                refine wpAnyH_ready (rs := [8]) (by kernel_rfl) (by simp) ?_
                refine AllReadyH.cons rfl (fun K hK => ?_) AllReadyH.nil
                go_simp
                refine hK.out _ _ hS2 (fun _ => ?_)
                clear hK K
                refine wpAnyH_ready (rs := [9]) (by kernel_rfl) (by simp) ?_
                refine AllReadyH.cons rfl (fun K hK => ?_) AllReadyH.nil
                rw [if_pos (by rfl)]
                refine wp_run_append (.tmp 49) (.tmp 56) 23 rfl rfl rfl hrun ?_
                simp only [Act.put, List.setIfInBounds_toArray, List.set_cons_zero, List.set_cons_succ]
                refine hK.out _ _ hS3 (fun _ => ?_)
                clear hK K
                refine wpAnyH_take (i := 10) (v := .pointer (some ⟨w1.heap.size, 1, none⟩)) rfl (by kernel_rfl) (by kernel_rfl) (by kernel_rfl) (fun _ _ _ h => h) (Or.inl ⟨by rfl, fun w hS => by obtain ⟨h1, h2, h3⟩ := hS; go_simp⟩) hS3 ?_
                simp only [Act.put, List.setIfInBounds_toArray, List.set_cons_zero, List.set_cons_succ]
                refine wpAnyH_ready (rs := [11]) (by kernel_rfl) (by simp) ?_
                refine AllReadyH.cons rfl (fun K hK => ?_) AllReadyH.nil
                go_simp
                refine hK.out _ _ hS4 (fun _ => ?_)
                clear hK K
                refine wpAnyH_done (by kernel_rfl) ?_ _
                rw [noOut_normal]
                gi_wp2
                go_roundw
                case rel => exact ⟨k + 1, _, by omega, by go_num, HN.out⟩
                case measure => simp [intOf]; omega
              · go_simp
                refine hK.out _ _ hS2 (fun _ => ?_)
                clear hK K
                refine wpAnyH_ready (rs := [1]) (by kernel_rfl) (by simp) ?_
                refine AllReadyH.cons rfl (fun K hK => ?_) AllReadyH.nil
                go_simp
                refine hK.out _ _ hS2 (fun _ => ?_)
                clear hK K
                refine wpAnyH_ready (rs := [9]) (by kernel_rfl) (by simp) ?_
                refine AllReadyH.cons rfl (fun K hK => ?_) AllReadyH.nil
                rw [if_pos (by rfl)]
                refine wp_run_append (.tmp 49) (.tmp 56) 23 rfl rfl rfl hrun ?_
                simp only [Act.put, List.setIfInBounds_toArray, List.set_cons_zero, List.set_cons_succ]
                refine hK.out _ _ hS3 (fun _ => ?_)
                clear hK K
                refine wpAnyH_take (i := 10) (v := .pointer (some ⟨w1.heap.size, 1, none⟩)) rfl (by kernel_rfl) (by kernel_rfl) (by kernel_rfl) (fun _ _ _ h => h) (Or.inl ⟨by rfl, fun w hS => by obtain ⟨h1, h2, h3⟩ := hS; go_simp⟩) hS3 ?_
                simp only [Act.put, List.setIfInBounds_toArray, List.set_cons_zero, List.set_cons_succ]
                refine wpAnyH_ready (rs := [11]) (by kernel_rfl) (by simp) ?_
                refine AllReadyH.cons rfl (fun K hK => ?_) AllReadyH.nil
                go_simp
                refine hK.out _ _ hS4 (fun _ => ?_)
                clear hK K
                refine wpAnyH_done (by kernel_rfl) ?_ _
                rw [noOut_normal]
                gi_wp2
                go_roundw
                case rel => exact ⟨k + 1, _, by omega, by go_num, HN.out⟩
                case measure => simp [intOf]; omega
          · have : k = ws.length := by omega
            subst this
            have e3 : wr.cell? ⟨w1.heap.size + 1, 0, none⟩ = some (.int .i64 (pre.length : Nat)) := R.bat.cell' 0 _ rfl
            have e4 := R.bat.free 0
            gi_wp2
            exact R.fin hsz (by rw [lexOf_len, HWS.out]) HV _ (by congr 1)
  case hdone =>
    intro D W hD hI hdef
    obtain ⟨low, hsz, ⟨v, bt, own⟩, _, _⟩ := hI
    have hwW : New w W := ((((New.refl w).alloc _).alloc _).alloc _).trans hn |>.trans low
    have hacc := wst_small a b (List.prefix_refl (parts 10 data))
    have hwv : wordsV a b path data = if 8192 < (wst a b (parts 10 data)).2.2.length then (10, []) else (0, (wst a b (parts 10 data)).2.2) := by
      rw [wordsV, h, if_neg (by simp), if_neg (by omega)]
    have HWV := Lib.hid hwv
    clear hwv
    generalize (wst a b (parts 10 data)).2.2 = acc at *
    obtain ⟨A, c, rfl, hnc, hcm, hr⟩ := own_form own
    clear hr
    have cP : W.cell? ⟨w1.heap.size, 0, none⟩ = some (.string path) := bt.cell' 0 _ rfl
    have cV : W.cell? ⟨w1.heap.size, 1, none⟩ = some (.slice A acc.length c) := bt.cell' 1 _ rfl
    have cR : W.cell? ⟨w.heap.size + 1 + 1, 0, none⟩ = some (.string ⟨#[]⟩) := by rw [low.cell (p := ⟨w.heap.size + 1 + 1, 0, none⟩) (by show w.heap.size + 1 + 1 < _; omega), hf.1 _ _ (by simp)]; simp [go_sem]
    have cR1 : W.cell? ⟨w.heap.size + 1 + 1, 1, none⟩ = some (.slice none 0 0) := by rw [low.cell (p := ⟨w.heap.size + 1 + 1, 1, none⟩) (by show w.heap.size + 1 + 1 < _; omega), hf.1 _ _ (by simp)]; simp [go_sem]
    have fR : W.frozen? ⟨w.heap.size + 1 + 1, 0, none⟩ = false := by rw [low.frozen (p := ⟨w.heap.size + 1 + 1, 0, none⟩) (by show w.heap.size + 1 + 1 < _; omega), hf.2 _ _ (by simp)]; simp [go_sem]
    have fR1 : W.frozen? ⟨w.heap.size + 1 + 1, 1, none⟩ = false := by rw [low.frozen (p := ⟨w.heap.size + 1 + 1, 1, none⟩) (by show w.heap.size + 1 + 1 < _; omega), hf.2 _ _ (by simp)]; simp [go_sem]
    have hDz : D < W.heap.size := (Array.getElem?_eq_some_iff.1 hdef).1
    clear hf hn bt low
    by_cases hbig : 8192 < acc.length
    · have hb1 : (8192 : Int) < (acc.length : Int) := by omega
      gi_wp2
      have hdef2 := ((KeepsOthers.setCell W ⟨w.heap.size + 1 + 1, 0, none⟩ (.string ⟨#[]⟩)).trans (KeepsOthers.setCell _ ⟨w.heap.size + 1 + 1, 1, none⟩ (.slice none 0 0))).same D _ hdef rfl
      have r0 : (((W.setCell ⟨w.heap.size + 1 + 1, 0, none⟩ (.string ⟨#[]⟩)).setCell ⟨w.heap.size + 1 + 1, 1, none⟩ (.slice none 0 0)).putObj D (.deferred none)).cell? ⟨w.heap.size + 1 + 1, 0, none⟩ = some (.string ⟨#[]⟩) :=
        cell_putObj (by omega) (by rw [World.cell?_setCell_other _ _ _ _ (by simp)]; exact World.cell?_setCell_same' _ _ _ (by rw [cR]; rfl))
      have r1 : (((W.setCell ⟨w.heap.size + 1 + 1, 0, none⟩ (.string ⟨#[]⟩)).setCell ⟨w.heap.size + 1 + 1, 1, none⟩ (.slice none 0 0)).putObj D (.deferred none)).cell? ⟨w.heap.size + 1 + 1, 1, none⟩ = some (.slice none 0 0) :=
        cell_putObj (by omega) (World.cell?_setCell_same' _ _ _ (by rw [World.cell?_setCell_other _ _ _ _ (by simp), cR1]; rfl))
      refine ⟨by simp, .inl ⟨_, _, rfl, run_takeDeferred hdef2, ?_⟩⟩
      have hnew : New w (((W.setCell ⟨w.heap.size + 1 + 1, 0, none⟩ (.string ⟨#[]⟩)).setCell ⟨w.heap.size + 1 + 1, 1, none⟩ (.slice none 0 0)).putObj D (.deferred none)) :=
        new_putObj ((hwW.setCell (p := ⟨w.heap.size + 1 + 1, 0, none⟩) (by show w.heap.size ≤ w.heap.size + 1 + 1; omega) _).setCell (p := ⟨w.heap.size + 1 + 1, 1, none⟩) (by show w.heap.size ≤ w.heap.size + 1 + 1; omega) _) (by omega)
      refine ⟨.tuple #[noText, .int .i64 10], by simp [results, Tryd.results13, go_sem, r0, r1], noText, by rw [HWV.out, if_pos hbig], ?_, hnew⟩
      rw [HWV.out, if_pos hbig]; exact rtext_empty _
    · have hb1 : ¬ (8192 : Int) < (acc.length : Int) := by omega
      gi_wp2
      have hdef2 := ((KeepsOthers.setCell W ⟨w.heap.size + 1 + 1, 0, none⟩ (.string path)).trans (KeepsOthers.setCell _ ⟨w.heap.size + 1 + 1, 1, none⟩ (.slice A acc.length c))).same D _ hdef rfl
      have r0 : (((W.setCell ⟨w.heap.size + 1 + 1, 0, none⟩ (.string path)).setCell ⟨w.heap.size + 1 + 1, 1, none⟩ (.slice A acc.length c)).putObj D (.deferred none)).cell? ⟨w.heap.size + 1 + 1, 0, none⟩ = some (.string path) :=
        cell_putObj (by omega) (by rw [World.cell?_setCell_other _ _ _ _ (by simp)]; exact World.cell?_setCell_same' _ _ _ (by rw [cR]; rfl))
      have r1 : (((W.setCell ⟨w.heap.size + 1 + 1, 0, none⟩ (.string path)).setCell ⟨w.heap.size + 1 + 1, 1, none⟩ (.slice A acc.length c)).putObj D (.deferred none)).cell? ⟨w.heap.size + 1 + 1, 1, none⟩ = some (.slice A acc.length c) :=
        cell_putObj (by omega) (World.cell?_setCell_same' _ _ _ (by rw [World.cell?_setCell_other _ _ _ _ (by simp), cR1]; rfl))
      refine ⟨by simp, .inl ⟨_, _, rfl, run_takeDeferred hdef2, ?_⟩⟩
      have hnew : New w (((W.setCell ⟨w.heap.size + 1 + 1, 0, none⟩ (.string path)).setCell ⟨w.heap.size + 1 + 1, 1, none⟩ (.slice A acc.length c)).putObj D (.deferred none)) :=
        new_putObj ((hwW.setCell (p := ⟨w.heap.size + 1 + 1, 0, none⟩) (by show w.heap.size ≤ w.heap.size + 1 + 1; omega) _).setCell (p := ⟨w.heap.size + 1 + 1, 1, none⟩) (by show w.heap.size ≤ w.heap.size + 1 + 1; omega) _) (by omega)
      refine ⟨.tuple #[.agg #[.string path, .slice A acc.length c], .int .i64 0], by simp [results, Tryd.results13, go_sem, r0, r1], .agg #[.string path, .slice A acc.length c], by rw [HWV.out, if_neg hbig], ?_, hnew⟩
      rw [HWV.out, if_neg hbig]
      exact ⟨A, c, rfl, hnc, hcm, Rd.of_own (own_putObj (ownsRow_setCell_below (ownsRow_setCell_below own (by show w.heap.size + 1 + 1 < _; omega) _) (by show w.heap.size + 1 + 1 < _; omega) _) hdef2)⟩
end Go.Proofs.YtlecocmopeainaaDoor
