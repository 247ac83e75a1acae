/- What stays where two blocks turn; the words of a text are put into the last part of a template. No conditions but the sizes' own. -/
import Derived.Test.YtpoelhnceebmkaaGreatDoorR
namespace Go.Proofs.YtpoelhnceebmkaaGreatDoor
open Go Go.RowKit Go.Shelf
set_option linter.unusedSimpArgs false
set_option linter.unusedVariables false
attribute [local go_sem] Oper.semAt_some

/-- Only new memory, but for two blocks. -/
structure Two (p c : Nat) (w W : World) : Prop where
  os : W.os = w.os
  tape : W.tape = w.tape
  output : W.output = w.output
  size : w.heap.size ≤ W.heap.size
  block : ∀ k, k < w.heap.size → k ≠ p → k ≠ c → W.heap[k]? = w.heap[k]?
section
variable {p c : Nat} {a b d : World}
theorem Two.refl (p c : Nat) (w : World) : Two p c w w := ⟨rfl, rfl, rfl, Nat.le_refl _, fun _ _ _ _ => rfl⟩
theorem Two.trans (h : Two p c a b) (k : Two p c b d) : Two p c a d := ⟨k.os.trans h.os, k.tape.trans h.tape, k.output.trans h.output, Nat.le_trans h.size k.size, fun i hi hp hc => (k.block i (Nat.lt_of_lt_of_le hi h.size) hp hc).trans (h.block i hi hp hc)⟩
theorem Two.of_new (h : New a b) : Two p c a b := ⟨h.os, h.tape, h.output, h.size, fun k hk _ _ => h.block k hk⟩
theorem Two.new (h : Two p c a b) (k : New b d) : Two p c a d := h.trans (Two.of_new k)
theorem Two.drew (h : Two p c a b) : Two p c a b.drew := h.new (New.refl b).drew
theorem Two.alloc (h : Two p c a b) (o : Obj) : Two p c a (b.alloc o) := h.new ((New.refl b).alloc o)
theorem Two.grown (h : Two p c a b) {row : Option Nat} (k : b.grownBy d row) (hr : ∀ r, row = some r → a.heap.size ≤ r ∨ r = p ∨ r = c) : Two p c a d :=
  ⟨k.os.trans h.os, k.tape.trans h.tape, k.output.trans h.output, Nat.le_trans h.size k.size, fun i hi hp hc => (k.block i (Nat.lt_of_lt_of_le hi h.size) (fun e => by rcases hr i e.symm with h | h | h <;> omega)).trans (h.block i hi hp hc)⟩
theorem Two.set (h : Two p c a b) {q : Addr} (hq : a.heap.size ≤ q.block ∨ q.block = p ∨ q.block = c) (u : Value) : Two p c a (b.setCell q u) :=
  ⟨h.os, h.tape, h.output, by simpa [World.setCell] using h.size, fun i hi hp hc => (Below.heap_setCell b q u i (by rcases hq with h | h | h <;> omega)).trans (h.block i hi hp hc)⟩
theorem Two.putObj (h : Two p c a b) {D : Nat} (o : Obj) (hD : a.heap.size ≤ D) : Two p c a (b.putObj D o) :=
  h.grown (grownBy_putObj' b D o) (fun r e => by cases e; exact .inl hD)
theorem Blk.two {g : Nat} {t : TypeId} {cs : Array Value} (h : Blk a g t cs) (k : Two p c a b) (hp : g ≠ p) (hc : g ≠ c) : Blk b g t cs := (k.block g h.lt hp hc).trans h
theorem own_two {base s n : Nat} {e : TypeId} {v : Value} {xs : List Value} (h : a.ownsRow base e s v n xs) (k : Two p c a b) (hp : v.ownBlock ≠ some p) (hc : v.ownBlock ≠ some c) : b.ownsRow base e s v n xs := by
  refine ⟨h.1, ?_⟩
  rcases h.2 with h1 | ⟨g, cap, cur, rfl, hg, hh, rest⟩
  · exact .inl h1
  · refine .inr ⟨g, cap, cur, rfl, hg, (k.block g (Array.getElem?_eq_some_iff.1 hh).1 (fun e => hp (by rw [e]; rfl)) (fun e => hc (by rw [e]; rfl))).trans hh, rest⟩
end
/-- Two owned rows of different kinds lie apart. -/
theorem own_off {w : World} {b1 b2 s1 s2 n1 n2 : Nat} {e1 e2 : TypeId} {v1 v2 : Value} {xs1 xs2 : List Value} (h1 : w.ownsRow b1 e1 s1 v1 n1 xs1) (h2 : w.ownsRow b2 e2 s2 v2 n2 xs2) (he : e1 ≠ e2) {g : Nat} (hg : v2.ownBlock = some g) : v1.ownBlock ≠ some g := by
  intro h
  rcases h2.2 with ⟨rfl, _⟩ | ⟨g2, cap2, cur2, rfl, _, hh2, _⟩
  · simp [Value.ownBlock] at hg
  · have : g2 = g := by simpa [Value.ownBlock] using hg
    subst this
    rcases h1.2 with ⟨rfl, _⟩ | ⟨g1, cap1, cur1, rfl, _, hh1, _⟩
    · simp [Value.ownBlock] at h
    · have : g1 = g2 := by simpa [Value.ownBlock] using h
      subst this
      rw [hh1] at hh2
      injection hh2 with hh2
      injection hh2 with _ h3
      exact he h3
theorem own_off_blk {w : World} {b1 s1 n1 g : Nat} {e1 t : TypeId} {v1 : Value} {xs1 : List Value} {cs : Array Value} (h1 : w.ownsRow b1 e1 s1 v1 n1 xs1) (h2 : Blk w g t cs) (he : e1 ≠ t) : v1.ownBlock ≠ some g := by
  intro h
  exact blk_apart h2 h1 (Ne.symm he) h.symm

theorem grown_set (w : World) (p : Addr) (u : Value) : w.grownBy (w.setCell p u) (some p.block) := ⟨rfl, rfl, rfl, by simp [World.setCell], fun k _ hk => Below.heap_setCell w p u k (fun e => hk (by rw [e]))⟩
theorem blk_putObj {W : World} {D g : Nat} {o : Obj} {t : TypeId} {cs : Array Value} (h : Blk W g t cs) (hD : W.heap[D]? = some (.deferred (some []))) : Blk (W.putObj D o) g t cs :=
  h.others (grownBy_putObj' W D o) (fun r e => by cases e; exact ⟨_, hD, fun _ _ _ h => by cases h⟩)
/-- Between two rounds: 'pre' has come. -/
structure InvP (bp g C cP m k : Nat) (cs : List Value) (h : Int) (w : World) (pre : List (Nat × List UInt8)) (W : World) : Prop where
  two : Two g C w W
  size : w.heap.size + 2 ≤ W.heap.size
  row : ∃ v, W.ownsRow bp 58 2 (.slice (some ⟨g, 0, none⟩) (m + 1) cP) (m + 1) (cs ++ [.int .i64 h, v]) ∧ W.ownsRow (w.heap.size + 2) 9 1 v pre.length (sCells (pre.map fun x => S x.2))
  pc : Blk W w.heap.size 64 #[.pointer (some ⟨g, m * 2, none⟩)]
  cnt : Blk W C 3 #[.int .i64 (k + pre.length : Nat)]
theorem InvP.own {bp g C cP m k B : Nat} {cs : List Value} {h : Int} {w : World} (hB : w.heap.size ≤ B) : OwnFrom B (InvP bp g C cP m k cs h w) := by
  intro pre W W' row hs hg hr
  have hc : ∀ r, row = some r → ∃ o : Obj, W.heap[r]? = some o ∧ (∀ c e f, o ≠ .cells c e f) := fun r e => by
    obtain ⟨_, o, ho, hn⟩ := hr r e
    exact ⟨o, ho, fun c e f h => by subst h; simp [Obj.isCells] at hn⟩
  obtain ⟨v, hp, hw⟩ := hs.row
  exact ⟨hs.two.grown hg (fun r e => .inl (Nat.le_trans hB (hr r e).1)), Nat.le_trans hs.size hg.size, ⟨v, own_others hp hg hc, own_others hw hg hc⟩, hs.pc.others hg hc, hs.cnt.others hg hc⟩
theorem InvP.ownT {bp g C cP m k B : Nat} {cs : List Value} {h : Int} {w : World} (hB : w.heap.size ≤ B) : AbidesT 21 B (InvP bp g C cP m k cs h w) := by
  intro pre W W' row hs hg hr
  obtain ⟨v, hp, hw⟩ := hs.row
  exact ⟨hs.two.grown hg (fun r e => .inl (Nat.le_trans hB (hr r e).1)), Nat.le_trans hs.size hg.size, ⟨v, own_kind' hp hg hr (by decide), own_kind' hw hg hr (by decide)⟩, blk_kind hs.pc hg hr (by decide), blk_kind hs.cnt hg hr (by decide)⟩

set_option maxRecDepth 100000 in
set_option maxHeartbeats 4000000 in
theorem put_any (s nm : ByteArray) (w : World) (T C g cP m bp k : Nat) (cs : List Value) (h : Int) (hs : s.size ≤ 10000) (hk : k ≤ 100000) (hm : m ≤ 10000) (hcs : cs.length = m * 2)
    (hT : Blk w T 25 #[.string nm, .slice (some ⟨g, 0, none⟩) (m + 1) cP]) (hP : w.ownsRow bp 58 2 (.slice (some ⟨g, 0, none⟩) (m + 1) cP) (m + 1) (cs ++ [.int .i64 h, .slice none 0 0])) (hC : Blk w C 3 #[.int .i64 (k : Nat)]) :
    Calls Tryz.prog 36 #[.string s, .pointer (some ⟨T, 0, none⟩), .pointer (some ⟨C, 0, none⟩)] w fun e w' => e = .returned (.tuple #[]) ∧ ∃ v, w'.ownsRow bp 58 2 (.slice (some ⟨g, 0, none⟩) (m + 1) cP) (m + 1) (cs ++ [.int .i64 h, v]) ∧ w'.ownsRow (w.heap.size + 2) 9 1 v (spansV s).length (sCells ((spansV s).map fun x => S x.2)) ∧ Blk w' C 3 #[.int .i64 (k + (spansV s).length : Nat)] ∧ Two g C w w' := by
  have hgT : g ≠ T := fun e => own_off_blk hP hT (by decide) (by rw [← e]; rfl)
  have hgC : g ≠ C := fun e => own_off_blk hP hC (by decide) (by rw [← e]; rfl)
  have hgl : bp ≤ g ∧ g < w.heap.size := hP.lt g rfl
  have hCl := hC.lt
  have t1 := hT.cell' 1 _ rfl
  have u1 : IntKind.i64.wrap (((m + 1 : Nat) : Int) - 1) = (m : Int) := by rw [IntWalk.i64_in _ (by omega)]; omega
  have u2 : (0 : Int) ≤ (m : Int) := by omega
  have u3 : (m : Int) < ((m + 1 : Nat) : Int) := by omega
  have u4 : (m : Int).toNat = m := by omega
  have u5 : m < m + 1 := by omega
  have HT := Lib.hid hT
  have HP := Lib.hid hP
  have HC := Lib.hid hC
  clear hT hP hC
  refine (callsIn_wide (n := 9)).1 (callsIn_of_wp_marks Tryz.func36 rfl trivial ?_ rfl)
  simp only [Tryz.ntmps36, List.size_toArray, List.length_cons, List.length_nil, Nat.reduceAdd, Nat.reduceSub, Array.replicate_succ, Array.replicate_zero, List.push_toArray, List.append_toArray, List.nil_append, List.cons_append]
  gi_wp2_with (first | (refine ⟨trivial, ?_⟩; gi_at_call 37; refine (callsIn_wide.2 (spans_any s _)).mono ?_; rintro e w3 ⟨rfl, rfl⟩))
  obtain ⟨wS, hwS⟩ : ∃ x, x = (w.alloc (.cells #[.pointer (some ⟨g, m * 2, none⟩)] 64)).alloc (.cells #[.string s] 9) := ⟨_, rfl⟩
  rw [← hwS]
  have hwz : wS.heap.size = w.heap.size + 2 := by rw [hwS]; simp
  have hnw : New w wS := by rw [hwS]; exact ((New.refl w).alloc _).alloc _
  have b0 : Blk wS w.heap.size 64 #[.pointer (some ⟨g, m * 2, none⟩)] := by rw [hwS]; exact (Blk.made w _ _).alloc _
  have b1 : Blk wS (w.heap.size + 1) 9 #[.string s] := by rw [hwS]; have := Blk.made (w.alloc (.cells #[.pointer (some ⟨g, m * 2, none⟩)] 64)) 9 #[.string s]; rw [World.size_alloc] at this; exact this
  have hiter := spans_iter 8 s (w.heap.size + 1) wS (by omega) (by omega) (b1.cell' 0 _ rfl)
  have hsl := spans_len s
  clear hwS b1
  apply wpIn_rangeFunc_T (gf := 58) (lb := #[.pointer (some ⟨w.heap.size + 1, 0, none⟩)]) rfl (enters_of Tryz.func58 (by kernel_rfl) rfl) hiter (New.refl _) (by omega) (fun x => rfl)
    (InvP bp g C cP m k cs h w) (InvP.own (by omega)) (InvP.ownT (by omega))
    ⟨Two.of_new hnw, by omega, ⟨_, own_new HP.out hnw, World.ownsRow_nil _ _ _ _⟩, b0, HC.out.new hnw⟩
  case hassign =>
    intro l x W K hK
    simp only [spEnc]
    gi_wp2
    exact hK
  case hbody =>
    intro l pre x W hpx hI
    obtain ⟨two, hsz, ⟨v, ownP, ownW⟩, bpc, bcnt⟩ := hI
    have hpl : pre.length + 1 ≤ s.size := by
      have := hpx.length_le
      rw [List.length_append, List.length_singleton] at this
      omega
    have e0 : W.cell? ⟨w.heap.size, 0, none⟩ = some (.pointer (some ⟨g, m * 2, none⟩)) := bpc.cell' 0 _ rfl
    have eW : W.cell? ⟨g, m * 2 + 1, none⟩ = some v := by rw [ownP.cellAt (m * 2 + 1) (by omega), List.getElem?_append_right (by omega), hcs]; simp
    have hgW : g < W.heap.size := by have := two.size; omega
    have eW2 : (W.alloc (.cells #[.string (S x.2)] 9)).cell? ⟨g, m * 2 + 1, none⟩ = some v := (World.cell?_alloc_lt W _ ⟨g, m * 2 + 1, none⟩ hgW).trans eW
    have e1 : (W.alloc (.cells #[.string (S x.2)] 9)).cell? ⟨w.heap.size, 0, none⟩ = some (.pointer (some ⟨g, m * 2, none⟩)) := (World.cell?_alloc_lt W _ ⟨w.heap.size, 0, none⟩ bpc.lt).trans e0
    obtain ⟨i0, hi, hz0, hz1, hz2⟩ := info_parts Tryz.info9'
    obtain ⟨v2, w2, hrun, hown3, hgrow, _, _⟩ := run_append_own_at (P := Tryz.prog) (W.alloc (.cells #[.string (S x.2)] 9)).drew (w.heap.size + 2) 37 37 9 i0 _ 1 16 Tryz.underlying37 hi hz0 hz1 hz2 rfl (by decide)
      v _ _ (ownW.alloc _) ⟨W.heap.size, 0, none⟩ 1 1 [.string (S x.2)] rfl (cell_one_new _ _ _) (by simp [Value.oneCell']) (by simp [maxLen]; omega) (by omega) (by show _ ≤ (W.alloc _).heap.size; simp; omega)
    have bpc2 : Blk w2 w.heap.size 64 #[.pointer (some ⟨g, m * 2, none⟩)] := ((bpc.alloc _).drew).grown hgrow (blk_apart bpc ownW (by decide))
    have bcnt2 : Blk w2 C 3 #[.int .i64 (k + pre.length : Nat)] := ((bcnt.alloc _).drew).grown hgrow (blk_apart bcnt ownW (by decide))
    have ownP2 : w2.ownsRow bp 58 2 (.slice (some ⟨g, 0, none⟩) (m + 1) cP) (m + 1) (cs ++ [.int .i64 h, v]) := ((ownP.alloc _).drew).kept hgrow (.inr (fun e => own_off ownP ownW (by decide) e.symm rfl))
    have hlow := ownW.lt
    have two2 : Two g C w w2 := ((two.alloc _).drew).grown hgrow (fun r e => .inl (by have := (hlow r e).1; omega))
    have hz9 : W.heap.size + 1 ≤ w2.heap.size := by have := hgrow.size; simpa using this
    have hrow : ∀ g', v.ownBlock = some g' → ∃ cs', W.heap[g']? = some (.cells cs' 9 (0, 0)) := fun g' e => by
      rcases ownW.2 with ⟨rfl, _⟩ | ⟨g'', cap, cur, rfl, _, hh, _⟩
      · simp [Value.ownBlock] at e
      · have : g'' = g' := by simpa [Value.ownBlock] using e
        subst this
        exact ⟨_, hh⟩
    have KO2 : KeepsOthers W w2 := ((KeepsOthers.alloc W _).trans (KeepsOthers.drew _)).trans (KeepsOthers.of_grownBy hgrow fun g' o' e ho => by
      obtain ⟨cs', hcs'⟩ := hrow g' e
      have := (Below.heap_alloc W (.cells #[.string (S x.2)] 9) g' (Array.getElem?_eq_some_iff.1 hcs').1).trans hcs'
      rw [show (W.alloc (.cells #[.string (S x.2)] 9)).drew.heap = (W.alloc (.cells #[.string (S x.2)] 9)).heap from rfl, this] at ho
      cases ho; rfl)
    have KT2 : KpT (w.heap.size + 1) (w.heap.size + 1 + 1) W w2 := ⟨fun i h1 h2 => by
      refine (hgrow.block i (by show i < (W.alloc _).heap.size; rw [World.size_alloc]; omega) (fun e => by have := (hlow i e.symm).1; omega)).trans (Below.heap_alloc W _ i (by omega)), by omega⟩
    have hst := (ownP2.stored (m * 2 + 1) v2).1
    have hgs := (ownP2.stored (m * 2 + 1) v2).2
    rw [show (cs ++ [.int .i64 h, v]).set (m * 2 + 1) v2 = cs ++ [.int .i64 h, v2] by rw [List.set_append, if_neg (by omega), hcs]; simp] at hst
    have ownW3 := hown3.kept hgs (.inr (fun e => own_off hown3 ownP2 (by decide) (g := g) rfl e))
    have two3 := two2.set (q := ⟨g, m * 2 + 1, none⟩) (.inr (.inl rfl)) v2
    have bpc3 := bpc2.far (p := ⟨g, m * 2 + 1, none⟩) (by show w.heap.size ≠ g; omega) v2
    have bcnt3 := bcnt2.far (p := ⟨g, m * 2 + 1, none⟩) (Ne.symm hgC) v2
    have KO3 := KO2.trans (KeepsOthers.setCell w2 ⟨g, m * 2 + 1, none⟩ v2)
    have KT3 := KT2.trans (⟨fun i h1 h2 => Below.heap_setCell w2 ⟨g, m * 2 + 1, none⟩ v2 i (by show i ≠ g; omega), by simp [World.setCell]⟩ : KpT (w.heap.size + 1) (w.heap.size + 1 + 1) w2 (w2.setCell ⟨g, m * 2 + 1, none⟩ v2))
    have c5 := bcnt3.cell' 0 _ rfl
    have c6 := bcnt3.free 0
    have u6 : IntKind.i64.wrap (((k + pre.length : Nat) : Int) + 1) = ((k + (pre.length + 1) : Nat) : Int) := by rw [IntWalk.i64_in _ (by omega)]; omega
    have sz3 : w.heap.size + 2 ≤ (w2.setCell ⟨g, m * 2 + 1, none⟩ v2).heap.size := by simp [World.setCell]; omega
    have HF : Hid (KeepsOthers W ((w2.setCell ⟨g, m * 2 + 1, none⟩ v2).setCell ⟨C, 0, none⟩ (.int .i64 (k + (pre.length + 1) : Nat))) ∧ KpT (w.heap.size + 1) (w.heap.size + 1 + 1) W ((w2.setCell ⟨g, m * 2 + 1, none⟩ v2).setCell ⟨C, 0, none⟩ (.int .i64 (k + (pre.length + 1) : Nat))) ∧
        InvP bp g C cP m k cs h w (pre ++ [x]) ((w2.setCell ⟨g, m * 2 + 1, none⟩ v2).setCell ⟨C, 0, none⟩ (.int .i64 (k + (pre.length + 1) : Nat)))) := by
      refine Lib.hid ⟨KO3.trans (KeepsOthers.setCell _ _ _), KT3.trans ⟨fun i h1 h2 => Below.heap_setCell _ ⟨C, 0, none⟩ _ i (by show i ≠ C; omega), by simp [World.setCell]⟩, two3.set (q := ⟨C, 0, none⟩) (.inr (.inr rfl)) _, by simpa [World.setCell] using sz3, ⟨v2, ?_, ?_⟩, bpc3.far (by show w.heap.size ≠ C; omega) _, ?_⟩
      · exact hst.kept (grown_set _ _ _) (.inr (by simp only [Value.ownBlock]; intro e; exact hgC (Option.some.inj e)))
      · refine own_to (ownW3.kept (grown_set _ _ _) (.inr (fun e => own_off_blk ownW3 bcnt3 (by decide) e))) (by simp) (by simp [sCells])
      · rw [List.length_append, List.length_singleton]
        exact (bcnt3.put 0 _).same (by simp)
    have e5 : w2.cell? ⟨g, m * 2 + 1, none⟩ = some v := by rw [ownP2.cellAt (m * 2 + 1) (by omega), List.getElem?_append_right (by omega), hcs]; simp
    have e6 : w2.frozen? ⟨g, m * 2 + 1, none⟩ = false := ownP2.frozenAt _
    have hS2 : (W.alloc (.cells #[.string (S x.2)] 9)).drew.cell? ⟨w.heap.size, 0, none⟩ = some (.pointer (some ⟨g, m * 2, none⟩)) := e1
    have hS3 : w2.cell? ⟨w.heap.size, 0, none⟩ = some (.pointer (some ⟨g, m * 2, none⟩)) := bpc2.cell' 0 _ rfl
    obtain ⟨gv, cv, hv2, _, _⟩ := hown3.form (by omega)
    subst hv2
    have hS4 : (w2.setCell ⟨g, m * 2 + 1, none⟩ (.slice (some ⟨gv, 0, none⟩) (pre.length + 1) cv)).cell? ⟨w.heap.size, 0, none⟩ = some (.pointer (some ⟨g, m * 2, none⟩)) := bpc3.cell' 0 _ rfl
    clear hst hgs ownW3 two3 bpc3 bcnt3 KO3 KT3 KO2 KT2 hrow hown3 hgrow bpc2 bcnt2 ownP2 two2 ownP ownW bpc bcnt two hlow
    gi_wp2
    refine wpIn_region_held (fun w' => w'.cell? ⟨w.heap.size, 0, none⟩ = some (.pointer (some ⟨g, m * 2, none⟩))) (by kernel_rfl) (by kernel_rfl) e0 (fun hS => ?_)
    refine wpAnyH_take (i := 0) (v := .pointer (some ⟨g, m * 2, none⟩)) rfl (by kernel_rfl) (by kernel_rfl) (by kernel_rfl) (fun _ _ _ h => h) (Or.inl ⟨by rfl, fun w hS => by go_simp⟩) hS ?_
    simp only [Act.put, List.setIfInBounds_toArray, List.set_cons_zero, List.set_cons_succ]
    refine wpAnyH_take (i := 1) (v := .pointer (some ⟨g, m * 2, none⟩)) rfl (by kernel_rfl) (by kernel_rfl) (by kernel_rfl) (fun _ _ _ h => h) (Or.inl ⟨by rfl, fun w hS => by go_simp⟩) hS ?_
    simp only [Act.put, List.setIfInBounds_toArray, List.set_cons_zero, List.set_cons_succ]
    refine wpAnyH_take (i := 2) (v := .pointer (some ⟨g, m * 2, none⟩)) rfl (by kernel_rfl) (by kernel_rfl) (by kernel_rfl) (fun _ _ _ h => h) (Or.inl ⟨by rfl, fun w hS => by go_simp⟩) hS ?_
    simp only [Act.put, List.setIfInBounds_toArray, List.set_cons_zero, List.set_cons_succ]
    refine wpAnyH_take (i := 3) (v := .pointer (some ⟨g, m * 2 + 1, none⟩)) rfl (by kernel_rfl) (by kernel_rfl) (by kernel_rfl) (fun _ _ _ h => h) (Or.inl ⟨by rfl, fun w hS => by go_simp⟩) hS ?_
    simp only [Act.put, List.setIfInBounds_toArray, List.set_cons_zero, List.set_cons_succ]
    refine wpAnyH_take (i := 5) (v := .string (S x.2)) rfl (by kernel_rfl) (by kernel_rfl) (by kernel_rfl) (fun _ _ _ h => h) (Or.inl ⟨by rfl, fun w hS => by go_simp⟩) hS ?_
    simp only [Act.put, List.setIfInBounds_toArray, List.set_cons_zero, List.set_cons_succ]
    refine wpAnyH_ready (rs := [4, 6]) (by kernel_rfl) (by simp) ?_
    refine AllReadyH.cons rfl (fun K hK => ?_) (AllReadyH.cons rfl (fun K hK => ?_) AllReadyH.nil)
    · go_simp
      refine hK.out _ _ hS (fun _ => ?_)
      clear hK K
      refine wpAnyH_ready (rs := [6]) (by kernel_rfl) (by simp) ?_
      refine AllReadyH.cons rfl (fun K hK => ?_) AllReadyH.nil
      go_simp
      refine hK.out _ _ hS2 (fun _ => ?_)
      clear hK K
      refine wpAnyH_ready (rs := [7]) (by kernel_rfl) (by simp) ?_
      refine AllReadyH.cons rfl (fun K hK => ?_) AllReadyH.nil
      rw [if_pos (by rfl)]
      refine wp_run_append (.tmp 22) (.tmp 24) 37 rfl rfl rfl hrun ?_
      simp only [Act.put, List.setIfInBounds_toArray, List.set_cons_zero, List.set_cons_succ]
      refine hK.out _ _ hS3 (fun _ => ?_)
      clear hK K
      refine wpAnyH_take (i := 8) (v := .pointer (some ⟨g, m * 2, none⟩)) rfl (by kernel_rfl) (by kernel_rfl) (by kernel_rfl) (fun _ _ _ h => h) (Or.inl ⟨by rfl, fun w hS => by go_simp⟩) hS3 ?_
      simp only [Act.put, List.setIfInBounds_toArray, List.set_cons_zero, List.set_cons_succ]
      refine wpAnyH_take (i := 9) (v := .pointer (some ⟨g, m * 2 + 1, none⟩)) rfl (by kernel_rfl) (by kernel_rfl) (by kernel_rfl) (fun _ _ _ h => h) (Or.inl ⟨by rfl, fun w hS => by go_simp⟩) hS3 ?_
      simp only [Act.put, List.setIfInBounds_toArray, List.set_cons_zero, List.set_cons_succ]
      refine wpAnyH_ready (rs := [10]) (by kernel_rfl) (by simp) ?_
      refine AllReadyH.cons rfl (fun K hK => ?_) AllReadyH.nil
      go_simp
      refine hK.out _ _ hS4 (fun _ => ?_)
      clear hK K
      refine wpAnyH_done (by kernel_rfl) ?_ _
      rw [noOut_normal]
      gi_wp2
      exact HF.out
    · go_simp
      refine hK.out _ _ hS2 (fun _ => ?_)
      clear hK K
      refine wpAnyH_ready (rs := [4]) (by kernel_rfl) (by simp) ?_
      refine AllReadyH.cons rfl (fun K hK => ?_) AllReadyH.nil
      go_simp
      refine hK.out _ _ hS2 (fun _ => ?_)
      clear hK K
      refine wpAnyH_ready (rs := [7]) (by kernel_rfl) (by simp) ?_
      refine AllReadyH.cons rfl (fun K hK => ?_) AllReadyH.nil
      rw [if_pos (by rfl)]
      refine wp_run_append (.tmp 22) (.tmp 24) 37 rfl rfl rfl hrun ?_
      simp only [Act.put, List.setIfInBounds_toArray, List.set_cons_zero, List.set_cons_succ]
      refine hK.out _ _ hS3 (fun _ => ?_)
      clear hK K
      refine wpAnyH_take (i := 8) (v := .pointer (some ⟨g, m * 2, none⟩)) rfl (by kernel_rfl) (by kernel_rfl) (by kernel_rfl) (fun _ _ _ h => h) (Or.inl ⟨by rfl, fun w hS => by go_simp⟩) hS3 ?_
      simp only [Act.put, List.setIfInBounds_toArray, List.set_cons_zero, List.set_cons_succ]
      refine wpAnyH_take (i := 9) (v := .pointer (some ⟨g, m * 2 + 1, none⟩)) rfl (by kernel_rfl) (by kernel_rfl) (by kernel_rfl) (fun _ _ _ h => h) (Or.inl ⟨by rfl, fun w hS => by go_simp⟩) hS3 ?_
      simp only [Act.put, List.setIfInBounds_toArray, List.set_cons_zero, List.set_cons_succ]
      refine wpAnyH_ready (rs := [10]) (by kernel_rfl) (by simp) ?_
      refine AllReadyH.cons rfl (fun K hK => ?_) AllReadyH.nil
      go_simp
      refine hK.out _ _ hS4 (fun _ => ?_)
      clear hK K
      refine wpAnyH_done (by kernel_rfl) ?_ _
      rw [noOut_normal]
      gi_wp2
      exact HF.out
  case hdone =>
    intro D W hD hI hk
    obtain ⟨two, hsz, ⟨v, ownP, ownW⟩, bpc, bcnt⟩ := hI
    gi_wp2
    refine ⟨by simp, .inl ⟨_, _, rfl, run_takeDeferred hk, ?_⟩⟩
    exact ⟨.tuple #[], by simp [results, Tryz.results36, go_sem], rfl, v, own_putObj ownP hk, own_putObj ownW hk, blk_putObj bcnt hk, two.putObj _ (by omega)⟩
end Go.Proofs.YtpoelhnceebmkaaGreatDoor
