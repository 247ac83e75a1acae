/- A block of cells that is known whole; what stays of it. No conditions. A range over a function whose iterator keeps what is left in a captured variable (strings.SplitSeq): the law for a loop whose body goes on at every round. Turned from the kit's law for iterators that read memory; one thing more: the caller's words abide a store into that variable. No conditions of ours. A range over a function with any number of loop variables, whose iterator appends to slices of its own between two rounds: the law for a loop whose body goes on at every round. Turned from the kit's law for iterators that read memory; one thing more: the caller's words abide a turn of a block of cells of the iterator's element type. No conditions of ours. A region that draws its order, met in a round of a range over a function: its head reads and calls quietly, its tail is forced: the head in the order of the text, then the tail as a plain list. Turned from the kit's law for plain walks. No conditions of ours. -/
import Derived.Test.YtpoelhnceebmkaaGreatDoorBase
import Derived.RangeFuncNested
import Derived.RangeFuncBound
import Derived.RangeFuncCalls
import Derived.RangeFuncLeaves
import Derived.StillTailTactics
import Derived.OrdersIn
import Derived.Deep.RegionHeld

namespace Go.Proofs.YtpoelhnceebmkaaGreatDoor
open Go Go.RowKit

/-- Block g is just the cells cs of element type t, none of them frozen. -/
def Blk (w : World) (g : Nat) (t : TypeId) (cs : Array Value) : Prop := w.heap[g]? = some (.cells cs t (0, 0))
section
variable {w w' : World} {g : Nat} {t : TypeId} {cs : Array Value}
theorem Blk.lt (h : Blk w g t cs) : g < w.heap.size := (Array.getElem?_eq_some_iff.1 h).1
theorem Blk.cell (h : Blk w g t cs) (i : Nat) : w.cell? ⟨g, i, none⟩ = cs[i]? := cell_of_row w g i cs t (0, 0) h
theorem Blk.cell' (h : Blk w g t cs) (i : Nat) (v : Value) (e : cs[i]? = some v) : w.cell? ⟨g, i, none⟩ = some v := (h.cell i).trans e
theorem Blk.free (h : Blk w g t cs) (i : Nat) : w.frozen? ⟨g, i, none⟩ = false := by
  unfold Blk at h
  simp [World.frozen?, h]
theorem Blk.made (w : World) (t : TypeId) (cs : Array Value) : Blk (w.alloc (.cells cs t)) w.heap.size t cs := heap_alloc_new w _
theorem Blk.drew (h : Blk w g t cs) : Blk w.drew g t cs := h
theorem Blk.alloc (h : Blk w g t cs) (o : Obj) : Blk (w.alloc o) g t cs := (Below.heap_alloc w o g h.lt).trans h
theorem Blk.put (h : Blk w g t cs) (i : Nat) (u : Value) : Blk (w.setCell ⟨g, i, none⟩ u) g t (cs.setIfInBounds i u) := by
  unfold Blk at h ⊢
  simp [World.setCell, Array.getElem?_modify, h]
theorem Blk.far (h : Blk w g t cs) {p : Addr} (hp : g ≠ p.block) (u : Value) : Blk (w.setCell p u) g t cs := (Below.heap_setCell w p u g hp).trans h
theorem Blk.below {B : Nat} (h : Blk w g t cs) (hb : Below B w w') (hg : g < B) : Blk w' g t cs := (hb.block g hg).trans h
theorem Blk.new (h : Blk w g t cs) (hb : New w w') : Blk w' g t cs := h.below hb h.lt
theorem Blk.grown (h : Blk w g t cs) {row : Option Nat} (hb : w.grownBy w' row) (hg : some g ≠ row) : Blk w' g t cs := (hb.block g h.lt hg).trans h
/-- A block of cells stays where a block that is no cells is turned. -/
theorem Blk.others (h : Blk w g t cs) {row : Option Nat} (hb : w.grownBy w' row) (hr : ∀ r, row = some r → ∃ o : Obj, w.heap[r]? = some o ∧ (∀ c e f, o ≠ .cells c e f)) : Blk w' g t cs :=
  h.grown hb (fun e => by
    obtain ⟨o, ho, hn⟩ := hr g e.symm
    unfold Blk at h
    rw [h] at ho
    exact hn _ _ _ (Option.some.inj ho).symm)
theorem Blk.same {cs' : Array Value} (h : Blk w g t cs) (e : cs = cs') : Blk w g t cs' := e ▸ h
end
/-- What a call that makes memory only, behind stores into blocks of one's own, leaves below a bound. -/
theorem below_setCell' {B : Nat} {a w : World} (h : Below B a w) {p : Addr} (hp : B ≤ p.block) (u : Value) : Below B a (w.setCell p u) := Below.setCell h hp u
end Go.Proofs.YtpoelhnceebmkaaGreatDoor

namespace Go.Proofs.YtpoelhnceebmkaaGreatDoor
open Go Go.RowKit

/-- What a round keeps of the iterator's own blocks. -/
def KpR (K1 K2 : Nat) (W W' : World) : Prop := ∀ k, K1 ≤ k → k < K2 → W'.heap[k]? = W.heap[k]?

def SeqS {α : Type} (n : Nat) (P : Program) (g : Nat) (lb : Array Value) (enc : α → Value) (bS K1 K2 : Nat) (xs : List α) (W0 : World) : Prop :=
  ∀ (l : Nat) (J : List α → World → Prop) (W : World), New W0 W → AbidesFrom W.heap.size J → (∀ pre W1 v, J pre W1 → J pre (W1.setCell ⟨bS, 0, none⟩ v)) →
    (∀ pre x W1, (pre ++ [x]) <+: xs → J pre W1 → YieldAt Fence.wide (n - 1) P l #[enc x] W1 fun e W' => e = .returned (.bool true) ∧ J (pre ++ [x]) W' ∧ KpR K1 K2 W1 W') →
    J [] W →
    CallsIn Fence.wide n P g (#[.func (.yield l) #[] #[]] ++ lb) W fun e W' => (∃ v, e = .returned v) ∧ J xs W'

def roundS {α : Type} (K1 K2 : Nat) (I : List α → World → Prop) (xs : List α) (W : World) : Exit → Act → World → Prop
  | .normal, _, W' => KeepsOthers W W' ∧ KpR K1 K2 W W' ∧ I xs W'
  | _, _, _ => False

theorem wpIn_rangeFunc_S {α : Type} {n : Nat} {P : Program} {g : Operand} {ps : Array Tmp} {assign body : Code} {Q : Exit → Act → World → Prop} {a : Act} {w : World}
    {gf : Nat} {lb : Array Value} (hg : a.eval g = .func (.func gf) #[] lb) (eg : ∀ args w, (callFunc gf args).run P w = .ok (.enter gf args) w)
    {enc : α → Value} {bS K1 K2 : Nat} {xs : List α} {w0 : World} (hseq : SeqS (n - 1) P gf lb enc bS K1 K2 xs w0) (hb0 : New w0 w) (hK2 : K2 ≤ w.heap.size) (hbS : bS < w.heap.size) (hps : ps.size = 1)
    (I : List α → World → Prop) (hI : OwnFrom w.heap.size I) (hIS : ∀ pre W v, I pre W → I pre (W.setCell ⟨bS, 0, none⟩ v)) (h0 : I [] w) (a₁ : α → Act)
    (hassign : ∀ (l : Nat) (x : α) (W : World) (K : Act → World → Prop), K (a₁ x) W →
      assign.wpIn (Fence.wide.inRound l) (n - 1 - 1) P (Exit.then K (fun _ _ _ => False)) { tmps := (ps.zip #[enc x]).foldl (fun t (p, v) => t.setIfInBounds p v) a.tmps, defers := [] } W)
    (hbody : ∀ (l : Nat) (pre : List α) (x : α) (W : World), (pre ++ [x]) <+: xs → I pre W → body.wpIn (Fence.wide.inRound l) (n - 1 - 1) P (roundS K1 K2 I (pre ++ [x]) W) (a₁ x) W)
    (hdone : ∀ (D : Nat) (W : World), w.heap.size ≤ D → I xs W → W.heap[D]? = some (.deferred (some [])) → Q .normal { a with defers := { target := .collected D, args := #[] } :: a.defers } W) :
    (Code.rangeFunc g ps assign body).wpIn Fence.wide n P Q a w := by
  have hKb : ∀ (W : World) (l : Nat) (o' : Obj), w.heap.size ≤ l → KpR K1 K2 W (W.putObj l o') := fun W l o' hl k _ hk => World.putObj_heap_other (by omega)
  refine wpIn_rangeFunc ?_
  intro fn hfn
  rw [show Fence.wide.round = none from rfl]
  obtain ⟨rec, hrec⟩ : ∃ rec : LoopState → Option Code → Loop, rec = fun st pe => { state := st, pending := pe, fn, tmps := a.tmps, params := ps, assign, body, defers := w.heap.size } := ⟨_, rfl⟩
  obtain ⟨W1, hW1⟩ : ∃ W1, (w.alloc (.deferred (some []))).alloc (.loop (rec .ready none)) = W1 := ⟨_, rfl⟩
  have hL1 : W1.heap[w.heap.size + 1]? = some (.loop (rec .ready none)) := by
    rw [← hW1]; have := World.alloc_heap_new (w.alloc (.deferred (some []))) (.loop (rec .ready none)); rwa [World.size_alloc] at this
  have hK1 : W1.heap[w.heap.size]? = some (.deferred (some [])) := by
    rw [← hW1]; exact (Below.heap_alloc _ _ _ (by simp)).trans (World.alloc_heap_new w _)
  have hI1 : I [] W1 := by rw [← hW1]; exact hI.alloc _ (hI.alloc _ h0)
  have hb1 : New w0 W1 := by
    rw [← hW1]; exact (hb0.alloc _).alloc _
  refine ⟨w.heap.size + 1, [{ target := .collected w.heap.size, args := #[] }], W1, { target := .fn (.func gf) lb, args := #[.func (.yield (w.heap.size + 1)) #[] #[]] }, W1, gf,
    #[.func (.yield (w.heap.size + 1)) #[] #[]] ++ lb, W1, ?_, ?_, ?_, ?_, fun h => (by cases h), ?_⟩
  · rw [← hW1, hrec]; exact run_enterLoop_outer _ _ _ _ _
  · simp only [resolve, hg]
    simp [go_sem]
  · intro f' _; trivial
  · simp [invoke, go_sem, eg]
  · have hnw : ∀ {A : World} {row : Option Nat}, (∀ r, row = some r → W1.heap.size ≤ r ∧ ∃ o : Obj, A.heap[r]? = some o ∧ o.isWalk = true) → (∀ r, row = some r → w.heap.size ≤ r ∧ ∃ o : Obj, A.heap[r]? = some o ∧ o.isCells = false) :=
      fun hr r e => by obtain ⟨hB, o, ho, hw⟩ := hr r e; exact ⟨by rw [← hW1] at hB; simp at hB; omega, o, ho, Obj.not_cells_of_walk hw⟩
    refine (hseq (w.heap.size + 1)
      (fun pre W => I pre W ∧ W.heap[w.heap.size + 1]? = some (.loop (rec .ready none)) ∧ W.heap[w.heap.size]? = some (.deferred (some [])))
      W1 hb1
      (fun s A B row hs hg' hr => ⟨hI s A B row hs.1 hg' (hnw hr), (grownBy_keeps hg' (fun r e => (hr r e).2) hs.2.1 rfl).trans hs.2.1, (grownBy_keeps hg' (fun r e => (hr r e).2) hs.2.2 rfl).trans hs.2.2⟩)
      (fun pre A v hs => ⟨hIS pre A v hs.1, (Below.heap_setCell A ⟨bS, 0, none⟩ v _ (by show _ ≠ bS; omega)).trans hs.2.1, (Below.heap_setCell A ⟨bS, 0, none⟩ v _ (by show _ ≠ bS; omega)).trans hs.2.2⟩)
      ?_ ⟨hI1, hL1, hK1⟩).mono ?_
    · rintro pre x W hpx ⟨hi, hl, hk⟩
      have hlt : w.heap.size + 1 < W.heap.size := (Array.getElem?_eq_some_iff.1 hl).1
      have hy := run_yield (P := P) (args := #[enc x]) hl (by rw [hrec]; exact hps.symm)
      rw [hrec] at hy
      refine ⟨fn, _, assign, body, hy, roundIn_of_wpIn hfn (hassign _ x W _ ⟨_, run_beginRound hl (by rw [hrec]), ?_⟩)⟩
      have hl2 : (W.putObj (w.heap.size + 1) (.loop { rec .ready none with state := .busy })).heap[w.heap.size + 1]? = some (.loop { rec .ready none with state := .busy }) := World.putObj_heap_same hlt
      have hk2 : (W.putObj (w.heap.size + 1) (.loop { rec .ready none with state := .busy })).heap[w.heap.size]? = some (.deferred (some [])) := (World.putObj_heap_other (by omega)).trans hk
      have hw2 : KpR K1 K2 W (W.putObj (w.heap.size + 1) (.loop { rec .ready none with state := .busy })) := hKb _ _ _ (by omega)
      refine wpIn_mono (hbody _ pre x _ hpx (hI.putObj _ hi (by omega) hl rfl)) ?_
      rintro e a3 W3 hp
      cases e with
      | normal =>
        obtain ⟨hk3, hkp3, hi3⟩ := hp
        have hl3 := hk3.same _ _ hl2 rfl
        have hr := run_endRound (P := P) none hl3
        have hl3' := hl3
        rw [hrec] at hr hl3'
        have hl4 : (W3.putObj (w.heap.size + 1) (.loop (rec .ready none))).heap[w.heap.size + 1]? = some (.loop (rec .ready none)) := World.putObj_heap_same (Array.getElem?_eq_some_iff.1 hl3).1
        have hk4 : (W3.putObj (w.heap.size + 1) (.loop (rec .ready none))).heap[w.heap.size]? = some (.deferred (some [])) := (World.putObj_heap_other (by omega)).trans (hk3.same _ _ hk2 rfl)
        have hi4 : I (pre ++ [x]) (W3.putObj (w.heap.size + 1) (.loop (rec .ready none))) := hI.putObj _ hi3 (by omega) hl3 rfl
        have hkk : KpR K1 K2 W (W3.putObj (w.heap.size + 1) (.loop (rec .ready none))) := fun k h1 h2 => (hKb W3 _ _ (by omega) k h1 h2).trans ((hkp3 k h1 h2).trans (hw2 k h1 h2))
        rw [hrec] at hl4 hk4 hi4 hkk ⊢
        exact ⟨_, _, hr, rfl, ⟨hi4, hl4, hk4⟩, hkk⟩
      | ret => exact hp.elim
      | exit id => exact hp.elim
      | goto t => exact hp.elim
      | panic ch => exact hp.elim
      | outgrown => exact hp.elim
    · rintro e W2 ⟨⟨v, rfl⟩, hi, hl, hk⟩
      exact ⟨none, _, by have := run_endLoop (P := P) hl (by rw [hrec]; simp); rw [hrec] at this; exact this, hdone _ _ (Nat.le_refl _) (hI.putObj _ hi (by omega) hl rfl) ((World.putObj_heap_other (by omega)).trans hk)⟩

end Go.Proofs.YtpoelhnceebmkaaGreatDoor

namespace Go.Proofs.YtpoelhnceebmkaaGreatDoor
open Go Go.RowKit

/-- What a round keeps of the iterator's own blocks. -/
structure KpT (K1 K2 : Nat) (W W' : World) : Prop where
  block : ∀ k, K1 ≤ k → k < K2 → W'.heap[k]? = W.heap[k]?
  size : W.heap.size ≤ W'.heap.size
theorem KpT.trans {K1 K2 : Nat} {a b c : World} (h : KpT K1 K2 a b) (g : KpT K1 K2 b c) : KpT K1 K2 a c := ⟨fun k h1 h2 => (g.block k h1 h2).trans (h.block k h1 h2), Nat.le_trans h.size g.size⟩

/-- The caller's words abide new blocks, and the turn of one block of cells of type t that lies at or beyond B. -/
def AbidesT {β : Type} (t : TypeId) (B : Nat) (J : β → World → Prop) : Prop :=
  ∀ s W W' row, J s W → W.grownBy W' row → (∀ r, row = some r → B ≤ r ∧ ∃ c fz, W.heap[r]? = some (.cells c t fz)) → J s W'
def SeqT {α : Type} (n : Nat) (P : Program) (g : Nat) (lb : Array Value) (enc : α → Array Value) (t : TypeId) (K1 K2 : Nat) (xs : List α) (W0 : World) : Prop :=
  ∀ (l : Nat) (J : List α → World → Prop) (W : World), New W0 W → AbidesFrom W.heap.size J → AbidesT t W.heap.size J →
    (∀ pre x W1, (pre ++ [x]) <+: xs → J pre W1 → YieldAt Fence.wide (n - 1) P l (enc x) W1 fun e W' => e = .returned (.bool true) ∧ J (pre ++ [x]) W' ∧ KpT K1 K2 W1 W') →
    J [] W →
    CallsIn Fence.wide n P g (#[.func (.yield l) #[] #[]] ++ lb) W fun e W' => (∃ v, e = .returned v) ∧ J xs W'

def roundT {α : Type} (K1 K2 : Nat) (I : List α → World → Prop) (xs : List α) (W : World) : Exit → Act → World → Prop
  | .normal, _, W' => KeepsOthers W W' ∧ KpT K1 K2 W W' ∧ I xs W'
  | _, _, _ => False

theorem wpIn_rangeFunc_T {α : Type} {n : Nat} {P : Program} {g : Operand} {ps : Array Tmp} {assign body : Code} {Q : Exit → Act → World → Prop} {a : Act} {w : World}
    {gf : Nat} {lb : Array Value} (hg : a.eval g = .func (.func gf) #[] lb) (eg : ∀ args w, (callFunc gf args).run P w = .ok (.enter gf args) w)
    {enc : α → Array Value} {t : TypeId} {K1 K2 : Nat} {xs : List α} {w0 : World} (hseq : SeqT (n - 1) P gf lb enc t K1 K2 xs w0) (hb0 : New w0 w) (hK2 : K2 ≤ w.heap.size) (hps : ∀ x, ps.size = (enc x).size)
    (I : List α → World → Prop) (hI : OwnFrom w.heap.size I) (hIT : AbidesT t w.heap.size I) (h0 : I [] w) (a₁ : α → Act)
    (hassign : ∀ (l : Nat) (x : α) (W : World) (K : Act → World → Prop), K (a₁ x) W →
      assign.wpIn (Fence.wide.inRound l) (n - 1 - 1) P (Exit.then K (fun _ _ _ => False)) { tmps := (ps.zip (enc x)).foldl (fun t (p, v) => t.setIfInBounds p v) a.tmps, defers := [] } W)
    (hbody : ∀ (l : Nat) (pre : List α) (x : α) (W : World), (pre ++ [x]) <+: xs → I pre W → body.wpIn (Fence.wide.inRound l) (n - 1 - 1) P (roundT K1 K2 I (pre ++ [x]) W) (a₁ x) W)
    (hdone : ∀ (D : Nat) (W : World), w.heap.size ≤ D → I xs W → W.heap[D]? = some (.deferred (some [])) → Q .normal { a with defers := { target := .collected D, args := #[] } :: a.defers } W) :
    (Code.rangeFunc g ps assign body).wpIn Fence.wide n P Q a w := by
  have hKb : ∀ (W : World) (l : Nat) (o' : Obj), w.heap.size ≤ l → KpT K1 K2 W (W.putObj l o') := fun W l o' hl => ⟨fun k _ hk => World.putObj_heap_other (by omega), Nat.le_of_eq World.putObj_size.symm⟩
  refine wpIn_rangeFunc ?_
  intro fn hfn
  rw [show Fence.wide.round = none from rfl]
  obtain ⟨rec, hrec⟩ : ∃ rec : LoopState → Option Code → Loop, rec = fun st pe => { state := st, pending := pe, fn, tmps := a.tmps, params := ps, assign, body, defers := w.heap.size } := ⟨_, rfl⟩
  obtain ⟨W1, hW1⟩ : ∃ W1, (w.alloc (.deferred (some []))).alloc (.loop (rec .ready none)) = W1 := ⟨_, rfl⟩
  have hL1 : W1.heap[w.heap.size + 1]? = some (.loop (rec .ready none)) := by
    rw [← hW1]; have := World.alloc_heap_new (w.alloc (.deferred (some []))) (.loop (rec .ready none)); rwa [World.size_alloc] at this
  have hK1 : W1.heap[w.heap.size]? = some (.deferred (some [])) := by
    rw [← hW1]; exact (Below.heap_alloc _ _ _ (by simp)).trans (World.alloc_heap_new w _)
  have hI1 : I [] W1 := by rw [← hW1]; exact hI.alloc _ (hI.alloc _ h0)
  have hb1 : New w0 W1 := by
    rw [← hW1]; exact (hb0.alloc _).alloc _
  refine ⟨w.heap.size + 1, [{ target := .collected w.heap.size, args := #[] }], W1, { target := .fn (.func gf) lb, args := #[.func (.yield (w.heap.size + 1)) #[] #[]] }, W1, gf,
    #[.func (.yield (w.heap.size + 1)) #[] #[]] ++ lb, W1, ?_, ?_, ?_, ?_, fun h => (by cases h), ?_⟩
  · rw [← hW1, hrec]; exact run_enterLoop_outer _ _ _ _ _
  · simp only [resolve, hg]
    simp [go_sem]
  · intro f' _; trivial
  · simp [invoke, go_sem, eg]
  · have hnw : ∀ {A : World} {row : Option Nat}, (∀ r, row = some r → W1.heap.size ≤ r ∧ ∃ o : Obj, A.heap[r]? = some o ∧ o.isWalk = true) → (∀ r, row = some r → w.heap.size ≤ r ∧ ∃ o : Obj, A.heap[r]? = some o ∧ o.isCells = false) :=
      fun hr r e => by obtain ⟨hB, o, ho, hw⟩ := hr r e; exact ⟨by rw [← hW1] at hB; simp at hB; omega, o, ho, Obj.not_cells_of_walk hw⟩
    refine (hseq (w.heap.size + 1)
      (fun pre W => I pre W ∧ W.heap[w.heap.size + 1]? = some (.loop (rec .ready none)) ∧ W.heap[w.heap.size]? = some (.deferred (some [])))
      W1 hb1
      (fun s A B row hs hg' hr => ⟨hI s A B row hs.1 hg' (hnw hr), (grownBy_keeps hg' (fun r e => (hr r e).2) hs.2.1 rfl).trans hs.2.1, (grownBy_keeps hg' (fun r e => (hr r e).2) hs.2.2 rfl).trans hs.2.2⟩)
      (fun s A B row hs hg' hr => ⟨hIT s A B row hs.1 hg' (fun r e => ⟨by have := (hr r e).1; rw [← hW1] at this; simp at this; omega, (hr r e).2⟩),
        (hg'.block _ (Array.getElem?_eq_some_iff.1 hs.2.1).1 (fun e => by obtain ⟨c, fz, h⟩ := (hr _ e.symm).2; rw [hs.2.1] at h; cases h)).trans hs.2.1,
        (hg'.block _ (Array.getElem?_eq_some_iff.1 hs.2.2).1 (fun e => by obtain ⟨c, fz, h⟩ := (hr _ e.symm).2; rw [hs.2.2] at h; cases h)).trans hs.2.2⟩)
      ?_ ⟨hI1, hL1, hK1⟩).mono ?_
    · rintro pre x W hpx ⟨hi, hl, hk⟩
      have hlt : w.heap.size + 1 < W.heap.size := (Array.getElem?_eq_some_iff.1 hl).1
      have hy := run_yield (P := P) (args := enc x) hl (by rw [hrec]; exact (hps x).symm)
      rw [hrec] at hy
      refine ⟨fn, _, assign, body, hy, roundIn_of_wpIn hfn (hassign _ x W _ ⟨_, run_beginRound hl (by rw [hrec]), ?_⟩)⟩
      have hl2 : (W.putObj (w.heap.size + 1) (.loop { rec .ready none with state := .busy })).heap[w.heap.size + 1]? = some (.loop { rec .ready none with state := .busy }) := World.putObj_heap_same hlt
      have hk2 : (W.putObj (w.heap.size + 1) (.loop { rec .ready none with state := .busy })).heap[w.heap.size]? = some (.deferred (some [])) := (World.putObj_heap_other (by omega)).trans hk
      have hw2 : KpT K1 K2 W (W.putObj (w.heap.size + 1) (.loop { rec .ready none with state := .busy })) := hKb _ _ _ (by omega)
      refine wpIn_mono (hbody _ pre x _ hpx (hI.putObj _ hi (by omega) hl rfl)) ?_
      rintro e a3 W3 hp
      cases e with
      | normal =>
        obtain ⟨hk3, hkp3, hi3⟩ := hp
        have hl3 := hk3.same _ _ hl2 rfl
        have hr := run_endRound (P := P) none hl3
        have hl3' := hl3
        rw [hrec] at hr hl3'
        have hl4 : (W3.putObj (w.heap.size + 1) (.loop (rec .ready none))).heap[w.heap.size + 1]? = some (.loop (rec .ready none)) := World.putObj_heap_same (Array.getElem?_eq_some_iff.1 hl3).1
        have hk4 : (W3.putObj (w.heap.size + 1) (.loop (rec .ready none))).heap[w.heap.size]? = some (.deferred (some [])) := (World.putObj_heap_other (by omega)).trans (hk3.same _ _ hk2 rfl)
        have hi4 : I (pre ++ [x]) (W3.putObj (w.heap.size + 1) (.loop (rec .ready none))) := hI.putObj _ hi3 (by omega) hl3 rfl
        have hkk : KpT K1 K2 W (W3.putObj (w.heap.size + 1) (.loop (rec .ready none))) := (hw2.trans hkp3).trans (hKb W3 _ _ (by omega))
        rw [hrec] at hl4 hk4 hi4 hkk ⊢
        exact ⟨_, _, hr, rfl, ⟨hi4, hl4, hk4⟩, hkk⟩
      | ret => exact hp.elim
      | exit id => exact hp.elim
      | goto t => exact hp.elim
      | panic ch => exact hp.elim
      | outgrown => exact hp.elim
    · rintro e W2 ⟨⟨v, rfl⟩, hi, hl, hk⟩
      exact ⟨none, _, by have := run_endLoop (P := P) hl (by rw [hrec]; simp); rw [hrec] at this; exact this, hdone _ _ (Nat.le_refl _) (hI.putObj _ hi (by omega) hl rfl) ((World.putObj_heap_other (by omega)).trans hk)⟩

end Go.Proofs.YtpoelhnceebmkaaGreatDoor

namespace Go.Proofs.YtpoelhnceebmkaaGreatDoor
open Go Go.RowKit

/-- The ways out but the one for want of memory. -/
def noOut (Q : Exit → Act → World → Prop) : Exit → Act → World → Prop
  | .outgrown, _, _ => False
  | e, a, w => Q e a w
theorem noOut_normal (Q : Exit → Act → World → Prop) (a : Act) (w : World) : noOut Q .normal a w = Q .normal a w := rfl
theorem noOut_lets {Q : Exit → Act → World → Prop} (h : LetsOut (noOut Q)) : False := by obtain ⟨_, _, h⟩ := h; exact h

def plainOps (ops : Array Oper) : Bool := ops.all fun o => match o.op with
  | .defer _ => false
  | _ => true
theorem plainOps_at {ops : Array Oper} (h : plainOps ops = true) {i : Nat} {o : Oper} (ho : ops[i]? = some o) : ∀ c, o.op ≠ .defer c := by
  intro c hc
  obtain ⟨hi, rfl⟩ := Array.getElem?_eq_some_iff.1 ho
  have := (Array.all_eq_true.1 h) i hi
  rw [hc] at this
  exact absurd this (by simp)

theorem rowsIn_of {n r : Nat} {P : Program} {row : String} {args : Array Value} {w : World} {R : Value → World → Prop} (h : Rows P row args w R) : RowsIn (Fence.wide.inRound r) n P row args w R :=
  fun c cs _ => let ⟨v, w', q, s⟩ := h c cs; ⟨v, w', q, stepsIn_wide.2 s⟩

theorem wpIn_of_op {n r : Nat} {P : Program} {Q : Exit → Act → World → Prop} {o : Oper} {a : Act} {w : World} {K K' : Act → World → Prop} (hd : ∀ c, o.op ≠ .defer c) (hK : ∀ a w, K a w → K' a w)
    (h : o.wp P a w K (noOut Q)) : o.wpIn (Fence.wide.inRound r) n P a w K' (noOut Q) := by
  refine ⟨fun _ _ => trivial, ?_⟩
  rw [show (Fence.wide.inRound r).round = some r from rfl, Oper.semAt_some r a.eval o hd]
  unfold Oper.wp at h
  generalize (execOp a.eval o).run P w = res at h
  match res, h with
  | .ok (.value v) w', h => exact hK _ _ h
  | .ok .skip w', h => exact hK _ _ h
  | .ok (.defer d) w', h => exact hK _ _ h
  | .ok (.enter f args) w', h =>
    refine ⟨fun h => (by cases h), ((callsIn_wide.2 h).inRound r).mono ?_⟩
    intro e w'' hR
    match e, hR with
    | .returned v, hR => exact hK _ _ hR
    | .panicked chain, hR => exact hR
    | .outgrown, hR => exact (noOut_lets hR).elim
  | .ok (.row row args) w', h =>
    exact ⟨fun h => (by cases h), (rowsIn_of h).mono fun v w'' hR => hK _ _ hR⟩
  | .halt (.panic v) w', h => exact h

theorem wpAnyIn_of {n r : Nat} {P : Program} {md : Region.Mode} {ops : Array Oper} {Q : Exit → Act → World → Prop} (hd : plainOps ops = true) :
    ∀ (fuel : Nat) (listed : Array Bool) (a : Act) (w : World), wpAny P md ops (noOut Q) fuel listed a w → wpAnyIn (Fence.wide.inRound r) n P md ops (noOut Q) fuel listed a w
  | 0, _, _, _, h => h
  | fuel + 1, listed, a, w, h => by
    refine ⟨h.1, fun i hi => ?_⟩
    have ho := h.2 i hi
    unfold wpOp at ho
    unfold wpOpIn
    cases e : ops[i]? with
    | none => rw [e] at ho; exact wpAnyIn_of hd fuel _ _ _ ho
    | some o =>
      rw [e] at ho
      simp only at ho ⊢
      split
      · rename_i hw
        rw [if_pos hw] at ho
        rcases ho with ho | ⟨_, ho⟩
        · exact wpIn_of_op (plainOps_at hd e) (fun a w h => wpAnyIn_of hd fuel _ _ _ h) ho
        · exact (noOut_lets ho).elim
      · rename_i hw
        rw [if_neg hw] at ho
        exact ⟨fun _ _ => trivial, wpAnyIn_of hd fuel _ _ _ ho⟩

theorem wpIn_region_tail {P : Program} {id r m : Nat} {Q : Exit → Act → World → Prop} {a : Act} {w : World} {l : List Oper} (n : Nat) (hm : P.follows .mixedOrders = true) (hd : plainOps l.toArray = true) (hB : Region.lexTailB .any l.toArray n = true)
    (h : wpStill P l.toArray w.drew (fun a' => wpList P l.toArray (noOut Q) (l.drop n) a' w.drew) (l.take n) a) : (Code.region id l.toArray true).wpIn (Fence.wide.inRound r) m P Q a w := by
  simp only [Region.lexTailB, Bool.and_eq_true, decide_eq_true_eq] at hB
  obtain ⟨⟨⟨⟨hsel, hn⟩, hs⟩, hc⟩, hlex⟩ := hB
  have hn' : n < l.length := by simpa using hn
  have htl : (l.take n).length = n := by simp; omega
  have hdl : (l.drop n).length = l.toArray.size - n := by simp
  have inv0 : HeadInv .any l.toArray n (Array.replicate l.toArray.size false) :=
    ⟨by simp, fun j oj _ hl => (by rw [getD_replicate_false] at hl; cases hl), fun t _ ht => getD_in (by simpa using ht) (getD_replicate_false _ _)⟩
  have H := wpAnyL_lex (md := .any) (g := l.toArray.size - n) hsel hs hc hn (l.take n) 0 _ a (fun j hj => by
    have hj' : j < n := by rw [htl] at hj; exact hj
    simp [hj']) (by simpa using htl) inv0 (by rw [htl]; exact hlex) h
  refine wpIn_mono (Q := noOut Q) (wpIn_region_any hm (wpAnyIn_of hd _ _ _ _ ?_)) (fun e a w h => by cases e <;> first | exact h | exact h.elim)
  have := wpAny_of_head (Q' := noOut Q) (g := l.toArray.size - n) (fun listed a' hL => by
    have := wpAny_of_seq (md := .any) (Q' := noOut Q) (l.drop n) n listed a' w.drew (fun j => by simp [List.getElem?_drop]) (by rw [hdl]; exact hL.1) hL.2
    rwa [hdl] at this) _ _ _ H
  rw [htl, show n + (l.toArray.size - n) = l.toArray.size by omega] at this
  exact this

/-- The same where some loads keep their values whatever else comes up (S). -/
theorem wpIn_region_held {P : Program} {id r m : Nat} {Q : Exit → Act → World → Prop} {a : Act} {w : World} {ops : Array Oper} (S : World → Prop) (hm : P.follows .mixedOrders = true) (hd : plainOps ops = true) (hS : S w.drew)
    (h : S w.drew → wpAnyH P .any ops (noOut Q) S ops.size (Array.replicate ops.size false) a w.drew) : (Code.region id ops true).wpIn (Fence.wide.inRound r) m P Q a w :=
  wpIn_mono (Q := noOut Q) (wpIn_region_any hm (wpAnyIn_of hd _ _ _ _ (wpAny_of_held _ _ _ _ (h hS)))) (fun e a w h => by cases e <;> first | exact h | exact h.elim)
/-- An append whose run is known. -/
theorem wp_run_append {P : Program} {o : Oper} {a : Act} {w : World} {K : Act → World → Prop} {Q : Exit → Act → World → Prop} (s x : Operand) (t : TypeId)
    (ho : o.op = .call { callee := .builtin .append, args := #[s, x], argTypes := #[t, t] }) {v vx v' : Value} {w' : World} (hs : a.eval s = v) (hx : a.eval x = vx)
    (hrun : (Builtin.append_ #[t, t] o.type #[v, vx]).run P w = .ok v' w') (h : K (a.put o.dst v') w') : o.wp P a w K Q := by
  unfold Oper.wp execOp
  simp only [ho, resolve, invoke, builtin, Sem.run_bind, Sem.run_pure, Result.andThen_ok, List.map_toArray, List.map_cons, List.map_nil, hs, hx, hrun]
  exact h
end Go.Proofs.YtpoelhnceebmkaaGreatDoor

