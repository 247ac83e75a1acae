/- A range over a function with any number of loop variables, whose iterator appends to slices of its own between two rounds: the law for a loop whose body goes on at every round. Turned from the kit's law for iterators that read memory; one thing more: the caller's words abide a turn of a block of cells of the iterator's element type. No conditions of ours. -/
import Derived.Test.YtpoelhnceebmkaaGreatDoorBase
import Derived.RangeFuncNested
import Derived.RangeFuncBound
import Derived.RangeFuncCalls
import Derived.RangeFuncLeaves
namespace Go.Proofs.YtpoelhnceebmkaaGreatDoor
open Go Go.RowKit

/-- What a round keeps of the iterator's own blocks. -/
structure KpT (K1 K2 : Nat) (W W' : World) : Prop where
  block : ∀ k, K1 ≤ k → k < K2 → W'.heap[k]? = W.heap[k]?
  size : W.heap.size ≤ W'.heap.size
theorem KpT.trans {K1 K2 : Nat} {a b c : World} (h : KpT K1 K2 a b) (g : KpT K1 K2 b c) : KpT K1 K2 a c := ⟨fun k h1 h2 => (g.block k h1 h2).trans (h.block k h1 h2), Nat.le_trans h.size g.size⟩

/-- The caller's words abide new blocks, and the turn of one block of cells of type t that lies at or beyond B. -/
def AbidesT {β : Type} (t : TypeId) (B : Nat) (J : β → World → Prop) : Prop :=
  ∀ s W W' row, J s W → W.grownBy W' row → (∀ r, row = some r → B ≤ r ∧ ∃ c fz, W.heap[r]? = some (.cells c t fz)) → J s W'
def SeqT {α : Type} (n : Nat) (P : Program) (g : Nat) (lb : Array Value) (enc : α → Array Value) (t : TypeId) (K1 K2 : Nat) (xs : List α) (W0 : World) : Prop :=
  ∀ (l : Nat) (J : List α → World → Prop) (W : World), New W0 W → AbidesFrom W.heap.size J → AbidesT t W.heap.size J →
    (∀ pre x W1, (pre ++ [x]) <+: xs → J pre W1 → YieldAt Fence.wide (n - 1) P l (enc x) W1 fun e W' => e = .returned (.bool true) ∧ J (pre ++ [x]) W' ∧ KpT K1 K2 W1 W') →
    J [] W →
    CallsIn Fence.wide n P g (#[.func (.yield l) #[] #[]] ++ lb) W fun e W' => (∃ v, e = .returned v) ∧ J xs W'

def roundT {α : Type} (K1 K2 : Nat) (I : List α → World → Prop) (xs : List α) (W : World) : Exit → Act → World → Prop
  | .normal, _, W' => KeepsOthers W W' ∧ KpT K1 K2 W W' ∧ I xs W'
  | _, _, _ => False

theorem wpIn_rangeFunc_T {α : Type} {n : Nat} {P : Program} {g : Operand} {ps : Array Tmp} {assign body : Code} {Q : Exit → Act → World → Prop} {a : Act} {w : World}
    {gf : Nat} {lb : Array Value} (hg : a.eval g = .func (.func gf) #[] lb) (eg : ∀ args w, (callFunc gf args).run P w = .ok (.enter gf args) w)
    {enc : α → Array Value} {t : TypeId} {K1 K2 : Nat} {xs : List α} {w0 : World} (hseq : SeqT (n - 1) P gf lb enc t K1 K2 xs w0) (hb0 : New w0 w) (hK2 : K2 ≤ w.heap.size) (hps : ∀ x, ps.size = (enc x).size)
    (I : List α → World → Prop) (hI : OwnFrom w.heap.size I) (hIT : AbidesT t w.heap.size I) (h0 : I [] w) (a₁ : α → Act)
    (hassign : ∀ (l : Nat) (x : α) (W : World) (K : Act → World → Prop), K (a₁ x) W →
      assign.wpIn (Fence.wide.inRound l) (n - 1 - 1) P (Exit.then K (fun _ _ _ => False)) { tmps := (ps.zip (enc x)).foldl (fun t (p, v) => t.setIfInBounds p v) a.tmps, defers := [] } W)
    (hbody : ∀ (l : Nat) (pre : List α) (x : α) (W : World), (pre ++ [x]) <+: xs → I pre W → body.wpIn (Fence.wide.inRound l) (n - 1 - 1) P (roundT K1 K2 I (pre ++ [x]) W) (a₁ x) W)
    (hdone : ∀ (D : Nat) (W : World), w.heap.size ≤ D → I xs W → W.heap[D]? = some (.deferred (some [])) → Q .normal { a with defers := { target := .collected D, args := #[] } :: a.defers } W) :
    (Code.rangeFunc g ps assign body).wpIn Fence.wide n P Q a w := by
  have hKb : ∀ (W : World) (l : Nat) (o' : Obj), w.heap.size ≤ l → KpT K1 K2 W (W.putObj l o') := fun W l o' hl => ⟨fun k _ hk => World.putObj_heap_other (by omega), Nat.le_of_eq World.putObj_size.symm⟩
  refine wpIn_rangeFunc ?_
  intro fn hfn
  rw [show Fence.wide.round = none from rfl]
  obtain ⟨rec, hrec⟩ : ∃ rec : LoopState → Option Code → Loop, rec = fun st pe => { state := st, pending := pe, fn, tmps := a.tmps, params := ps, assign, body, defers := w.heap.size } := ⟨_, rfl⟩
  obtain ⟨W1, hW1⟩ : ∃ W1, (w.alloc (.deferred (some []))).alloc (.loop (rec .ready none)) = W1 := ⟨_, rfl⟩
  have hL1 : W1.heap[w.heap.size + 1]? = some (.loop (rec .ready none)) := by
    rw [← hW1]; have := World.alloc_heap_new (w.alloc (.deferred (some []))) (.loop (rec .ready none)); rwa [World.size_alloc] at this
  have hK1 : W1.heap[w.heap.size]? = some (.deferred (some [])) := by
    rw [← hW1]; exact (Below.heap_alloc _ _ _ (by simp)).trans (World.alloc_heap_new w _)
  have hI1 : I [] W1 := by rw [← hW1]; exact hI.alloc _ (hI.alloc _ h0)
  have hb1 : New w0 W1 := by
    rw [← hW1]; exact (hb0.alloc _).alloc _
  refine ⟨w.heap.size + 1, [{ target := .collected w.heap.size, args := #[] }], W1, { target := .fn (.func gf) lb, args := #[.func (.yield (w.heap.size + 1)) #[] #[]] }, W1, gf,
    #[.func (.yield (w.heap.size + 1)) #[] #[]] ++ lb, W1, ?_, ?_, ?_, ?_, fun h => (by cases h), ?_⟩
  · rw [← hW1, hrec]; exact run_enterLoop_outer _ _ _ _ _
  · simp only [resolve, hg]
    simp [go_sem]
  · intro f' _; trivial
  · simp [invoke, go_sem, eg]
  · have hnw : ∀ {A : World} {row : Option Nat}, (∀ r, row = some r → W1.heap.size ≤ r ∧ ∃ o : Obj, A.heap[r]? = some o ∧ o.isWalk = true) → (∀ r, row = some r → w.heap.size ≤ r ∧ ∃ o : Obj, A.heap[r]? = some o ∧ o.isCells = false) :=
      fun hr r e => by obtain ⟨hB, o, ho, hw⟩ := hr r e; exact ⟨by rw [← hW1] at hB; simp at hB; omega, o, ho, Obj.not_cells_of_walk hw⟩
    refine (hseq (w.heap.size + 1)
      (fun pre W => I pre W ∧ W.heap[w.heap.size + 1]? = some (.loop (rec .ready none)) ∧ W.heap[w.heap.size]? = some (.deferred (some [])))
      W1 hb1
      (fun s A B row hs hg' hr => ⟨hI s A B row hs.1 hg' (hnw hr), (grownBy_keeps hg' (fun r e => (hr r e).2) hs.2.1 rfl).trans hs.2.1, (grownBy_keeps hg' (fun r e => (hr r e).2) hs.2.2 rfl).trans hs.2.2⟩)
      (fun s A B row hs hg' hr => ⟨hIT s A B row hs.1 hg' (fun r e => ⟨by have := (hr r e).1; rw [← hW1] at this; simp at this; omega, (hr r e).2⟩),
        (hg'.block _ (Array.getElem?_eq_some_iff.1 hs.2.1).1 (fun e => by obtain ⟨c, fz, h⟩ := (hr _ e.symm).2; rw [hs.2.1] at h; cases h)).trans hs.2.1,
        (hg'.block _ (Array.getElem?_eq_some_iff.1 hs.2.2).1 (fun e => by obtain ⟨c, fz, h⟩ := (hr _ e.symm).2; rw [hs.2.2] at h; cases h)).trans hs.2.2⟩)
      ?_ ⟨hI1, hL1, hK1⟩).mono ?_
    · rintro pre x W hpx ⟨hi, hl, hk⟩
      have hlt : w.heap.size + 1 < W.heap.size := (Array.getElem?_eq_some_iff.1 hl).1
      have hy := run_yield (P := P) (args := enc x) hl (by rw [hrec]; exact (hps x).symm)
      rw [hrec] at hy
      refine ⟨fn, _, assign, body, hy, roundIn_of_wpIn hfn (hassign _ x W _ ⟨_, run_beginRound hl (by rw [hrec]), ?_⟩)⟩
      have hl2 : (W.putObj (w.heap.size + 1) (.loop { rec .ready none with state := .busy })).heap[w.heap.size + 1]? = some (.loop { rec .ready none with state := .busy }) := World.putObj_heap_same hlt
      have hk2 : (W.putObj (w.heap.size + 1) (.loop { rec .ready none with state := .busy })).heap[w.heap.size]? = some (.deferred (some [])) := (World.putObj_heap_other (by omega)).trans hk
      have hw2 : KpT K1 K2 W (W.putObj (w.heap.size + 1) (.loop { rec .ready none with state := .busy })) := hKb _ _ _ (by omega)
      refine wpIn_mono (hbody _ pre x _ hpx (hI.putObj _ hi (by omega) hl rfl)) ?_
      rintro e a3 W3 hp
      cases e with
      | normal =>
        obtain ⟨hk3, hkp3, hi3⟩ := hp
        have hl3 := hk3.same _ _ hl2 rfl
        have hr := run_endRound (P := P) none hl3
        have hl3' := hl3
        rw [hrec] at hr hl3'
        have hl4 : (W3.putObj (w.heap.size + 1) (.loop (rec .ready none))).heap[w.heap.size + 1]? = some (.loop (rec .ready none)) := World.putObj_heap_same (Array.getElem?_eq_some_iff.1 hl3).1
        have hk4 : (W3.putObj (w.heap.size + 1) (.loop (rec .ready none))).heap[w.heap.size]? = some (.deferred (some [])) := (World.putObj_heap_other (by omega)).trans (hk3.same _ _ hk2 rfl)
        have hi4 : I (pre ++ [x]) (W3.putObj (w.heap.size + 1) (.loop (rec .ready none))) := hI.putObj _ hi3 (by omega) hl3 rfl
        have hkk : KpT K1 K2 W (W3.putObj (w.heap.size + 1) (.loop (rec .ready none))) := (hw2.trans hkp3).trans (hKb W3 _ _ (by omega))
        rw [hrec] at hl4 hk4 hi4 hkk ⊢
        exact ⟨_, _, hr, rfl, ⟨hi4, hl4, hk4⟩, hkk⟩
      | ret => exact hp.elim
      | exit id => exact hp.elim
      | goto t => exact hp.elim
      | panic ch => exact hp.elim
      | outgrown => exact hp.elim
    · rintro e W2 ⟨⟨v, rfl⟩, hi, hl, hk⟩
      exact ⟨none, _, by have := run_endLoop (P := P) hl (by rw [hrec]; simp); rw [hrec] at this; exact this, hdone _ _ (Nat.le_refl _) (hI.putObj _ hi (by omega) hl rfl) ((World.putObj_heap_other (by omega)).trans hk)⟩

end Go.Proofs.YtpoelhnceebmkaaGreatDoor
