/- Words for the machine's run in memory: frames in layers, one above the other; what turns above a layer leaves it as it was. No conditions. Words for the machine's run in memory: the last frame's rows and block turn; the run as a whole. No conditions. Words for the machine's run in memory: the run as a whole, and what it is behind each kind of store. No conditions. Words for the machine's run in memory: the memory, the output; a frame is opened, a frame is left. No conditions. Words for the machine's run in memory: the last frame's variables, the last frame's end. No conditions. Words for the reference's run in memory: its block, its frames' row, its values' row, the frames' variables. No conditions. Words for the reference's run in memory: rows that grow, cells that are stored, a frame that is opened. No conditions. Words for the reference's run in memory: a place, a variable, a byte of the memory is stored. No conditions. Words for the run in memory: a call's first frame. No conditions. Words for the reference's run in memory, told by the machine's state. No conditions. Words for the reference's run in memory: a frame is left; the first frame, told by a state. No conditions. -/
import Derived.Test.YtnjampfhkojbnaaGreatDoorGP
import Derived.Test.YtnjampfhkojbnaaGreatDoorGBase

namespace Go.Proofs.YtnjampfhkojbnaaGreatDoor
open Go Go.RowKit

abbrev tFrm : TypeId := 129
abbrev tWrd : TypeId := 36
def uC (l : List Nat) : List Value := l.map fun (x : Nat) => Value.int .u32 (x : Int)
theorem uC_len (l : List Nat) : (uC l).length = l.length := by simp [uC]
theorem own_at {w w' : World} {B n size : Nat} {e : TypeId} {v : Value} {xs : List Value} (h : w.ownsRow B e size v n xs) (hk : ∀ k cs, v.ownBlock = some k → w.heap[k]? = some (.cells cs e (0, 0)) → w'.heap[k]? = w.heap[k]?) : w'.ownsRow B e size v n xs := by
  obtain ⟨h1, h2⟩ := h
  rcases h2 with q | ⟨g, cap, cur, rfl, hg, hh, q⟩
  · exact ⟨h1, Or.inl q⟩
  · exact ⟨h1, Or.inr ⟨g, cap, cur, rfl, hg, (hk g cur rfl hh).trans hh, q⟩⟩
theorem own_lower {w : World} {B B' n size : Nat} {e : TypeId} {v : Value} {xs : List Value} (h : w.ownsRow B e size v n xs) (hb : ∀ k, v.ownBlock = some k → B' ≤ k) : w.ownsRow B' e size v n xs := by
  obtain ⟨h1, h2⟩ := h
  rcases h2 with q | ⟨g, cap, cur, rfl, hg, q⟩
  · exact ⟨h1, Or.inl q⟩
  · exact ⟨h1, Or.inr ⟨g, cap, cur, rfl, hb g rfl, q⟩⟩
theorem own_take {w : World} {B n size m : Nat} {e : TypeId} {g : Addr} {cap : Nat} {xs : List Value} (h : w.ownsRow B e size (.slice (some g) n cap) n xs) (hm : m ≤ n) : w.ownsRow B e size (.slice (some g) m cap) m (xs.take (m * size)) := by
  obtain ⟨h1, h2⟩ := h
  have hl : m * size ≤ n * size := Nat.mul_le_mul_right _ hm
  refine ⟨by rw [List.length_take]; omega, ?_⟩
  rcases h2 with ⟨q, _⟩ | ⟨g', cap', cur, hv, hg, hh, hn, hc, hs, ht⟩
  · cases q
  · injection hv with e1 e2 e3
    subst e3
    injection e1 with e1
    subst e1
    refine Or.inr ⟨g', cap, cur, rfl, hg, hh, by omega, hc, hs, ?_⟩
    rw [← ht, List.take_take, Nat.min_eq_left hl]
def Kp (w w' : World) (B C : Nat) : Prop := ∀ k cs t, B ≤ k → k < C → w.heap[k]? = some (.cells cs t (0, 0)) → t = tFrm ∨ t = tWrd → w'.heap[k]? = w.heap[k]?
theorem Kp.less {w w' : World} {B C B' C' : Nat} (h : Kp w w' B C) (hb : B ≤ B') (hc : C' ≤ C) : Kp w w' B' C' := fun k cs t h1 h2 => h k cs t (Nat.le_trans hb h1) (Nat.lt_of_lt_of_le h2 hc)
theorem Kp.trans {w w' w'' : World} {B C : Nat} (h : Kp w w' B C) (h2 : Kp w' w'' B C) : Kp w w'' B C := fun k cs t hb hc he ht => by
  have q := h k cs t hb hc he ht
  exact (h2 k cs t hb hc (q.trans he) ht).trans q
theorem Kp.refl (w : World) (B C : Nat) : Kp w w B C := fun _ _ _ _ _ _ _ => rfl
theorem Kp.new {w w' : World} (h : New w w') (B : Nat) : Kp w w' B w.heap.size := fun k _ _ _ hc _ _ => h.block k hc
structure FM (w : World) (B C q : Nat) (VA V : Value) (f : Fr) : Prop where
  blk : Blk w q tFrm #[VA, V, .int .i64 f.pc]
  lo : B ≤ q
  hi : q < C
  va : w.ownsRow B tWrd 1 VA f.vars.length (uC f.vars)
  vs : w.ownsRow B tWrd 1 V f.vals.length (uC f.vals)
  vah : ∀ k, VA.ownBlock = some k → k < C
  vsh : ∀ k, V.ownBlock = some k → k < C
  ne : ∀ k, VA.ownBlock = some k → V.ownBlock ≠ some k
theorem FM.keep {w w' : World} {B C q : Nat} {VA V : Value} {f : Fr} (h : FM w B C q VA V f) (hk : Kp w w' B C) : FM w' B C q VA V f :=
  ⟨(hk q _ _ h.lo h.hi h.blk (Or.inl rfl)).trans h.blk, h.lo, h.hi,
   own_at h.va fun k cs e hh => hk k cs _ (h.va.lt k e).1 (h.vah k e) hh (Or.inr rfl),
   own_at h.vs fun k cs e hh => hk k cs _ (h.vs.lt k e).1 (h.vsh k e) hh (Or.inr rfl), h.vah, h.vsh, h.ne⟩
theorem FM.wide {w : World} {B C D q : Nat} {VA V : Value} {f : Fr} (h : FM w B C q VA V f) (hd : C ≤ D) : FM w B D q VA V f :=
  ⟨h.blk, h.lo, Nat.lt_of_lt_of_le h.hi hd, h.va, h.vs, fun k e => Nat.lt_of_lt_of_le (h.vah k e) hd, fun k e => Nat.lt_of_lt_of_le (h.vsh k e) hd, h.ne⟩
theorem FM.apart {w : World} {B C q : Nat} {VA V : Value} {f : Fr} (h : FM w B C q VA V f) : VA.ownBlock ≠ some q ∧ V.ownBlock ≠ some q := by
  have hb : w.heap[q]? = some (.cells #[VA, V, .int .i64 f.pc] tFrm (0, 0)) := h.blk
  have key : ∀ {n : Nat} {xs : List Value} {U : Value}, w.ownsRow B tWrd 1 U n xs → U.ownBlock ≠ some q := by
    intro n xs U hu e
    rcases hu.2 with ⟨rfl, _⟩ | ⟨g, cap, cur, rfl, hg, hh, _⟩
    · cases e
    · injection e with e
      simp only at e
      subst e
      rw [hb] at hh
      injection hh with hh
      injection hh with _ hh
      exact absurd hh (by decide)
  exact ⟨key h.va, key h.vs⟩
def Ly (w : World) : Nat → List Nat → List Fr → Nat → Prop
  | B, [], [], C => B ≤ C
  | B, q :: qs, f :: fs, C => ∃ D VA V, FM w B D q VA V f ∧ B ≤ D ∧ Ly w D qs fs C
  | _, _, _, _ => False
theorem Ly.le {w : World} : ∀ {qs : List Nat} {fs : List Fr} {B C : Nat}, Ly w B qs fs C → B ≤ C
  | [], [], _, _, h => h
  | _ :: _, _ :: _, _, _, ⟨_, _, _, _, h, k⟩ => Nat.le_trans h k.le
  | [], _ :: _, _, _, h => h.elim
  | _ :: _, [], _, _, h => h.elim
theorem Ly.len {w : World} : ∀ {qs : List Nat} {fs : List Fr} {B C : Nat}, Ly w B qs fs C → qs.length = fs.length
  | [], [], _, _, _ => rfl
  | _ :: _, _ :: _, _, _, ⟨_, _, _, _, _, k⟩ => by rw [List.length_cons, List.length_cons, k.len]
  | [], _ :: _, _, _, h => h.elim
  | _ :: _, [], _, _, h => h.elim
theorem Ly.keep {w w' : World} : ∀ {qs : List Nat} {fs : List Fr} {B C : Nat}, Ly w B qs fs C → Kp w w' B C → Ly w' B qs fs C
  | [], [], _, _, h, _ => h
  | _ :: _, _ :: _, _, _, ⟨D, VA, V, f, h, k⟩, hk => ⟨D, VA, V, f.keep (hk.less (Nat.le_refl _) k.le), h, k.keep (hk.less h (Nat.le_refl _))⟩
  | [], _ :: _, _, _, h, _ => h.elim
  | _ :: _, [], _, _, h, _ => h.elim
theorem Ly.snoc {w : World} {q : Nat} {VA V : Value} {f : Fr} {D : Nat} : ∀ {qs : List Nat} {fs : List Fr} {B C : Nat}, Ly w B qs fs C → FM w C D q VA V f → C ≤ D → Ly w B (qs ++ [q]) (fs ++ [f]) D
  | [], [], _, _, h, k, hd => ⟨D, VA, V, ⟨k.blk, Nat.le_trans h k.lo, k.hi, own_lower k.va fun j e => Nat.le_trans h (k.va.lt j e).1, own_lower k.vs fun j e => Nat.le_trans h (k.vs.lt j e).1, k.vah, k.vsh, k.ne⟩, Nat.le_trans h hd, Nat.le_refl D⟩
  | _ :: _, _ :: _, _, _, ⟨E, VB, U, g, h, l⟩, k, hd => ⟨E, VB, U, g, h, l.snoc k hd⟩
  | [], _ :: _, _, _, h, _, _ => h.elim
  | _ :: _, [], _, _, h, _, _ => h.elim
theorem Ly.last {w : World} {q : Nat} {f : Fr} {D : Nat} : ∀ {qs : List Nat} {fs : List Fr} {B : Nat}, Ly w B (qs ++ [q]) (fs ++ [f]) D → ∃ C VA V, Ly w B qs fs C ∧ FM w C D q VA V f ∧ C ≤ D
  | [], [], B, ⟨E, VA, V, g, h, (l : E ≤ D)⟩ => ⟨B, VA, V, Nat.le_refl B, g.wide l, Nat.le_trans h l⟩
  | _ :: _, _ :: _, B, ⟨E, VB, U, g, h, l⟩ => by
    obtain ⟨C, VA, V, l', k, hd⟩ := Ly.last l
    exact ⟨C, VA, V, ⟨E, VB, U, g, h, l'⟩, k, hd⟩
  | [], [_], _, ⟨_, _, _, _, _, l⟩ => l.elim
  | [], _ :: _ :: _, _, ⟨_, _, _, _, _, l⟩ => l.elim
  | [_], [], _, ⟨_, _, _, _, _, l⟩ => l.elim
  | _ :: _ :: _, [], _, ⟨_, _, _, _, _, l⟩ => l.elim
end Go.Proofs.YtnjampfhkojbnaaGreatDoor

namespace Go.Proofs.YtnjampfhkojbnaaGreatDoor
open Go Go.RowKit

theorem own_type {w : World} {B n size : Nat} {e : TypeId} {v : Value} {xs : List Value} (h : w.ownsRow B e size v n xs) {k : Nat} (hk : v.ownBlock = some k) : ∃ cs, w.heap[k]? = some (.cells cs e (0, 0)) := by
  rcases h.2 with ⟨rfl, _⟩ | ⟨g, cap, cur, rfl, hg, hh, _⟩
  · cases hk
  · injection hk with hk
    simp only at hk
    subst hk
    exact ⟨cur, hh⟩
theorem own_apart {w : World} {B n size q : Nat} {e t : TypeId} {v : Value} {xs : List Value} {cs : Array Value} (h : w.ownsRow B e size v n xs) (hb : w.heap[q]? = some (.cells cs t (0, 0))) (ht : t ≠ e) : v.ownBlock ≠ some q := fun hk => by
  obtain ⟨ds, hd⟩ := own_type h hk
  rw [hb] at hd
  injection hd with hd
  injection hd with _ hd
  exact ht hd
theorem own_far {w : World} {B n size : Nat} {e : TypeId} {v : Value} {xs : List Value} {p : Addr} (u : Value) (h : w.ownsRow B e size v n xs) (hp : v.ownBlock ≠ some p.block) : (w.setCell p u).ownsRow B e size v n xs :=
  own_at h fun k _ hk _ => Below.heap_setCell w p u k fun e => hp (e ▸ hk)
theorem own_grown {w w' : World} {B n size : Nat} {e : TypeId} {v : Value} {xs : List Value} {row : Option Nat} (h : w.ownsRow B e size v n xs) (hg : w.grownBy w' row) (hr : ∀ k, v.ownBlock = some k → row ≠ some k) : w'.ownsRow B e size v n xs :=
  own_at h fun k _ hk _ => hg.block k (h.lt k hk).2 fun e => hr k hk e.symm
theorem Kp.grown {w w' : World} {B C : Nat} {row : Option Nat} (hg : w.grownBy w' row) (hr : ∀ k, row = some k → C ≤ k) (hc : C ≤ w.heap.size) : Kp w w' B C := fun k _ _ _ h2 _ _ =>
  hg.block k (Nat.lt_of_lt_of_le h2 hc) fun e => by have := hr k e.symm; omega
theorem Kp.grownT {w w' : World} {row : Option Nat} (hg : w.grownBy w' row) {e : TypeId} (hr : ∀ k, row = some k → ∃ cs, w.heap[k]? = some (.cells cs e (0, 0))) (h1 : e ≠ tFrm) (h2 : e ≠ tWrd) (B : Nat) : Kp w w' B w.heap.size := fun k cs t _ hc hh ht =>
  hg.block k hc fun q => by
    obtain ⟨ds, hd⟩ := hr k q.symm
    rw [hh] at hd
    injection hd with hd
    injection hd with _ hd
    subst hd
    rcases ht with ht | ht
    · exact h1 ht
    · exact h2 ht
theorem Kp.set {w : World} {B C : Nat} {p : Addr} (u : Value) (hp : C ≤ p.block) : Kp w (w.setCell p u) B C := fun k _ _ _ hc _ _ => Below.heap_setCell w p u k (by omega)
theorem Kp.setLow {w : World} {B C : Nat} {p : Addr} (u : Value) (hp : p.block < B) : Kp w (w.setCell p u) B C := fun k _ _ hb _ _ _ => Below.heap_setCell w p u k (by omega)
theorem Kp.setT {w : World} {B C : Nat} {p : Addr} (u : Value) {cs : Array Value} {e : TypeId} (hb : w.heap[p.block]? = some (.cells cs e (0, 0))) (h1 : e ≠ tFrm) (h2 : e ≠ tWrd) : Kp w (w.setCell p u) B C := fun k ds t _ _ hh ht =>
  Below.heap_setCell w p u k fun q => by
    subst q
    rw [hb] at hh
    injection hh with hh
    injection hh with _ hh
    subst hh
    rcases ht with ht | ht
    · exact h1 ht
    · exact h2 ht
theorem set_size (w : World) (p : Addr) (u : Value) : (w.setCell p u).heap.size = w.heap.size := by simp [World.setCell]
theorem FM.setPc {w : World} {B C q : Nat} {VA V : Value} {f : Fr} (h : FM w B C q VA V f) (p : Int) : FM (w.setCell ⟨q, 2, none⟩ (.int .i64 p)) B C q VA V { f with pc := p } :=
  ⟨h.blk.put 2 _, h.lo, h.hi, own_far _ h.va h.apart.1, own_far _ h.vs h.apart.2, h.vah, h.vsh, h.ne⟩
theorem FM.setVals {w : World} {B C q : Nat} {VA V V' : Value} {f : Fr} (h : FM w B C q VA V f) {vs : List Nat} (hv : w.ownsRow B tWrd 1 V' vs.length (uC vs)) (hat : V'.ownBlock = V.ownBlock) : FM (w.setCell ⟨q, 1, none⟩ V') B C q VA V' { f with vals := vs } :=
  ⟨h.blk.put 1 _, h.lo, h.hi, own_far _ h.va h.apart.1, own_far _ hv (hat ▸ h.apart.2), h.vah, fun k e => h.vsh k (hat ▸ e), fun k e => hat ▸ h.ne k e⟩
theorem FM.grown {w w' : World} {B q : Nat} {VA V V' : Value} {f : Fr} (h : FM w B w.heap.size q VA V f) (hg : w.grownBy w' V.ownBlock) {vs : List Nat} (hv : w'.ownsRow B tWrd 1 V' vs.length (uC vs)) (hat : V'.ownBlock = V.ownBlock ∨ ∀ k, V'.ownBlock = some k → w.heap.size ≤ k) :
    FM (w'.setCell ⟨q, 1, none⟩ V') B w'.heap.size q VA V' { f with vals := vs } := by
  have hb : Blk w' q tFrm #[VA, V, .int .i64 f.pc] := h.blk.grown hg (Ne.symm h.apart.2)
  refine ⟨hb.put 1 _, h.lo, Nat.lt_of_lt_of_le h.hi hg.size, own_far _ (own_grown h.va hg h.ne) h.apart.1, own_far _ hv (own_apart hv hb (by decide)), fun k e => Nat.lt_of_lt_of_le (h.vah k e) hg.size, fun k e => (hv.lt k e).2, fun k e => ?_⟩
  rcases hat with q1 | q1
  · rw [q1]; exact h.ne k e
  · intro e2
    have := q1 k e2
    have := h.vah k e
    omega
theorem FM.setVar {w w' : World} {B C q : Nat} {VA V : Value} {f : Fr} (h : FM w B C q VA V f) {va : List Nat} (hv : w'.ownsRow B tWrd 1 VA va.length (uC va)) (hk : ∀ k, k < C → VA.ownBlock ≠ some k → w'.heap[k]? = w.heap[k]?) : FM w' B C q VA V { f with vars := va } :=
  ⟨(hk q h.hi h.apart.1).trans h.blk, h.lo, h.hi, hv, own_at h.vs fun k _ e _ => hk k (h.vsh k e) fun e2 => h.ne k e2 e, h.vah, h.vsh, h.ne⟩
end Go.Proofs.YtnjampfhkojbnaaGreatDoor

namespace Go.Proofs.YtnjampfhkojbnaaGreatDoor
open Go Go.RowKit

def u8C (l : List UInt8) : List Value := l.map fun b => Value.int .u8 (b.toNat : Int)
def pC (l : List Nat) : List Value := l.map fun q => Value.pointer (some ⟨q, 0, none⟩)
abbrev tMach : TypeId := 75
abbrev tRun : TypeId := 94
abbrev tPtr : TypeId := 127
structure RM (w0 w : World) (m g mc r : Nat) (PL : Value) (s : Mc) (qs : List Nat) (q C : Nat) (VA V FV OV : Value) (n : Int) (val : Nat) : Prop where
  gr : w0.grownBy w (some g)
  g0 : g < w0.heap.size
  m0 : m < w0.heap.size
  mach : Blk w m tMach #[.slice (some ⟨g, 0, none⟩) s.mem.length mc, PL]
  mem : w.ownsRow 0 5 1 (.slice (some ⟨g, 0, none⟩) s.mem.length mc) s.mem.length (u8C s.mem)
  r0 : w0.heap.size ≤ r
  run : Blk w r tRun #[.pointer (some ⟨m, 0, none⟩), FV, .string (S s.inp), OV, .int .i64 n, .int .u32 (val : Int)]
  fr : w.ownsRow w0.heap.size tPtr 1 FV (qs.length + 1) (pC (qs ++ [q]))
  ou : w.ownsRow w0.heap.size 5 1 OV s.out.length (u8C s.out)
  ly : Ly w w0.heap.size qs s.low C
  top : FM w C w.heap.size q VA V s.top

section
variable {w0 w : World} {m g mc r : Nat} {PL : Value} {s : Mc} {qs : List Nat} {q C : Nat} {VA V FV OV : Value} {n : Int} {val : Nat}
theorem RM.lo (h : RM w0 w m g mc r PL s qs q C VA V FV OV n val) : w0.heap.size ≤ C ∧ C ≤ q ∧ q < w.heap.size := ⟨h.ly.le, h.top.lo, h.top.hi⟩
theorem RM.new {w' : World} (h : RM w0 w m g mc r PL s qs q C VA V FV OV n val) (hn : New w w') : RM w0 w' m g mc r PL s qs q C VA V FV OV n val := by
  have hk : ∀ {B k size : Nat} {e : TypeId} {v : Value} {xs : List Value}, w.ownsRow B e size v k xs → w'.ownsRow B e size v k xs := fun ho => own_at ho fun j _ e _ => hn.block j (ho.lt j e).2
  have hc : C ≤ w.heap.size := Nat.le_of_lt (Nat.lt_of_le_of_lt h.lo.2.1 h.lo.2.2)
  exact ⟨⟨hn.os.trans h.gr.os, hn.tape.trans h.gr.tape, hn.output.trans h.gr.output, Nat.le_trans h.gr.size hn.size, fun k hk hg => (hn.block k (Nat.lt_of_lt_of_le hk h.gr.size)).trans (h.gr.block k hk hg)⟩,
    h.g0, h.m0, h.mach.new hn, hk h.mem, h.r0, h.run.new hn, hk h.fr, hk h.ou, h.ly.keep ((Kp.new hn _).less (Nat.le_refl _) hc), (h.top.keep (Kp.new hn C)).wide hn.size⟩
theorem grown_set {w0 w : World} {row : Option Nat} (h : w0.grownBy w row) {p : Addr} (u : Value) (hp : w0.heap.size ≤ p.block) : w0.grownBy (w.setCell p u) row :=
  ⟨h.os, h.tape, h.output, by rw [set_size]; exact h.size, fun k hk hr => (Below.heap_setCell w p u k (by omega)).trans (h.block k hk hr)⟩
theorem grown_more {w0 w w' : World} {row r2 : Option Nat} (h : w0.grownBy w row) (hg : w.grownBy w' r2) (hp : ∀ k, r2 = some k → w0.heap.size ≤ k) : w0.grownBy w' row :=
  ⟨hg.os.trans h.os, hg.tape.trans h.tape, hg.output.trans h.output, Nat.le_trans h.size hg.size, fun k hk hr => (hg.block k (Nat.lt_of_lt_of_le hk h.size) fun e => by have := hp k e.symm; omega).trans (h.block k hk hr)⟩
theorem RM.apart (h : RM w0 w m g mc r PL s qs q C VA V FV OV n val) : r ≠ q ∧ m ≠ q ∧ FV.ownBlock ≠ some q ∧ OV.ownBlock ≠ some q ∧ g ≠ q ∧ FV.ownBlock ≠ some r ∧ OV.ownBlock ≠ some r ∧ m ≠ r ∧ g ≠ r ∧ m ≠ g := by
  have hl := h.lo
  have h1 := h.g0
  have h2 := h.m0
  have h3 := h.r0
  have hq : w.heap[q]? = some (.cells #[VA, V, .int .i64 s.top.pc] tFrm (0, 0)) := h.top.blk
  have hr : w.heap[r]? = some (.cells #[.pointer (some ⟨m, 0, none⟩), FV, .string (S s.inp), OV, .int .i64 n, .int .u32 (val : Int)] tRun (0, 0)) := h.run
  have hm : w.heap[m]? = some (.cells #[.slice (some ⟨g, 0, none⟩) s.mem.length mc, PL] tMach (0, 0)) := h.mach
  refine ⟨fun e => ?_, by omega, own_apart h.fr hq (by decide), own_apart h.ou hq (by decide), by omega, own_apart h.fr hr (by decide), own_apart h.ou hr (by decide), by omega, by omega, fun e => ?_⟩
  · subst e
    rw [hr] at hq
    injection hq with hq
    injection hq with _ hq
    exact absurd hq (by decide)
  · exact own_apart h.mem hm (by decide) (e ▸ rfl)
theorem RM.atTop (h : RM w0 w m g mc r PL s qs q C VA V FV OV n val) (i : Nat) (u : Value) {VA' V' : Value} {f : Fr} (ht : FM (w.setCell ⟨q, i, none⟩ u) C w.heap.size q VA' V' f) :
    RM w0 (w.setCell ⟨q, i, none⟩ u) m g mc r PL { s with top := f } qs q C VA' V' FV OV n val := by
  obtain ⟨a1, a2, a3, a4, a5, a6, a7, a8, a9, a10⟩ := h.apart
  have hl := h.lo
  exact ⟨grown_set h.gr u (Nat.le_trans hl.1 hl.2.1), h.g0, h.m0, h.mach.far a2 u, own_far u h.mem (fun e => a5 (by injection e)), h.r0, h.run.far a1 u, own_far u h.fr a3, own_far u h.ou a4, h.ly.keep (Kp.set u hl.2.1), by rw [set_size]; exact ht⟩
theorem RM.setPc (h : RM w0 w m g mc r PL s qs q C VA V FV OV n val) (p : Int) : RM w0 (w.setCell ⟨q, 2, none⟩ (.int .i64 p)) m g mc r PL { s with top := { s.top with pc := p } } qs q C VA V FV OV n val := h.atTop 2 _ (h.top.setPc p)
theorem RM.setVals (h : RM w0 w m g mc r PL s qs q C VA V FV OV n val) {V' : Value} {vs : List Nat} (hv : w.ownsRow C tWrd 1 V' vs.length (uC vs)) (hat : V'.ownBlock = V.ownBlock) : RM w0 (w.setCell ⟨q, 1, none⟩ V') m g mc r PL (s.put vs) qs q C VA V' FV OV n val := h.atTop 1 _ (h.top.setVals hv hat)
theorem RM.atRun (h : RM w0 w m g mc r PL s qs q C VA V FV OV n val) (i : Nat) (u : Value) {inp : List UInt8} {n' : Int} {val' : Nat}
    (e : (#[.pointer (some ⟨m, 0, none⟩), FV, .string (S s.inp), OV, .int .i64 n, .int .u32 (val : Int)] : Array Value).setIfInBounds i u = #[.pointer (some ⟨m, 0, none⟩), FV, .string (S inp), OV, .int .i64 n', .int .u32 (val' : Int)]) :
    RM w0 (w.setCell ⟨r, i, none⟩ u) m g mc r PL { s with inp := inp } qs q C VA V FV OV n' val' := by
  obtain ⟨a1, a2, a3, a4, a5, a6, a7, a8, a9, a10⟩ := h.apart
  have hr : w.heap[r]? = some (.cells #[.pointer (some ⟨m, 0, none⟩), FV, .string (S s.inp), OV, .int .i64 n, .int .u32 (val : Int)] tRun (0, 0)) := h.run
  exact ⟨grown_set h.gr u h.r0, h.g0, h.m0, h.mach.far a8 u, own_far u h.mem (fun e => a9 (by injection e)), h.r0, (h.run.put i u).same e, own_far u h.fr a6, own_far u h.ou a7,
    h.ly.keep (Kp.setT u hr (by decide) (by decide)), by rw [set_size]; exact h.top.keep (Kp.setT u hr (by decide) (by decide))⟩
theorem RM.setSteps (h : RM w0 w m g mc r PL s qs q C VA V FV OV n val) (k : Int) : RM w0 (w.setCell ⟨r, 4, none⟩ (.int .i64 k)) m g mc r PL s qs q C VA V FV OV k val := h.atRun 4 _ rfl
theorem RM.setInp (h : RM w0 w m g mc r PL s qs q C VA V FV OV n val) (i : List UInt8) : RM w0 (w.setCell ⟨r, 2, none⟩ (.string (S i))) m g mc r PL { s with inp := i } qs q C VA V FV OV n val := h.atRun 2 _ rfl
theorem RM.pushed {w' : World} (h : RM w0 w m g mc r PL s qs q C VA V FV OV n val) (hg : w.grownBy w' V.ownBlock) {V' : Value} {vs : List Nat} (hv : w'.ownsRow C tWrd 1 V' vs.length (uC vs)) (hat : V'.ownBlock = V.ownBlock ∨ ∀ k, V'.ownBlock = some k → w.heap.size ≤ k) :
    RM w0 (w'.setCell ⟨q, 1, none⟩ V') m g mc r PL (s.put vs) qs q C VA V' FV OV n val := by
  obtain ⟨a1, a2, a3, a4, a5, a6, a7, a8, a9, a10⟩ := h.apart
  have hl := h.lo
  have hC : ∀ k, V.ownBlock = some k → C ≤ k := fun k e => (h.top.vs.lt k e).1
  have hm0 := h.m0
  have hg0 := h.g0
  have hr : w.heap[r]? = some (.cells #[.pointer (some ⟨m, 0, none⟩), FV, .string (S s.inp), OV, .int .i64 n, .int .u32 (val : Int)] tRun (0, 0)) := h.run
  have kr : some r ≠ V.ownBlock := (own_apart h.top.vs hr (by decide)).symm
  have km : some m ≠ V.ownBlock := fun e => by have := hC m e.symm; omega
  have ap : ∀ {B k : Nat} {e : TypeId} {v : Value} {xs : List Value}, w.ownsRow B e 1 v k xs → e ≠ tWrd → ∀ j, v.ownBlock = some j → V.ownBlock ≠ some j := fun ho he j hj e2 => by
    obtain ⟨cs, hc⟩ := own_type ho hj
    exact own_apart h.top.vs hc he e2
  have hs := h.top.grown hg hv hat
  refine ⟨grown_set (grown_more h.gr hg fun k e => Nat.le_trans hl.1 (hC k e)) _ (Nat.le_trans hl.1 hl.2.1), h.g0, h.m0, (h.mach.grown hg km).far a2 _, own_far _ (own_grown h.mem hg (ap h.mem (by decide))) (fun e => a5 (by injection e)), h.r0, (h.run.grown hg kr).far a1 _,
    own_far _ (own_grown h.fr hg (ap h.fr (by decide))) a3, own_far _ (own_grown h.ou hg (ap h.ou (by decide))) a4, (h.ly.keep (Kp.grown hg hC (by omega))).keep (Kp.set _ hl.2.1), by rw [set_size]; exact hs⟩
end
end Go.Proofs.YtnjampfhkojbnaaGreatDoor

namespace Go.Proofs.YtnjampfhkojbnaaGreatDoor
open Go Go.RowKit

section
variable {w0 w : World} {m g mc r : Nat} {PL : Value} {s : Mc} {qs : List Nat} {q C : Nat} {VA V FV OV : Value} {n : Int} {val : Nat}
theorem own_set {w : World} {B l cap g : Nat} {e : TypeId} {xs : List Value} (h : w.ownsRow B e 1 (.slice (some ⟨g, 0, none⟩) l cap) l xs) (i : Nat) (u : Value) : (w.setCell ⟨g, i, none⟩ u).ownsRow B e 1 (.slice (some ⟨g, 0, none⟩) l cap) l (xs.set i u) := by
  obtain ⟨h1, h2⟩ := h
  refine ⟨by rw [List.length_set]; exact h1, ?_⟩
  rcases h2 with ⟨e1, _⟩ | ⟨g', cap', cur, hv, hg, hh, hn, hc, hs, ht⟩
  · cases e1
  · injection hv with e1 e2 e3
    injection e1 with e1
    injection e1 with e1
    subst e1 e3
    have hb : Blk w g e cur := hh
    refine Or.inr ⟨g, cap, cur.setIfInBounds i u, rfl, hg, hb.put i u, hn, hc, by simp [hs], ?_⟩
    rw [Array.toList_setIfInBounds, List.take_set, ht]
theorem u8C_set (l : List UInt8) (i : Nat) (c : UInt8) : u8C (l.set i c) = (u8C l).set i (.int .u8 (c.toNat : Int)) := by simp [u8C, List.map_set]
theorem uC_set (l : List Nat) (i x : Nat) : uC (l.set i x) = (uC l).set i (.int .u32 (x : Int)) := by simp [uC, List.map_set]
theorem grown_row {w0 w : World} {g : Nat} (h : w0.grownBy w (some g)) (i : Nat) (u : Value) : w0.grownBy (w.setCell ⟨g, i, none⟩ u) (some g) :=
  ⟨h.os, h.tape, h.output, by rw [set_size]; exact h.size, fun k hk hr => (Below.heap_setCell w ⟨g, i, none⟩ u k fun e => hr (by rw [e])).trans (h.block k hk hr)⟩
theorem RM.setMem (h : RM w0 w m g mc r PL s qs q C VA V FV OV n val) (i : Nat) (c : UInt8) : RM w0 (w.setCell ⟨g, i, none⟩ (.int .u8 (c.toNat : Int))) m g mc r PL { s with mem := s.mem.set i c } qs q C VA V FV OV n val := by
  obtain ⟨a1, a2, a3, a4, a5, a6, a7, a8, a9, a10⟩ := h.apart
  have hl := h.lo
  have hg0 := h.g0
  have ho := own_set h.mem i (.int .u8 (c.toNat : Int))
  have far : ∀ {k l size : Nat} {e : TypeId} {v : Value} {xs : List Value}, w.ownsRow k e size v l xs → w0.heap.size ≤ k → v.ownBlock ≠ some g := fun hr hk e => by
    have := (hr.lt _ e).1
    omega
  refine ⟨grown_row h.gr i _, h.g0, h.m0, ?_, ?_, h.r0, h.run.far a9.symm _, own_far _ h.fr (far h.fr (Nat.le_refl _)), own_far _ h.ou (far h.ou (Nat.le_refl _)), h.ly.keep (Kp.setLow _ hg0), ?_⟩
  · simp only [List.length_set]
    exact h.mach.far a10 _
  · simp only [List.length_set]
    rw [u8C_set]; exact ho
  · rw [set_size]; exact h.top.keep (Kp.setLow _ (by simp only; omega))
theorem RM.frow {w' : World} (h : RM w0 w m g mc r PL s qs q C VA V FV OV n val) (hg : w.grownBy w' FV.ownBlock) {FV' : Value} {qs' : List Nat} {q' C' : Nat} {VA' V' : Value} {low : List Fr} {f : Fr}
    (hv : w'.ownsRow w0.heap.size tPtr 1 FV' (qs'.length + 1) (pC (qs' ++ [q']))) (hly : Ly w w0.heap.size qs' low C') (hc : C' ≤ w.heap.size) (htop : FM w C' w.heap.size q' VA' V' f) :
    RM w0 (w'.setCell ⟨r, 1, none⟩ FV') m g mc r PL { s with low := low, top := f } qs' q' C' VA' V' FV' OV n val := by
  obtain ⟨a1, a2, a3, a4, a5, a6, a7, a8, a9, a10⟩ := h.apart
  have hm0 := h.m0
  have lo : ∀ k, FV.ownBlock = some k → w0.heap.size ≤ k := fun k e => (h.fr.lt k e).1
  have km : some m ≠ FV.ownBlock := fun e => by have := lo m e.symm; omega
  have ap : ∀ {B k : Nat} {e : TypeId} {v : Value} {xs : List Value}, w.ownsRow B e 1 v k xs → e ≠ tPtr → ∀ j, v.ownBlock = some j → FV.ownBlock ≠ some j := fun ho he j hj e2 => by
    obtain ⟨cs, hc⟩ := own_type ho hj
    exact own_apart h.fr hc he e2
  have kp : ∀ B, Kp w w' B w.heap.size := fun B => Kp.grownT hg (fun k e => own_type h.fr e) (by decide) (by decide) B
  have hr' := h.run.grown hg a6.symm
  have ks : ∀ B D, Kp w' (w'.setCell ⟨r, 1, none⟩ FV') B D := fun B D => Kp.setT (cs := #[.pointer (some ⟨m, 0, none⟩), FV, .string (S s.inp), OV, .int .i64 n, .int .u32 (val : Int)]) FV' (by exact hr') (by decide) (by decide)
  have fv : FV'.ownBlock ≠ some r := own_apart hv hr' (by decide)
  refine ⟨grown_set (grown_more h.gr hg lo) _ h.r0, h.g0, h.m0, (h.mach.grown hg km).far a8 _, own_far _ (own_grown h.mem hg (ap h.mem (by decide))) (fun e => a9 (by injection e)), h.r0, hr'.put 1 FV', own_far _ hv fv, own_far _ (own_grown h.ou hg (ap h.ou (by decide))) a7,
    (hly.keep ((kp _).less (Nat.le_refl _) hc)).keep (ks _ _), ?_⟩
  rw [set_size]
  exact ((htop.keep (kp _)).wide hg.size).keep (ks _ _)
theorem RM.left {qs' : List Nat} {q' : Nat} {low : List Fr} {f : Fr} (h : RM w0 w m g mc r PL s (qs' ++ [q']) q C VA V FV OV n val) (hl : s.low = low ++ [f]) {FV' : Value} (hv : w.ownsRow w0.heap.size tPtr 1 FV' (qs'.length + 1) (pC (qs' ++ [q']))) :
    ∃ C' VA' V', RM w0 (w.setCell ⟨r, 1, none⟩ FV') m g mc r PL { s with low := low, top := f } qs' q' C' VA' V' FV' OV n val := by
  have hy := h.ly
  rw [hl] at hy
  obtain ⟨C', VA', V', h1, h2, h3⟩ := Ly.last hy
  have hc : C ≤ w.heap.size := by have := h.lo; omega
  exact ⟨C', VA', V', h.frow ⟨rfl, rfl, rfl, Nat.le_refl _, fun _ _ _ => rfl⟩ hv h1 (Nat.le_trans h3 hc) (h2.wide hc)⟩
theorem RM.opened {w1 w' : World} (h : RM w0 w m g mc r PL s qs q C VA V FV OV n val) (hn : New w w1) {q' : Nat} {VA' V' : Value} {f : Fr} (htop : FM w1 w.heap.size w1.heap.size q' VA' V' f) (hg : w1.grownBy w' FV.ownBlock) {FV' : Value}
    (hv : w'.ownsRow w0.heap.size tPtr 1 FV' (qs.length + 1 + 1) (pC (qs ++ [q] ++ [q']))) :
    RM w0 (w'.setCell ⟨r, 1, none⟩ FV') m g mc r PL { s with low := s.low ++ [s.top], top := f } (qs ++ [q]) q' w.heap.size VA' V' FV' OV n val := by
  have hw := h.new hn
  have hc : C ≤ w.heap.size := by have := h.lo; omega
  have hk : Kp w w1 C w.heap.size := Kp.new hn C
  exact hw.frow hg (by rw [List.length_append, List.length_singleton]; exact hv) (hw.ly.snoc (h.top.keep hk) hc) hn.size htop
theorem RM.putOut {w' : World} (h : RM w0 w m g mc r PL s qs q C VA V FV OV n val) (hg : w.grownBy w' OV.ownBlock) {OV' : Value} {o : List UInt8} (hv : w'.ownsRow w0.heap.size 5 1 OV' o.length (u8C o)) :
    RM w0 (w'.setCell ⟨r, 3, none⟩ OV') m g mc r PL { s with out := o } qs q C VA V FV OV' n val := by
  obtain ⟨a1, a2, a3, a4, a5, a6, a7, a8, a9, a10⟩ := h.apart
  have hm0 := h.m0
  have hg0 := h.g0
  have hc : C ≤ w.heap.size := by have := h.lo; omega
  have lo : ∀ k, OV.ownBlock = some k → w0.heap.size ≤ k := fun k e => (h.ou.lt k e).1
  have km : some m ≠ OV.ownBlock := fun e => by have := lo m e.symm; omega
  have kg : OV.ownBlock ≠ some g := fun e => by have := lo g e; omega
  have kf : ∀ k, FV.ownBlock = some k → OV.ownBlock ≠ some k := fun j hj e2 => by
    obtain ⟨cs, hc⟩ := own_type h.fr hj
    exact own_apart h.ou hc (by decide) e2
  have kp : ∀ B, Kp w w' B w.heap.size := fun B => Kp.grownT hg (fun k e => own_type h.ou e) (by decide) (by decide) B
  have hr' := h.run.grown hg a7.symm
  have ks : ∀ B D, Kp w' (w'.setCell ⟨r, 3, none⟩ OV') B D := fun B D => Kp.setT (cs := #[.pointer (some ⟨m, 0, none⟩), FV, .string (S s.inp), OV, .int .i64 n, .int .u32 (val : Int)]) OV' (by exact hr') (by decide) (by decide)
  have ov : OV'.ownBlock ≠ some r := own_apart hv hr' (by decide)
  refine ⟨grown_set (grown_more h.gr hg lo) _ h.r0, h.g0, h.m0, (h.mach.grown hg km).far a8 _, own_far _ (own_grown h.mem hg fun k e => by injection e with e; exact e ▸ kg) (fun e => a9 (by injection e)), h.r0, hr'.put 3 OV', own_far _ (own_grown h.fr hg kf) a6, own_far _ hv ov,
    (h.ly.keep ((kp _).less (Nat.le_refl _) hc)).keep (ks _ _), ?_⟩
  rw [set_size]
  exact ((h.top.keep (kp _)).wide hg.size).keep (ks _ _)
end
end Go.Proofs.YtnjampfhkojbnaaGreatDoor

namespace Go.Proofs.YtnjampfhkojbnaaGreatDoor
open Go Go.RowKit

section
variable {w0 w : World} {m g mc r : Nat} {PL : Value} {s : Mc} {qs : List Nat} {q C : Nat} {VA V FV OV : Value} {n : Int} {val : Nat}
theorem own_some {w : World} {B l : Nat} {e : TypeId} {v : Value} {xs : List Value} (h : w.ownsRow B e 1 v l xs) (hl : 0 < l) : ∃ k cap, v = .slice (some ⟨k, 0, none⟩) l cap ∧ B ≤ k ∧ k < w.heap.size := by
  rcases h.2 with ⟨_, q⟩ | ⟨k, cap, cur, rfl, hb, hh, _⟩
  · omega
  · exact ⟨k, cap, rfl, hb, (Array.getElem?_eq_some_iff.1 hh).1⟩
theorem RM.setVar (h : RM w0 w m g mc r PL s qs q C VA V FV OV n val) {k cap : Nat} (hA : VA = .slice (some ⟨k, 0, none⟩) s.top.vars.length cap) (i x : Nat) :
    RM w0 (w.setCell ⟨k, i, none⟩ (.int .u32 (x : Int))) m g mc r PL { s with top := { s.top with vars := s.top.vars.set i x } } qs q C VA V FV OV n val := by
  obtain ⟨a1, a2, a3, a4, a5, a6, a7, a8, a9, a10⟩ := h.apart
  have hl := h.lo
  have hm0 := h.m0
  have hg0 := h.g0
  have e0 : VA.ownBlock = some k := by rw [hA]; rfl
  have hC : C ≤ k := (h.top.va.lt k e0).1
  have ap : ∀ {B c : Nat} {e : TypeId} {v : Value} {xs : List Value}, w.ownsRow B e 1 v c xs → e ≠ tWrd → v.ownBlock ≠ some k := fun ho he e2 => by
    obtain ⟨cs, hc⟩ := own_type h.top.va e0
    exact own_apart ho hc (Ne.symm he) e2
  have hr : w.heap[r]? = some (.cells #[.pointer (some ⟨m, 0, none⟩), FV, .string (S s.inp), OV, .int .i64 n, .int .u32 (val : Int)] tRun (0, 0)) := h.run
  have kr : r ≠ k := fun e => own_apart h.top.va hr (by decide) (e ▸ e0)
  have ho : (w.setCell ⟨k, i, none⟩ (.int .u32 (x : Int))).ownsRow C tWrd 1 VA (s.top.vars.set i x).length (uC (s.top.vars.set i x)) := by
    rw [List.length_set, uC_set, hA]
    have := h.top.va
    rw [hA] at this
    exact own_set this i _
  refine ⟨grown_set h.gr _ (Nat.le_trans hl.1 hC), h.g0, h.m0, h.mach.far (by simp only; omega) _, own_far _ h.mem (fun e => by injection e with e; simp only at e; omega), h.r0, h.run.far kr _, own_far _ h.fr (ap h.fr (by decide)), own_far _ h.ou (ap h.ou (by decide)), h.ly.keep (Kp.set _ hC), ?_⟩
  rw [set_size]
  exact h.top.setVar ho fun j _ hj => Below.heap_setCell w _ _ j fun e => hj (by rw [e]; exact e0)
structure RE (w0 w : World) (m g mc r : Nat) (PL : Value) (mem out : List UInt8) (FV OV : Value) (n : Int) (val : Nat) : Prop where
  gr : w0.grownBy w (some g)
  g0 : g < w0.heap.size
  m0 : m < w0.heap.size
  mach : Blk w m tMach #[.slice (some ⟨g, 0, none⟩) mem.length mc, PL]
  mem : w.ownsRow 0 5 1 (.slice (some ⟨g, 0, none⟩) mem.length mc) mem.length (u8C mem)
  r0 : w0.heap.size ≤ r
  run : ∃ I, Blk w r tRun #[.pointer (some ⟨m, 0, none⟩), FV, .string I, OV, .int .i64 n, .int .u32 (val : Int)]
  ou : w.ownsRow w0.heap.size 5 1 OV out.length (u8C out)
  fv : ∃ A c, FV = .slice A 0 c
theorem RM.ended (h : RM w0 w m g mc r PL s [] q C VA V FV OV n val) {A : Option Addr} {c : Nat} (v : Nat) :
    RE w0 ((w.setCell ⟨r, 1, none⟩ (.slice A 0 c)).setCell ⟨r, 5, none⟩ (.int .u32 (v : Int))) m g mc r PL s.mem s.out (.slice A 0 c) OV n v := by
  obtain ⟨a1, a2, a3, a4, a5, a6, a7, a8, a9, a10⟩ := h.apart
  exact ⟨grown_set (grown_set h.gr _ h.r0) _ h.r0, h.g0, h.m0, (h.mach.far a8 _).far a8 _, own_far _ (own_far _ h.mem fun e => a9 (by injection e)) (fun e => a9 (by injection e)), h.r0, ⟨S s.inp, (h.run.put 1 _).put 5 _⟩, own_far _ (own_far _ h.ou a7) a7, ⟨A, c, rfl⟩⟩
end
end Go.Proofs.YtnjampfhkojbnaaGreatDoor

namespace Go.Proofs.YtnjampfhkojbnaaGreatDoor
open Go Go.RowKit

abbrev rMach : TypeId := 88
abbrev rRun : TypeId := 101
abbrev rFrm : TypeId := 139
def frC (VS : List Value) (F : List (List Nat × Int × Nat)) : List Value := (VS.zip F).flatMap fun x => [x.1, .int .i64 x.2.2.1, .int .i64 (x.2.2.2 : Int)]
theorem frC_len : ∀ (VS : List Value) (F : List (List Nat × Int × Nat)), VS.length = F.length → (frC VS F).length = VS.length * 3
  | [], [], _ => rfl
  | V :: VS, f :: F, h => by
    rw [List.length_cons, List.length_cons] at h
    have := frC_len VS F (by omega)
    unfold frC at this ⊢
    rw [List.zip_cons_cons, List.flatMap_cons, List.length_append, this, List.length_cons]
    simp only [List.length_cons, List.length_nil]
    omega
  | [], _ :: _, h => by simp at h
  | _ :: _, [], h => by simp at h
theorem frC_snoc {VS : List Value} {F : List (List Nat × Int × Nat)} (h : VS.length = F.length) (V : Value) (f : List Nat × Int × Nat) : frC (VS ++ [V]) (F ++ [f]) = frC VS F ++ [V, .int .i64 f.2.1, .int .i64 (f.2.2 : Int)] := by
  unfold frC
  rw [List.zip_append h, List.flatMap_append]
  simp
theorem frC_at : ∀ {VS : List Value} {F : List (List Nat × Int × Nat)} {i : Nat} {V : Value} {f : List Nat × Int × Nat}, VS[i]? = some V → F[i]? = some f →
    (frC VS F)[i * 3]? = some V ∧ (frC VS F)[i * 3 + 1]? = some (.int .i64 f.2.1) ∧ (frC VS F)[i * 3 + 2]? = some (.int .i64 (f.2.2 : Int))
  | V :: VS, f :: F, 0, _, _, h1, h2 => by
    simp only [List.getElem?_cons_zero, Option.some.injEq] at h1 h2
    subst h1 h2
    exact ⟨rfl, rfl, rfl⟩
  | U :: VS, e :: F, i + 1, V, f, h1, h2 => by
    rw [List.getElem?_cons_succ] at h1 h2
    obtain ⟨q1, q2, q3⟩ := frC_at h1 h2
    have e0 : frC (U :: VS) (e :: F) = [U, .int .i64 e.2.1, .int .i64 (e.2.2 : Int)] ++ frC VS F := by simp [frC]
    have key : ∀ j, (frC (U :: VS) (e :: F))[j + 3]? = (frC VS F)[j]? := fun j => by
      rw [e0, List.getElem?_append_right (by simp only [List.length_cons, List.length_nil]; omega)]
      simp only [List.length_cons, List.length_nil]
      congr 1
    refine ⟨?_, ?_, ?_⟩
    · rw [show (i + 1) * 3 = i * 3 + 3 by omega, key]; exact q1
    · rw [show (i + 1) * 3 + 1 = (i * 3 + 1) + 3 by omega, key]; exact q2
    · rw [show (i + 1) * 3 + 2 = (i * 3 + 2) + 3 by omega, key]; exact q3
  | [], _, _, _, _, h, _ => by simp at h
  | _ :: _, [], _, _, _, _, h => by simp at h
structure RQ (w0 w : World) (m g mc r : Nat) (PL : Value) (mem out inp : List UInt8) (F : List (List Nat × Int × Nat)) (vals : List Nat) (VS : List Value) (FV VV OV : Value) (at' : Nat) (n L : Int) : Prop where
  gr : w0.grownBy w (some g)
  g0 : g < w0.heap.size
  m0 : m < w0.heap.size
  mach : Blk w m rMach #[.slice (some ⟨g, 0, none⟩) mem.length mc, PL]
  mrow : w.ownsRow 0 5 1 (.slice (some ⟨g, 0, none⟩) mem.length mc) mem.length (u8C mem)
  r0 : w0.heap.size ≤ r
  run : Blk w r rRun #[.pointer (some ⟨m, 0, none⟩), FV, VV, .string (S inp), .int .i64 (at' : Int), OV, .int .i64 n, .int .i64 L]
  fr : w.ownsRow w0.heap.size rFrm 3 FV F.length (frC VS F)
  vv : w.ownsRow w0.heap.size tWrd 1 VV vals.length (uC vals)
  ou : w.ownsRow w0.heap.size 5 1 OV out.length (u8C out)
  len : VS.length = F.length
  va : ∀ (i : Nat) (V : Value) (f : List Nat × Int × Nat), VS[i]? = some V → F[i]? = some f → w.ownsRow w0.heap.size tWrd 1 V f.1.length (uC f.1)
  ap : ∀ (i : Nat) (V : Value) (k : Nat), VS[i]? = some V → V.ownBlock = some k → VV.ownBlock ≠ some k
  dj : ∀ (i j : Nat) (V U : Value) (k : Nat), VS[i]? = some V → VS[j]? = some U → V.ownBlock = some k → U.ownBlock = some k → i = j

section
variable {w0 w : World} {m g mc r : Nat} {PL : Value} {mem out inp : List UInt8} {F : List (List Nat × Int × Nat)} {vals : List Nat} {VS : List Value} {FV VV OV : Value} {at' : Nat} {n L : Int}
theorem RQ.va_at (h : RQ w0 w m g mc r PL mem out inp F vals VS FV VV OV at' n L) {i : Nat} {V : Value} (hi : VS[i]? = some V) : ∃ f, F[i]? = some f ∧ w.ownsRow w0.heap.size tWrd 1 V f.1.length (uC f.1) := by
  have hl : i < F.length := by rw [← h.len]; exact (List.getElem?_eq_some_iff.1 hi).1
  exact ⟨F[i], List.getElem?_eq_getElem hl, h.va i V _ hi (List.getElem?_eq_getElem hl)⟩
theorem RQ.new {w' : World} (h : RQ w0 w m g mc r PL mem out inp F vals VS FV VV OV at' n L) (hn : New w w') : RQ w0 w' m g mc r PL mem out inp F vals VS FV VV OV at' n L := by
  have hk : ∀ {B k size : Nat} {e : TypeId} {v : Value} {xs : List Value}, w.ownsRow B e size v k xs → w'.ownsRow B e size v k xs := fun ho => own_at ho fun j _ e _ => hn.block j (ho.lt j e).2
  exact ⟨⟨hn.os.trans h.gr.os, hn.tape.trans h.gr.tape, hn.output.trans h.gr.output, Nat.le_trans h.gr.size hn.size, fun k hk hg => (hn.block k (Nat.lt_of_lt_of_le hk h.gr.size)).trans (h.gr.block k hk hg)⟩,
    h.g0, h.m0, h.mach.new hn, hk h.mrow, h.r0, h.run.new hn, hk h.fr, hk h.vv, hk h.ou, h.len, fun i V f a b => hk (h.va i V f a b), h.ap, h.dj⟩
theorem RQ.apart (h : RQ w0 w m g mc r PL mem out inp F vals VS FV VV OV at' n L) : m ≠ r ∧ g ≠ r ∧ m ≠ g ∧ FV.ownBlock ≠ some r ∧ VV.ownBlock ≠ some r ∧ OV.ownBlock ≠ some r ∧ ∀ (i : Nat) (V : Value), VS[i]? = some V → V.ownBlock ≠ some r := by
  have h1 := h.g0
  have h2 := h.m0
  have h3 := h.r0
  have hr : w.heap[r]? = some (.cells #[.pointer (some ⟨m, 0, none⟩), FV, VV, .string (S inp), .int .i64 (at' : Int), OV, .int .i64 n, .int .i64 L] rRun (0, 0)) := h.run
  have hm : w.heap[m]? = some (.cells #[.slice (some ⟨g, 0, none⟩) mem.length mc, PL] rMach (0, 0)) := h.mach
  refine ⟨by omega, by omega, fun e => own_apart h.mrow hm (by decide) (e ▸ rfl), own_apart h.fr hr (by decide), own_apart h.vv hr (by decide), own_apart h.ou hr (by decide), fun i V hi => ?_⟩
  obtain ⟨f, _, ho⟩ := h.va_at hi
  exact own_apart ho hr (by decide)
theorem RQ.atRun (h : RQ w0 w m g mc r PL mem out inp F vals VS FV VV OV at' n L) (i : Nat) (u : Value) {F' : List (List Nat × Int × Nat)} {vals' : List Nat} {VS' : List Value} {FV' VV' OV' : Value} {out' : List UInt8} {a' : Nat} {n' : Int}
    (e : (#[.pointer (some ⟨m, 0, none⟩), FV, VV, .string (S inp), .int .i64 (at' : Int), OV, .int .i64 n, .int .i64 L] : Array Value).setIfInBounds i u = #[.pointer (some ⟨m, 0, none⟩), FV', VV', .string (S inp), .int .i64 (a' : Int), OV', .int .i64 n', .int .i64 L])
    (fr : w.ownsRow w0.heap.size rFrm 3 FV' F'.length (frC VS' F')) (vv : w.ownsRow w0.heap.size tWrd 1 VV' vals'.length (uC vals')) (ou : w.ownsRow w0.heap.size 5 1 OV' out'.length (u8C out')) (len : VS'.length = F'.length)
    (va : ∀ (i : Nat) (V : Value) (f : List Nat × Int × Nat), VS'[i]? = some V → F'[i]? = some f → w.ownsRow w0.heap.size tWrd 1 V f.1.length (uC f.1)) (ap : ∀ (i : Nat) (V : Value) (k : Nat), VS'[i]? = some V → V.ownBlock = some k → VV'.ownBlock ≠ some k)
    (dj : ∀ (i j : Nat) (V U : Value) (k : Nat), VS'[i]? = some V → VS'[j]? = some U → V.ownBlock = some k → U.ownBlock = some k → i = j) :
    RQ w0 (w.setCell ⟨r, i, none⟩ u) m g mc r PL mem out' inp F' vals' VS' FV' VV' OV' a' n' L := by
  obtain ⟨a1, a2, a3, _⟩ := h.apart
  have hr : w.heap[r]? = some (.cells #[.pointer (some ⟨m, 0, none⟩), FV, VV, .string (S inp), .int .i64 (at' : Int), OV, .int .i64 n, .int .i64 L] rRun (0, 0)) := h.run
  have far : ∀ {B k size : Nat} {t : TypeId} {v : Value} {xs : List Value}, w.ownsRow B t size v k xs → t ≠ rRun → (w.setCell ⟨r, i, none⟩ u).ownsRow B t size v k xs := fun ho ht => own_far _ ho (own_apart ho hr (Ne.symm ht))
  exact ⟨grown_set h.gr u h.r0, h.g0, h.m0, h.mach.far a1 u, far h.mrow (by decide), h.r0, (h.run.put i u).same e, far fr (by decide), far vv (by decide), far ou (by decide), len, fun j V f x y => far (va j V f x y) (by decide), ap, dj⟩
theorem RQ.setSteps (h : RQ w0 w m g mc r PL mem out inp F vals VS FV VV OV at' n L) (k : Int) : RQ w0 (w.setCell ⟨r, 6, none⟩ (.int .i64 k)) m g mc r PL mem out inp F vals VS FV VV OV at' k L := h.atRun 6 _ rfl h.fr h.vv h.ou h.len h.va h.ap h.dj
theorem RQ.setAt (h : RQ w0 w m g mc r PL mem out inp F vals VS FV VV OV at' n L) (k : Nat) : RQ w0 (w.setCell ⟨r, 4, none⟩ (.int .i64 (k : Int))) m g mc r PL mem out inp F vals VS FV VV OV k n L := h.atRun 4 _ rfl h.fr h.vv h.ou h.len h.va h.ap h.dj
theorem RQ.cutVals (h : RQ w0 w m g mc r PL mem out inp F vals VS FV VV OV at' n L) {VV' : Value} {vs : List Nat} (hv : w.ownsRow w0.heap.size tWrd 1 VV' vs.length (uC vs)) (hat : VV'.ownBlock = VV.ownBlock) :
    RQ w0 (w.setCell ⟨r, 2, none⟩ VV') m g mc r PL mem out inp F vs VS FV VV' OV at' n L := h.atRun 2 _ rfl h.fr hv h.ou h.len h.va (fun i V k a b => hat ▸ h.ap i V k a b) h.dj
theorem RQ.cutFrames {V : Value} {f : List Nat × Int × Nat} (h : RQ w0 w m g mc r PL mem out inp (F ++ [f]) vals (VS ++ [V]) FV VV OV at' n L) {FV' : Value} (hv : w.ownsRow w0.heap.size rFrm 3 FV' F.length (frC VS F)) :
    RQ w0 (w.setCell ⟨r, 1, none⟩ FV') m g mc r PL mem out inp F vals VS FV' VV OV at' n L := by
  have hl : VS.length = F.length := by have := h.len; simp only [List.length_append, List.length_singleton] at this; omega
  have up : ∀ {α : Type} {l : List α} {x y : α} {i : Nat}, l[i]? = some x → (l ++ [y])[i]? = some x := fun hx => by
    rw [List.getElem?_append_left (List.getElem?_eq_some_iff.1 hx).1]; exact hx
  exact h.atRun 1 _ rfl hv h.vv h.ou hl (fun i U e a b => h.va i U e (up a) (up b)) (fun i U k a b => h.ap i U k (up a) b) (fun i j U U' k a b c d => h.dj i j U U' k (up a) (up b) c d)
end
end Go.Proofs.YtnjampfhkojbnaaGreatDoor

namespace Go.Proofs.YtnjampfhkojbnaaGreatDoor
open Go Go.RowKit

section
variable {w0 w : World} {m g mc r : Nat} {PL : Value} {mem out inp : List UInt8} {F : List (List Nat × Int × Nat)} {vals : List Nat} {VS : List Value} {FV VV OV : Value} {at' : Nat} {n L : Int}
theorem own_setN {w : World} {B l cap g size : Nat} {e : TypeId} {xs : List Value} (h : w.ownsRow B e size (.slice (some ⟨g, 0, none⟩) l cap) l xs) (i : Nat) (u : Value) : (w.setCell ⟨g, i, none⟩ u).ownsRow B e size (.slice (some ⟨g, 0, none⟩) l cap) l (xs.set i u) := by
  obtain ⟨h1, h2⟩ := h
  refine ⟨by rw [List.length_set]; exact h1, ?_⟩
  rcases h2 with ⟨e1, _⟩ | ⟨g', cap', cur, hv, hg, hh, hn, hc, hs, ht⟩
  · cases e1
  · injection hv with e1 e2 e3
    injection e1 with e1
    injection e1 with e1
    subst e1 e3
    have hb : Blk w g e cur := hh
    refine Or.inr ⟨g, cap, cur.setIfInBounds i u, rfl, hg, hb.put i u, hn, hc, by simp [hs], ?_⟩
    rw [Array.toList_setIfInBounds, List.take_set, ht]
theorem RQ.turn {w' : World} (h : RQ w0 w m g mc r PL mem out inp F vals VS FV VV OV at' n L) {row : Option Nat} (hg : w.grownBy w' row) (hlo : ∀ k, row = some k → w0.heap.size ≤ k) (hne : row ≠ some r) (i : Nat) (u : Value) {F' : List (List Nat × Int × Nat)} {vals' : List Nat} {VS' : List Value} {FV' VV' OV' : Value} {out' : List UInt8}
    (e : (#[.pointer (some ⟨m, 0, none⟩), FV, VV, .string (S inp), .int .i64 (at' : Int), OV, .int .i64 n, .int .i64 L] : Array Value).setIfInBounds i u = #[.pointer (some ⟨m, 0, none⟩), FV', VV', .string (S inp), .int .i64 (at' : Int), OV', .int .i64 n, .int .i64 L])
    (fr : w'.ownsRow w0.heap.size rFrm 3 FV' F'.length (frC VS' F')) (vv : w'.ownsRow w0.heap.size tWrd 1 VV' vals'.length (uC vals')) (ou : w'.ownsRow w0.heap.size 5 1 OV' out'.length (u8C out')) (len : VS'.length = F'.length)
    (va : ∀ (i : Nat) (V : Value) (f : List Nat × Int × Nat), VS'[i]? = some V → F'[i]? = some f → w'.ownsRow w0.heap.size tWrd 1 V f.1.length (uC f.1)) (ap : ∀ (i : Nat) (V : Value) (k : Nat), VS'[i]? = some V → V.ownBlock = some k → VV'.ownBlock ≠ some k)
    (dj : ∀ (i j : Nat) (V U : Value) (k : Nat), VS'[i]? = some V → VS'[j]? = some U → V.ownBlock = some k → U.ownBlock = some k → i = j) :
    RQ w0 (w'.setCell ⟨r, i, none⟩ u) m g mc r PL mem out' inp F' vals' VS' FV' VV' OV' at' n L := by
  obtain ⟨a1, a2, a3, _⟩ := h.apart
  have hm0 := h.m0
  have hg0 := h.g0
  have hr := h.run.grown hg (Ne.symm hne)
  have hr' : w'.heap[r]? = some (.cells #[.pointer (some ⟨m, 0, none⟩), FV, VV, .string (S inp), .int .i64 (at' : Int), OV, .int .i64 n, .int .i64 L] rRun (0, 0)) := hr
  have far : ∀ {B k size : Nat} {t : TypeId} {v : Value} {xs : List Value}, w'.ownsRow B t size v k xs → t ≠ rRun → (w'.setCell ⟨r, i, none⟩ u).ownsRow B t size v k xs := fun ho ht => own_far _ ho (own_apart ho hr' (Ne.symm ht))
  exact ⟨grown_set (grown_more h.gr hg hlo) u h.r0, h.g0, h.m0, (h.mach.grown hg fun q => by have := hlo m q.symm; omega).far a1 u, far (own_grown h.mrow hg fun k q q2 => by injection q with q; simp only at q; have := hlo k q2; omega) (by decide), h.r0, (hr.put i u).same e, far fr (by decide), far vv (by decide), far ou (by decide), len, fun j V f x y => far (va j V f x y) (by decide), ap, dj⟩
theorem rows_apart {w : World} {B B' k l size size' : Nat} {e t : TypeId} {v u : Value} {xs ys : List Value} (h : w.ownsRow B e size v k xs) (h2 : w.ownsRow B' t size' u l ys) (ht : e ≠ t) : ∀ j, v.ownBlock = some j → u.ownBlock ≠ some j := fun j hj hu => by
  obtain ⟨cs, hc⟩ := own_type h hj
  exact own_apart h2 hc ht hu
theorem RQ.pushed {w' : World} (h : RQ w0 w m g mc r PL mem out inp F vals VS FV VV OV at' n L) (hg : w.grownBy w' VV.ownBlock) {VV' : Value} {vs : List Nat} (hv : w'.ownsRow w0.heap.size tWrd 1 VV' vs.length (uC vs)) (hat : VV'.ownBlock = VV.ownBlock ∨ ∀ k, VV'.ownBlock = some k → w.heap.size ≤ k) :
    RQ w0 (w'.setCell ⟨r, 2, none⟩ VV') m g mc r PL mem out inp F vs VS FV VV' OV at' n L := by
  obtain ⟨a1, a2, a3, a4, a5, a6, a7⟩ := h.apart
  refine h.turn hg (fun k q => (h.vv.lt k q).1) a5 2 VV' rfl (own_grown h.fr hg (rows_apart h.fr h.vv (by decide))) hv (own_grown h.ou hg (rows_apart h.ou h.vv (by decide))) h.len (fun i V f x y => own_grown (h.va i V f x y) hg fun k q => h.ap i V k x q) (fun i V k x q q2 => ?_) h.dj
  rcases hat with q3 | q3
  · exact h.ap i V k x q (q3 ▸ q2)
  · obtain ⟨f, _, ho⟩ := h.va_at x
    have := (ho.lt k q).2
    have := q3 k q2
    omega
theorem RQ.putOut {w' : World} (h : RQ w0 w m g mc r PL mem out inp F vals VS FV VV OV at' n L) (hg : w.grownBy w' OV.ownBlock) {OV' : Value} {o : List UInt8} (hv : w'.ownsRow w0.heap.size 5 1 OV' o.length (u8C o)) :
    RQ w0 (w'.setCell ⟨r, 5, none⟩ OV') m g mc r PL mem o inp F vals VS FV VV OV' at' n L := by
  obtain ⟨a1, a2, a3, a4, a5, a6, a7⟩ := h.apart
  exact h.turn hg (fun k q => (h.ou.lt k q).1) a6 5 OV' rfl (own_grown h.fr hg (rows_apart h.fr h.ou (by decide))) (own_grown h.vv hg (rows_apart h.vv h.ou (by decide))) hv h.len (fun i V f x y => own_grown (h.va i V f x y) hg (rows_apart (h.va i V f x y) h.ou (by decide))) h.ap h.dj
theorem RQ.opened {w1 w' : World} (h : RQ w0 w m g mc r PL mem out inp F vals VS FV VV OV at' n L) (hn : New w w1) {V : Value} {f : List Nat × Int × Nat} (hV : w1.ownsRow w.heap.size tWrd 1 V f.1.length (uC f.1)) (hg : w1.grownBy w' FV.ownBlock) {FV' : Value} (hv : w'.ownsRow w0.heap.size rFrm 3 FV' (F ++ [f]).length (frC (VS ++ [V]) (F ++ [f]))) :
    RQ w0 (w'.setCell ⟨r, 1, none⟩ FV') m g mc r PL mem out inp (F ++ [f]) vals (VS ++ [V]) FV' VV OV at' n L := by
  have h1 := h.new hn
  obtain ⟨a1, a2, a3, a4, a5, a6, a7⟩ := h1.apart
  have hV0 : w1.ownsRow w0.heap.size tWrd 1 V f.1.length (uC f.1) := own_lower hV fun k q => Nat.le_trans h.gr.size (hV.lt k q).1
  have old : ∀ {i : Nat} {U : Value} {k : Nat}, VS[i]? = some U → U.ownBlock = some k → k < w.heap.size := fun x q => by
    obtain ⟨e, _, ho⟩ := h.va_at x
    exact (ho.lt _ q).2
  have cases' : ∀ {i : Nat} {U : Value}, (VS ++ [V])[i]? = some U → VS[i]? = some U ∨ i = VS.length ∧ U = V := fun {i U} x => by
    by_cases hi : i < VS.length
    · rw [List.getElem?_append_left hi] at x; exact Or.inl x
    · rw [List.getElem?_append_right (by omega)] at x
      have hi2 : i - VS.length = 0 := by
        have := (List.getElem?_eq_some_iff.1 x).1
        simp only [List.length_singleton] at this
        omega
      rw [hi2] at x
      simp only [List.getElem?_cons_zero, Option.some.injEq] at x
      exact Or.inr ⟨by omega, x.symm⟩
  refine h1.turn hg (fun k q => (h1.fr.lt k q).1) a4 1 FV' rfl hv (own_grown h1.vv hg (rows_apart h1.vv h1.fr (by decide))) (own_grown h1.ou hg (rows_apart h1.ou h1.fr (by decide))) (by rw [List.length_append, List.length_append, h.len]; rfl) (fun i U e x y => ?_) (fun i U k x q q2 => ?_) (fun i j U U2 k x y q q2 => ?_)
  · rcases cases' x with x | ⟨rfl, rfl⟩
    · rw [List.getElem?_append_left (by rw [← h.len]; exact (List.getElem?_eq_some_iff.1 x).1)] at y
      exact own_grown (h1.va i U e x y) hg (rows_apart (h1.va i U e x y) h1.fr (by decide))
    · rw [List.getElem?_append_right (by rw [h.len]; exact Nat.le_refl _), h.len, Nat.sub_self] at y
      simp only [List.getElem?_cons_zero, Option.some.injEq] at y
      subst y
      exact own_grown hV0 hg (rows_apart hV0 h1.fr (by decide))
  · rcases cases' x with x | ⟨rfl, rfl⟩
    · exact h.ap i U k x q q2
    · have := (hV.lt k q).1
      have := (h.vv.lt k q2).2
      omega
  · rcases cases' x with x1 | ⟨e1, e2⟩
    · rcases cases' y with y1 | ⟨e3, e4⟩
      · exact h.dj i j U U2 k x1 y1 q q2
      · have := old x1 q
        rw [e4] at q2
        have := (hV.lt k q2).1
        omega
    · rcases cases' y with y1 | ⟨e3, e4⟩
      · have := old y1 q2
        rw [e2] at q
        have := (hV.lt k q).1
        omega
      · rw [e1, e3]
end
end Go.Proofs.YtnjampfhkojbnaaGreatDoor

namespace Go.Proofs.YtnjampfhkojbnaaGreatDoor
open Go Go.RowKit

section
variable {w0 w : World} {m g mc r : Nat} {PL : Value} {mem out inp : List UInt8} {F : List (List Nat × Int × Nat)} {vals : List Nat} {VS : List Value} {FV VV OV : Value} {at' : Nat} {n L : Int}
theorem RQ.cell (h : RQ w0 w m g mc r PL mem out inp F vals VS FV VV OV at' n L) {p : Addr} (u : Value) (hlo : w0.heap.size ≤ p.block) (hr : r ≠ p.block) {F' : List (List Nat × Int × Nat)}
    (fr : (w.setCell p u).ownsRow w0.heap.size rFrm 3 FV F'.length (frC VS F')) (vv : VV.ownBlock ≠ some p.block) (ou : OV.ownBlock ≠ some p.block) (len : F'.length = F.length)
    (va : ∀ (i : Nat) (V : Value) (f : List Nat × Int × Nat), VS[i]? = some V → F'[i]? = some f → (w.setCell p u).ownsRow w0.heap.size tWrd 1 V f.1.length (uC f.1)) :
    RQ w0 (w.setCell p u) m g mc r PL mem out inp F' vals VS FV VV OV at' n L := by
  have hm0 := h.m0
  have hg0 := h.g0
  exact ⟨grown_set h.gr u hlo, h.g0, h.m0, h.mach.far (by omega) u, own_far u h.mrow (fun q => by injection q with q; simp only at q; omega), h.r0, h.run.far hr u, fr, own_far u h.vv vv, own_far u h.ou ou, h.len.trans len.symm, va, h.ap, h.dj⟩
theorem snoc_at {α : Type} {l : List α} {x y : α} {i : Nat} (h : (l ++ [x])[i]? = some y) : l[i]? = some y ∧ i < l.length ∨ i = l.length ∧ x = y := by
  by_cases hi : i < l.length
  · rw [List.getElem?_append_left hi] at h; exact Or.inl ⟨h, hi⟩
  · rw [List.getElem?_append_right (by omega)] at h
    have hi2 : i - l.length = 0 := by
      have := (List.getElem?_eq_some_iff.1 h).1
      simp only [List.length_singleton] at this
      omega
    rw [hi2] at h
    simp only [List.getElem?_cons_zero, Option.some.injEq] at h
    exact Or.inr ⟨by omega, h⟩
theorem RQ.setPc {V : Value} {f : List Nat × Int × Nat} (h : RQ w0 w m g mc r PL mem out inp (F ++ [f]) vals (VS ++ [V]) FV VV OV at' n L) {k cap : Nat} (hF : FV = .slice (some ⟨k, 0, none⟩) (F ++ [f]).length cap) (p : Int) :
    RQ w0 (w.setCell ⟨k, F.length * 3 + 1, none⟩ (.int .i64 p)) m g mc r PL mem out inp (F ++ [(f.1, p, f.2.2)]) vals (VS ++ [V]) FV VV OV at' n L := by
  obtain ⟨a1, a2, a3, a4, a5, a6, a7⟩ := h.apart
  have hl : VS.length = F.length := by have := h.len; simp only [List.length_append, List.length_singleton] at this; omega
  have e0 : FV.ownBlock = some k := by rw [hF]; rfl
  have hC := (h.fr.lt k e0).1
  have hrow := h.fr
  rw [hF] at hrow
  have hset := own_setN hrow (F.length * 3 + 1) (.int .i64 p)
  refine h.cell _ hC (fun e => a4 (e ▸ e0)) ?_ (fun q => rows_apart h.fr h.vv (by decide) k e0 q) (fun q => rows_apart h.fr h.ou (by decide) k e0 q) (by simp) (fun i U e x y => ?_)
  · rw [hF]
    have : frC (VS ++ [V]) (F ++ [(f.1, p, f.2.2)]) = (frC (VS ++ [V]) (F ++ [f])).set (F.length * 3 + 1) (.int .i64 p) := by
      rw [frC_snoc hl, frC_snoc hl, List.set_append_right _ _ (by rw [frC_len _ _ hl, hl]; omega), frC_len _ _ hl, hl, Nat.add_sub_cancel_left]
      rfl
    rw [this, show (F ++ [(f.1, p, f.2.2)]).length = (F ++ [f]).length by simp]
    exact hset
  · have ho : w.ownsRow w0.heap.size tWrd 1 U e.1.length (uC e.1) := by
      rcases snoc_at y with ⟨y1, y2⟩ | ⟨y1, y2⟩
      · exact h.va i U e x (by rw [List.getElem?_append_left y2]; exact y1)
      · subst y1 y2
        exact h.va _ U f x (by rw [List.getElem?_append_right (Nat.le_refl _), Nat.sub_self]; rfl)
    exact own_far _ ho fun q => rows_apart h.fr ho (by decide) k e0 q
theorem RQ.setVar {V : Value} {f : List Nat × Int × Nat} (h : RQ w0 w m g mc r PL mem out inp (F ++ [f]) vals (VS ++ [V]) FV VV OV at' n L) {k cap : Nat} (hV : V = .slice (some ⟨k, 0, none⟩) f.1.length cap) (i x : Nat) :
    RQ w0 (w.setCell ⟨k, i, none⟩ (.int .u32 (x : Int))) m g mc r PL mem out inp (F ++ [(f.1.set i x, f.2)]) vals (VS ++ [V]) FV VV OV at' n L := by
  obtain ⟨a1, a2, a3, a4, a5, a6, a7⟩ := h.apart
  have hl : VS.length = F.length := by have := h.len; simp only [List.length_append, List.length_singleton] at this; omega
  have e0 : V.ownBlock = some k := by rw [hV]; rfl
  have hVi : (VS ++ [V])[VS.length]? = some V := by rw [List.getElem?_append_right (Nat.le_refl _), Nat.sub_self]; rfl
  have hFi : (F ++ [f])[VS.length]? = some f := by rw [hl, List.getElem?_append_right (Nat.le_refl _), Nat.sub_self]; rfl
  have ho := h.va _ V f hVi hFi
  have hC := (ho.lt k e0).1
  refine h.cell _ hC (fun e => a7 _ V hVi (e ▸ e0)) ?_ (h.ap _ V k hVi e0) (fun q => rows_apart ho h.ou (by decide) k e0 q) (by simp) (fun j U e y z => ?_)
  · have : frC (VS ++ [V]) (F ++ [(f.1.set i x, f.2)]) = frC (VS ++ [V]) (F ++ [f]) := by rw [frC_snoc hl, frC_snoc hl]
    rw [this, show (F ++ [(f.1.set i x, f.2)]).length = (F ++ [f]).length by simp]
    exact own_far _ h.fr fun q => rows_apart ho h.fr (by decide) k e0 q
  · rcases snoc_at z with ⟨z1, z2⟩ | ⟨z1, z2⟩
    · have := h.va j U e y (by rw [List.getElem?_append_left z2]; exact z1)
      refine own_far _ this fun q => ?_
      have := h.dj j _ U V k y hVi q e0
      omega
    · subst z1 z2
      rw [← hl, hVi] at y
      injection y with y
      subst y
      simp only [List.length_set]
      rw [uC_set, hV]
      rw [hV] at ho
      exact own_set ho i _
theorem RQ.setMem (h : RQ w0 w m g mc r PL mem out inp F vals VS FV VV OV at' n L) (i : Nat) (c : UInt8) : RQ w0 (w.setCell ⟨g, i, none⟩ (.int .u8 (c.toNat : Int))) m g mc r PL (mem.set i c) out inp F vals VS FV VV OV at' n L := by
  obtain ⟨a1, a2, a3, a4, a5, a6, a7⟩ := h.apart
  have hg0 := h.g0
  have ho := own_set h.mrow i (.int .u8 (c.toNat : Int))
  have far : ∀ {l size : Nat} {e : TypeId} {v : Value} {xs : List Value}, w.ownsRow w0.heap.size e size v l xs → (w.setCell ⟨g, i, none⟩ (.int .u8 (c.toNat : Int))).ownsRow w0.heap.size e size v l xs := fun hr => own_far _ hr fun e => by
    have := (hr.lt _ e).1
    simp only at this
    omega
  refine ⟨grown_row h.gr i _, h.g0, h.m0, ?_, ?_, h.r0, h.run.far a2.symm _, far h.fr, far h.vv, far h.ou, h.len, fun i V f x y => far (h.va i V f x y), h.ap, h.dj⟩
  · rw [List.length_set]
    exact h.mach.far a3 _
  · rw [List.length_set, u8C_set]; exact ho
end
end Go.Proofs.YtnjampfhkojbnaaGreatDoor

namespace Go.Proofs.YtnjampfhkojbnaaGreatDoor
open Go Go.RowKit

theorem ngrown {w0 w : World} (h : New w0 w) (row : Option Nat) : w0.grownBy w row := ⟨h.os, h.tape, h.output, h.size, fun k hk _ => h.block k hk⟩
theorem RM.first {w0 w1 w2 w' : World} {m g mc r q : Nat} {PL : Value} {mem inp : List UInt8} {VA V FV' : Value} {f : Fr} (h0 : New w0 w1) (g0 : g < w0.heap.size) (m0 : m < w0.heap.size)
    (mach : Blk w0 m tMach #[.slice (some ⟨g, 0, none⟩) mem.length mc, PL]) (hm : w0.ownsRow 0 5 1 (.slice (some ⟨g, 0, none⟩) mem.length mc) mem.length (u8C mem)) (r0 : w0.heap.size ≤ r)
    (run : Blk w1 r tRun #[.pointer (some ⟨m, 0, none⟩), .slice none 0 0, .string (S inp), .slice none 0 0, .int .i64 0, .int .u32 ((0 : Nat) : Int)]) (hn : New w1 w2) (htop : FM w2 w1.heap.size w2.heap.size q VA V f)
    (hg : w2.grownBy w' none) (hv : w'.ownsRow w0.heap.size tPtr 1 FV' 1 (pC [q])) :
    RM w0 (w'.setCell ⟨r, 1, none⟩ FV') m g mc r PL ⟨mem, [], f, inp, []⟩ [] q w1.heap.size VA V FV' (.slice none 0 0) 0 0 := by
  have h02 : New w0 w2 := h0.trans hn
  have run2 := (run.new hn).grown hg (by simp)
  have run3 : w'.heap[r]? = some (.cells #[.pointer (some ⟨m, 0, none⟩), .slice none 0 0, .string (S inp), .slice none 0 0, .int .i64 0, .int .u32 ((0 : Nat) : Int)] tRun (0, 0)) := run2
  have mk : ∀ k, k < w0.heap.size → (w'.setCell ⟨r, 1, none⟩ FV').heap[k]? = w0.heap[k]? := fun k hk =>
    (Below.heap_setCell w' ⟨r, 1, none⟩ FV' k (by simp only; omega)).trans ((hg.block k (Nat.lt_of_lt_of_le hk h02.size) (by simp)).trans (h02.block k hk))
  have kp : Kp w2 w' w1.heap.size w2.heap.size := fun k _ _ _ hc _ _ => hg.block k hc (by simp)
  exact ⟨grown_set (grown_more (ngrown h02 _) hg (fun k e => by cases e)) _ r0, g0, m0, (mk m m0).trans mach, own_at hm fun k _ e _ => by injection e with e; simp only at e; subst e; exact mk _ g0, r0, run2.put 1 FV', own_far _ hv (own_apart hv run3 (by decide)), World.ownsRow_nil _ _ _ _, h0.size,
    by rw [set_size]; exact ((htop.keep kp).wide hg.size).keep (Kp.setT FV' run3 (by decide) (by decide))⟩
theorem RQ.first {w0 w1 w2 w' : World} {m g mc r : Nat} {PL : Value} {mem inp : List UInt8} {V FV' : Value} {f : List Nat × Int × Nat} {L : Int} (h0 : New w0 w1) (g0 : g < w0.heap.size) (m0 : m < w0.heap.size)
    (mach : Blk w0 m rMach #[.slice (some ⟨g, 0, none⟩) mem.length mc, PL]) (hm : w0.ownsRow 0 5 1 (.slice (some ⟨g, 0, none⟩) mem.length mc) mem.length (u8C mem)) (r0 : w0.heap.size ≤ r)
    (run : Blk w1 r rRun #[.pointer (some ⟨m, 0, none⟩), .slice none 0 0, .slice none 0 0, .string (S inp), .int .i64 ((0 : Nat) : Int), .slice none 0 0, .int .i64 0, .int .i64 L]) (hn : New w1 w2) (hV : w2.ownsRow w1.heap.size tWrd 1 V f.1.length (uC f.1))
    (hg : w2.grownBy w' none) (hv : w'.ownsRow w0.heap.size rFrm 3 FV' 1 (frC [V] [f])) :
    RQ w0 (w'.setCell ⟨r, 1, none⟩ FV') m g mc r PL mem [] inp [f] [] [V] FV' (.slice none 0 0) (.slice none 0 0) 0 0 L := by
  have h02 : New w0 w2 := h0.trans hn
  have run2 := (run.new hn).grown hg (by simp)
  have run3 : w'.heap[r]? = some (.cells #[.pointer (some ⟨m, 0, none⟩), .slice none 0 0, .slice none 0 0, .string (S inp), .int .i64 ((0 : Nat) : Int), .slice none 0 0, .int .i64 0, .int .i64 L] rRun (0, 0)) := run2
  have mk : ∀ k, k < w0.heap.size → (w'.setCell ⟨r, 1, none⟩ FV').heap[k]? = w0.heap[k]? := fun k hk =>
    (Below.heap_setCell w' ⟨r, 1, none⟩ FV' k (by simp only; omega)).trans ((hg.block k (Nat.lt_of_lt_of_le hk h02.size) (by simp)).trans (h02.block k hk))
  have hV0 : w'.ownsRow w0.heap.size tWrd 1 V f.1.length (uC f.1) := own_lower (own_grown hV hg fun _ _ e => by cases e) fun k q => Nat.le_trans h0.size (hV.lt k q).1
  have one : ∀ {α : Type} {x y : α} {i : Nat}, [x][i]? = some y → i = 0 ∧ x = y := fun {α x y i} h => by
    cases i with
    | zero => exact ⟨rfl, by simpa using h⟩
    | succ i => simp at h
  refine ⟨grown_set (grown_more (ngrown h02 _) hg (fun k e => by cases e)) _ r0, g0, m0, (mk m m0).trans mach, own_at hm fun k _ e _ => by injection e with e; simp only at e; subst e; exact mk _ g0, r0, run2.put 1 FV', own_far _ hv (own_apart hv run3 (by decide)), World.ownsRow_nil _ _ _ _, World.ownsRow_nil _ _ _ _, rfl, fun i U e x y => ?_, fun i U k _ _ q => (by cases q), fun i j U U2 k x y _ _ => (one x).1.trans (one y).1.symm⟩
  obtain ⟨_, rfl⟩ := one x
  obtain ⟨_, rfl⟩ := one y
  exact own_far _ hV0 (own_apart hV0 run3 (by decide))
end Go.Proofs.YtnjampfhkojbnaaGreatDoor

namespace Go.Proofs.YtnjampfhkojbnaaGreatDoor
open Go Go.RowKit

structure RR (w0 w : World) (m g mc r : Nat) (PL : Value) (s : Mc) (inp : List UInt8) (VS : List Value) (VA FV VV OV : Value) (at' : Nat) (n L : Int) : Prop where
  q : RQ w0 w m g mc r PL s.mem s.out inp (framesR s) (valsR s) (VS ++ [VA]) FV VV OV at' n L
  i : s.inp = inp.drop at'
  le : at' ≤ inp.length

section
variable {w0 w : World} {m g mc r : Nat} {PL : Value} {s : Mc} {inp : List UInt8} {VS : List Value} {VA FV VV OV : Value} {at' : Nat} {n L : Int}
theorem RR.new {w' : World} (h : RR w0 w m g mc r PL s inp VS VA FV VV OV at' n L) (hn : New w w') : RR w0 w' m g mc r PL s inp VS VA FV VV OV at' n L := ⟨h.q.new hn, h.i, h.le⟩
theorem RR.setSteps (h : RR w0 w m g mc r PL s inp VS VA FV VV OV at' n L) (k : Int) : RR w0 (w.setCell ⟨r, 6, none⟩ (.int .i64 k)) m g mc r PL s inp VS VA FV VV OV at' k L := ⟨h.q.setSteps k, h.i, h.le⟩
theorem RR.read (h : RR w0 w m g mc r PL s inp VS VA FV VV OV at' n L) {c : UInt8} {l : List UInt8} (hc : s.inp = c :: l) : RR w0 (w.setCell ⟨r, 4, none⟩ (.int .i64 ((at' + 1 : Nat) : Int))) m g mc r PL { s with inp := l } inp VS VA FV VV OV (at' + 1) n L := by
  have hi := h.i
  rw [hc] at hi
  have hl : at' < inp.length := by
    have := congrArg List.length hi
    rw [List.length_cons, List.length_drop] at this
    omega
  refine ⟨h.q.setAt (at' + 1), ?_, hl⟩
  have := congrArg List.tail hi
  rw [List.tail_cons, List.tail_drop] at this
  exact this
theorem RR.pushed {w' : World} (h : RR w0 w m g mc r PL s inp VS VA FV VV OV at' n L) (hg : w.grownBy w' VV.ownBlock) {VV' : Value} {x : Nat} (hv : w'.ownsRow w0.heap.size tWrd 1 VV' (valsR s ++ [x]).length (uC (valsR s ++ [x]))) (hat : VV'.ownBlock = VV.ownBlock ∨ ∀ k, VV'.ownBlock = some k → w.heap.size ≤ k) :
    RR w0 (w'.setCell ⟨r, 2, none⟩ VV') m g mc r PL (s.put (s.top.vals ++ [x])) inp VS VA FV VV' OV at' n L :=
  ⟨by rw [framesR_put, valsR_push]; exact h.q.pushed hg hv hat, h.i, h.le⟩
theorem RR.taken (h : RR w0 w m g mc r PL s inp VS VA FV VV OV at' n L) {t : Nat} (ht : t ≤ s.top.vals.length) {VV' : Value} (hv : w.ownsRow w0.heap.size tWrd 1 VV' ((valsR s).take ((valsR s).length - t)).length (uC ((valsR s).take ((valsR s).length - t)))) (hat : VV'.ownBlock = VV.ownBlock) :
    RR w0 (w.setCell ⟨r, 2, none⟩ VV') m g mc r PL (s.put (s.top.vals.take (s.top.vals.length - t))) inp VS VA FV VV' OV at' n L :=
  ⟨by rw [framesR_put, ← valsR_left s ht]; exact h.q.cutVals hv hat, h.i, h.le⟩
theorem RR.setPc (h : RR w0 w m g mc r PL s inp VS VA FV VV OV at' n L) {k cap : Nat} (hF : FV = .slice (some ⟨k, 0, none⟩) (s.low.length + 1) cap) (p : Int) :
    RR w0 (w.setCell ⟨k, s.low.length * 3 + 1, none⟩ (.int .i64 p)) m g mc r PL { s with top := { s.top with pc := p } } inp VS VA FV VV OV at' n L := by
  have hq := h.q
  rw [framesR_eq] at hq
  have := hq.setPc (k := k) (cap := cap) (by rw [hF, List.length_append, basesR_len]; rfl) p
  rw [basesR_len] at this
  exact ⟨by rw [framesR_eq, valsR_turn s s.top.vars p]; exact this, h.i, h.le⟩
theorem RR.setVar (h : RR w0 w m g mc r PL s inp VS VA FV VV OV at' n L) {k cap : Nat} (hV : VA = .slice (some ⟨k, 0, none⟩) s.top.vars.length cap) (i x : Nat) :
    RR w0 (w.setCell ⟨k, i, none⟩ (.int .u32 (x : Int))) m g mc r PL { s with top := { s.top with vars := s.top.vars.set i x } } inp VS VA FV VV OV at' n L := by
  have hq := h.q
  rw [framesR_eq] at hq
  have := hq.setVar (k := k) (cap := cap) hV i x
  exact ⟨by rw [framesR_eq, valsR_turn s (s.top.vars.set i x) s.top.pc]; exact this, h.i, h.le⟩
theorem RR.setMem (h : RR w0 w m g mc r PL s inp VS VA FV VV OV at' n L) (i : Nat) (c : UInt8) : RR w0 (w.setCell ⟨g, i, none⟩ (.int .u8 (c.toNat : Int))) m g mc r PL { s with mem := s.mem.set i c } inp VS VA FV VV OV at' n L :=
  ⟨h.q.setMem i c, h.i, h.le⟩
theorem RR.putOut {w' : World} (h : RR w0 w m g mc r PL s inp VS VA FV VV OV at' n L) (hg : w.grownBy w' OV.ownBlock) {OV' : Value} {o : List UInt8} (hv : w'.ownsRow w0.heap.size 5 1 OV' o.length (u8C o)) :
    RR w0 (w'.setCell ⟨r, 5, none⟩ OV') m g mc r PL { s with out := o } inp VS VA FV VV OV' at' n L := ⟨h.q.putOut hg hv, h.i, h.le⟩
theorem RR.opened {w1 w' : World} (h : RR w0 w m g mc r PL s inp VS VA FV VV OV at' n L) (hn : New w w1) {V : Value} {f : Fr} (hf : f.vals = []) (hV : w1.ownsRow w.heap.size tWrd 1 V f.vars.length (uC f.vars)) (hg : w1.grownBy w' FV.ownBlock) {FV' : Value}
    (hv : w'.ownsRow w0.heap.size rFrm 3 FV' (framesR s ++ [(f.vars, f.pc, (valsR s).length)]).length (frC (VS ++ [VA] ++ [V]) (framesR s ++ [(f.vars, f.pc, (valsR s).length)]))) :
    RR w0 (w'.setCell ⟨r, 1, none⟩ FV') m g mc r PL { s with low := s.low ++ [s.top], top := f } inp (VS ++ [VA]) V FV' VV OV at' n L := by
  have := h.q.opened (f := (f.vars, f.pc, (valsR s).length)) hn hV hg hv
  exact ⟨by rw [framesR_open, valsR_open s hf]; exact this, h.i, h.le⟩
end
end Go.Proofs.YtnjampfhkojbnaaGreatDoor

namespace Go.Proofs.YtnjampfhkojbnaaGreatDoor
open Go Go.RowKit

section
variable {w0 w : World} {m g mc r : Nat} {PL : Value} {s : Mc} {inp : List UInt8} {VS : List Value} {VA FV VV OV : Value} {at' : Nat} {n L : Int}
theorem RR.left {f : Fr} {x : Nat} (hq : RQ w0 w m g mc r PL s.mem s.out inp (basesR 0 s.low) (valsF s.low ++ [x]) VS FV VV OV at' n L) (hi : s.inp = inp.drop at') (hle : at' ≤ inp.length) (hf : s.low.getLast? = some f) :
    ∃ VS' VA', VS = VS' ++ [VA'] ∧ RR w0 w m g mc r PL { s with low := s.low.dropLast, top := { f with vals := f.vals ++ [x] } } inp VS' VA' FV VV OV at' n L := by
  obtain ⟨h1, h2⟩ := low_last hf x
  have hl := hq.len
  rw [basesR_len] at hl
  rcases List.eq_nil_or_concat VS with e | ⟨VS', VA', e⟩
  · rw [e] at hl
    have : s.low = [] := List.length_eq_zero_iff.1 hl.symm
    rw [this] at hf
    cases hf
  · rw [List.concat_eq_append] at e
    subst e
    exact ⟨VS', VA', rfl, ⟨by rw [h1, h2]; exact hq, hi, hle⟩⟩
theorem RQ.leave (h : RQ w0 w m g mc r PL s.mem s.out inp (framesR s) (valsR s) (VS ++ [VA]) FV VV OV at' n L) {VV' : Value} (hv : w.ownsRow w0.heap.size tWrd 1 VV' (valsF s.low).length (uC (valsF s.low))) (hat : VV'.ownBlock = VV.ownBlock) {FV' : Value}
    (hF : (w.setCell ⟨r, 2, none⟩ VV').ownsRow w0.heap.size rFrm 3 FV' (basesR 0 s.low).length (frC VS (basesR 0 s.low))) :
    RQ w0 ((w.setCell ⟨r, 2, none⟩ VV').setCell ⟨r, 1, none⟩ FV') m g mc r PL s.mem s.out inp (basesR 0 s.low) (valsF s.low) VS FV' VV' OV at' n L := by
  have h1 := h.cutVals hv hat
  rw [framesR_eq] at h1
  exact h1.cutFrames hF
theorem RR.first {f : Fr} {mem : List UInt8} (hf : f.vals = []) (h : RQ w0 w m g mc r PL mem [] inp [(f.vars, f.pc, 0)] [] [VA] FV VV OV 0 n L) : RR w0 w m g mc r PL ⟨mem, [], f, inp, []⟩ inp [] VA FV VV OV 0 n L := by
  have e : valsR ⟨mem, [], f, inp, []⟩ = [] := by rw [valsR_eq]; simp [valsF, hf]
  exact ⟨by rw [e]; exact h, rfl, Nat.zero_le _⟩
end
end Go.Proofs.YtnjampfhkojbnaaGreatDoor

