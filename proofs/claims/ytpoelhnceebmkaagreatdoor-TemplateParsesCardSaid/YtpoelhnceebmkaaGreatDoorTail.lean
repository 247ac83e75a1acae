/- A region that draws its order, met in a round of a range over a function: its head reads and calls quietly, its tail is forced: the head in the order of the text, then the tail as a plain list. Turned from the kit's law for plain walks. No conditions of ours. -/
import Derived.Test.YtpoelhnceebmkaaGreatDoorSeq
import Derived.StillTailTactics
import Derived.OrdersIn
import Derived.Deep.RegionHeld
namespace Go.Proofs.YtpoelhnceebmkaaGreatDoor
open Go Go.RowKit

/-- The ways out but the one for want of memory. -/
def noOut (Q : Exit → Act → World → Prop) : Exit → Act → World → Prop
  | .outgrown, _, _ => False
  | e, a, w => Q e a w
theorem noOut_normal (Q : Exit → Act → World → Prop) (a : Act) (w : World) : noOut Q .normal a w = Q .normal a w := rfl
theorem noOut_lets {Q : Exit → Act → World → Prop} (h : LetsOut (noOut Q)) : False := by obtain ⟨_, _, h⟩ := h; exact h

def plainOps (ops : Array Oper) : Bool := ops.all fun o => match o.op with
  | .defer _ => false
  | _ => true
theorem plainOps_at {ops : Array Oper} (h : plainOps ops = true) {i : Nat} {o : Oper} (ho : ops[i]? = some o) : ∀ c, o.op ≠ .defer c := by
  intro c hc
  obtain ⟨hi, rfl⟩ := Array.getElem?_eq_some_iff.1 ho
  have := (Array.all_eq_true.1 h) i hi
  rw [hc] at this
  exact absurd this (by simp)

theorem rowsIn_of {n r : Nat} {P : Program} {row : String} {args : Array Value} {w : World} {R : Value → World → Prop} (h : Rows P row args w R) : RowsIn (Fence.wide.inRound r) n P row args w R :=
  fun c cs _ => let ⟨v, w', q, s⟩ := h c cs; ⟨v, w', q, stepsIn_wide.2 s⟩

theorem wpIn_of_op {n r : Nat} {P : Program} {Q : Exit → Act → World → Prop} {o : Oper} {a : Act} {w : World} {K K' : Act → World → Prop} (hd : ∀ c, o.op ≠ .defer c) (hK : ∀ a w, K a w → K' a w)
    (h : o.wp P a w K (noOut Q)) : o.wpIn (Fence.wide.inRound r) n P a w K' (noOut Q) := by
  refine ⟨fun _ _ => trivial, ?_⟩
  rw [show (Fence.wide.inRound r).round = some r from rfl, Oper.semAt_some r a.eval o hd]
  unfold Oper.wp at h
  generalize (execOp a.eval o).run P w = res at h
  match res, h with
  | .ok (.value v) w', h => exact hK _ _ h
  | .ok .skip w', h => exact hK _ _ h
  | .ok (.defer d) w', h => exact hK _ _ h
  | .ok (.enter f args) w', h =>
    refine ⟨fun h => (by cases h), ((callsIn_wide.2 h).inRound r).mono ?_⟩
    intro e w'' hR
    match e, hR with
    | .returned v, hR => exact hK _ _ hR
    | .panicked chain, hR => exact hR
    | .outgrown, hR => exact (noOut_lets hR).elim
  | .ok (.row row args) w', h =>
    exact ⟨fun h => (by cases h), (rowsIn_of h).mono fun v w'' hR => hK _ _ hR⟩
  | .halt (.panic v) w', h => exact h

theorem wpAnyIn_of {n r : Nat} {P : Program} {md : Region.Mode} {ops : Array Oper} {Q : Exit → Act → World → Prop} (hd : plainOps ops = true) :
    ∀ (fuel : Nat) (listed : Array Bool) (a : Act) (w : World), wpAny P md ops (noOut Q) fuel listed a w → wpAnyIn (Fence.wide.inRound r) n P md ops (noOut Q) fuel listed a w
  | 0, _, _, _, h => h
  | fuel + 1, listed, a, w, h => by
    refine ⟨h.1, fun i hi => ?_⟩
    have ho := h.2 i hi
    unfold wpOp at ho
    unfold wpOpIn
    cases e : ops[i]? with
    | none => rw [e] at ho; exact wpAnyIn_of hd fuel _ _ _ ho
    | some o =>
      rw [e] at ho
      simp only at ho ⊢
      split
      · rename_i hw
        rw [if_pos hw] at ho
        rcases ho with ho | ⟨_, ho⟩
        · exact wpIn_of_op (plainOps_at hd e) (fun a w h => wpAnyIn_of hd fuel _ _ _ h) ho
        · exact (noOut_lets ho).elim
      · rename_i hw
        rw [if_neg hw] at ho
        exact ⟨fun _ _ => trivial, wpAnyIn_of hd fuel _ _ _ ho⟩

theorem wpIn_region_tail {P : Program} {id r m : Nat} {Q : Exit → Act → World → Prop} {a : Act} {w : World} {l : List Oper} (n : Nat) (hm : P.follows .mixedOrders = true) (hd : plainOps l.toArray = true) (hB : Region.lexTailB .any l.toArray n = true)
    (h : wpStill P l.toArray w.drew (fun a' => wpList P l.toArray (noOut Q) (l.drop n) a' w.drew) (l.take n) a) : (Code.region id l.toArray true).wpIn (Fence.wide.inRound r) m P Q a w := by
  simp only [Region.lexTailB, Bool.and_eq_true, decide_eq_true_eq] at hB
  obtain ⟨⟨⟨⟨hsel, hn⟩, hs⟩, hc⟩, hlex⟩ := hB
  have hn' : n < l.length := by simpa using hn
  have htl : (l.take n).length = n := by simp; omega
  have hdl : (l.drop n).length = l.toArray.size - n := by simp
  have inv0 : HeadInv .any l.toArray n (Array.replicate l.toArray.size false) :=
    ⟨by simp, fun j oj _ hl => (by rw [getD_replicate_false] at hl; cases hl), fun t _ ht => getD_in (by simpa using ht) (getD_replicate_false _ _)⟩
  have H := wpAnyL_lex (md := .any) (g := l.toArray.size - n) hsel hs hc hn (l.take n) 0 _ a (fun j hj => by
    have hj' : j < n := by rw [htl] at hj; exact hj
    simp [hj']) (by simpa using htl) inv0 (by rw [htl]; exact hlex) h
  refine wpIn_mono (Q := noOut Q) (wpIn_region_any hm (wpAnyIn_of hd _ _ _ _ ?_)) (fun e a w h => by cases e <;> first | exact h | exact h.elim)
  have := wpAny_of_head (Q' := noOut Q) (g := l.toArray.size - n) (fun listed a' hL => by
    have := wpAny_of_seq (md := .any) (Q' := noOut Q) (l.drop n) n listed a' w.drew (fun j => by simp [List.getElem?_drop]) (by rw [hdl]; exact hL.1) hL.2
    rwa [hdl] at this) _ _ _ H
  rw [htl, show n + (l.toArray.size - n) = l.toArray.size by omega] at this
  exact this

/-- The same where some loads keep their values whatever else comes up (S). -/
theorem wpIn_region_held {P : Program} {id r m : Nat} {Q : Exit → Act → World → Prop} {a : Act} {w : World} {ops : Array Oper} (S : World → Prop) (hm : P.follows .mixedOrders = true) (hd : plainOps ops = true) (hS : S w.drew)
    (h : S w.drew → wpAnyH P .any ops (noOut Q) S ops.size (Array.replicate ops.size false) a w.drew) : (Code.region id ops true).wpIn (Fence.wide.inRound r) m P Q a w :=
  wpIn_mono (Q := noOut Q) (wpIn_region_any hm (wpAnyIn_of hd _ _ _ _ (wpAny_of_held _ _ _ _ (h hS)))) (fun e a w h => by cases e <;> first | exact h | exact h.elim)
/-- An append whose run is known. -/
theorem wp_run_append {P : Program} {o : Oper} {a : Act} {w : World} {K : Act → World → Prop} {Q : Exit → Act → World → Prop} (s x : Operand) (t : TypeId)
    (ho : o.op = .call { callee := .builtin .append, args := #[s, x], argTypes := #[t, t] }) {v vx v' : Value} {w' : World} (hs : a.eval s = v) (hx : a.eval x = vx)
    (hrun : (Builtin.append_ #[t, t] o.type #[v, vx]).run P w = .ok v' w') (h : K (a.put o.dst v') w') : o.wp P a w K Q := by
  unfold Oper.wp execOp
  simp only [ho, resolve, invoke, builtin, Sem.run_bind, Sem.run_pure, Result.andThen_ok, List.map_toArray, List.map_cons, List.map_nil, hs, hx, hrun]
  exact h
end Go.Proofs.YtpoelhnceebmkaaGreatDoor
