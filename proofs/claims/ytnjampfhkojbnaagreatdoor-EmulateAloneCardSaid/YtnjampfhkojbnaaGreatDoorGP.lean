/- Plain: the machine of chapter 13 on data: words, memory, frames, a step, a run. No program in sight, no conditions. Plain: what a run has not read does not matter. No conditions. Plain: memory: words that are put and read; an image at the end of a memory, with its fixups, as the program and as the reference write it. No conditions. Plain: a call with more or fewer steps, with other input. No conditions. Plain: the model's arithmetic of 32 bits against the words; the reference's remainder and minus. No conditions. Plain: the reference's run on data: one row of values for all frames, a base for each frame. No program in sight, no conditions. Plain: what stays small in a run of the machine. No program in sight, no conditions. Plain: what stays small in a step, a run and a call of the machine. No program in sight, no conditions. Plain: the words of imports: what the program's map finds and what the reference's search writes. No program in sight, no conditions. Plain: the chapter's two examples on data. No program in sight, no conditions. -/
import Derived.Test.YtnjampfhkojbnaaGreatDoorGBase

namespace Go.Proofs.YtnjampfhkojbnaaGreatDoor
open Go

/-! ### words of 32 bits, as natural numbers -/
def sgn (x : Nat) : Int := if x < 2147483648 then (x : Int) else (x : Int) - 4294967296
def w32 (n : Int) : Nat := (n % 4294967296).toNat
def boolW (b : Bool) : Nat := if b = true then 1 else 0
def unV (k x : Nat) : Nat := match k with
  | 0 => w32 (-(x : Int))
  | 1 => 4294967295 - x
  | _ => boolW (x == 0)
def binV (k x y : Nat) : Nat := match k with
  | 0 => boolW (x != 0 || y != 0)
  | 1 => boolW (x != 0 && y != 0)
  | 2 => x ||| y
  | 3 => x ^^^ y
  | 4 => x &&& y
  | 5 => boolW (x == y)
  | 6 => boolW (x != y)
  | 7 => boolW (decide (sgn x < sgn y))
  | 8 => boolW (decide (sgn x ≤ sgn y))
  | 9 => boolW (decide (sgn y < sgn x))
  | 10 => boolW (decide (sgn y ≤ sgn x))
  | 11 => w32 ((x : Int) * 2 ^ (y % 32))
  | 12 => w32 (sgn x / 2 ^ (y % 32))
  | 13 => w32 ((x : Int) + y)
  | 14 => w32 ((x : Int) - y)
  | 15 => w32 ((x : Int) * y)
  | 16 => if y = 0 then 0 else w32 ((sgn x).tdiv (sgn y))
  | _ => if y = 0 then x else w32 ((sgn x).tmod (sgn y))
theorem w32_lt (n : Int) : w32 n < 4294967296 := by unfold w32; omega
theorem boolW_lt (b : Bool) : boolW b < 4294967296 := by cases b <;> decide
theorem unV_lt (k x : Nat) : unV k x < 4294967296 := by
  unfold unV
  split
  · exact w32_lt _
  · omega
  · exact boolW_lt _
theorem binV_lt (k : Nat) {x y : Nat} (hx : x < 4294967296) (hy : y < 4294967296) : binV k x y < 4294967296 := by
  unfold binV
  split
  · exact boolW_lt _
  · exact boolW_lt _
  · exact Nat.or_lt_two_pow (n := 32) hx hy
  · exact Nat.xor_lt_two_pow (n := 32) hx hy
  · exact Nat.and_lt_two_pow x (n := 32) hy
  · exact boolW_lt _
  · exact boolW_lt _
  · exact boolW_lt _
  · exact boolW_lt _
  · exact boolW_lt _
  · exact boolW_lt _
  · exact w32_lt _
  · exact w32_lt _
  · exact w32_lt _
  · exact w32_lt _
  · exact w32_lt _
  · split
    · decide
    · exact w32_lt _
  · split
    · exact hx
    · exact w32_lt _

/-! ### memory -/
def byteN (m : List UInt8) (a : Nat) : Nat := (m.getD a 0).toNat
def wordN (m : List UInt8) (a : Nat) : Nat := byteN m a + 256 * byteN m (a + 1) + 65536 * byteN m (a + 2) + 16777216 * byteN m (a + 3)
def putN (m : List UInt8) (a n : Nat) : List UInt8 := (((m.set a (UInt8.ofNat n)).set (a + 1) (UInt8.ofNat (n / 256))).set (a + 2) (UInt8.ofNat (n / 65536))).set (a + 3) (UInt8.ofNat (n / 16777216))
theorem byteN_lt (m : List UInt8) (a : Nat) : byteN m a < 256 := UInt8.toNat_lt _
theorem wordN_lt (m : List UInt8) (a : Nat) : wordN m a < 4294967296 := by
  have h0 := byteN_lt m a
  have h1 := byteN_lt m (a + 1)
  have h2 := byteN_lt m (a + 2)
  have h3 := byteN_lt m (a + 3)
  unfold wordN; omega
theorem putN_len (m : List UInt8) (a n : Nat) : (putN m a n).length = m.length := by simp [putN]

/-! ### frames, states -/
structure Fr where
  vars : List Nat
  vals : List Nat
  pc : Int
structure Mc where
  mem : List UInt8
  low : List Fr
  top : Fr
  inp : List UInt8
  out : List UInt8
inductive Ot where
  | err (e : Int) (m : List UInt8)
  | go (s : Mc)
  | fin (v : Nat) (m : List UInt8) (out : List UInt8)
def stkN (s : Mc) : Nat := (s.low.map fun f => f.vals.length).sum + s.top.vals.length
def Mc.put (s : Mc) (vals : List Nat) : Mc := { s with top := { s.top with vals := vals } }
def pushV (n : Nat) (s : Mc) : Ot := if 1024 ≤ stkN s then .err 15 s.mem else .go (s.put (s.top.vals ++ [n]))
def openV (mem : List UInt8) (k a : Nat) (args : List Nat) : Except Int Fr :=
  if mem.length < a + 2 then .error 3
  else if byteN mem a ≠ args.length then .error 9
  else if byteN mem (a + 1) < byteN mem a ∨ 64 < byteN mem (a + 1) then .error 17
  else if k = 64 then .error 11
  else .ok ⟨args ++ List.replicate (byteN mem (a + 1) - byteN mem a) 0, [], (a : Int) + 2⟩
def insB (k : Nat) : Nat := if k = 1 ∨ k = 10 ∨ k = 11 then 5 else if k = 2 ∨ k = 3 ∨ k = 8 ∨ k = 9 ∨ k = 12 then 2 else 1
def insT (k n : Nat) : Nat := if k = 5 ∨ k = 9 then 2 else if k = 12 then 1 + n else if k = 3 ∨ k = 4 ∨ k = 7 ∨ k = 8 ∨ k = 11 ∨ k = 13 ∨ k = 14 then 1 else 0
def execV (k n : Nat) (s : Mc) : Ot :=
  let vs := s.top.vals
  let l := vs.length
  let x := vs.getD (l - 1) 0
  let d := s.put (vs.take (l - 1))
  match k with
  | 1 => pushV n s
  | 2 => pushV (s.top.vars.getD n 0) s
  | 3 => .go { d with top := { d.top with vars := d.top.vars.set n x } }
  | 4 => if x % 4 ≠ 0 ∨ s.mem.length < x + 4 then .err 3 s.mem else pushV (wordN s.mem x) d
  | 5 => let a := vs.getD (l - 2) 0
    if a % 4 ≠ 0 ∨ s.mem.length < a + 4 then .err 3 s.mem else .go { s.put (vs.take (l - 2)) with mem := putN s.mem a x }
  | 6 => match s.inp with
    | [] => pushV 4294967295 s
    | c :: r => match pushV c.toNat s with
      | .go s' => .go { s' with inp := r }
      | o => o
  | 7 => if 65536 ≤ s.out.length then .err 10 s.mem else .go { d with out := s.out ++ [UInt8.ofNat x] }
  | 8 => pushV (unV n x) d
  | 9 => pushV (binV n (vs.getD (l - 2) 0) x) (s.put (vs.take (l - 2)))
  | 10 => .go { s with top := { s.top with pc := s.top.pc + sgn n } }
  | 11 => if x = 0 then .go { d with top := { d.top with pc := d.top.pc + sgn n } } else .go d
  | 12 => match openV s.mem (s.low.length + 1) x ((vs.drop (l - 1 - n)).take n) with
    | .error e => .err e s.mem
    | .ok f => .go { s with low := s.low ++ [{ s.top with vals := vs.take (l - 1 - n) }], top := f }
  | 13 => match s.low.getLast? with
    | none => .fin x s.mem s.out
    | some f => .go { s with low := s.low.dropLast, top := { f with vals := f.vals ++ [x] } }
  | _ => .go d
def operV (mem : List UInt8) (k pc : Nat) : Nat := if insB k = 2 then byteN mem (pc + 1) else if insB k = 5 then wordN mem (pc + 1) else 0
def badV (k n vars : Nat) : Bool := (decide (k = 2 ∨ k = 3) && decide (vars ≤ n)) || (decide (k = 8) && decide (3 ≤ n)) || (decide (k = 9) && decide (18 ≤ n))
def stepV (s : Mc) : Ot :=
  if s.top.pc < 0 ∨ (s.mem.length : Int) ≤ s.top.pc then .err 3 s.mem
  else
    let p := s.top.pc.toNat
    let k := byteN s.mem p
    if k < 1 ∨ 15 ≤ k then .err 17 s.mem
    else if s.mem.length < p + insB k then .err 3 s.mem
    else
      let n := operV s.mem k p
      if badV k n s.top.vars.length = true then .err 17 s.mem
      else if s.top.vals.length < insT k n then .err 14 s.mem
      else execV k n { s with top := { s.top with pc := s.top.pc + insB k } }
structure Rs where
  value : Nat
  out : List UInt8
  steps : Nat
  e : Int
  mem : List UInt8
def Rs.err (e : Int) (m : List UInt8) : Rs := ⟨0, [], 0, e, m⟩
def mrunV : Nat → Nat → Mc → Rs
  | 0, _, s => Rs.err 16 s.mem
  | r + 1, k, s => match stepV s with
    | .err e m => Rs.err e m
    | .go s' => mrunV r (k + 1) s'
    | .fin v m o => ⟨v, o, k + 1, 0, m⟩
def callV (mem : List UInt8) (a : Nat) (inp : List UInt8) (limit : Int) (args : List Nat) : Rs :=
  if limit < 1 ∨ 65536 < limit ∨ 65536 < inp.length ∨ 8 < args.length then Rs.err 1 mem
  else match openV mem 0 a args with
    | .error e => Rs.err e mem
    | .ok f => mrunV limit.toNat 0 ⟨mem, [], f, inp, []⟩

/-! ### limits -/
theorem pushV_err {n : Nat} {s : Mc} {e : Int} {m : List UInt8} (h : pushV n s = .err e m) : e ≠ 0 ∧ m = s.mem := by
  unfold pushV at h
  split at h
  · injection h with h1 h2; subst h1 h2; exact ⟨by decide, rfl⟩
  · cases h
theorem openV_err {mem : List UInt8} {k a : Nat} {args : List Nat} {e : Int} (h : openV mem k a args = .error e) : e ≠ 0 := by
  unfold openV at h
  split at h
  · injection h with h; subst h; decide
  split at h
  · injection h with h; subst h; decide
  split at h
  · injection h with h; subst h; decide
  split at h
  · injection h with h; subst h; decide
  · cases h
theorem execV_err {k n : Nat} {s : Mc} {e : Int} {m : List UInt8} (h : execV k n s = .err e m) : e ≠ 0 ∧ m = s.mem := by
  unfold execV at h
  simp only at h
  split at h
  · exact ⟨(pushV_err h).1, (pushV_err h).2⟩
  · exact ⟨(pushV_err h).1, (pushV_err h).2⟩
  · cases h
  · split at h
    · injection h with h1 h2; subst h1 h2; exact ⟨by decide, rfl⟩
    · exact ⟨(pushV_err h).1, (pushV_err h).2⟩
  · split at h
    · injection h with h1 h2; subst h1 h2; exact ⟨by decide, rfl⟩
    · cases h
  · split at h
    · exact ⟨(pushV_err h).1, (pushV_err h).2⟩
    · split at h
      · cases h
      · exact ⟨(pushV_err h).1, (pushV_err h).2⟩
  · split at h
    · injection h with h1 h2; subst h1 h2; exact ⟨by decide, rfl⟩
    · cases h
  · exact ⟨(pushV_err h).1, (pushV_err h).2⟩
  · exact ⟨(pushV_err h).1, (pushV_err h).2⟩
  · cases h
  · split at h <;> cases h
  · split at h
    · rename_i he
      injection h with h1 h2; subst h1 h2; exact ⟨openV_err he, rfl⟩
    · cases h
  · split at h <;> cases h
  · cases h
theorem stepV_err {s : Mc} {e : Int} {m : List UInt8} (h : stepV s = .err e m) : e ≠ 0 ∧ m = s.mem := by
  unfold stepV at h
  simp only at h
  split at h
  · injection h with h1 h2; subst h1 h2; exact ⟨by decide, rfl⟩
  split at h
  · injection h with h1 h2; subst h1 h2; exact ⟨by decide, rfl⟩
  split at h
  · injection h with h1 h2; subst h1 h2; exact ⟨by decide, rfl⟩
  split at h
  · injection h with h1 h2; subst h1 h2; exact ⟨by decide, rfl⟩
  split at h
  · injection h with h1 h2; subst h1 h2; exact ⟨by decide, rfl⟩
  · exact ⟨(execV_err h).1, (execV_err h).2⟩
theorem mrunV_more : ∀ (r k : Nat) (s : Mc) (d : Nat), (mrunV r k s).e = 0 → mrunV (r + d) k s = mrunV r k s
  | 0, k, s, d, h => by simp [mrunV, Rs.err] at h
  | r + 1, k, s, d, h => by
    rw [show r + 1 + d = (r + d) + 1 by omega]
    rw [mrunV, mrunV] at *
    cases hs : stepV s with
    | err e m => rfl
    | fin v m o => rfl
    | go s' => rw [hs] at h; exact mrunV_more r (k + 1) s' d h
theorem mrunV_steps : ∀ (r k : Nat) (s : Mc), (mrunV r k s).e = 0 → k < (mrunV r k s).steps ∧ (mrunV r k s).steps ≤ k + r ∧ mrunV ((mrunV r k s).steps - k) k s = mrunV r k s ∧ ∀ q, q < (mrunV r k s).steps - k → (mrunV q k s).e = 16
  | 0, k, s, h => by simp [mrunV, Rs.err] at h
  | r + 1, k, s, h => by
    rw [mrunV] at h ⊢
    cases hs : stepV s with
    | err e m =>
      rw [hs] at h
      exact absurd h (stepV_err hs).1
    | fin v m o =>
      simp only
      refine ⟨by omega, by omega, ?_, fun q hq => ?_⟩
      · rw [show k + 1 - k = 0 + 1 by omega, mrunV, hs]
      · obtain rfl : q = 0 := by omega
        rfl
    | go s' =>
      rw [hs] at h
      obtain ⟨h1, h2, h3, h4⟩ := mrunV_steps r (k + 1) s' h
      simp only
      refine ⟨by omega, by omega, ?_, fun q hq => ?_⟩
      · rw [show (mrunV r (k + 1) s').steps - k = ((mrunV r (k + 1) s').steps - (k + 1)) + 1 by omega, mrunV, hs]
        exact h3
      · cases q with
        | zero => rfl
        | succ q => rw [mrunV, hs]; exact h4 q (by omega)
end Go.Proofs.YtnjampfhkojbnaaGreatDoor

namespace Go.Proofs.YtnjampfhkojbnaaGreatDoor
open Go

def Ot.inp (i : List UInt8) : Ot → Ot
  | .go t => .go { t with inp := i }
  | o => o
theorem pushV_inp (n : Nat) (s : Mc) (i : List UInt8) : pushV n { s with inp := i } = (pushV n s).inp i := by
  show (if 1024 ≤ stkN s then _ else _) = Ot.inp i (if 1024 ≤ stkN s then _ else _)
  split <;> rfl
theorem execV_inp {k n : Nat} {s : Mc} (hk : k ≠ 6) (i : List UInt8) : execV k n { s with inp := i } = (execV k n s).inp i := by
  match k, hk with
  | 0, _ => rfl
  | 1, _ => exact pushV_inp _ _ _
  | 2, _ => exact pushV_inp _ _ _
  | 3, _ => rfl
  | 4, _ =>
    simp only [execV]
    split
    · rfl
    · exact pushV_inp _ (s.put _) _
  | 5, _ =>
    simp only [execV]
    split <;> rfl
  | 7, _ =>
    simp only [execV]
    split <;> rfl
  | 8, _ => exact pushV_inp _ (s.put _) _
  | 9, _ => exact pushV_inp _ (s.put _) _
  | 10, _ => rfl
  | 11, _ =>
    simp only [execV]
    split <;> rfl
  | 12, _ =>
    simp only [execV]
    split <;> rfl
  | 13, _ =>
    simp only [execV]
    split <;> rfl
  | _ + 14, _ => rfl
theorem pushV_keep {n : Nat} {s t : Mc} (h : pushV n s = .go t) : t.inp = s.inp := by
  unfold pushV at h
  split at h
  · cases h
  · injection h with h; subst h; rfl
theorem execV_keep {k n : Nat} {s t : Mc} (hk : k ≠ 6) (h : execV k n s = .go t) : t.inp = s.inp := by
  have h2 := execV_inp (n := n) (s := s) hk s.inp
  have h3 : execV k n { s with inp := s.inp } = execV k n s := rfl
  rw [h3, h] at h2
  injection h2 with h2
  rw [h2]
def Agr (n : Nat) (l l' : List UInt8) : Prop := l.take n = l'.take n
theorem Agr.less {n m : Nat} {l l' : List UInt8} (h : Agr n l l') (hm : m ≤ n) : Agr m l l' := by
  unfold Agr at *
  have h1 : (l.take n).take m = (l'.take n).take m := by rw [h]
  rwa [List.take_take, List.take_take, Nat.min_eq_left hm] at h1
theorem execV_agr {k n m : Nat} {s : Mc} {i : List UInt8} (h : Agr (m + 1) s.inp i) :
    (∀ t, execV k n s = .go t → ∃ j, execV k n { s with inp := i } = .go { t with inp := j } ∧ Agr m t.inp j) ∧
    (∀ v q o, execV k n s = .fin v q o → execV k n { s with inp := i } = .fin v q o) := by
  by_cases hk : k = 6
  · subst hk
    simp only [execV]
    cases hs : s.inp with
    | nil =>
      rw [hs] at h
      have hi : i = [] := by
        cases i with
        | nil => rfl
        | cons c r => simp [Agr] at h
      subst hi
      refine ⟨fun t ht => ⟨[], ?_, ?_⟩, fun v q o hf => ?_⟩
      · rw [pushV_inp]
        simp only at ht
        rw [ht]
        rfl
      · simp only at ht
        rw [pushV_keep ht, hs]
        rfl
      · simp only at hf
        unfold pushV at hf
        split at hf <;> cases hf
    | cons c r =>
      rw [hs] at h
      cases i with
      | nil => simp [Agr] at h
      | cons c' r' =>
        have hcr : c = c' ∧ Agr m r r' := by
          unfold Agr at h ⊢
          rw [List.take_succ_cons, List.take_succ_cons] at h
          injection h with h1 h2
          exact ⟨h1, h2⟩
        obtain ⟨rfl, hr⟩ := hcr
        have hp := pushV_inp c.toNat s (c :: r')
        refine ⟨fun t ht => ?_, fun v q o hf => ?_⟩
        · simp only at ht
          cases hq : pushV c.toNat s with
          | err e m' => rw [hq] at ht; cases ht
          | fin v q o => rw [hq] at ht; cases ht
          | go s' =>
            rw [hq] at ht hp
            injection ht with ht
            subst ht
            exact ⟨r', by simp only; rw [hp]; rfl, hr⟩
        · simp only at hf
          cases hq : pushV c.toNat s with
          | err e m' => rw [hq] at hf; cases hf
          | go s' => rw [hq] at hf; cases hf
          | fin v q o => unfold pushV at hq; split at hq <;> cases hq
  · refine ⟨fun t ht => ⟨i, by rw [execV_inp hk, ht]; rfl, ?_⟩, fun v q o hf => by rw [execV_inp hk, hf]; rfl⟩
    rw [execV_keep hk ht]
    exact h.less (Nat.le_succ m)
theorem stepV_agr {m : Nat} {s : Mc} {i : List UInt8} (h : Agr (m + 1) s.inp i) :
    (∀ t, stepV s = .go t → ∃ j, stepV { s with inp := i } = .go { t with inp := j } ∧ Agr m t.inp j) ∧
    (∀ v q o, stepV s = .fin v q o → stepV { s with inp := i } = .fin v q o) := by
  unfold stepV
  simp only
  split
  · exact ⟨fun t ht => (by cases ht), fun v q o hf => (by cases hf)⟩
  split
  · exact ⟨fun t ht => (by cases ht), fun v q o hf => (by cases hf)⟩
  split
  · exact ⟨fun t ht => (by cases ht), fun v q o hf => (by cases hf)⟩
  split
  · exact ⟨fun t ht => (by cases ht), fun v q o hf => (by cases hf)⟩
  split
  · exact ⟨fun t ht => (by cases ht), fun v q o hf => (by cases hf)⟩
  · exact execV_agr (s := { s with top := { s.top with pc := s.top.pc + insB (byteN s.mem s.top.pc.toNat) } }) h
theorem mrunV_agr : ∀ (r k : Nat) (s : Mc) (i : List UInt8), (mrunV r k s).e = 0 → Agr ((mrunV r k s).steps - k) s.inp i → mrunV r k { s with inp := i } = mrunV r k s
  | 0, k, s, i, h, _ => by simp [mrunV, Rs.err] at h
  | r + 1, k, s, i, h, ha => by
    have hst := (mrunV_steps (r + 1) k s h).1
    obtain ⟨m, hm⟩ : ∃ m, (mrunV (r + 1) k s).steps - k = m + 1 := ⟨(mrunV (r + 1) k s).steps - k - 1, by omega⟩
    rw [hm] at ha
    obtain ⟨h1, h2⟩ := stepV_agr ha
    rw [mrunV] at h hm ⊢
    rw [mrunV]
    cases hs : stepV s with
    | err e q => rw [hs] at h; exact absurd h (stepV_err hs).1
    | fin v q o => rw [h2 v q o hs]
    | go t =>
      obtain ⟨j, hj, hjm⟩ := h1 t hs
      rw [hj]
      rw [hs] at h hm
      simp only at h hm ⊢
      exact mrunV_agr r (k + 1) t j h (hjm.less (by omega))
end Go.Proofs.YtnjampfhkojbnaaGreatDoor

namespace Go.Proofs.YtnjampfhkojbnaaGreatDoor
open Go

theorem byteN_set (m : List UInt8) (i a : Nat) (c : UInt8) (hi : i < m.length) : byteN (m.set i c) a = if a = i then c.toNat else byteN m a := by
  unfold byteN
  rw [List.getD_eq_getElem?_getD, List.getD_eq_getElem?_getD, List.getElem?_set]
  by_cases h : i = a
  · subst h
    rw [if_pos rfl, if_pos hi, if_pos rfl]; rfl
  · rw [if_neg h, if_neg (fun e => h e.symm)]
theorem putN_byte (m : List UInt8) (a n x : Nat) (h : a + 4 ≤ m.length) : byteN (putN m a n) x = if x = a then n % 256 else if x = a + 1 then n / 256 % 256 else if x = a + 2 then n / 65536 % 256 else if x = a + 3 then n / 16777216 % 256 else byteN m x := by
  unfold putN
  rw [byteN_set _ _ _ _ (by simp; omega), byteN_set _ _ _ _ (by simp; omega), byteN_set _ _ _ _ (by simp; omega), byteN_set _ _ _ _ (by omega)]
  simp only [UInt8.toNat_ofNat']
  by_cases h3 : x = a + 3
  · rw [if_pos h3, if_neg (by omega), if_neg (by omega), if_neg (by omega), if_pos h3]
  · rw [if_neg h3]
    by_cases h2 : x = a + 2
    · rw [if_pos h2, if_neg (by omega), if_neg (by omega), if_pos h2]
    · rw [if_neg h2]
      by_cases h1 : x = a + 1
      · rw [if_pos h1, if_neg (by omega), if_pos h1]
      · rw [if_neg h1]
        by_cases h0 : x = a
        · rw [if_pos h0, if_pos h0]
        · rw [if_neg h0, if_neg h0, if_neg h1, if_neg h2, if_neg h3]
theorem putN_word (m : List UInt8) (a n : Nat) (h : a + 4 ≤ m.length) (hn : n < 4294967296) : wordN (putN m a n) a = n := by
  unfold wordN
  rw [putN_byte m a n _ h, putN_byte m a n _ h, putN_byte m a n _ h, putN_byte m a n _ h]
  rw [if_pos rfl, if_neg (by omega), if_pos rfl, if_neg (by omega), if_neg (by omega), if_pos rfl, if_neg (by omega), if_neg (by omega), if_neg (by omega), if_pos rfl]
  omega
theorem putN_far (m : List UInt8) (a b n : Nat) (h : a + 4 ≤ m.length) (hd : a + 4 ≤ b ∨ b + 4 ≤ a) : wordN (putN m a n) b = wordN m b := by
  unfold wordN
  rw [putN_byte m a n _ h, putN_byte m a n _ h, putN_byte m a n _ h, putN_byte m a n _ h]
  rw [if_neg (by omega), if_neg (by omega), if_neg (by omega), if_neg (by omega), if_neg (by omega), if_neg (by omega), if_neg (by omega), if_neg (by omega), if_neg (by omega), if_neg (by omega), if_neg (by omega), if_neg (by omega), if_neg (by omega), if_neg (by omega), if_neg (by omega), if_neg (by omega)]
theorem byteN_app (m r : List UInt8) (a : Nat) (h : a < m.length) : byteN (m ++ r) a = byteN m a := by
  unfold byteN
  rw [List.getD_eq_getElem?_getD, List.getD_eq_getElem?_getD, List.getElem?_append_left h]
theorem byteN_behind (m r : List UInt8) (a : Nat) : byteN (m ++ r) (m.length + a) = byteN r a := by
  unfold byteN
  rw [List.getD_eq_getElem?_getD, List.getD_eq_getElem?_getD, List.getElem?_append_right (by omega), show m.length + a - m.length = a by omega]
theorem wordN_app (m r : List UInt8) (a : Nat) (h : a + 4 ≤ m.length) : wordN (m ++ r) a = wordN m a := by
  unfold wordN
  rw [byteN_app _ _ _ (by omega), byteN_app _ _ _ (by omega), byteN_app _ _ _ (by omega), byteN_app _ _ _ (by omega)]
theorem wordN_behind (m r : List UInt8) (a : Nat) : wordN (m ++ r) (m.length + a) = wordN r a := by
  have h : ∀ k, byteN (m ++ r) (m.length + a + k) = byteN r (a + k) := fun k => by rw [Nat.add_assoc, byteN_behind]
  unfold wordN
  rw [byteN_behind, h 1, h 2, h 3]
theorem putN_app (m r : List UInt8) (a n : Nat) (h : a + 4 ≤ m.length) : putN (m ++ r) a n = putN m a n ++ r := by
  unfold putN
  rw [List.set_append_left _ _ (by omega), List.set_append_left _ _ (by simp; omega), List.set_append_left _ _ (by simp; omega), List.set_append_left _ _ (by simp; omega)]

/-! ### an image -/
def padN (m : List UInt8) : List UInt8 := m ++ List.replicate ((4 - m.length % 4) % 4) 0
def fixP (base : Nat) (F : List Nat) (m : List UInt8) : List UInt8 := F.foldl (fun m a => putN m (base + a) ((wordN m (base + a) + base) % 4294967296)) m
def loadP (m img : List UInt8) (F : List Nat) : List UInt8 := fixP m.length F (padN (m ++ img))
def fixR (base : Nat) (img : List UInt8) (F : List Nat) (m : List UInt8) : List UInt8 := F.foldl (fun m a => putN m (base + a) ((wordN img a + base) % 4294967296)) m
def loadR (m img : List UInt8) (F : List Nat) : List UInt8 := padN (fixR m.length img F (m ++ img))
theorem fixR_len (base : Nat) (img : List UInt8) : ∀ (F : List Nat) (m : List UInt8), (fixR base img F m).length = m.length
  | [], _ => rfl
  | a :: F, m => by
    show (fixR base img F (putN m (base + a) _)).length = m.length
    rw [fixR_len base img F, putN_len]
theorem fix_same (base : Nat) (img : List UInt8) : ∀ (F : List Nat) (m : List UInt8), (∀ a ∈ F, base + a + 4 ≤ m.length ∧ wordN m (base + a) = wordN img a) → F.Pairwise (fun a b => a + 4 ≤ b) → fixP base F m = fixR base img F m
  | [], _, _, _ => rfl
  | a :: F, m, h, hp => by
    obtain ⟨h1, h2⟩ := h a List.mem_cons_self
    obtain ⟨p1, p2⟩ := List.pairwise_cons.1 hp
    show fixP base F (putN m (base + a) ((wordN m (base + a) + base) % 4294967296)) = fixR base img F (putN m (base + a) ((wordN img a + base) % 4294967296))
    rw [h2]
    refine fix_same base img F _ (fun b hb => ?_) p2
    obtain ⟨q1, q2⟩ := h b (List.mem_cons_of_mem _ hb)
    have := p1 b hb
    rw [putN_len, putN_far _ _ _ _ h1 (by omega)]
    exact ⟨q1, q2⟩
theorem fixR_app (base : Nat) (img r : List UInt8) : ∀ (F : List Nat) (m : List UInt8), (∀ a ∈ F, base + a + 4 ≤ m.length) → fixR base img F (m ++ r) = fixR base img F m ++ r
  | [], _, _ => rfl
  | a :: F, m, h => by
    show fixR base img F (putN (m ++ r) (base + a) _) = fixR base img F (putN m (base + a) _) ++ r
    rw [putN_app _ _ _ _ (h a List.mem_cons_self)]
    exact fixR_app base img r F _ (fun b hb => by rw [putN_len]; exact h b (List.mem_cons_of_mem _ hb))
theorem load_same (m img : List UInt8) (F : List Nat) (hF : ∀ a ∈ F, a + 4 ≤ img.length) (hp : F.Pairwise (fun a b => a + 4 ≤ b)) : loadP m img F = loadR m img F := by
  have hlen : ∀ a ∈ F, m.length + a + 4 ≤ (m ++ img).length := fun a ha => by have := hF a ha; rw [List.length_append]; omega
  unfold loadP loadR padN
  rw [fixR_len, fix_same m.length img F _ (fun a ha => ?_) hp, fixR_app _ _ _ _ _ hlen]
  have h1 := hlen a ha
  have h2 := hF a ha
  refine ⟨by rw [List.length_append]; omega, ?_⟩
  rw [wordN_app _ _ _ h1, wordN_behind]
theorem loadP_len (m img : List UInt8) (F : List Nat) (hF : ∀ a ∈ F, a + 4 ≤ img.length) (hp : F.Pairwise (fun a b => a + 4 ≤ b)) : (loadP m img F).length = (m.length + img.length + 3) / 4 * 4 := by
  rw [load_same m img F hF hp]
  unfold loadR padN
  simp only [List.length_append, List.length_replicate, fixR_len]
  omega
end Go.Proofs.YtnjampfhkojbnaaGreatDoor

namespace Go.Proofs.YtnjampfhkojbnaaGreatDoor
open Go

theorem mrunV_zero : ∀ (r k : Nat) (s : Mc), (mrunV r k s).e ≠ 0 → (mrunV r k s).value = 0 ∧ (mrunV r k s).out = [] ∧ (mrunV r k s).steps = 0
  | 0, _, _, _ => ⟨rfl, rfl, rfl⟩
  | r + 1, k, s, h => by
    rw [mrunV] at h ⊢
    cases hs : stepV s with
    | err e m => exact ⟨rfl, rfl, rfl⟩
    | fin v m o => rw [hs] at h; exact absurd rfl h
    | go t => rw [hs] at h; exact mrunV_zero r (k + 1) t h
theorem callV_zero {mem : List UInt8} {a : Nat} {inp : List UInt8} {L : Int} {args : List Nat} (h : (callV mem a inp L args).e ≠ 0) : (callV mem a inp L args).value = 0 ∧ (callV mem a inp L args).out = [] ∧ (callV mem a inp L args).steps = 0 := by
  unfold callV at h ⊢
  split
  · exact ⟨rfl, rfl, rfl⟩
  · rename_i hc
    rw [if_neg hc] at h
    split
    · exact ⟨rfl, rfl, rfl⟩
    · rename_i f hf
      rw [hf] at h
      exact mrunV_zero _ _ _ h
theorem callV_ok {mem : List UInt8} {a : Nat} {inp : List UInt8} {L : Int} {args : List Nat} (h : (callV mem a inp L args).e = 0) :
    ∃ f, openV mem 0 a args = .ok f ∧ 1 ≤ L ∧ L ≤ 65536 ∧ inp.length ≤ 65536 ∧ args.length ≤ 8 ∧ callV mem a inp L args = mrunV L.toNat 0 ⟨mem, [], f, inp, []⟩ := by
  unfold callV at h ⊢
  split at h
  · cases h
  · rename_i hc
    rw [if_neg hc]
    split at h
    · rename_i e he
      exact absurd h (openV_err he)
    · rename_i f hf
      exact ⟨f, hf, by omega, by omega, by omega, by omega, rfl⟩
theorem callV_run {mem : List UInt8} {a : Nat} {inp : List UInt8} {L : Int} {args : List Nat} {f : Fr} (hf : openV mem 0 a args = .ok f) (h1 : 1 ≤ L) (h2 : L ≤ 65536) (h3 : inp.length ≤ 65536) (h4 : args.length ≤ 8) :
    callV mem a inp L args = mrunV L.toNat 0 ⟨mem, [], f, inp, []⟩ := by
  unfold callV
  rw [if_neg (by omega), hf]
theorem callV_longer {mem : List UInt8} {a : Nat} {inp : List UInt8} {L : Int} {args : List Nat} (h : (callV mem a inp L args).e = 0) :
    1 ≤ (callV mem a inp L args).steps ∧ ((callV mem a inp L args).steps : Int) ≤ L ∧ callV mem a inp 65536 args = callV mem a inp L args ∧ callV mem a inp (callV mem a inp L args).steps args = callV mem a inp L args ∧
    (1 < (callV mem a inp L args).steps → (callV mem a inp ((callV mem a inp L args).steps - 1 : Int) args).e = 16) := by
  obtain ⟨f, hf, h1, h2, h3, h4, hr⟩ := callV_ok h
  rw [hr] at h ⊢
  obtain ⟨q1, q2, q3, q4⟩ := mrunV_steps _ _ _ h
  have hm := mrunV_more L.toNat 0 _ (65536 - L.toNat) h
  generalize hx : mrunV L.toNat 0 ⟨mem, [], f, inp, []⟩ = x at *
  refine ⟨by omega, by omega, ?_, ?_, fun hs => ?_⟩
  · rw [callV_run hf (by omega) (by omega) h3 h4, ← hm]
    congr 1
    omega
  · rw [callV_run hf (by omega) (by omega) h3 h4]
    have : ((x.steps : Nat) : Int).toNat = x.steps - 0 := by omega
    rw [this]
    exact q3
  · rw [callV_run hf (by omega) (by omega) h3 h4]
    have : ((x.steps : Int) - 1).toNat = x.steps - 1 := by omega
    rw [this]
    exact q4 _ (by omega)
theorem callV_inputs {mem : List UInt8} {a : Nat} {inp i : List UInt8} {L : Int} {args : List Nat} (h : (callV mem a inp L args).e = 0) (hi : i.length ≤ 65536) (ha : Agr (callV mem a inp L args).steps inp i) :
    callV mem a i L args = callV mem a inp L args := by
  obtain ⟨f, hf, h1, h2, h3, h4, hr⟩ := callV_ok h
  rw [hr] at h ha ⊢
  rw [callV_run hf h1 h2 hi h4]
  exact mrunV_agr L.toNat 0 ⟨mem, [], f, inp, []⟩ i h (by rw [Nat.sub_zero]; exact ha)
theorem agr_take (n : Nat) (l r : List UInt8) (h : n ≤ l.length) : Agr n l (l.take n ++ r) := by
  unfold Agr
  rw [List.take_append_of_le_length (by rw [List.length_take]; omega), List.take_take, Nat.min_self]
end Go.Proofs.YtnjampfhkojbnaaGreatDoor

namespace Go.Proofs.YtnjampfhkojbnaaGreatDoor
open Go

theorem sgn_mod (x : Nat) : ∃ d : Int, sgn x = x - 4294967296 * d := by
  unfold sgn
  split
  · exact ⟨0, by omega⟩
  · exact ⟨1, by omega⟩
theorem w32_mod (n : Int) : ∃ m : Int, (w32 n : Int) = n - 4294967296 * m := ⟨n / 4294967296, by unfold w32; omega⟩
theorem w32_eq {a b m : Int} (h : a = b + 4294967296 * m) : w32 a = w32 b := by
  unfold w32
  have : a % 4294967296 = b % 4294967296 := by omega
  rw [this]
theorem w32_nat (x : Nat) (hx : x < 4294967296) : w32 (x : Int) = x := by unfold w32; omega
theorem minus_ref (x : Nat) (hx : x < 4294967296) : w32 (((4294967295 - x : Nat) : Int) + 1) = w32 (-(x : Int)) := w32_eq (m := 1) (by omega)
theorem rem_ref {x y : Nat} : w32 ((x : Int) - ((w32 ((sgn x).tdiv (sgn y)) : Nat) : Int) * (y : Int)) = w32 ((sgn x).tmod (sgn y)) := by
  obtain ⟨q, hq⟩ : ∃ q, (sgn x).tdiv (sgn y) = q := ⟨_, rfl⟩
  have hr := Int.tmod_def (sgn x) (sgn y)
  rw [hq] at hr ⊢
  obtain ⟨m, hm⟩ := w32_mod q
  obtain ⟨dx, hdx⟩ := sgn_mod x
  obtain ⟨dy, hdy⟩ := sgn_mod y
  rw [hr, hm]
  generalize sgn x = sx at *
  generalize sgn y = sy at *
  have e1 : (x : Int) = sx + 4294967296 * dx := by omega
  have e2 : (y : Int) = sy + 4294967296 * dy := by omega
  rw [e1, e2]
  refine w32_eq (m := dx - q * dy + m * sy + 4294967296 * (m * dy)) ?_
  have h1 : (q - 4294967296 * m) * (sy + 4294967296 * dy) = q * sy + 4294967296 * (q * dy) - 4294967296 * (m * sy) - 4294967296 * (4294967296 * (m * dy)) := by
    rw [Int.sub_mul, Int.mul_add, Int.mul_add, Int.mul_assoc 4294967296 m sy, Int.mul_assoc 4294967296 m (4294967296 * dy), ← Int.mul_assoc q, Int.mul_comm q 4294967296, Int.mul_assoc 4294967296 q dy, ← Int.mul_assoc m, Int.mul_comm m 4294967296, Int.mul_assoc 4294967296 m dy]
    omega
  rw [h1, Int.mul_comm sy q]
  omega
theorem i32_sgn (x : Nat) (hx : x < 4294967296) : IntKind.i32.wrap (x : Int) = sgn x := by
  unfold sgn IntKind.wrap
  simp [IntKind.signed, IntKind.bits]
  split <;> omega
theorem u32_w32 (n : Int) : IntKind.u32.wrap n = (w32 n : Int) := by
  unfold w32 IntKind.wrap
  simp [IntKind.signed, IntKind.bits]
  omega
end Go.Proofs.YtnjampfhkojbnaaGreatDoor

namespace Go.Proofs.YtnjampfhkojbnaaGreatDoor
open Go

def basesR : Nat → List Fr → List (List Nat × Int × Nat)
  | _, [] => []
  | b, f :: r => (f.vars, f.pc, b) :: basesR (b + f.vals.length) r
def valsF (l : List Fr) : List Nat := l.flatMap Fr.vals
def Mc.frs (s : Mc) : List Fr := s.low ++ [s.top]
def framesR (s : Mc) : List (List Nat × Int × Nat) := basesR 0 s.frs
def valsR (s : Mc) : List Nat := valsF s.frs
theorem basesR_app : ∀ (b : Nat) (l r : List Fr), basesR b (l ++ r) = basesR b l ++ basesR (b + (valsF l).length) r
  | b, [], r => by simp [basesR, valsF]
  | b, f :: l, r => by
    rw [List.cons_append, basesR, basesR, basesR_app (b + f.vals.length) l r, List.cons_append]
    have : (valsF (f :: l)).length = f.vals.length + (valsF l).length := by simp [valsF]
    rw [this, Nat.add_assoc]
theorem basesR_len : ∀ (b : Nat) (l : List Fr), (basesR b l).length = l.length
  | _, [] => rfl
  | b, f :: l => by rw [basesR, List.length_cons, basesR_len, List.length_cons]
theorem valsF_app (l r : List Fr) : valsF (l ++ r) = valsF l ++ valsF r := by simp [valsF]
theorem valsF_len (l : List Fr) : (valsF l).length = (l.map fun f => f.vals.length).sum := by
  induction l with
  | nil => rfl
  | cons f l ih =>
    have : (valsF (f :: l)).length = f.vals.length + (valsF l).length := by simp [valsF]
    rw [this, ih]; simp
theorem valsR_eq (s : Mc) : valsR s = valsF s.low ++ s.top.vals := by rw [valsR, Mc.frs, valsF_app]; simp [valsF]
theorem valsR_len (s : Mc) : (valsR s).length = stkN s := by rw [valsR_eq, List.length_append, valsF_len]; rfl
theorem framesR_eq (s : Mc) : framesR s = basesR 0 s.low ++ [(s.top.vars, s.top.pc, (valsF s.low).length)] := by
  rw [framesR, Mc.frs, basesR_app, Nat.zero_add]; rfl
theorem framesR_len (s : Mc) : (framesR s).length = s.low.length + 1 := by rw [framesR_eq, List.length_append, basesR_len]; rfl
theorem framesR_top (s : Mc) : (framesR s)[s.low.length]? = some (s.top.vars, s.top.pc, (valsF s.low).length) := by
  rw [framesR_eq, List.getElem?_append_right (by rw [basesR_len]; exact Nat.le_refl _), basesR_len, Nat.sub_self]; rfl
theorem top_vals (s : Mc) : (valsR s).length - (valsF s.low).length = s.top.vals.length := by rw [valsR_eq, List.length_append]; omega
theorem framesR_put (s : Mc) (v : List Nat) : framesR (s.put v) = framesR s := by rw [framesR_eq, framesR_eq]; rfl
theorem valsR_put (s : Mc) (v : List Nat) : valsR (s.put v) = valsF s.low ++ v := by rw [valsR_eq]; rfl
theorem valsR_push (s : Mc) (n : Nat) : valsR (s.put (s.top.vals ++ [n])) = valsR s ++ [n] := by rw [valsR_put, valsR_eq, List.append_assoc]
theorem valsR_taken (s : Mc) {t : Nat} (h : t ≤ s.top.vals.length) : (valsR s).drop ((valsR s).length - t) = s.top.vals.drop (s.top.vals.length - t) := by
  rw [valsR_eq, List.length_append, List.drop_append, List.drop_of_length_le (by omega), List.nil_append]
  congr 1
  omega
theorem valsR_left (s : Mc) {t : Nat} (h : t ≤ s.top.vals.length) : (valsR s).take ((valsR s).length - t) = valsR (s.put (s.top.vals.take (s.top.vals.length - t))) := by
  rw [valsR_put, valsR_eq, List.length_append, List.take_append]
  rw [List.take_of_length_le (by omega)]
  congr 2
  omega
theorem framesR_turn (s : Mc) (v : List Nat) (p : Int) : framesR { s with top := { s.top with vars := v, pc := p } } = (framesR s).set s.low.length (v, p, (valsF s.low).length) := by
  rw [framesR_eq, framesR_eq, List.set_append_right _ _ (by rw [basesR_len]; exact Nat.le_refl _), basesR_len, Nat.sub_self]; rfl
theorem valsR_turn (s : Mc) (v : List Nat) (p : Int) : valsR { s with top := { s.top with vars := v, pc := p } } = valsR s := by rw [valsR_eq, valsR_eq]
theorem framesR_open (s : Mc) (f : Fr) : framesR { s with low := s.low ++ [s.top], top := f } = framesR s ++ [(f.vars, f.pc, (valsR s).length)] := by
  rw [framesR_eq, basesR_app, Nat.zero_add, framesR_eq, valsF_app, valsR_eq]
  simp [basesR, valsF]
theorem valsR_open (s : Mc) {f : Fr} (h : f.vals = []) : valsR { s with low := s.low ++ [s.top], top := f } = valsR s := by
  rw [valsR_eq, valsF_app, valsR_eq, h]; simp [valsF]
theorem leave_vals (s : Mc) : (valsR s).take (valsF s.low).length = valsF s.low := by rw [valsR_eq, List.take_left']; rfl
theorem leave_frames (s : Mc) : (framesR s).take s.low.length = basesR 0 s.low := by rw [framesR_eq, List.take_left' (basesR_len _ _)]
theorem low_last {s : Mc} {f : Fr} (h : s.low.getLast? = some f) (x : Nat) :
    framesR { s with low := s.low.dropLast, top := { f with vals := f.vals ++ [x] } } = basesR 0 s.low ∧ valsR { s with low := s.low.dropLast, top := { f with vals := f.vals ++ [x] } } = valsF s.low ++ [x] := by
  have e : s.low = s.low.dropLast ++ [f] := by
    rcases List.eq_nil_or_concat s.low with q | ⟨l, y, q⟩
    · rw [q] at h; cases h
    · rw [q, List.concat_eq_append] at h ⊢
      rw [List.getLast?_append] at h
      simp at h
      subst h
      simp
  constructor
  · rw [framesR_eq]
    conv => rhs; rw [e]
    rw [basesR_app, Nat.zero_add]; rfl
  · rw [valsR_eq]
    conv => rhs; rw [e]
    rw [valsF_app]
    simp [valsF]
end Go.Proofs.YtnjampfhkojbnaaGreatDoor

namespace Go.Proofs.YtnjampfhkojbnaaGreatDoor
open Go

abbrev W32 : Nat := 4294967296
structure OkF (k : Nat) (f : Fr) : Prop where
  len : f.vars.length ≤ 64
  vars : ∀ x ∈ f.vars, x < W32
  vals : ∀ x ∈ f.vals, x < W32
  lo : -(4294967296 * ((k : Int) + 2)) ≤ f.pc
  hi : f.pc ≤ 4294967296 * ((k : Int) + 2)
theorem OkF.more {k m : Nat} {f : Fr} (h : OkF k f) (hm : k ≤ m) : OkF m f := ⟨h.len, h.vars, h.vals, by have := h.lo; omega, by have := h.hi; omega⟩
structure OkS (M k : Nat) (s : Mc) : Prop where
  mem : s.mem.length = M
  stk : stkN s ≤ 1024
  deep : s.low.length < 64
  low : ∀ f ∈ s.low, OkF k f
  top : OkF k s.top
  out : s.out.length ≤ 65536
theorem stk_put (s : Mc) (v : List Nat) : stkN (s.put v) + s.top.vals.length = stkN s + v.length := by unfold stkN Mc.put; simp only; omega
theorem OkS.put {M k : Nat} {s : Mc} (h : OkS M k s) {v : List Nat} (hl : v.length ≤ s.top.vals.length) (hv : ∀ x ∈ v, x < W32) : OkS M k (s.put v) :=
  ⟨h.mem, by have := stk_put s v; have := h.stk; omega, h.deep, h.low, ⟨h.top.len, h.top.vars, hv, h.top.lo, h.top.hi⟩, h.out⟩
theorem OkS.take {M k : Nat} {s : Mc} (h : OkS M k s) (n : Nat) : OkS M k (s.put (s.top.vals.take n)) := h.put (by rw [List.length_take]; omega) (fun x hx => h.top.vals x (List.mem_of_mem_take hx))
theorem OkS.more {M k m : Nat} {s : Mc} (h : OkS M k s) (hm : k ≤ m) : OkS M m s := ⟨h.mem, h.stk, h.deep, fun f hf => (h.low f hf).more hm, h.top.more hm, h.out⟩
theorem OkS.turn {M k : Nat} {s : Mc} (h : OkS M k s) {v : List Nat} {p : Int} (hl : v.length ≤ 64) (hv : ∀ x ∈ v, x < W32) (h1 : -(4294967296 * ((k : Int) + 2)) ≤ p) (h2 : p ≤ 4294967296 * ((k : Int) + 2)) : OkS M k { s with top := { s.top with vars := v, pc := p } } :=
  ⟨h.mem, h.stk, h.deep, h.low, ⟨hl, hv, h.top.vals, h1, h2⟩, h.out⟩
theorem pushV_go {n : Nat} {s t : Mc} (h : pushV n s = .go t) : t = s.put (s.top.vals ++ [n]) ∧ stkN s < 1024 := by
  unfold pushV at h
  split at h
  · cases h
  · injection h with h; exact ⟨h.symm, by omega⟩
theorem OkS.push {M k n : Nat} {s t : Mc} (h : OkS M k s) (hn : n < W32) (hp : pushV n s = .go t) : OkS M k t := by
  obtain ⟨rfl, hs⟩ := pushV_go hp
  refine ⟨h.mem, ?_, h.deep, h.low, ⟨h.top.len, h.top.vars, fun x hx => ?_, h.top.lo, h.top.hi⟩, h.out⟩
  · have := stk_put s (s.top.vals ++ [n])
    rw [List.length_append, List.length_singleton] at this
    omega
  · rcases List.mem_append.1 hx with q | q
    · exact h.top.vals x q
    · rw [List.mem_singleton] at q; subst q; exact hn
theorem getD_lt {l : List Nat} (h : ∀ x ∈ l, x < W32) (i : Nat) : l.getD i 0 < W32 := by
  rw [List.getD_eq_getElem?_getD]
  cases hi : l[i]? with
  | none => exact (by decide : 0 < W32)
  | some x => exact h x (List.mem_of_getElem? hi)
theorem sgn_le {x : Nat} (h : x < W32) : -2147483648 ≤ sgn x ∧ sgn x < 2147483648 := by
  have : x < 4294967296 := h
  unfold sgn; split <;> omega
theorem openV_ok {mem : List UInt8} {d a : Nat} {args : List Nat} {f : Fr} (h : openV mem d a args = .ok f) : a + 2 ≤ mem.length ∧ d ≠ 64 ∧ byteN mem a = args.length ∧ f.vars = args ++ List.replicate (byteN mem (a + 1) - byteN mem a) 0 ∧ f.vals = [] ∧ f.pc = (a : Int) + 2 ∧ f.vars.length ≤ 64 := by
  unfold openV at h
  split at h
  · cases h
  rename_i h1
  split at h
  · cases h
  rename_i h2
  split at h
  · cases h
  rename_i h3
  split at h
  · cases h
  rename_i h4
  injection h with h
  subst h
  refine ⟨by omega, h4, Classical.byContradiction h2, rfl, rfl, rfl, ?_⟩
  have h5 : byteN mem a = args.length := Classical.byContradiction h2
  simp only [List.length_append, List.length_replicate]
  omega
theorem exec_ok {M k c n : Nat} {s t : Mc} (h : OkS M k s) (hn : n < W32) (hM : M < W32) (ht : insT c n ≤ s.top.vals.length) (he : execV c n s = .go t) : OkS M (k + 1) t := by
  have hx := getD_lt h.top.vals
  have hsg := sgn_le hn
  have hlo := h.top.lo
  have hhi := h.top.hi
  have h1 := h.more (Nat.le_succ k)
  unfold execV at he
  simp only at he
  split at he
  · exact h1.push hn he
  · exact h1.push (getD_lt h.top.vars n) he
  · injection he with he; subst he
    have hd := h1.take (s.top.vals.length - 1)
    refine hd.turn (v := s.top.vars.set n (s.top.vals.getD (s.top.vals.length - 1) 0)) (p := s.top.pc) (by rw [List.length_set]; exact h.top.len) (fun x hx2 => ?_) (by omega) (by omega)
    rcases List.mem_or_eq_of_mem_set hx2 with q | q
    · exact h.top.vars x q
    · subst q; exact hx _
  · split at he
    · cases he
    · exact (h1.take _).push (wordN_lt _ _) he
  · split at he
    · cases he
    · injection he with he; subst he
      have hd := h1.take (s.top.vals.length - 2)
      exact ⟨by simp only [putN_len]; exact hd.mem, hd.stk, hd.deep, hd.low, hd.top, hd.out⟩
  · split at he
    · exact h1.push (by decide) he
    · rename_i c' r' hi
      cases hp : pushV c'.toNat s with
      | err e m => rw [hp] at he; cases he
      | fin v m o => rw [hp] at he; cases he
      | go s' =>
        rw [hp] at he
        injection he with he; subst he
        have hd := h1.push (show c'.toNat < W32 by have := UInt8.toNat_lt c'; show _ < 4294967296; omega) hp
        exact ⟨hd.mem, hd.stk, hd.deep, hd.low, hd.top, hd.out⟩
  · split at he
    · cases he
    · rename_i ho
      injection he with he; subst he
      have hd := h1.take (s.top.vals.length - 1)
      exact ⟨hd.mem, hd.stk, hd.deep, hd.low, hd.top, by simp only [List.length_append, List.length_singleton]; omega⟩
  · exact (h1.take _).push (unV_lt _ _) he
  · exact (h1.take _).push (binV_lt _ (hx _) (hx _)) he
  · injection he with he; subst he
    exact h1.turn (v := s.top.vars) h.top.len h.top.vars (by omega) (by omega)
  · split at he
    · injection he with he; subst he
      exact (h1.take (s.top.vals.length - 1)).turn (v := s.top.vars) (p := s.top.pc + sgn n) h.top.len h.top.vars (by omega) (by omega)
    · injection he with he; subst he
      exact h1.take _
  · split at he
    · cases he
    · rename_i f hf
      injection he with he; subst he
      obtain ⟨q1, q2, q3, q4, q5, q6, q7⟩ := openV_ok hf
      have hs := stk_put s (s.top.vals.take (s.top.vals.length - 1 - n))
      rw [List.length_take] at hs
      have hst := h.stk
      refine ⟨h.mem, ?_, ?_, ?_, ?_, h.out⟩
      · unfold stkN at hs hst ⊢
        simp only [Mc.put, List.map_append, List.sum_append, List.map_cons, List.map_nil, List.sum_cons, List.sum_nil, List.length_take] at hs hst ⊢
        rw [q5]
        simp only [List.length_nil]
        omega
      · have := h.deep
        simp only [List.length_append, List.length_singleton]; omega
      · intro g hg
        rcases List.mem_append.1 hg with q | q
        · exact h1.low g q
        · rw [List.mem_singleton] at q; subst q
          exact ⟨h.top.len, h.top.vars, fun x hx2 => h.top.vals x (List.mem_of_mem_take hx2), h1.top.lo, h1.top.hi⟩
      · refine ⟨q7, fun x hx2 => ?_, fun x hx2 => (by rw [q5] at hx2; cases hx2), ?_, ?_⟩
        · rw [q4] at hx2
          rcases List.mem_append.1 hx2 with q | q
          · exact h.top.vals x (List.mem_of_mem_drop (List.mem_of_mem_take q))
          · rw [List.mem_replicate] at q; rw [q.2]; decide
        · rw [q6]; omega
        · rw [q6]
          have hm := h.mem
          have : M < 4294967296 := hM
          omega
  · split at he
    · cases he
    · rename_i f hf
      injection he with he; subst he
      have e : s.low = s.low.dropLast ++ [f] := by
        rcases List.eq_nil_or_concat s.low with q | ⟨l, y, q⟩
        · rw [q] at hf; cases hf
        · rw [q, List.concat_eq_append] at hf ⊢
          rw [List.getLast?_append] at hf
          simp at hf
          subst hf
          simp
      have hfm : f ∈ s.low := by rw [e]; simp
      have hok := h1.low f hfm
      have hst := h.stk
      have hv1 : 1 ≤ s.top.vals.length := by simpa [insT] using ht
      refine ⟨h.mem, ?_, ?_, fun g hg => h1.low g (by rw [e]; exact List.mem_append_left _ hg), ⟨hok.len, hok.vars, fun x hx2 => ?_, hok.lo, hok.hi⟩, h.out⟩
      · unfold stkN at hst ⊢
        rw [e] at hst
        simp only [List.map_append, List.sum_append, List.map_cons, List.map_nil, List.sum_cons, List.sum_nil] at hst
        simp only [List.length_append, List.length_singleton]
        omega
      · have := h.deep; simp only [List.length_dropLast]; omega
      · rcases List.mem_append.1 hx2 with q | q
        · exact hok.vals x q
        · rw [List.mem_singleton] at q; subst q; exact hx _
  · injection he with he; subst he
    exact h1.take _
end Go.Proofs.YtnjampfhkojbnaaGreatDoor

namespace Go.Proofs.YtnjampfhkojbnaaGreatDoor
open Go

theorem insB_le (c : Nat) : 1 ≤ insB c ∧ insB c ≤ 5 := by unfold insB; split <;> (try split) <;> omega
theorem operV_lt (mem : List UInt8) (c p : Nat) : operV mem c p < W32 := by
  unfold operV
  split
  · exact Nat.lt_trans (byteN_lt _ _) (by decide)
  · split
    · exact wordN_lt _ _
    · decide
theorem stepV_go {s t : Mc} (h : stepV s = .go t) :
    0 ≤ s.top.pc ∧ s.top.pc < (s.mem.length : Int) ∧ ∃ c n, c = byteN s.mem s.top.pc.toNat ∧ n = operV s.mem c s.top.pc.toNat ∧ 1 ≤ c ∧ c < 15 ∧
    s.top.pc.toNat + insB c ≤ s.mem.length ∧ badV c n s.top.vars.length = false ∧ insT c n ≤ s.top.vals.length ∧ execV c n { s with top := { s.top with pc := s.top.pc + insB c } } = .go t := by
  unfold stepV at h
  simp only at h
  split at h
  · cases h
  rename_i h1
  split at h
  · cases h
  rename_i h2
  split at h
  · cases h
  rename_i h3
  split at h
  · cases h
  rename_i h4
  split at h
  · cases h
  rename_i h5
  exact ⟨by omega, by omega, _, _, rfl, rfl, by omega, by omega, by omega, by simpa using h4, by omega, h⟩
theorem OkS.past {M k : Nat} {s : Mc} (h : OkS M k s) (hM : M < W32) {c : Nat} (h0 : 0 ≤ s.top.pc) (hc : s.top.pc.toNat + insB c ≤ s.mem.length) : OkS M k { s with top := { s.top with pc := s.top.pc + insB c } } := by
  have h1 := h.mem
  have h2 : M < 4294967296 := hM
  exact ⟨h.mem, h.stk, h.deep, h.low, ⟨h.top.len, h.top.vars, h.top.vals, by simp only; omega, by simp only; omega⟩, h.out⟩
theorem stepV_ok {M k : Nat} {s t : Mc} (h : OkS M k s) (hM : M < W32) (he : stepV s = .go t) : OkS M (k + 1) t := by
  obtain ⟨q1, q2, c, n, q3, q4, q5, q6, q7, q8, q9, q10⟩ := stepV_go he
  exact exec_ok (h.past hM q1 q7) (by rw [q4]; exact operV_lt _ _ _) hM q9 q10
theorem execV_fin {M k c n : Nat} {s : Mc} {v : Nat} {m o : List UInt8} (h : OkS M k s) (he : execV c n s = .fin v m o) : v < W32 ∧ m = s.mem ∧ o = s.out ∧ s.low = [] := by
  have hp : ∀ {x : Nat} {s' : Mc}, pushV x s' ≠ .fin v m o := by
    intro x s' hq
    unfold pushV at hq
    split at hq <;> cases hq
  unfold execV at he
  simp only at he
  split at he
  · exact absurd he hp
  · exact absurd he hp
  · cases he
  · split at he
    · cases he
    · exact absurd he hp
  · split at he <;> cases he
  · split at he
    · exact absurd he hp
    · split at he
      · cases he
      · exact absurd he hp
  · split at he <;> cases he
  · exact absurd he hp
  · exact absurd he hp
  · cases he
  · split at he <;> cases he
  · split at he <;> cases he
  · split at he
    · rename_i hl
      injection he with e1 e2 e3
      subst e1 e2 e3
      exact ⟨getD_lt h.top.vals _, rfl, rfl, by rwa [List.getLast?_eq_none_iff] at hl⟩
    · cases he
  · cases he
theorem stepV_fin {M k : Nat} {s : Mc} {v : Nat} {m o : List UInt8} (h : OkS M k s) (hM : M < W32) (he : stepV s = .fin v m o) : v < W32 ∧ m = s.mem ∧ o = s.out := by
  unfold stepV at he
  simp only at he
  split at he
  · cases he
  split at he
  · cases he
  split at he
  · cases he
  split at he
  · cases he
  split at he
  · cases he
  rename_i h1 h2 h3 h4 h5
  have := execV_fin (h.past hM (by omega) (by omega)) he
  exact ⟨this.1, this.2.1, this.2.2.1⟩
theorem mrunV_ok {M : Nat} (hM : M < W32) : ∀ (r k : Nat) (s : Mc), OkS M k s → (mrunV r k s).mem.length = M ∧ (mrunV r k s).value < W32 ∧ (mrunV r k s).out.length ≤ 65536 ∧ (mrunV r k s).steps ≤ k + r
  | 0, k, s, h => ⟨h.mem, (by decide : 0 < W32), Nat.zero_le _, Nat.zero_le _⟩
  | r + 1, k, s, h => by
    rw [mrunV]
    cases hs : stepV s with
    | err e m =>
      obtain ⟨_, q⟩ := stepV_err hs
      exact ⟨by rw [q]; exact h.mem, (by decide : 0 < W32), Nat.zero_le _, Nat.zero_le _⟩
    | fin v m o =>
      obtain ⟨q1, q2, q3⟩ := stepV_fin h hM hs
      exact ⟨by rw [q2]; exact h.mem, q1, by rw [q3]; exact h.out, by simp only; omega⟩
    | go t =>
      have := mrunV_ok hM r (k + 1) t (stepV_ok h hM hs)
      exact ⟨this.1, this.2.1, this.2.2.1, by have := this.2.2.2; simp only; omega⟩
theorem open_ok {M a : Nat} {mem : List UInt8} {args : List Nat} {f : Fr} (inp : List UInt8) (hm : mem.length = M) (hM : M < W32) (ha : ∀ x ∈ args, x < W32) (hf : openV mem 0 a args = .ok f) : OkS M 0 ⟨mem, [], f, inp, []⟩ := by
  obtain ⟨q1, q2, q3, q4, q5, q6, q7⟩ := openV_ok hf
  have h2 : M < 4294967296 := hM
  refine ⟨hm, ?_, by simp, fun g hg => (by cases hg), ⟨q7, fun x hx => ?_, fun x hx => (by rw [q5] at hx; cases hx), by rw [q6]; omega, by rw [q6]; omega⟩, Nat.zero_le _⟩
  · simp [stkN, q5]
  · rw [q4] at hx
    rcases List.mem_append.1 hx with q | q
    · exact ha x q
    · rw [List.mem_replicate] at q; rw [q.2]; decide
theorem callV_lim {M a : Nat} {mem : List UInt8} {args : List Nat} (inp : List UInt8) (L : Int) (hm : mem.length = M) (hM : M < W32) (ha : ∀ x ∈ args, x < W32) :
    (callV mem a inp L args).mem.length = M ∧ (callV mem a inp L args).value < W32 ∧ (callV mem a inp L args).out.length ≤ 65536 ∧ (callV mem a inp L args).steps ≤ 65536 := by
  unfold callV
  split
  · exact ⟨hm, (by decide : 0 < W32), Nat.zero_le _, Nat.zero_le _⟩
  rename_i hc
  split
  · exact ⟨hm, (by decide : 0 < W32), Nat.zero_le _, Nat.zero_le _⟩
  rename_i f hf
  have := mrunV_ok hM L.toNat 0 _ (open_ok inp hm hM ha hf)
  exact ⟨this.1, this.2.1, this.2.2.1, by have := this.2.2.2; omega⟩
end Go.Proofs.YtnjampfhkojbnaaGreatDoor

namespace Go.Proofs.YtnjampfhkojbnaaGreatDoor
open Go

theorem putN_twice (m : List UInt8) (a x y : Nat) : putN (putN m a x) a y = putN m a y := by
  unfold putN
  apply List.ext_getElem?
  intro i
  simp only [List.getElem?_set, List.length_set]
  by_cases h3 : a + 3 = i
  · simp [h3]
  by_cases h2 : a + 2 = i
  · simp [h3, h2]
  by_cases h1 : a + 1 = i
  · simp [h3, h2, h1]
  by_cases h0 : a = i
  · subst h0; simp
  · simp [h3, h2, h1, h0]
def lookL {K : Type} [DecidableEq K] (L : List (K × Nat)) (k : K) : Option Nat := L.foldl (fun o x => if x.1 = k then some x.2 else o) none
theorem lookL_fold {K : Type} [DecidableEq K] (k : K) : ∀ (L : List (K × Nat)) (o : Option Nat), L.foldl (fun o x => if x.1 = k then some x.2 else o) o = (lookL L k).or o
  | [], o => by cases o <;> rfl
  | x :: L, o => by
    rw [List.foldl_cons, lookL_fold k L]
    have e : lookL (x :: L) k = (lookL L k).or (if x.1 = k then some x.2 else none) := lookL_fold k L _
    rw [e]
    by_cases h : x.1 = k
    · rw [if_pos h, if_pos h]; cases lookL L k <;> rfl
    · rw [if_neg h, if_neg h]; cases lookL L k <;> cases o <;> rfl
theorem lookL_nil {K : Type} [DecidableEq K] (k : K) : lookL ([] : List (K × Nat)) k = none := rfl
theorem lookL_snoc {K : Type} [DecidableEq K] (L : List (K × Nat)) (x : K × Nat) (k : K) : lookL (L ++ [x]) k = if x.1 = k then some x.2 else lookL L k := by
  rw [lookL, List.foldl_append]; rfl
theorem lookL_app {K : Type} [DecidableEq K] (L R : List (K × Nat)) (k : K) : lookL (L ++ R) k = (lookL R k).or (lookL L k) := by
  rw [lookL, List.foldl_append, lookL_fold]; rfl
def seekR {K : Type} [DecidableEq K] (L : List (K × Nat)) (k : K) (a : Nat) (s : List UInt8 × Bool) : List UInt8 × Bool := L.foldl (fun s x => if x.1 = k then (putN s.1 a x.2, true) else s) s
theorem seekR_eq {K : Type} [DecidableEq K] (k : K) (a : Nat) : ∀ (L : List (K × Nat)) (s : List UInt8 × Bool), seekR L k a s = (match lookL L k with
    | none => s
    | some v => (putN s.1 a v, true))
  | [], s => rfl
  | x :: L, s => by
    rw [seekR, List.foldl_cons]
    rw [show lookL (x :: L) k = (lookL L k).or (if x.1 = k then some x.2 else none) by rw [lookL, List.foldl_cons, lookL_fold]]
    by_cases h : x.1 = k
    · rw [if_pos h, if_pos h]
      have := seekR_eq k a L (putN s.1 a x.2, true)
      rw [seekR] at this
      rw [this]
      cases lookL L k with
      | none => rfl
      | some v => simp only [Option.or, putN_twice]
    · rw [if_neg h, if_neg h]
      have := seekR_eq k a L s
      rw [seekR] at this
      rw [this]
      cases lookL L k <;> rfl
def impV {K : Type} [DecidableEq K] (L : List (K × Nat)) : List (K × Nat) → List UInt8 → Option (List UInt8)
  | [], m => some m
  | x :: r, m => match lookL L x.1 with
    | none => none
    | some v => impV L r (putN m x.2 v)
theorem impV_len {K : Type} [DecidableEq K] (L : List (K × Nat)) : ∀ (I : List (K × Nat)) (m n : List UInt8), impV L I m = some n → n.length = m.length
  | [], m, n, h => by rw [impV] at h; injection h with h; rw [h]
  | x :: r, m, n, h => by
    rw [impV] at h
    cases hl : lookL L x.1 with
    | none => rw [hl] at h; cases h
    | some v => rw [hl] at h; rw [impV_len L r _ _ h, putN_len]
theorem impV_snoc {K : Type} [DecidableEq K] (L : List (K × Nat)) (x : K × Nat) : ∀ (I : List (K × Nat)) (m : List UInt8), impV L (I ++ [x]) m = (impV L I m).bind fun n => impV L [x] n
  | [], m => rfl
  | y :: r, m => by
    rw [List.cons_append, impV, impV]
    cases lookL L y.1 with
    | none => rfl
    | some v => exact impV_snoc L x r _
structure Im where
  img : List UInt8
  fix : List Nat
  exps : List (List UInt8 × Nat)
def libsP : List (List UInt8 × Im) → List UInt8 → List ((List UInt8 × List UInt8) × Nat) → List UInt8 × List ((List UInt8 × List UInt8) × Nat)
  | [], m, L => (m, L)
  | x :: r, m, L => libsP r (loadP m x.2.img x.2.fix) (L ++ x.2.exps.map fun e => ((x.1, e.1), (m.length + e.2) % 4294967296))
theorem libsP_snoc (x : List UInt8 × Im) : ∀ (l : List (List UInt8 × Im)) (m : List UInt8) (L : List ((List UInt8 × List UInt8) × Nat)),
    libsP (l ++ [x]) m L = (loadP (libsP l m L).1 x.2.img x.2.fix, (libsP l m L).2 ++ x.2.exps.map fun e => ((x.1, e.1), ((libsP l m L).1.length + e.2) % 4294967296))
  | [], m, L => rfl
  | y :: r, m, L => by rw [List.cons_append, libsP, libsP, libsP_snoc x r]
def memV (p : Im) (libs : List (List UInt8 × Im)) (imps : List ((List UInt8 × List UInt8) × Nat)) : Option (List UInt8) :=
  let q := libsP libs (loadP (List.replicate 64 0) p.img p.fix) []
  impV q.2 (imps.map fun x => (x.1, 64 + x.2)) q.1
end Go.Proofs.YtnjampfhkojbnaaGreatDoor

namespace Go.Proofs.YtnjampfhkojbnaaGreatDoor
open Go

def code1 : List UInt8 := [1, 1, 2, 0, 2, 0, 9, 13, 13]
def code2 : List UInt8 := [0, 0, 6, 7, 1, 5, 0, 0, 0, 13]
def memC (code : List UInt8) : List UInt8 := padN (List.replicate 64 0 ++ code)
theorem memV_code (code : List UInt8) : memV ⟨code, [], []⟩ [] [] = some (memC code) := rfl
theorem memC_len (code : List UInt8) : (memC code).length = (64 + code.length + 3) / 4 * 4 := by
  have := loadP_len (List.replicate 64 0) code [] (by simp) List.Pairwise.nil
  rw [List.length_replicate] at this
  exact this
theorem rs_ext {a b : Rs} (h : a.value = b.value ∧ a.out = b.out ∧ a.steps = b.steps ∧ a.e = b.e ∧ a.mem = b.mem) : a = b := by
  cases a; cases b
  obtain ⟨h1, h2, h3, h4, h5⟩ := h
  simp only at h1 h2 h3 h4 h5
  subst h1 h2 h3 h4 h5
  rfl
set_option maxRecDepth 100000 in
theorem ex1 : callV (memC code1) 64 [] 9 [21] = ⟨42, [], 4, 0, memC code1⟩ := rs_ext (by decide)
theorem ex1_word : wordN (memC code1) 64 = 131329 := by rfl
set_option maxRecDepth 100000 in
theorem ex2 : callV (memC code2) 64 [120, 121] 4 [] = ⟨5, [120], 4, 0, memC code2⟩ := rs_ext (by decide)
set_option maxRecDepth 100000 in
theorem ex3 : (callV (memC code2) 64 [120, 121] 3 []).e = 16 := by decide
end Go.Proofs.YtnjampfhkojbnaaGreatDoor

