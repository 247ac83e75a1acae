/- Plain: the number at the head of a text, as the reader of codec counts it. No conditions. Plain: the decoder of binaries on data; it reads just what the encoder writes. No conditions. Plain: Decode on data gives a binary just where the text is its bytes. No conditions. -/
import Derived.Test.YtnknmpcgbfmfjaaGreatDoorGV1
import Derived.Test.YtnknmpcgbfmfjaaGreatDoorGV2
import Derived.Test.YtnknmpcgbfmfjaaGreatDoorGC1

namespace Go.Proofs.YtnknmpcgbfmfjaaGreatDoor
open Go Go.RowKit Go.Joins
set_option linter.unusedSimpArgs false
set_option linter.unusedVariables false

def digB (c : UInt8) : Bool := decide (48 ≤ c.toNat) && decide (c.toNat ≤ 57)
theorem digB_iff (c : UInt8) : digB c = true ↔ 48 ≤ c.toNat ∧ c.toNat ≤ 57 := by simp [digB]
def dval (v : Nat) (l : List UInt8) : Nat := l.foldl (fun v c => 10 * v + (c.toNat - 48)) v
theorem dval_snoc (v : Nat) (l : List UInt8) (c : UInt8) : dval v (l ++ [c]) = 10 * dval v l + (c.toNat - 48) := by simp [dval]
theorem dval_cons (v : Nat) (l : List UInt8) (c : UInt8) : dval v (c :: l) = dval (10 * v + (c.toNat - 48)) l := by unfold dval; rw [List.foldl_cons]
theorem dig_of (c : UInt8) (h : digB c = true) : UInt8.ofNat (48 + (c.toNat - 48)) = c := by
  rw [digB_iff] at h
  apply UInt8.toNat_inj.1
  rw [UInt8.toNat_ofNat']
  omega
theorem dec_step (v : Nat) (c : UInt8) (hv : 1 ≤ v) (h : digB c = true) : Lib.decDigits (10 * v + (c.toNat - 48)) = Lib.decDigits v ++ [c] := by
  have hd := (digB_iff c).1 h
  rw [Lib.decDigits, dif_neg (by omega), show (10 * v + (c.toNat - 48)) / 10 = v by omega, show (10 * v + (c.toNat - 48)) % 10 = c.toNat - 48 by omega, dig_of c h]
theorem dec_more : ∀ (l : List UInt8) (v : Nat), 1 ≤ v → l.all digB = true → Lib.decDigits (dval v l) = Lib.decDigits v ++ l
  | [], v, _, _ => by simp [dval]
  | c :: r, v, hv, h => by
    rw [List.all_cons, Bool.and_eq_true] at h
    rw [dval_cons, dec_more r _ (by omega) h.2, dec_step v c hv h.1, List.append_assoc]; rfl
theorem dec_val (c : UInt8) (r : List UInt8) (h : (c :: r).all digB = true) (h0 : r = [] ∨ c.toNat ≠ 48) : Lib.decDigits (dval 0 (c :: r)) = c :: r := by
  rw [List.all_cons, Bool.and_eq_true] at h
  have hd := (digB_iff c).1 h.1
  have h1 : Lib.decDigits (10 * 0 + (c.toNat - 48)) = [c] := by
    rw [Nat.mul_zero, Nat.zero_add, Lib.decDigits, dif_pos (by omega), dig_of c h.1]
  rcases h0 with rfl | h0
  · exact h1
  · rw [dval_cons, dec_more r _ (by omega) h.2, h1]; rfl
theorem dec_shape (u : Nat) : (Lib.decDigits u).all digB = true ∧ (∃ c r, Lib.decDigits u = c :: r ∧ (r = [] ∨ c.toNat ≠ 48)) ∧ dval 0 (Lib.decDigits u) = u ∧ (1 ≤ u → ∃ c r, Lib.decDigits u = c :: r ∧ c.toNat ≠ 48) := by
  induction u using Nat.strongRecOn with
  | _ u ih =>
    have hdig : ∀ k, k < 10 → digB (UInt8.ofNat (48 + k)) = true ∧ (UInt8.ofNat (48 + k)).toNat = 48 + k := fun k hk => by
      have e : (UInt8.ofNat (48 + k)).toNat = 48 + k := by rw [UInt8.toNat_ofNat']; omega
      exact ⟨by rw [digB_iff, e]; omega, e⟩
    by_cases h : u < 10
    · obtain ⟨h1, h2⟩ := hdig u h
      rw [Lib.decDigits, dif_pos h]
      refine ⟨by rw [List.all_cons, h1]; rfl, ⟨_, [], rfl, Or.inl rfl⟩, ?_, fun hu => ⟨_, [], rfl, by omega⟩⟩
      rw [dval_cons, h2]; simp [dval]
    · obtain ⟨h1, h2⟩ := hdig (u % 10) (by omega)
      obtain ⟨i1, _, i3, i4⟩ := ih (u / 10) (by omega)
      obtain ⟨c, r, hc, h48⟩ := i4 (by omega)
      rw [Lib.decDigits, dif_neg h]
      refine ⟨by rw [List.all_append, i1, List.all_cons, h1]; rfl, ⟨c, r ++ [_], by rw [hc]; rfl, Or.inr h48⟩, ?_, fun _ => ⟨c, r ++ [_], by rw [hc]; rfl, h48⟩⟩
      rw [dval_snoc, i3, h2]; omega
theorem dval_ge : ∀ (l : List UInt8) (v : Nat), v ≤ dval v l
  | [], v => Nat.le_refl _
  | c :: r, v => by
    have := dval_ge r (10 * v + (c.toNat - 48))
    rw [dval_cons]; omega

def cntGo (most : Nat) (e : UInt8) : List UInt8 → Nat → Nat → Option (Nat × Nat)
  | [], _, _ => none
  | c :: r, i, n =>
    if c = e ∧ 0 < i then some (n, i + 1)
    else if c.toNat < 48 ∨ 57 < c.toNat ∨ (0 < i ∧ n = 0) then none
    else if most < 10 * n + (c.toNat - 48) then none
    else cntGo most e r (i + 1) (10 * n + (c.toNat - 48))
theorem cnt_run {most : Nat} {e : UInt8} (he : digB e = false) (r : List UInt8) : ∀ (D : List UInt8) (i n : Nat), D.all digB = true → (0 < i → n = 0 → D = []) → (i = 0 → n = 0 ∧ ∃ c q, D = c :: q ∧ (q = [] ∨ c.toNat ≠ 48)) → dval n D ≤ most → cntGo most e (D ++ e :: r) i n = some (dval n D, i + D.length + 1)
  | [], i, n, _, _, h2, _ => by
    have hi : 0 < i := by
      rcases Nat.eq_zero_or_pos i with h | h
      · obtain ⟨_, c, q, h3, _⟩ := h2 h; cases h3
      · exact h
    show cntGo most e (e :: r) i n = _
    rw [cntGo, if_pos ⟨rfl, hi⟩]
    rfl
  | c :: D, i, n, hd, h1, h2, hm => by
    rw [List.all_cons, Bool.and_eq_true] at hd
    have hc := (digB_iff c).1 hd.1
    have hce : c ≠ e := fun h => by rw [h, he] at hd; exact absurd hd.1 (by decide)
    have hz : ¬ (0 < i ∧ n = 0) := fun h => by have := h1 h.1 h.2; cases this
    have hge := dval_ge D (10 * n + (c.toNat - 48))
    rw [dval_cons] at hm ⊢
    rw [List.cons_append, cntGo, if_neg (fun h => hce h.1), if_neg (by omega), if_neg (by omega), cnt_run he r D (i + 1) _ hd.2 ?_ (fun h => by omega) hm, List.length_cons]
    · congr 2; omega
    · intro _ hn0
      rcases Nat.eq_zero_or_pos i with h | h
      · obtain ⟨h3, c', q, h4, h5⟩ := h2 h
        injection h4 with h4 h6
        subst h4 h6
        rcases h5 with h5 | h5
        · exact h5
        · omega
      · have : n ≠ 0 := fun h' => hz ⟨h, h'⟩
        omega
theorem cnt_app {most : Nat} {e : UInt8} (he : digB e = false) (n : Nat) (hn : n ≤ most) (r : List UInt8) : cntGo most e (Lib.decDigits n ++ e :: r) 0 0 = some (n, (Lib.decDigits n).length + 1) := by
  obtain ⟨h1, h2, h3, _⟩ := dec_shape n
  have := cnt_run (most := most) he r (Lib.decDigits n) 0 0 h1 (fun h => by omega) (fun _ => ⟨rfl, h2⟩) (by rw [h3]; exact hn)
  rw [this, h3, Nat.zero_add]
theorem cnt_sound {most : Nat} {e : UInt8} : ∀ (l : List UInt8) (i n m k : Nat), n ≤ most → cntGo most e l i n = some (m, k) → ∃ D r, l = D ++ e :: r ∧ D.all digB = true ∧ m = dval n D ∧ k = i + D.length + 1 ∧ m ≤ most ∧ 0 < i + D.length ∧ (0 < i → n = 0 → D = [])
  | [], i, n, m, k, _, h => by cases h
  | c :: r, i, n, m, k, hn, h => by
    rw [cntGo] at h
    split at h
    · rename_i hc
      injection h with h; injection h with h1 h2
      exact ⟨[], r, by rw [hc.1]; rfl, rfl, h1.symm, by simpa using h2.symm, by omega, by simpa using hc.2, fun _ _ => rfl⟩
    · split at h
      · cases h
      · split at h
        · cases h
        · rename_i h1 h2 h3
          obtain ⟨D, r', q1, q2, q3, q4, q5, q6, q7⟩ := cnt_sound r (i + 1) _ m k (by omega) h
          refine ⟨c :: D, r', by rw [q1]; rfl, ?_, by rw [dval_cons]; exact q3, by rw [q4, List.length_cons]; omega, q5, by rw [List.length_cons]; omega, fun hi h0 => absurd (And.intro hi h0) (by omega)⟩
          rw [List.all_cons, q2, Bool.and_true, digB_iff]
          omega
theorem cnt_some {most : Nat} {e : UInt8} {l : List UInt8} {m k : Nat} (h : cntGo most e l 0 0 = some (m, k)) : ∃ r, l = Lib.decDigits m ++ e :: r ∧ k = (Lib.decDigits m).length + 1 ∧ m ≤ most := by
  cases l with
  | nil => cases h
  | cons c r =>
    rw [cntGo, if_neg (fun h => by omega)] at h
    split at h
    · cases h
    · split at h
      · cases h
      · rename_i h2 h3
        obtain ⟨D, r', q1, q2, q3, q4, q5, q6, q7⟩ := cnt_sound r _ _ m k (by omega) h
        have hd : (c :: D).all digB = true := by rw [List.all_cons, q2, Bool.and_true, digB_iff]; omega
        have hm : m = dval 0 (c :: D) := by rw [dval_cons]; exact q3
        have hv := dec_val c D hd (by
          by_cases h48 : c.toNat = 48
          · exact Or.inl (q7 (by omega) (by omega))
          · exact Or.inr h48)
        rw [← hm] at hv
        exact ⟨r', by rw [hv, q1]; rfl, by rw [hv, q4, List.length_cons]; omega, q5⟩
end Go.Proofs.YtnknmpcgbfmfjaaGreatDoor

namespace Go.Proofs.YtnknmpcgbfmfjaaGreatDoor
open Go Go.RowKit Go.Joins
set_option linter.unusedSimpArgs false
set_option linter.unusedVariables false

abbrev RS := Option (List UInt8)
def rdNum (hi : Nat) (l : List UInt8) : Option (Nat × List UInt8) :=
  match cntGo 281474976710656 59 l 0 0 with
  | some (n, k) => if n ≤ hi then some (n, l.drop k) else none
  | none => none
def rdTxt (most : Nat) (l : List UInt8) : Option (List UInt8 × List UInt8) :=
  match cntGo 65536 58 l 0 0 with
  | some (n, k) => if k + n < l.length ∧ l[k + n]? = some 44 ∧ n ≤ most then some ((l.drop k).take n, l.drop (k + n + 1)) else none
  | none => none
def numS (hi : Nat) : RS → Nat × RS
  | none => (0, none)
  | some l => match rdNum hi l with
    | some (n, r) => (n, some r)
    | none => (0, none)
def txtS (most : Nat) : RS → ByteArray × RS
  | none => (⟨#[]⟩, none)
  | some l => match rdTxt most l with
    | some (t, r) => (S t, some r)
    | none => (⟨#[]⟩, none)

theorem numB_nat {n : Nat} (h : n ≤ 281474976710656) : numB (n : Int) = Lib.decDigits n ++ [59] := by
  unfold numB
  rw [if_pos (by omega), Lib.itoa_nonneg]
theorem txtB_le {s : ByteArray} (h : s.size ≤ 65536) : txtB s = Lib.decDigits s.size ++ [58] ++ s.data.toList ++ [44] := by
  unfold txtB
  rw [if_pos h, Lib.itoa_nonneg]
theorem rdNum_app {hi n : Nat} (hn : n ≤ hi) (h : n ≤ 281474976710656) (r : List UInt8) : rdNum hi (numB (n : Int) ++ r) = some (n, r) := by
  unfold rdNum
  rw [numB_nat h, List.append_assoc]
  rw [show Lib.decDigits n ++ ([59] ++ r) = Lib.decDigits n ++ 59 :: r from rfl]
  rw [cnt_app (by decide) n h r]
  simp only [if_pos hn]
  rw [List.drop_append]
  simp
theorem rdNum_some {hi n : Nat} {l r : List UInt8} (h : rdNum hi l = some (n, r)) : l = numB (n : Int) ++ r ∧ n ≤ hi ∧ n ≤ 281474976710656 := by
  unfold rdNum at h
  split at h
  · rename_i m k hc
    split at h
    · rename_i hm
      injection h with h; injection h with h1 h2
      subst h1
      obtain ⟨q, e1, e2, e3⟩ := cnt_some hc
      refine ⟨?_, hm, e3⟩
      rw [numB_nat e3, ← h2, e2]
      conv => lhs; rw [e1]
      rw [e1, List.drop_append]
      simp
    · cases h
  · cases h
theorem rdTxt_app {most : Nat} {s : ByteArray} (h : s.size ≤ 65536) (hm : s.size ≤ most) (r : List UInt8) : rdTxt most (txtB s ++ r) = some (s.data.toList, r) := by
  unfold rdTxt
  have e : txtB s ++ r = Lib.decDigits s.size ++ 58 :: (s.data.toList ++ 44 :: r) := by rw [txtB_le h]; simp
  rw [e, cnt_app (by decide) s.size h]
  have hs : s.size = s.data.toList.length := size_eq s
  have hd : ∀ k, (Lib.decDigits s.size ++ 58 :: (s.data.toList ++ 44 :: r)).drop ((Lib.decDigits s.size).length + 1 + k) = (s.data.toList ++ 44 :: r).drop k := fun k => by
    rw [List.drop_append, List.drop_of_length_le (by omega), show (Lib.decDigits s.size).length + 1 + k - (Lib.decDigits s.size).length = k + 1 by omega, List.drop_succ_cons, List.nil_append]
  have hg : (Lib.decDigits s.size ++ 58 :: (s.data.toList ++ 44 :: r))[(Lib.decDigits s.size).length + 1 + s.size]? = some 44 := by
    rw [← List.head?_drop, hd, hs, List.drop_append, List.drop_of_length_le (by omega)]
    simp
  have h0 := hd 0
  simp only [Nat.add_zero, List.drop_zero] at h0
  simp only
  rw [if_pos ⟨by simp; omega, hg, hm⟩, h0, Nat.add_assoc ((Lib.decDigits s.size).length + 1), hd]
  rw [hs, List.take_append_of_le_length (Nat.le_refl _), List.take_length, List.drop_append, List.drop_of_length_le (by omega)]
  simp
theorem rdTxt_some {most : Nat} {l t r : List UInt8} (h : rdTxt most l = some (t, r)) : l = txtB (S t) ++ r ∧ t.length ≤ most ∧ t.length ≤ 65536 := by
  unfold rdTxt at h
  split at h
  · rename_i n k hc
    split at h
    · rename_i hm
      obtain ⟨m1, m2, m3⟩ := hm
      injection h with h; injection h with h1 h2
      obtain ⟨q, e1, e2, e3⟩ := cnt_some hc
      have hlen : t.length = n := by rw [← h1, List.length_take, List.length_drop]; omega
      refine ⟨?_, by omega, by omega⟩
      have hsz : (S t).size = n := by rw [size_S]; exact hlen
      rw [txtB_le (by omega), hsz, data_S]
      have hk : l.take k = Lib.decDigits n ++ [58] := by
        rw [e1, e2, List.take_append, List.take_of_length_le (by omega), show (Lib.decDigits n).length + 1 - (Lib.decDigits n).length = 1 by omega]
        rfl
      have h3 : l.drop k = t ++ 44 :: r := by
        have := List.take_append_drop n (l.drop k)
        rw [← this, h1, ← h2, List.drop_drop]
        congr 1
        have hlt : k + n < l.length := m1
        rw [List.drop_eq_getElem_cons hlt]
        rw [List.getElem?_eq_getElem hlt] at m2
        rw [Option.some.inj m2]
      rw [← hk]
      conv => lhs; rw [← List.take_append_drop k l, h3]
      simp
    · cases h
  · cases h
theorem numS_app {hi n : Nat} (hn : n ≤ hi) (h : n ≤ 281474976710656) (r : List UInt8) : numS hi (some (numB (n : Int) ++ r)) = (n, some r) := by
  rw [numS, rdNum_app hn h]
theorem numS_some {hi n : Nat} {s : RS} {r : List UInt8} (h : numS hi s = (n, some r)) : s = some (numB (n : Int) ++ r) ∧ n ≤ hi ∧ n ≤ 281474976710656 := by
  cases s with
  | none => rw [numS] at h; injection h with _ h; cases h
  | some l =>
    rw [numS] at h
    split at h
    · rename_i m q hq
      injection h with h1 h2
      injection h2 with h2
      subst h1 h2
      obtain ⟨e1, e2⟩ := rdNum_some hq
      exact ⟨by rw [e1], e2⟩
    · injection h with _ h; cases h
theorem numS_le {hi : Nat} (s : RS) : (numS hi s).1 ≤ hi ∧ (numS hi s).1 ≤ 281474976710656 := by
  cases s with
  | none => exact ⟨Nat.zero_le _, Nat.zero_le _⟩
  | some l =>
    rw [numS]
    split
    · rename_i m q hq
      exact (rdNum_some hq).2
    · exact ⟨Nat.zero_le _, Nat.zero_le _⟩
theorem txtS_app {most : Nat} {t : ByteArray} (h : t.size ≤ 65536) (hm : t.size ≤ most) (r : List UInt8) : txtS most (some (txtB t ++ r)) = (t, some r) := by
  rw [txtS, rdTxt_app h hm]
  simp only [S_data]
theorem txtS_some {most : Nat} {t : ByteArray} {s : RS} {r : List UInt8} (h : txtS most s = (t, some r)) : s = some (txtB t ++ r) ∧ t.size ≤ most ∧ t.size ≤ 65536 := by
  cases s with
  | none => rw [txtS] at h; injection h with _ h; cases h
  | some l =>
    rw [txtS] at h
    split at h
    · rename_i m q hq
      injection h with h1 h2
      injection h2 with h2
      subst h1 h2
      obtain ⟨e1, e2⟩ := rdTxt_some hq
      rw [size_S]
      exact ⟨by rw [e1], e2⟩
    · injection h with _ h; cases h
theorem txtS_le {most : Nat} (s : RS) : (txtS most s).1.size ≤ 65536 := by
  cases s with
  | none => exact Nat.zero_le _
  | some l =>
    rw [txtS]
    split
    · rename_i m q hq
      have := (rdTxt_some hq).2.2
      rw [size_S]; exact this
    · exact Nat.zero_le _

/-! ### elements and lists -/
def Sound {α : Type} (one : RS → α × RS) (enc : α → List UInt8) : Prop := ∀ s x r, one s = (x, some r) → s = some (enc x ++ r)
def Compl {α : Type} (one : RS → α × RS) (enc : α → List UInt8) (ok : α → Prop) : Prop := ∀ x r, ok x → one (some (enc x ++ r)) = (x, some r)
def manyS {α : Type} (one : RS → α × RS) : Nat → RS → List α × RS
  | 0, s => ([], s)
  | _ + 1, none => ([], none)
  | k + 1, some l => ((one (some l)).1 :: (manyS one k (one (some l)).2).1, (manyS one k (one (some l)).2).2)
theorem many_sound {α : Type} {one : RS → α × RS} {enc : α → List UInt8} (h : Sound one enc) : ∀ (k : Nat) (s : RS) (xs : List α) (r : List UInt8), manyS one k s = (xs, some r) → s = some (xs.flatMap enc ++ r) ∧ xs.length = k
  | 0, s, xs, r, e => by
    rw [manyS] at e
    injection e with e1 e2
    subst e1 e2
    exact ⟨rfl, rfl⟩
  | k + 1, none, xs, r, e => by rw [manyS] at e; injection e with _ e; cases e
  | k + 1, some l, xs, r, e => by
    rw [manyS] at e
    injection e with e1 e2
    cases hm : manyS one k (one (some l)).2 with
    | mk ys t =>
      rw [hm] at e1 e2
      simp only at e1 e2
      subst e1 e2
      obtain ⟨i1, i2⟩ := many_sound h k _ ys r hm
      have := h (some l) (one (some l)).1 _ (by rw [← i1])
      refine ⟨by rw [List.flatMap_cons, List.append_assoc]; exact this, by rw [List.length_cons, i2]⟩
theorem many_compl {α : Type} {one : RS → α × RS} {enc : α → List UInt8} {ok : α → Prop} (h : Compl one enc ok) : ∀ (xs : List α) (r : List UInt8), (∀ x ∈ xs, ok x) → manyS one xs.length (some (xs.flatMap enc ++ r)) = (xs, some r)
  | [], r, _ => rfl
  | x :: xs, r, hx => by
    rw [List.length_cons, manyS, List.flatMap_cons, List.append_assoc, h x _ (hx x (List.mem_cons_self ..))]
    simp only
    rw [many_compl h xs r (fun y hy => hx y (List.mem_cons_of_mem _ hy))]
theorem many_len {α : Type} (one : RS → α × RS) : ∀ (k : Nat) (s : RS), (manyS one k s).1.length ≤ k
  | 0, s => Nat.zero_le _
  | k + 1, none => Nat.zero_le _
  | k + 1, some l => by rw [manyS, List.length_cons]; exact Nat.succ_le_succ (many_len one k _)
theorem many_all {α : Type} (one : RS → α × RS) (P : α → Prop) (h : ∀ s, P (one s).1) : ∀ (k : Nat) (s : RS), ∀ x ∈ (manyS one k s).1, P x
  | 0, s, x, hx => by cases hx
  | k + 1, none, x, hx => by cases hx
  | k + 1, some l, x, hx => by
    rw [manyS] at hx
    rcases List.mem_cons.1 hx with rfl | hx
    · exact h _
    · exact many_all one P h k _ x hx

def plS (hk : Nat) (s : RS) : PlD × RS :=
  (⟨(txtS 65536 s).1, (txtS 65536 (txtS 65536 s).2).1, ((numS hk (txtS 65536 (txtS 65536 s).2).2).1 : Int), ((numS 65536 (numS hk (txtS 65536 (txtS 65536 s).2).2).2).1 : Int), ((numS 65536 (numS 65536 (numS hk (txtS 65536 (txtS 65536 s).2).2).2).2).1 : Int)⟩, (numS 65536 (numS 65536 (numS hk (txtS 65536 (txtS 65536 s).2).2).2).2).2)
def fxS (s : RS) : Int × RS := (((numS 65536 s).1 : Int), (numS 65536 s).2)
def imS (s : RS) : ImD × RS :=
  (⟨(txtS 65536 s).1, (txtS 65536 (txtS 65536 s).2).1, ((numS 65536 (txtS 65536 (txtS 65536 s).2).2).1 : Int)⟩, (numS 65536 (txtS 65536 (txtS 65536 s).2).2).2)
def exS (s : RS) : ExD × RS := (⟨(txtS 65536 s).1, ((numS 65536 (txtS 65536 s).2).1 : Int)⟩, (numS 65536 (txtS 65536 s).2).2)
def ntS (s : RS) : NtD × RS := (⟨(txtS 65536 s).1, (txtS 65536 (txtS 65536 s).2).1⟩, (txtS 65536 (txtS 65536 s).2).2)
theorem txt_back {most : Nat} {s : RS} {r : List UInt8} (h : (txtS most s).2 = some r) : s = some (txtB (txtS most s).1 ++ r) := (txtS_some (t := (txtS most s).1) (by rw [← h])).1
theorem num_back {hi : Nat} {s : RS} {r : List UInt8} (h : (numS hi s).2 = some r) : s = some (numB ((numS hi s).1 : Int) ++ r) := (numS_some (n := (numS hi s).1) (by rw [← h])).1
theorem pl_sound (hk : Nat) : Sound (plS hk) plE := fun s x r h => by
  injection h with h1 h2
  have e1 := num_back h2
  have e2 := num_back e1
  have e3 := num_back e2
  have e4 := txt_back e3
  have e5 := txt_back e4
  conv => lhs; rw [e5]
  rw [← h1]
  simp [plE]
theorem fx_sound : Sound fxS numB := fun s x r h => by
  injection h with h1 h2
  have e1 := num_back h2
  conv => lhs; rw [e1]
  rw [← h1]
theorem im_sound : Sound imS imE := fun s x r h => by
  injection h with h1 h2
  have e1 := num_back h2
  have e2 := txt_back e1
  have e3 := txt_back e2
  conv => lhs; rw [e3]
  rw [← h1]
  simp [imE]
theorem ex_sound : Sound exS exE := fun s x r h => by
  injection h with h1 h2
  have e1 := num_back h2
  have e2 := txt_back e1
  conv => lhs; rw [e2]
  rw [← h1]
  simp [exE]
theorem nt_sound : Sound ntS ntE := fun s x r h => by
  injection h with h1 h2
  have e1 := txt_back h2
  have e2 := txt_back e1
  conv => lhs; rw [e2]
  rw [← h1]
  simp [ntE]
def plOK (hk : Nat) (p : PlD) : Prop := p.obj.size ≤ 65536 ∧ p.sym.size ≤ 65536 ∧ (∃ k : Nat, p.kind = k ∧ k ≤ hk ∧ k ≤ 65536) ∧ (∃ k : Nat, p.pos = k ∧ k ≤ 65536) ∧ (∃ k : Nat, p.size = k ∧ k ≤ 65536)
def fxOK (a : Int) : Prop := ∃ k : Nat, a = k ∧ k ≤ 65536
def imOK (p : ImD) : Prop := p.lib.size ≤ 65536 ∧ p.sym.size ≤ 65536 ∧ fxOK p.pos
def exOK (p : ExD) : Prop := p.sym.size ≤ 65536 ∧ fxOK p.pos
def ntOK (p : NtD) : Prop := p.name.size ≤ 65536 ∧ p.text.size ≤ 65536
theorem pl_compl (hk : Nat) : Compl (plS hk) plE (plOK hk) := fun x r h => by
  obtain ⟨o, y, kd, a, z⟩ := x
  obtain ⟨h1, h2, ⟨k, h3, h4, h4'⟩, ⟨k2, h5, h6⟩, ⟨k3, h7, h8⟩⟩ := h
  simp only at h1 h2 h3 h5 h7
  subst h3 h5 h7
  have e : plE ⟨o, y, k, k2, k3⟩ ++ r = txtB o ++ (txtB y ++ (numB k ++ (numB k2 ++ (numB k3 ++ r)))) := by simp [plE]
  rw [e]
  unfold plS
  simp only [txtS_app h1 h1, txtS_app h2 h2, numS_app h4 (by omega : k ≤ 281474976710656), numS_app h6 (by omega : k2 ≤ 281474976710656), numS_app h8 (by omega : k3 ≤ 281474976710656)]
theorem fx_compl : Compl fxS numB fxOK := fun x r h => by
  obtain ⟨k, rfl, h1⟩ := h
  unfold fxS
  simp only [numS_app h1 (by omega : k ≤ 281474976710656)]
theorem im_compl : Compl imS imE imOK := fun x r h => by
  obtain ⟨o, y, a⟩ := x
  obtain ⟨h1, h2, k, h3, h4⟩ := h
  simp only at h1 h2 h3
  subst h3
  have e : imE ⟨o, y, k⟩ ++ r = txtB o ++ (txtB y ++ (numB k ++ r)) := by simp [imE]
  rw [e]
  unfold imS
  simp only [txtS_app h1 h1, txtS_app h2 h2, numS_app h4 (by omega : k ≤ 281474976710656)]
theorem ex_compl : Compl exS exE exOK := fun x r h => by
  obtain ⟨o, a⟩ := x
  obtain ⟨h1, k, h3, h4⟩ := h
  simp only at h1 h3
  subst h3
  have e : exE ⟨o, k⟩ ++ r = txtB o ++ (numB k ++ r) := by simp [exE]
  rw [e]
  unfold exS
  simp only [txtS_app h1 h1, numS_app h4 (by omega : k ≤ 281474976710656)]
theorem nt_compl : Compl ntS ntE ntOK := fun x r h => by
  obtain ⟨o, y⟩ := x
  obtain ⟨h1, h2⟩ := h
  simp only at h1 h2
  have e : ntE ⟨o, y⟩ ++ r = txtB o ++ (txtB y ++ r) := by simp [ntE]
  rw [e]
  unfold ntS
  simp only [txtS_app h1 h1, txtS_app h2 h2]
end Go.Proofs.YtnknmpcgbfmfjaaGreatDoor

namespace Go.Proofs.YtnknmpcgbfmfjaaGreatDoor
open Go Go.RowKit Go.Joins
set_option linter.unusedSimpArgs false
set_option linter.unusedVariables false

abbrev BIN : ByteArray := ⟨#[98, 105, 110, 97, 114, 121]⟩
def bnS (hk he : Nat) (s : RS) : Bn × RS :=
  (⟨((numS hk s).1 : Int), ((numS he (numS hk s).2).1 : Int) - 1, (txtS 65536 (numS he (numS hk s).2).2).1,
    (manyS (plS hk) (numS 65536 (txtS 65536 (numS he (numS hk s).2).2).2).1 (numS 65536 (txtS 65536 (numS he (numS hk s).2).2).2).2).1, [], [], [], []⟩,
    (manyS (plS hk) (numS 65536 (txtS 65536 (numS he (numS hk s).2).2).2).1 (numS 65536 (txtS 65536 (numS he (numS hk s).2).2).2).2).2)
def fixS (s : RS) : List Int × RS := manyS fxS (numS 65536 s).1 (numS 65536 s).2
def impS (s : RS) : List ImD × RS := manyS imS (numS 65536 s).1 (numS 65536 s).2
def expS (s : RS) : List ExD × RS := manyS exS (numS 65536 s).1 (numS 65536 s).2
def notS (s : RS) : List NtD × RS := manyS ntS (numS 65536 s).1 (numS 65536 s).2
def allS (hk he : Nat) (s : RS) : Bn × RS :=
  let q := bnS hk he s
  let f := fixS q.2
  let m := impS f.2
  let x := expS m.2
  let t := notS x.2
  ({ q.1 with fix := f.1, imps := m.1, exps := x.1, notes := t.1 }, t.2)
def decB (hm hk he : Nat) (l : List UInt8) : Option Bn :=
  let h := txtS hm (some l)
  let q := allS hk he h.2
  if l.length ≤ 65536 ∧ h.1 = BIN ∧ q.2 = some [] ∧ checkV q.1 = true then some q.1 else none

theorem list_back {α : Type} {one : RS → α × RS} {enc : α → List UInt8} (h : Sound one enc) {s : RS} {r : List UInt8} (e : (manyS one (numS 65536 s).1 (numS 65536 s).2).2 = some r) :
    s = some (numB ((manyS one (numS 65536 s).1 (numS 65536 s).2).1.length : Int) ++ ((manyS one (numS 65536 s).1 (numS 65536 s).2).1.flatMap enc ++ r)) := by
  obtain ⟨h1, h2⟩ := many_sound h (numS 65536 s).1 (numS 65536 s).2 _ r (by rw [← e])
  have h3 := num_back h1
  rw [h2]
  exact h3
theorem list_app {α : Type} {one : RS → α × RS} {enc : α → List UInt8} {ok : α → Prop} (h : Compl one enc ok) (xs : List α) (r : List UInt8) (hx : ∀ x ∈ xs, ok x) (hl : xs.length ≤ 65536) :
    manyS one (numS 65536 (some (numB (xs.length : Int) ++ (xs.flatMap enc ++ r)))).1 (numS 65536 (some (numB (xs.length : Int) ++ (xs.flatMap enc ++ r)))).2 = (xs, some r) := by
  rw [numS_app hl (by omega)]
  exact many_compl h xs r hx
theorem enc_eq (b : Bn) : encL b = txtB BIN ++ (numB b.kind ++ (numB (b.entry + 1) ++ (txtB b.image ++ (numB (b.places.length : Int) ++ (b.places.flatMap plE ++ (numB (b.fix.length : Int) ++ (b.fix.flatMap numB ++ (numB (b.imps.length : Int) ++ (b.imps.flatMap imE ++ (numB (b.exps.length : Int) ++ (b.exps.flatMap exE ++ (numB (b.notes.length : Int) ++ (b.notes.flatMap ntE ++ []))))))))))))) := by
  simp [encL, headE]
theorem all_sound {hk he : Nat} {s : RS} (h : (allS hk he s).2 = some []) : some (txtB BIN) = some (txtB BIN) ∧ ∃ l, s = some l ∧ encL (allS hk he s).1 = txtB BIN ++ l := by
  refine ⟨rfl, ?_⟩
  rw [enc_eq]
  unfold allS at h ⊢
  simp only at h ⊢
  have e1 := list_back nt_sound h
  have e2 := list_back ex_sound e1
  have e3 := list_back im_sound e2
  have e4 := list_back fx_sound e3
  have e5 := list_back (pl_sound hk) (s := (txtS 65536 (numS he (numS hk s).2).2).2) e4
  have e6 := txt_back e5
  have e7 := num_back e6
  have e8 := num_back e7
  refine ⟨_, e8, ?_⟩
  simp only [bnS, fixS, impS, expS, notS, Int.sub_add_cancel]
theorem all_app {hk he : Nat} (b : Bn) (hk1 : ∃ k : Nat, b.kind = k ∧ k ≤ hk ∧ k ≤ 65536) (he1 : ∃ k : Nat, b.entry + 1 = k ∧ k ≤ he ∧ k ≤ 65536) (hi : b.image.size ≤ 65536) (hp : ∀ p ∈ b.places, plOK hk p) (hf : ∀ a ∈ b.fix, fxOK a) (hm : ∀ x ∈ b.imps, imOK x) (hx : ∀ x ∈ b.exps, exOK x) (hn : ∀ x ∈ b.notes, ntOK x)
    (l1 : b.places.length ≤ 65536) (l2 : b.fix.length ≤ 65536) (l3 : b.imps.length ≤ 65536) (l4 : b.exps.length ≤ 65536) (l5 : b.notes.length ≤ 65536) :
    ∃ l, encL b = txtB BIN ++ l ∧ allS hk he (some l) = (b, some []) := by
  refine ⟨_, enc_eq b, ?_⟩
  obtain ⟨kind, entry, image, places, fix, imps, exps, notes⟩ := b
  simp only at *
  obtain ⟨k, rfl, hk2, hk3⟩ := hk1
  obtain ⟨e, hee, he2, he3⟩ := he1
  have hen : entry = (e : Int) - 1 := by omega
  rw [hee]
  unfold allS bnS
  simp only [numS_app hk2 (by omega : k ≤ 281474976710656), numS_app he2 (by omega : e ≤ 281474976710656), txtS_app hi hi]
  rw [list_app (pl_compl hk) places _ hp l1]
  simp only
  unfold fixS
  rw [list_app fx_compl fix _ hf l2]
  simp only
  unfold impS
  rw [list_app im_compl imps _ hm l3]
  simp only
  unfold expS
  rw [list_app ex_compl exps _ hx l4]
  simp only
  unfold notS
  rw [list_app nt_compl notes _ hn l5]
  rw [hen]

/-! ### what is checked is small -/
theorem name_le {s : ByteArray} (h : nameV s = true) : s.size ≤ 32 := by
  unfold nameV at h
  rw [Bool.and_eq_true] at h
  have h := h.1
  unfold formV at h
  split at h
  · cases h
  · simp only [Bool.and_eq_true, decide_eq_true_eq] at h; exact h.2
theorem path_le {s : ByteArray} (h : pathOK s = true) : s.size ≤ 128 := by
  unfold pathOK at h
  simp only [Bool.and_eq_true, decide_eq_true_eq] at h
  exact h.1.1
theorem cut_len (l : List UInt8) : l.length ≤ (Lib.cut l [33]).1.length + 1 + (Lib.cut l [33]).2.1.length ∧ ((Lib.cut l [33]).2.2 = false → (Lib.cut l [33]).2.1 = []) := by
  unfold Lib.cut
  split
  · simp only [List.length_take, List.length_drop, List.length_cons, List.length_nil]
    exact ⟨by omega, fun h => by cases h⟩
  · exact ⟨by simp only [List.length_nil]; omega, fun _ => rfl⟩
theorem named_le {s : ByteArray} (h : namedV s = true) : s.size ≤ 257 := by
  unfold namedV at h
  rw [Bool.and_eq_true, Bool.or_eq_true] at h
  obtain ⟨h1, h2⟩ := h
  have h1 := path_le h1
  obtain ⟨c1, c2⟩ := cut_len s.data.toList
  rw [size_S] at h1
  rw [size_eq]
  rcases h2 with h2 | h2
  · have := c2 (by simpa using h2)
    rw [this] at c1
    simp only [List.length_nil] at c1
    omega
  · have h2 := path_le h2
    rw [size_S] at h2
    omega
theorem placed_all {img : ByteArray} : ∀ {l : List PlD} {e z : Nat} {seen : List (ByteArray × ByteArray)}, placedGo img l e seen = some z → ∀ p ∈ l, ∃ e', placeOK img e' p = true
  | [], e, z, seen, h, p, hp => by cases hp
  | q :: r, e, z, seen, h, p, hp => by
    rw [placedGo] at h
    split at h
    · rename_i hc
      rcases List.mem_cons.1 hp with rfl | hp
      · exact ⟨e, hc.2⟩
      · exact placed_all h p hp
    · cases h
theorem fix_all {ps : List PlD} {img : ByteArray} : ∀ {l T : List Int}, fixGo ps img l T = true → ∀ a ∈ l, withinV ps a = true
  | [], T, h, a, ha => by cases ha
  | x :: r, T, h, a, ha => by
    rw [fixGo, Bool.and_eq_true] at h
    rcases List.mem_cons.1 ha with rfl | ha
    · have := h.1
      unfold fixOK takeV at this
      simp only [Bool.and_eq_true] at this
      exact this.1.2.1
    · exact fix_all h.2 a ha
theorem imp_all {ps : List PlD} {img : ByteArray} {F : List Int} : ∀ {l : List ImD} {P : List Int}, impGo ps img F l P = true → ∀ x ∈ l, withinV ps x.pos = true ∧ pathOK x.lib = true ∧ nameV x.sym = true
  | [], P, h, a, ha => by cases ha
  | y :: r, P, h, x, hx => by
    rw [impGo, Bool.and_eq_true] at h
    rcases List.mem_cons.1 hx with rfl | hx
    · have := h.1
      unfold impOK takeV at this
      simp only [Bool.and_eq_true] at this
      exact ⟨this.1.1.1.2.1, this.1.2, this.2⟩
    · exact imp_all h.2 x hx
theorem exp_all {ps : List PlD} {l : List ExD} (h : exportedV ps l = true) : ∀ x ∈ l, ∃ p ∈ ps, p.sym = x.sym ∧ p.pos = x.pos := by
  intro x hx
  obtain ⟨i, hi, rfl⟩ := List.mem_iff_getElem.1 hx
  unfold exportedV at h
  rw [List.all_eq_true] at h
  have := h i (List.mem_range.2 hi)
  unfold expOK at this
  rw [List.getElem?_eq_getElem hi] at this
  simp only [Bool.and_eq_true] at this
  obtain ⟨p, hp, hq⟩ := List.any_eq_true.1 this.2
  unfold expV at hq
  simp only [Bool.and_eq_true, decide_eq_true_eq] at hq
  exact ⟨p, hp, hq⟩
theorem note_all : ∀ {l : List NtD} {seen : List ByteArray}, notedGo l seen = true → ∀ p ∈ l, noteOK p = true
  | [], seen, h, p, hp => by cases hp
  | q :: r, seen, h, p, hp => by
    rw [notedGo] at h
    split at h
    · rename_i hc
      rcases List.mem_cons.1 hp with rfl | hp
      · exact hc.2
      · exact note_all h p hp
    · cases h
theorem place_ok {img : ByteArray} {e : Nat} {p : PlD} (hi : img.size ≤ 65536) (h : placeOK img e p = true) : plOK 2 p ∧ nameV p.sym = true ∧ 0 ≤ p.pos := by
  unfold placeOK at h
  simp only [Bool.and_eq_true, decide_eq_true_eq] at h
  obtain ⟨⟨⟨⟨⟨⟨h1, h2⟩, h3⟩, h4⟩, h5⟩, h6⟩, h7⟩ := h
  have a1 := named_le h1
  have a2 := name_le h2
  unfold kindOK at h3
  simp only [Bool.or_eq_true, Bool.and_eq_true, decide_eq_true_eq, beq_iff_eq] at h3
  refine ⟨⟨by omega, by omega, ⟨p.kind.toNat, by omega, by omega, by omega⟩, ⟨p.pos.toNat, by omega, by omega⟩, ⟨p.size.toNat, by omega, by omega⟩⟩, h2, by omega⟩
structure ChkOK (b : Bn) : Prop where
  kind : ∃ k : Nat, b.kind = k ∧ k ≤ 2 ∧ k ≤ 65536
  entry : ∃ k : Nat, b.entry + 1 = k ∧ k ≤ 1 ∧ k ≤ 65536
  img : b.image.size ≤ 65536
  pl : ∀ p ∈ b.places, plOK 2 p
  fx : ∀ a ∈ b.fix, fxOK a
  im : ∀ x ∈ b.imps, imOK x
  ex : ∀ x ∈ b.exps, exOK x
  nt : ∀ x ∈ b.notes, ntOK x
  l1 : b.places.length ≤ 65536
  l5 : b.notes.length ≤ 65536
theorem check_ok {b : Bn} (h : checkV b = true) : ChkOK b := by
  unfold checkV at h
  simp only [Bool.and_eq_true, Bool.or_eq_true, decide_eq_true_eq] at h
  obtain ⟨⟨⟨hp, hw⟩, hn⟩, hk⟩ := h
  have P := placed_ok hp
  have hpg : placedGo b.image b.places 0 [] = some b.image.size := by
    unfold placedV at hp
    simp only [Bool.and_eq_true, decide_eq_true_eq] at hp
    exact hp.2
  have pall : ∀ p ∈ b.places, plOK 2 p ∧ nameV p.sym = true ∧ 0 ≤ p.pos := fun p hp => by
    obtain ⟨e, he⟩ := placed_all hpg p hp
    exact place_ok P.le he
  unfold wordsV at hw
  rw [Bool.and_eq_true] at hw
  have hwi : ∀ a, withinV b.places a = true → fxOK a := fun a ha => by
    have := within_bd P ha
    have := P.le
    exact ⟨a.toNat, by omega, by omega⟩
  unfold notedV at hn
  rw [Bool.and_eq_true, decide_eq_true_eq] at hn
  refine ⟨?_, ?_, P.le, fun p hp => (pall p hp).1, fun a ha => hwi a (fix_all hw.1 a ha), fun x hx => ?_, ?_, fun x hx => ?_, by have := P.len; omega, by omega⟩
  · rcases hk with hk | hk
    · exact ⟨1, by omega, by omega, by omega⟩
    · exact ⟨2, by omega, by omega, by omega⟩
  · rcases hk with hk | hk
    · exact ⟨1, by omega, by omega, by omega⟩
    · exact ⟨0, by omega, by omega, by omega⟩
  · obtain ⟨i1, i2, i3⟩ := imp_all hw.2 x hx
    have := path_le i2
    have := name_le i3
    exact ⟨by omega, by omega, hwi _ i1⟩
  · rcases hk with hk | hk
    · intro x hx
      rw [List.eq_nil_of_length_eq_zero hk.2] at hx
      cases hx
    · intro x hx
      obtain ⟨p, hp, e1, e2⟩ := exp_all hk.2 x hx
      obtain ⟨q1, q2, q3⟩ := pall p hp
      have := name_le q2
      obtain ⟨_, _, _, ⟨k, q4, q5⟩, _⟩ := q1
      exact ⟨by rw [← e1]; omega, k, by rw [← e2]; exact q4, q5⟩
  · have := note_all hn.1 x hx
    unfold noteOK at this
    simp only [Bool.and_eq_true, decide_eq_true_eq] at this
    have := name_le this.1
    exact ⟨by omega, by omega⟩
theorem flat_ge {α : Type} {enc : α → List UInt8} {ok : α → Prop} (h : ∀ x, ok x → 1 ≤ (enc x).length) : ∀ l : List α, (∀ x ∈ l, ok x) → l.length ≤ (l.flatMap enc).length
  | [], _ => Nat.le_refl _
  | x :: r, hx => by
    have := flat_ge h r (fun y hy => hx y (List.mem_cons_of_mem _ hy))
    have := h x (hx x (List.mem_cons_self ..))
    rw [List.flatMap_cons, List.length_append, List.length_cons]; omega
theorem txt_pos {s : ByteArray} (h : s.size ≤ 65536) : 1 ≤ (txtB s).length := by rw [txtB_le h]; simp; omega
theorem num_pos {a : Int} (h : fxOK a) : 1 ≤ (numB a).length := by
  obtain ⟨k, rfl, h⟩ := h
  rw [numB_nat (by omega)]; simp
theorem dec_iff {hm hk he : Nat} (hm1 : 6 ≤ hm) (hk1 : 2 ≤ hk) (he1 : 1 ≤ he) (l : List UInt8) (b : Bn) : decB hm hk he l = some b ↔ l.length ≤ 65536 ∧ checkV b = true ∧ l = encL b := by
  unfold decB
  simp only
  constructor
  · intro h
    split at h
    · rename_i hc
      obtain ⟨h1, h2, h3, h4⟩ := hc
      injection h with h
      rw [h] at h4
      refine ⟨h1, h4, ?_⟩
      obtain ⟨_, l', e1, e2⟩ := all_sound h3
      rw [h] at e2
      have := (txtS_some (t := BIN) (r := l') (s := some l) (most := hm) (by rw [← h2, ← e1])).1
      rw [e2]
      exact Option.some.inj this
    · cases h
  · rintro ⟨h1, h2, rfl⟩
    have C := check_ok h2
    have hlen : b.fix.length ≤ 65536 ∧ b.imps.length ≤ 65536 ∧ b.exps.length ≤ 65536 := by
      have f1 := flat_ge (enc := numB) (ok := fxOK) (fun x hx => num_pos hx) b.fix C.fx
      have f2 := flat_ge (enc := imE) (ok := imOK) (fun x hx => by unfold imE; have := txt_pos hx.1; simp only [List.flatMap_cons, List.length_append]; omega) b.imps C.im
      have f3 := flat_ge (enc := exE) (ok := exOK) (fun x hx => by unfold exE; have := txt_pos hx.1; simp only [List.flatMap_cons, List.length_append]; omega) b.exps C.ex
      rw [enc_eq] at h1
      simp only [List.length_append] at h1
      omega
    obtain ⟨k, k1, k2, k3⟩ := C.kind
    obtain ⟨e, e1, e2, e3⟩ := C.entry
    obtain ⟨l', a1, a2⟩ := all_app (hk := hk) (he := he) b ⟨k, k1, by omega, k3⟩ ⟨e, e1, by omega, e3⟩ C.img (fun p hp => by
      obtain ⟨q1, q2, ⟨j, q3, q4, q5⟩, q6⟩ := C.pl p hp
      exact ⟨q1, q2, ⟨j, q3, by omega, q5⟩, q6⟩) C.fx C.im C.ex C.nt C.l1 hlen.1 hlen.2.1 hlen.2.2 C.l5
    have ht : txtS hm (some (encL b)) = (BIN, some l') := by
      rw [a1]
      exact txtS_app (by decide) (by show 6 ≤ hm; exact hm1) l'
    rw [ht]
    simp only
    rw [a2]
    simp only
    rw [if_pos ⟨h1, trivial, trivial, h2⟩]
theorem dec_same {hm hk he hm' hk' he' : Nat} (hm1 : 6 ≤ hm) (hk1 : 2 ≤ hk) (he1 : 1 ≤ he) (hm2 : 6 ≤ hm') (hk2 : 2 ≤ hk') (he2 : 1 ≤ he') (l : List UInt8) : decB hm hk he l = decB hm' hk' he' l := by
  apply Option.ext
  intro b
  rw [dec_iff hm1 hk1 he1, dec_iff hm2 hk2 he2]
end Go.Proofs.YtnknmpcgbfmfjaaGreatDoor

