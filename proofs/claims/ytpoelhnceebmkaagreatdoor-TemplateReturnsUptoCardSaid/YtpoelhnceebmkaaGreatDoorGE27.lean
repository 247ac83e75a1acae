/- What Find finds is in order, apart, matched, and the best: plain facts. No conditions. What a filled template's words are, that it is matched and found: plain facts. No conditions. The law TemplateFills, walked: true at every template and fillers whose strings are no longer than 2000000 bytes. The law TemplateFills, walked: true at every template and fillers whose strings are no longer than 2000000 bytes. -/
import Derived.Test.YtpoelhnceebmkaaGreatDoorGE8
import Derived.Test.YtpoelhnceebmkaaGreatDoorGE24

namespace Go.Proofs.YtpoelhnceebmkaaGreatDoor
open Go Go.RowKit Go.Shelf
set_option linter.unusedSimpArgs false
set_option linter.unusedVariables false

/-- What the best of the first k templates at place a is. -/
def BestOf (l : List Tm) (words : List ByteArray) (a k : Nat) (b : Fd) : Prop :=
  (b.2.2 = 0 → ∀ j t, j < k → l[j]? = some t → matchT t.2 words a = none) ∧
  (b.2.2 ≠ 0 → b.2.1 = a ∧ b.1 < k ∧ (∃ t, l[b.1]? = some t ∧ matchT t.2 words a = some b.2.2) ∧ ∀ j t e, j < k → l[j]? = some t → matchT t.2 words a = some e → e ≤ b.2.2 ∧ (e = b.2.2 → b.1 ≤ j))
theorem matchT_good {ps : List Pt} {words : List ByteArray} {a : Nat} (h : checkV ps = 0) (ha : a < words.length) : matchT ps words a = matchV ps words a := by
  unfold matchT
  rw [if_pos ⟨h, by omega, by omega⟩, Int.toNat_natCast]
theorem matchT_bad {ps : List Pt} {words : List ByteArray} {a : Int} (h : checkV ps ≠ 0) : matchT ps words a = none := matchT_no (fun q => h q.1)
theorem bestOf_step {l : List Tm} {words : List ByteArray} {a k : Nat} {b : Fd} {t : Tm} (ha : a < words.length) (ht : l[k]? = some t) (h : BestOf l words a k b) : BestOf l words a (k + 1) (if checkV t.2 = 0 then betterV l words a b k else b) := by
  have keep : matchT t.2 words a = none → BestOf l words a (k + 1) b := fun hn => by
    refine ⟨fun h0 j t' hj ht' => ?_, fun h0 => ?_⟩
    · by_cases e : j = k
      · subst e; rw [ht] at ht'; cases ht'; exact hn
      · exact h.1 h0 j t' (by omega) ht'
    · obtain ⟨h1, h2, h3, h4⟩ := h.2 h0
      refine ⟨h1, by omega, h3, fun j t' e hj ht' he => ?_⟩
      by_cases ej : j = k
      · subst ej; rw [ht] at ht'; cases ht'; rw [hn] at he; cases he
      · exact h4 j t' e (by omega) ht' he
  by_cases hc : checkV t.2 = 0
  · rw [if_pos hc]
    have hm := matchT_good (words := words) hc ha
    cases hv : matchV t.2 words a with
    | none => rw [better_none ht hv]; exact keep (hm.trans hv)
    | some e9 =>
      rw [better_some ht hv]
      have hm9 := hm.trans hv
      have hgt := matchV_gt hc hv
      by_cases hb : b.2.2 < e9
      · rw [if_pos hb]
        refine ⟨fun h0 => by have : e9 = 0 := h0; omega, fun _ => ⟨rfl, by show k < k + 1; omega, ⟨t, ht, hm9⟩, fun j t' e hj ht' he => ?_⟩⟩
        show e ≤ e9 ∧ (e = e9 → k ≤ j)
        by_cases ej : j = k
        · subst ej; rw [ht] at ht'; cases ht'; rw [hm9] at he; cases he; exact ⟨Nat.le_refl _, fun _ => Nat.le_refl _⟩
        · by_cases h0 : b.2.2 = 0
          · rw [h.1 h0 j t' (by omega) ht'] at he; cases he
          · have := (h.2 h0).2.2.2 j t' e (by omega) ht' he
            exact ⟨by omega, fun q => by omega⟩
      · rw [if_neg hb]
        have h0 : b.2.2 ≠ 0 := by omega
        obtain ⟨h1, h2, h3, h4⟩ := h.2 h0
        refine ⟨fun q => absurd q h0, fun _ => ⟨h1, by omega, h3, fun j t' e hj ht' he => ?_⟩⟩
        by_cases ej : j = k
        · subst ej; rw [ht] at ht'; cases ht'; rw [hm9] at he; cases he; exact ⟨by omega, fun _ => by omega⟩
        · exact h4 j t' e (by omega) ht' he
  · rw [if_neg hc]; exact keep (matchT_bad hc)
theorem bestOf_take {l : List Tm} {words : List ByteArray} {a : Nat} (ha : a < words.length) : ∀ k, k ≤ l.length → BestOf l words a k (bestV l words a (goodV 0 (l.take k)))
  | 0, _ => ⟨fun _ j t hj => by omega, fun h => absurd rfl h⟩
  | k + 1, hk => by
    have hk2 : k < l.length := by omega
    have ht : l[k]? = some l[k] := List.getElem?_eq_getElem hk2
    have ih := bestOf_take (l := l) ha k (by omega)
    rw [best_take ht]
    exact bestOf_step ha ht ih
theorem bestOf_all {l : List Tm} {words : List ByteArray} {a : Nat} (ha : a < words.length) : BestOf l words a l.length (bestV l words a (goodV 0 l)) := by
  have := bestOf_take (l := l) ha l.length (Nat.le_refl _)
  rwa [List.take_length] at this

/-- A find as the program has it: the template may be -1. -/
abbrev Fi := Int × Nat × Nat
def toI (b : Fd) : Fi := ((b.1 : Int), b.2.1, b.2.2)
/-- From place a on all is as it should be. -/
def Fine (l : List Tm) (words : List ByteArray) : Nat → List Fi → Prop
  | _, [] => True
  | a, m :: r => a ≤ m.2.1 ∧ m.2.1 ≤ m.2.2 ∧ m.2.2 ≤ words.length ∧ m.1 < l.length ∧ -1 ≤ m.1 ∧ (∀ i, a ≤ i → i < m.2.1 → ∀ (k : Nat) (t : Tm), l[k]? = some t → matchT t.2 words i = none) ∧
      (m.2.1 < words.length → ∀ (k : Nat) (t : Tm), l[k]? = some t → (∀ e, matchT t.2 words m.2.1 = some e → e ≤ m.2.2 ∧ (e = m.2.2 → m.1 ≤ k)) ∧ ((k : Int) = m.1 → matchT t.2 words m.2.1 = some m.2.2)) ∧ Fine l words m.2.2 r
theorem Fine.low {l : List Tm} {words : List ByteArray} {a : Nat} {m : Fi} {r : List Fi} (h : Fine l words (a + 1) (m :: r)) (hn : ∀ (k : Nat) (t : Tm), l[k]? = some t → matchT t.2 words a = none) : Fine l words a (m :: r) := by
  obtain ⟨h1, h2, h3, h4, h5, h6, h7, h8⟩ := h
  refine ⟨by omega, h2, h3, h4, h5, fun i hi hi2 k t ht => ?_, h7, h8⟩
  by_cases e : i = a
  · subst e; exact hn k t ht
  · exact h6 i (by omega) hi2 k t ht
theorem fine_find (l : List Tm) (words : List ByteArray) : ∀ (f a : Nat), a ≤ words.length → words.length - a ≤ f → Fine l words a ((findV l words (goodV 0 l) f a).map toI ++ [((-1 : Int), words.length, words.length)]) := by
  have stop : ∀ a, a = words.length → Fine l words a [((-1 : Int), words.length, words.length)] := fun a ha =>
    ⟨by show a ≤ words.length; omega, Nat.le_refl _, Nat.le_refl _, by show (-1 : Int) < _; omega, Int.le_refl _, fun i h1 h2 => by have : i < words.length := h2; omega, fun h => by have : words.length < words.length := h; omega, trivial⟩
  intro f
  induction f with
  | zero => intro a h1 h2; exact stop a (by omega)
  | succ f ih =>
    intro a h1 h2
    rw [findV]
    by_cases ha : a < words.length
    · rw [if_pos ha]
      have hB := bestOf_all (l := l) ha
      have hgt := bestV_gt (l := l) (words := words) (a := a) (good := goodV 0 l) (fun k hk => by obtain ⟨_, t, q1, q2⟩ := goodV_mem l 0 k hk; exact ⟨t, by simpa using q1, q2⟩)
      generalize bestV l words a (goodV 0 l) = b at *
      by_cases hb : b.2.2 = 0
      · rw [if_pos hb]
        have h3 := ih (a + 1) (by omega) (by omega)
        have hn : ∀ (k : Nat) (t : Tm), l[k]? = some t → matchT t.2 words a = none := fun k t ht => hB.1 hb k t (List.getElem?_eq_some_iff.1 ht).1 ht
        cases hq : (findV l words (goodV 0 l) f (a + 1)).map toI ++ [((-1 : Int), words.length, words.length)] with
        | nil => simp at hq
        | cons m r => rw [hq] at h3; exact h3.low hn
      · rw [if_neg hb, List.map_cons, List.cons_append]
        obtain ⟨q1, q2, ⟨t0, q3, q4⟩, q5⟩ := hB.2 hb
        obtain ⟨g1, g2⟩ := hgt hb
        refine ⟨by show a ≤ b.2.1; omega, by show b.2.1 ≤ b.2.2; omega, g2, by show (b.1 : Int) < _; omega, by show (-1 : Int) ≤ (b.1 : Int); omega, fun i h3 h4 => by have : i < b.2.1 := h4; omega, fun _ k t ht => ?_, ih b.2.2 g2 (by omega)⟩
        show (∀ e, matchT t.2 words (b.2.1 : Nat) = some e → e ≤ b.2.2 ∧ (e = b.2.2 → (b.1 : Int) ≤ k)) ∧ ((k : Int) = (b.1 : Int) → matchT t.2 words (b.2.1 : Nat) = some b.2.2)
        rw [q1]
        refine ⟨fun e he => ?_, fun hk => ?_⟩
        · have := q5 k t e (List.getElem?_eq_some_iff.1 ht).1 ht he
          exact ⟨this.1, fun h => by have := this.2 h; omega⟩
        · obtain rfl : k = b.1 := by omega
          rw [q3] at ht; cases ht; exact q4
    · rw [if_neg ha]; exact stop a (by omega)
end Go.Proofs.YtpoelhnceebmkaaGreatDoor

namespace Go.Proofs.YtpoelhnceebmkaaGreatDoor
open Go Go.RowKit Go.Shelf
set_option linter.unusedSimpArgs false
set_option linter.unusedVariables false

/-- The words of a rest behind what a word has so far. -/
def wg : List UInt8 → List UInt8 → List (List UInt8)
  | cur, [] => if cur = [] then [] else [cur]
  | cur, c :: r => if sm c = 0 then (if cur = [] then [] else [cur]) ++ wg [] r else wg (cur ++ [sm c]) r
theorem spF_wg : ∀ (l : List UInt8) (i f : Nat) (cur : List UInt8), (spF i f cur l).map (·.2) = wg cur l
  | [], i, f, cur => by rw [spF, wg]; split <;> rfl
  | c :: r, i, f, cur => by
    rw [spF, wg]
    split
    · rw [List.map_append, spF_wg]
      split <;> rfl
    · exact spF_wg r _ _ _
theorem wordsL_wg (l : List UInt8) : wordsL l = (wg [] l).map S := by
  rw [wordsL, spansV, ← spF_wg l 0 0 [], List.map_map]
  rfl
theorem okC_self {c : UInt8} (h : okC c = true) : sm c = c ∧ sm c ≠ 0 := by
  obtain ⟨h1, h2⟩ := (okC_sm c).1 h
  have e : sm c = c := UInt8.toNat_inj.1 (by rw [sm_nat]; exact h1)
  exact ⟨e, fun q => h2 ((sm_zero c).1 q)⟩
theorem wg_word : ∀ (x cur r : List UInt8), x.all okC = true → wg cur (x ++ r) = wg (cur ++ x) r
  | [], cur, r, _ => by rw [List.nil_append, List.append_nil]
  | c :: x, cur, r, h => by
    rw [List.all_cons, Bool.and_eq_true] at h
    obtain ⟨h1, h2⟩ := okC_self h.1
    rw [List.cons_append, wg, if_neg h2, h1, wg_word x _ r h.2, List.append_assoc]; rfl
theorem wg_gap (cur r : List UInt8) (c : UInt8) (hc : sm c = 0) (h : cur ≠ []) : wg cur (c :: r) = cur :: wg [] r := by
  rw [wg, if_pos hc, if_neg h]; rfl
theorem wg_gap0 (r : List UInt8) (c : UInt8) (hc : sm c = 0) : wg [] (c :: r) = wg [] r := by
  rw [wg, if_pos hc, if_pos rfl]; rfl
theorem okW_parts {x : ByteArray} (h : okW x = true) : x.data.toList ≠ [] ∧ x.data.toList.all okC = true := by
  unfold okW at h
  rw [Bool.and_eq_true, decide_eq_true_eq] at h
  exact ⟨fun e => by have := h.1; rw [size_eq, e] at this; simp at this, h.2⟩
theorem wg_tail : ∀ (ws : List ByteArray) (cur : List UInt8), cur ≠ [] → allOk ws = true → wg cur (Lib.joinTail [32] (ws.map (·.data.toList))) = cur :: ws.map (·.data.toList)
  | [], cur, h, _ => by rw [List.map_nil]; show wg cur [] = _; rw [wg, if_neg h]
  | x :: ws, cur, h, ho => by
    rw [allOk, List.all_cons, Bool.and_eq_true] at ho
    obtain ⟨h1, h2⟩ := okW_parts ho.1
    have e : Lib.joinTail [32] ((x :: ws).map (·.data.toList)) = 32 :: (x.data.toList ++ Lib.joinTail [32] (ws.map (·.data.toList))) := by simp [Lib.joinTail]
    rw [e, wg_gap _ _ _ (by decide) h, wg_word _ _ _ h2, List.nil_append, wg_tail ws _ h1 ho.2]; rfl
theorem wordsL_join (ws : List ByteArray) (h : allOk ws = true) : wordsL (joinV ws).data.toList = ws := by
  rw [wordsL_wg]
  have S_ : ∀ l : List ByteArray, (l.map (·.data.toList)).map S = l := fun l => by
    rw [List.map_map]
    exact (List.map_congr_left (fun x _ => by show S x.data.toList = x; rw [S_data])).trans (List.map_id l)
  cases ws with
  | nil => rfl
  | cons x r =>
    rw [allOk, List.all_cons, Bool.and_eq_true] at h
    obtain ⟨h1, h2⟩ := okW_parts h.1
    have e : (joinV (x :: r)).data.toList = x.data.toList ++ Lib.joinTail [32] (r.map (·.data.toList)) := by
      simp [joinV, Lib.join_cons]
    rw [e, wg_word _ _ _ h2, List.nil_append, wg_tail r _ h1 h.2]
    exact S_ (x :: r)

def fillL : List ByteArray → List (List ByteArray) → List Pt → List ByteArray
  | out, l :: ls, p :: r => fillL (out ++ l ++ p.2) ls r
  | out, _, _ => out
def Fits : List (List ByteArray) → List Pt → Prop
  | l :: ls, p :: r => ((l.length : Int) ≤ p.1 ∧ allOk l = true) ∧ Fits ls r
  | _, _ => True
theorem fillGo_zero : ∀ (ls : List (List ByteArray)) (r : List Pt) (out : List ByteArray), (fillGo out ls r).2 = 0 → (fillGo out ls r).1 = joinV (fillL out ls r) ∧ Fits ls r
  | [], r, out, _ => by
    cases r <;> exact ⟨rfl, trivial⟩
  | l :: ls, [], out, _ => ⟨rfl, trivial⟩
  | l :: ls, p :: r, out, h => by
    rw [fillGo] at h ⊢
    split at h
    · exact absurd h (by decide)
    · rename_i h1
      rw [if_neg h1]
      split at h
      · rename_i h2
        rw [if_pos h2]
        obtain ⟨h3, h4⟩ := fillGo_zero ls r _ h
        exact ⟨h3, ⟨by omega, h2⟩, h4⟩
      · exact absurd h (by decide)
theorem allOk_app {a b : List ByteArray} (h : allOk a = true) (k : allOk b = true) : allOk (a ++ b) = true := by
  unfold allOk at *
  rw [List.all_append, h, k]; rfl
theorem fillL_ok : ∀ (ls : List (List ByteArray)) (r : List Pt) (out : List ByteArray), allOk out = true → Fits ls r → (∀ p ∈ r, allOk p.2 = true) → allOk (fillL out ls r) = true
  | [], r, out, h, _, _ => by cases r <;> exact h
  | l :: ls, [], out, h, _, _ => h
  | l :: ls, p :: r, out, h, hf, hr => by
    rw [fillL]
    exact fillL_ok ls r _ (allOk_app (allOk_app h hf.1.2) (hr p (by simp))) hf.2 (fun q hq => hr q (by simp [hq]))
theorem fillL_pre : ∀ (ls : List (List ByteArray)) (r : List Pt) (out : List ByteArray), ∃ s, fillL out ls r = out ++ s
  | [], r, out => by cases r <;> exact ⟨[], (List.append_nil _).symm⟩
  | l :: ls, [], out => ⟨[], (List.append_nil _).symm⟩
  | l :: ls, p :: r, out => by
    rw [fillL]
    obtain ⟨s, hs⟩ := fillL_pre ls r (out ++ l ++ p.2)
    exact ⟨l ++ p.2 ++ s, by rw [hs]; simp⟩
theorem stands_mid (a p s : List ByteArray) : standsV p (a ++ p ++ s) a.length = true := by
  unfold standsV
  rw [Bool.and_eq_true, decide_eq_true_eq, decide_eq_true_eq]
  refine ⟨by simp, ?_⟩
  rw [List.append_assoc, List.drop_left, List.take_left]
theorem ends_fill : ∀ (ls : List (List ByteArray)) (r : List Pt) (out : List ByteArray) (T : Nat → Bool), ls.length = r.length → Fits ls r → T out.length = true → endsV (fillL out ls r) r T (fillL out ls r).length = true
  | [], [], out, T, _, _, hT => hT
  | l :: ls, p :: r, out, T, hl, hf, hT => by
    obtain ⟨s, hs⟩ := fillL_pre ls r (out ++ l ++ p.2)
    have hst : stepE p.2 (fillL (out ++ l ++ p.2) ls r) p.1.toNat T (out ++ l ++ p.2).length = true := by
      rw [hs]
      unfold stepE
      simp only [Bool.and_eq_true, decide_eq_true_eq, List.any_eq_true, List.mem_range]
      have e : (out ++ l ++ p.2).length - p.2.length = (out ++ l).length := by simp; omega
      refine ⟨⟨by simp; omega, ?_⟩, l.length, by have := hf.1.1; omega, ?_, ?_⟩
      · rw [e]; exact stands_mid (out ++ l) p.2 s
      · rw [e]; simp
      · rw [e]
        have : (out ++ l).length - l.length = out.length := by simp
        rw [this]; exact hT
    rw [fillL, endsV]
    exact ends_fill ls r _ _ (by simpa using hl) hf.2 hst
theorem least_some {T : Nat → Bool} {M j : Nat} (h : T j = true) (hj : j ≤ M) : ∃ e, leastV T M = some e ∧ e ≤ M := by
  cases hl : leastV T M with
  | none =>
    unfold leastV at hl
    rw [List.find?_eq_none] at hl
    exact absurd h (hl j (by simp; omega))
  | some e =>
    unfold leastV at hl
    exact ⟨e, rfl, by have := List.mem_of_find?_eq_some hl; simp at this; omega⟩
/-- A filled template is matched at 0. -/
theorem match_fill {p0 : Pt} {r : List Pt} {ls : List (List ByteArray)} (hc : checkV (p0 :: r) = 0) (hl : ls.length = r.length) (hf : Fits ls r) :
    ∃ e, matchT (p0 :: r) (fillL p0.2 ls r) 0 = some e ∧ e ≤ (fillL p0.2 ls r).length ∧ 0 < e ∧ 0 < (fillL p0.2 ls r).length := by
  obtain ⟨q0, r', heq, _, hne, _⟩ := check_ok hc
  injection heq with e1 e2
  subst e1 e2
  obtain ⟨s, hs⟩ := fillL_pre ls r p0.2
  have h0 := List.length_pos_iff.2 hne
  have hlen : 0 < (fillL p0.2 ls r).length := by rw [hs, List.length_append]; omega
  have hst : standsV p0.2 (fillL p0.2 ls r) 0 = true := by rw [hs]; exact stands_mid [] p0.2 s
  obtain ⟨e, he, hle⟩ := least_some (ends_fill ls r p0.2 (fun j => decide (j = 0 + p0.2.length)) hl hf (by simp)) (Nat.le_refl _)
  have hm : matchV (p0 :: r) (fillL p0.2 ls r) 0 = some e := by
    rw [matchV, if_pos hst]; exact he
  have hgt := matchV_gt hc hm
  exact ⟨e, by rw [matchT, if_pos ⟨hc, by omega, by omega⟩]; exact hm, hle, by omega, hlen⟩
/-- It is found at 0 first. -/
theorem find_fill {nm : ByteArray} {ps : List Pt} {out : List ByteArray} {e : Nat} (hm : matchT ps out 0 = some e) (h0 : 0 < out.length) (he : 0 < e) :
    ∃ rest, findV [(nm, ps)] out (goodV 0 [(nm, ps)]) out.length 0 = (0, 0, e) :: rest := by
  have hm' : matchT ps out ((0 : Nat) : Int) = some e := hm
  have hB := bestOf_all (l := [(nm, ps)]) (words := out) (a := 0) h0
  obtain ⟨f, hf⟩ : ∃ f, out.length = f + 1 := ⟨out.length - 1, by omega⟩
  rw [hf, findV, if_pos h0]
  generalize bestV [(nm, ps)] out 0 (goodV 0 [(nm, ps)]) = b at *
  have hb : b.2.2 ≠ 0 := fun hz => by
    have := hB.1 hz 0 (nm, ps) (by simp) rfl
    rw [show ((nm, ps) : Tm).2 = ps from rfl, hm'] at this; cases this
  obtain ⟨h1, h2, ⟨t, h3, h4⟩, h5⟩ := hB.2 hb
  have hb1 : b.1 = 0 := by simpa using h2
  rw [hb1] at h3
  obtain rfl : (nm, ps) = t := by simpa using h3
  have h6 : b.2.2 = e := by rw [show ((nm, ps) : Tm).2 = ps from rfl, hm'] at h4; exact (Option.some.inj h4).symm
  rw [if_neg hb]
  obtain ⟨b1, b2, b3⟩ := b
  simp only at h1 hb1 h6
  subst h1 hb1 h6
  exact ⟨_, rfl⟩
end Go.Proofs.YtpoelhnceebmkaaGreatDoor

namespace Go.Proofs.YtpoelhnceebmkaaGreatDoor
open Go Go.RowKit Go.Shelf
set_option linter.unusedSimpArgs false
set_option linter.unusedVariables false

theorem fillV_fail {ps : List Pt} {ls : List (List ByteArray)} (h : (fillV ps ls).2 ≠ 0) : (fillV ps ls).1 = ⟨#[]⟩ := by
  have go : ∀ (ls : List (List ByteArray)) (r : List Pt) (out : List ByteArray), (fillGo out ls r).2 ≠ 0 → (fillGo out ls r).1 = ⟨#[]⟩ := by
    intro ls
    induction ls with
    | nil => intro r out h; cases r <;> exact absurd rfl h
    | cons l ls ih =>
      intro r out h
      cases r with
      | nil => exact absurd rfl h
      | cons p r =>
        rw [fillGo] at h ⊢
        split
        · rfl
        · rename_i h1
          rw [if_neg h1] at h
          split
          · rename_i h2
            rw [if_pos h2] at h
            exact ih r _ h
          · rfl
  rw [fillV] at h ⊢
  split
  · rfl
  · rename_i h1
    rw [if_neg h1] at h
    split
    · rfl
    · rename_i h2
      rw [if_neg h2] at h
      cases ps with
      | nil => rfl
      | cons p r => exact go ls r p.2 h
/-- A text that was filled: its words, in one. -/
theorem fillV_ok {ps : List Pt} {ls : List (List ByteArray)} (h : (fillV ps ls).2 = 0) :
    ∃ p0 r, ps = p0 :: r ∧ checkV ps = 0 ∧ ls.length = r.length ∧ (fillV ps ls).1 = joinV (fillL p0.2 ls r) ∧ Fits ls r ∧ allOk (fillL p0.2 ls r) = true := by
  rw [fillV] at h ⊢
  split at h
  · rename_i h1; exact absurd h h1
  · rename_i h1
    rw [if_neg h1]
    have hc : checkV ps = 0 := Classical.byContradiction h1
    split at h
    · exact absurd h (by decide)
    · rename_i h2
      rw [if_neg h2]
      obtain ⟨p0, r, rfl, _, _, hok, hh, _⟩ := check_ok hc
      obtain ⟨h3, h4⟩ := fillGo_zero ls r p0.2 h
      have hl : ls.length = r.length := by have h5 : ls.length + 1 = (p0 :: r).length := Classical.byContradiction h2; simpa using h5
      exact ⟨p0, r, rfl, hc, hl, h3, h4, fillL_ok ls r p0.2 hok h4 (fun p hp => (hh p hp).2.2.2)⟩
theorem fillL_size : ∀ (ls : List (List ByteArray)) (r : List Pt) (out : List ByteArray), (∀ l ∈ ls, sumS l ≤ 2000 ∧ l.length ≤ 120) → (∀ p ∈ r, sumS p.2 ≤ 2000 ∧ p.2.length ≤ 257) →
    sumS (fillL out ls r) ≤ sumS out + r.length * 4000 ∧ (fillL out ls r).length ≤ out.length + r.length * 377
  | [], r, out, _, _ => by
    have : fillL out [] r = out := by cases r <;> rfl
    rw [this]; omega
  | l :: ls, [], out, _, _ => by show sumS out ≤ _ ∧ out.length ≤ _; omega
  | l :: ls, p :: r, out, h, k => by
    obtain ⟨h1, h2⟩ := fillL_size ls r (out ++ l ++ p.2) (fun x hx => h x (by simp [hx])) (fun x hx => k x (by simp [hx]))
    have h3 := h l (by simp)
    have h4 := k p (by simp)
    rw [sumS_app, sumS_app] at h1
    rw [List.length_append, List.length_append] at h2
    rw [fillL, List.length_cons]
    omega
theorem joinV_sum (ws : List ByteArray) : (joinV ws).size ≤ sumS ws + ws.length := by
  have tail : ∀ l : List ByteArray, (Lib.joinTail [32] (l.map (·.data.toList))).length ≤ sumS l + l.length := by
    intro l
    induction l with
    | nil => simp [Lib.joinTail]
    | cons x l ih =>
      have e : Lib.joinTail [32] ((x :: l).map (·.data.toList)) = 32 :: (x.data.toList ++ Lib.joinTail [32] (l.map (·.data.toList))) := by simp [Lib.joinTail]
      rw [e, List.length_cons, List.length_append, ← size_eq, sumS, List.length_cons]
      omega
  cases ws with
  | nil => exact Nat.zero_le _
  | cons x r =>
    have e : (joinV (x :: r)).data.toList = x.data.toList ++ Lib.joinTail [32] (r.map (·.data.toList)) := by simp [joinV, Lib.join_cons]
    have := tail r
    rw [size_eq, e, List.length_append, ← size_eq, sumS, List.length_cons]
    omega
theorem few_sum {nm : ByteArray} {ps : List Pt} (h : fewV nm ps = true) : ∀ p ∈ ps, sumS p.2 ≤ 2000 ∧ p.2.length ≤ 257 := by
  unfold fewV at h
  rw [Bool.and_eq_true, Bool.and_eq_true, decide_eq_true_eq, decide_eq_true_eq, List.all_eq_true] at h
  intro p hp
  have := h.2 p hp
  unfold okP shortV at this
  split at this <;> (rw [Bool.and_eq_true, decide_eq_true_eq, decide_eq_true_eq] at this; exact ⟨this.2, by omega⟩)
theorem short_sum {l : List ByteArray} (h : shortV l 120 = true) : sumS l ≤ 2000 ∧ l.length ≤ 120 := by
  unfold shortV at h
  rw [Bool.and_eq_true, decide_eq_true_eq, decide_eq_true_eq] at h
  exact ⟨h.2, h.1⟩

theorem fW (s : ByteArray) (OUT : List ByteArray) (n : Nat) (hn : OUT.length = n) (hw : (wordsT s).map (·.1) = OUT) (hs : s.size ≤ 100000) (w : World) :
    Calls Tryz.prog 32 #[.string s] w fun e w' => ∃ A c, e = .returned (.slice A n c) ∧ Rd w' 2 A n (twCells (wordsT s)) ∧ New w w' := by
  refine (words_any s w hs).mono ?_
  rintro e w' ⟨v, rfl, h, hn2⟩
  have hl : (wordsT s).length = n := by rw [← hn, ← hw, List.length_map]
  rw [hl] at h
  obtain ⟨A, c, rfl, _, _, hr⟩ := own_form h
  exact ⟨A, c, rfl, hr, hn2⟩
theorem fT (s : ByteArray) (OUT : List ByteArray) (n : Nat) (hn : OUT.length = n) (hw : (wordsT s).map (·.1) = OUT) (hz : n ≤ 100000) (A : Option Addr) (c : Nat) (w : World) (h : Rd w 2 A n (twCells (wordsT s))) :
    Calls Tryz.prog 31 #[.slice A n c] w fun e w' => ∃ A c, e = .returned (.slice A n c) ∧ WRd w' (.slice A n c) OUT ∧ New w w' := by
  have hl : (wordsT s).length = n := by rw [← hn, ← hw, List.length_map]
  refine (texts_any A c n _ hl w h hz).mono ?_
  rintro e w' ⟨v, rfl, h, hn2⟩
  obtain ⟨A, c, rfl, h1, h2, hr⟩ := own_form h
  rw [tCells_eq] at hr
  refine ⟨A, c, rfl, ⟨A, c, by rw [hn], by rw [hn]; exact h1, h2, ?_⟩, hn2⟩
  rw [hn, ← hw]; exact hr
theorem fM (ps : List Pt) (OUT : List ByteArray) (e0 : Nat) (hm : matchT ps OUT 0 = some e0) (hs : SmT ps) (hz : OUT.length ≤ 100000) (v v' : Value) (nm : ByteArray) (w : World) (h : TRd w v nm ps) (h' : WRd w v' OUT) :
    Calls Tryz.prog 25 #[v, v', .int .i64 0] w fun e w' => e = .returned (.tuple #[.int .i64 e0, .bool true]) ∧ New w w' := by
  have := matchT_any v v' nm ps OUT 0 w h h' hs hz
  rw [hm] at this
  exact this
theorem fF (ps : List Pt) (OUT : List ByteArray) (nm : ByteArray) (e0 : Nat) (hf : ∃ rest, findV [(nm, ps)] OUT (goodV 0 [(nm, ps)]) OUT.length 0 = (0, 0, e0) :: rest) (hs : SmT ps) (hz : OUT.length ≤ 100000) (g : Nat) (A : Option Addr) (np c : Nat) (v' : Value) (w : World)
    (h : TRd w (.agg #[.string nm, .slice A np c]) nm ps) (k0 : w.cell? ⟨g, 0, none⟩ = some (.string nm)) (k1 : w.cell? ⟨g, 1, none⟩ = some (.slice A np c)) (h' : WRd w v' OUT) :
    Calls Tryz.prog 28 #[.slice (some ⟨g, 0, none⟩) 1 1, v'] w fun e w' => ∃ b m c, e = .returned (.slice (some ⟨b, 0, none⟩) m c) ∧ 0 < m ∧ w'.cell? ⟨b, 0, none⟩ = some (.int .i64 0) ∧ w'.cell? ⟨b, 1, none⟩ = some (.int .i64 0) ∧ w'.cell? ⟨b, 2, none⟩ = some (.int .i64 e0) ∧ New w w' := by
  obtain ⟨rest, hf⟩ := hf
  have hts : TsRd w (some ⟨g, 0, none⟩) 1 [(nm, ps)] := ⟨rfl, fun _ => ⟨g, 0, rfl, fun i hi => by
    obtain rfl : i = 0 := by simpa using hi
    exact ⟨_, by simpa using k0, by simpa using k1, h⟩⟩⟩
  refine (find_any _ 1 1 _ v' OUT w hts h' (by intro t ht; rw [List.mem_singleton.1 ht]; exact hs) (by omega) hz).mono ?_
  rintro e w' ⟨v, rfl, h, hn⟩
  rw [hf] at h
  obtain ⟨b, c, rfl, _, _⟩ := h.form (by simp)
  exact ⟨b, _, c, rfl, by simp, h.cellAt 0 (by simp), h.cellAt 1 (by simp; omega), h.cellAt 2 (by simp; omega), hn⟩
end Go.Proofs.YtpoelhnceebmkaaGreatDoor

namespace Go.Proofs.YtpoelhnceebmkaaGreatDoor
open Go Go.RowKit Go.Shelf
set_option linter.unusedSimpArgs false
set_option linter.unusedVariables false

theorem fillL_at {out : List ByteArray} {ls : List (List ByteArray)} {r : List Pt} {i : Nat} {l : List ByteArray} {p : Pt} (hl : ls[i]? = some l) (hp : r[i]? = some p) :
    fillL out (ls.drop i) (r.drop i) = fillL (out ++ l ++ p.2) (ls.drop (i + 1)) (r.drop (i + 1)) := by
  obtain ⟨h1, e1⟩ := List.getElem?_eq_some_iff.1 hl
  obtain ⟨h2, e2⟩ := List.getElem?_eq_some_iff.1 hp
  rw [List.drop_eq_getElem_cons h1, List.drop_eq_getElem_cons h2, fillL, e1, e2]
set_option maxRecDepth 100000 in
set_option maxHeartbeats 8000000 in
theorem law_fills (v : Value) (nm : ByteArray) (ps : List Pt) (A : Option Addr) (c n : Nat) (ls : List (List ByteArray)) (w : World) (h : TRd w v nm ps) (hL : LsRd w A n ls) (hz : ∀ p ∈ ps, SzM p.2) (hzl : ∀ l ∈ ls, SzM l) :
    Calls Tryz.prog 7 #[v, .slice A n c] w fun e w' => e = .returned (.bool true) ∧ New w w' := by
  have HA := Lib.hid awake_any
  obtain ⟨Ap, cp, rfl, hcp1, hcp2, hp⟩ := h
  obtain ⟨np, hnp⟩ : ∃ k, ps.length = k := ⟨_, rfl⟩
  have HT : Hid (TRd w (.agg #[.string nm, .slice Ap np cp]) nm ps) := Lib.hid ⟨Ap, cp, by rw [hnp], hcp1, hcp2, hp⟩
  rw [hnp] at hp hcp1 ⊢
  have hnS : New w (w.alloc (.cells #[.string nm, .slice Ap np cp] 25)) := (New.refl w).alloc _
  have B0 := Blk.made w 25 #[.string nm, .slice Ap np cp]
  have HFW := Lib.hid (fun w h => few_any (.agg #[.string nm, .slice Ap np cp]) nm ps w h)
  have HLs := Lib.hid hL
  have HP := Lib.hid hp
  have HNP := Lib.hid hnp
  have HZ := Lib.hid hz
  have HZL := Lib.hid hzl
  clear hp hnp hL hz hzl hcp1 hcp2
  cases hb : fewV nm ps
  · have HB := Lib.hid hb
    clear hb
    go_enter Tryz.func7, Tryz.ntmps7
    go_wp2_with (first
      | (go_at_call 13; refine (HFW.out _ ((HT.out.new hnS).new h0)).mono ?_; rintro e w1 ⟨⟨b, rfl, hb1⟩, hn1⟩; have hb2 := (hb1.2 HZ.out).trans HB.out; subst hb2; clear hb1)
      | (go_at_call 9; refine (HA.out _).mono ?_; rintro e w0 ⟨rfl, h0⟩; have k0 := (B0.new h0).cell' 0 _ rfl; have k1 := (B0.new h0).cell' 1 _ rfl))
    go_ret
    exact ⟨rfl, (hnS.trans h0).trans hn1⟩
  · have HB := Lib.hid hb
    obtain ⟨hsm, hzw, hp10⟩ := few_sm hb
    have HSU := Lib.hid (few_sum hb)
    clear hb
    by_cases hn12 : n ≤ 12
    · have t1 : decide ((12 : Int) < (n : Int)) = false := decide_eq_false (by omega)
      have HCT := Lib.hid (fun w h => containsL30 A c n ls w h (by omega) HZL.out)
      have HSM := Lib.hid hsm
      have HZW := Lib.hid hzw
      clear hsm hzw
      go_enter Tryz.func7, Tryz.ntmps7
      go_wp2_with (first
        | (go_at_call 14; refine (HCT.out _ (HLs.out.new ((hnS.trans h0).trans hn1))).mono ?_; rintro e w2 ⟨⟨b2, rfl, hb2⟩, rfl⟩; have HB2 := Lib.hid hb2; clear hb2)
        | (go_at_call 13; refine (HFW.out _ ((HT.out.new hnS).new h0)).mono ?_; rintro e w1 ⟨⟨b, rfl, hb1⟩, hn1⟩; have hb3 := (hb1.2 HZ.out).trans HB.out; subst hb3; clear hb1; have j0 := ((B0.new h0).new hn1).cell' 0 _ rfl; have j1 := ((B0.new h0).new hn1).cell' 1 _ rfl)
        | (go_at_call 9; refine (HA.out _).mono ?_; rintro e w0 ⟨rfl, h0⟩; have k0 := (B0.new h0).cell' 0 _ rfl; have k1 := (B0.new h0).cell' 1 _ rfl))
      · exact bodyPost_ret (v := .bool true) (by simp [results, Tryz.results7, go_sem]) rfl ⟨rfl, (hnS.trans h0).trans hn1⟩
      · have hb2f : b2 = false := by assumption
        have HOK := Lib.hid (HB2.out hb2f)
        subst hb2f
        have hZL : ∀ l ∈ ls, SzW l ∧ l.length ≤ 1000 := fun l hl => by
          have := shortV_sm (HOK.out l hl)
          exact ⟨this.2, Nat.le_trans this.1 (by omega)⟩
        have HT1 := Lib.hid (((HT.out.new hnS).new h0).new hn1)
        have HL1 := Lib.hid (HLs.out.new ((hnS.trans h0).trans hn1))
        have B1 := (B0.new h0).new hn1
        have C3 := Lib.hid (fun w h h2 => fill_any (.agg #[.string nm, .slice Ap np cp]) nm ps A c n ls w h HSM.out h2 (by omega) HZW.out hZL)
        have HBase := Lib.hid ((hnS.trans h0).trans hn1)
        have HF := Lib.hid (fun h => fillV_fail (ps := ps) (ls := ls) h)
        have HO := Lib.hid (fun h => fillV_ok (ps := ps) (ls := ls) h)
        clear hZL HCT HFW HB2 k0 k1
        generalize fillV ps ls = G at *
        obtain ⟨G1, G2⟩ := G
        refine (C3.out _ HT1.out HL1.out).mono ?_
        rintro e w3 ⟨rfl, n3⟩
        have k2 := (B1.new n3).cell' 0 _ rfl
        have k3 := (B1.new n3).cell' 1 _ rfl
        by_cases hG : G2 = 0
        · subst hG
          obtain ⟨p0, r, rfl, hck, hll, hG1, hfits, hok⟩ := HO.out rfl
          have hG1' : G1 = joinV (fillL p0.2 ls r) := hG1
          obtain ⟨e0, hm, hle, he0, hOUT0⟩ := match_fill hck hll hfits
          have hfind := find_fill (nm := nm) hm hOUT0 he0
          have hnl : ls.length = n := HLs.out.1
          have hrn : r.length + 1 = np := by have := HNP.out; simpa using this
          have hnp1 : 0 < np := by omega
          have hnp10 : np ≤ 10 := by rw [← HNP.out]; exact hp10
          have hsz := fillL_size ls r p0.2 (fun l hl => short_sum (HOK.out l hl)) (fun p hp => HSU.out p (by simp [hp]))
          have hs0 := HSU.out p0 (by simp)
          have hjs := joinV_sum (fillL p0.2 ls r)
          have hwd := (wordsT_texts (joinV (fillL p0.2 ls r))).trans (wordsL_join _ hok)
          rw [← hG1'] at hwd hjs
          have HGO : Hid (fillL p0.2 (ls.drop 0) (r.drop 0) = fillL p0.2 ls r) := Lib.hid rfl
          generalize fillL p0.2 ls r = OUT at *
          have hlo : OUT.length ≤ 10000 := by omega
          have hG1s : G1.size ≤ 100000 := by omega
          obtain ⟨m, hm2⟩ : ∃ m, OUT.length = m := ⟨_, rfl⟩
          have D1 := Lib.hid (fW G1 OUT m hm2 hwd hG1s)
          have D2 := Lib.hid (fT G1 OUT m hm2 hwd (by omega))
          have D3 := Lib.hid (fM (p0 :: r) OUT e0 hm HSM.out (by omega))
          have D4 := Lib.hid (fF (p0 :: r) OUT nm e0 hfind HSM.out (by omega))
          have HM2 := Lib.hid hm2
          have HLL := Lib.hid hll
          have hem : e0 ≤ m := by omega
          have hSM2 := Lib.hid (fun p (hp : p ∈ p0 :: r) => HSM.out.2 p hp)
          have hSL := Lib.hid (fun l (hl : l ∈ ls) => (short_sum (HOK.out l hl)).2)
          have HRN := Lib.hid hrn
          obtain ⟨bA, oA, _, _, hApA, _⟩ := HP.out.at (i := 0) (by omega)
          subst hApA
          have HNL := Lib.hid hnl
          clear hck hll hG1 hG1' hfits hok hm hle hOUT0 hfind hnl hsz hs0 hjs hwd hm2 hrn HO HF C3
          go_wp2
          have B3 := B1.new n3
          have hbase3 := HBase.out.trans n3
          clear k2 k3 j0 j1
          go_loopw [7, 41] (fun v7 v41 wr => ∃ (i : Nat) (out : List ByteArray), v41 = .int .i64 i ∧ i ≤ np ∧ wr.ownsRow w3.heap.size 9 1 v7 out.length (sCells out) ∧ out.length ≤ i * 2000 ∧ New w3 wr ∧ Hid ((i = 0 → out = []) ∧ (0 < i → fillL out (ls.drop (i - 1)) (r.drop (i - 1)) = OUT))) (fun _ v41 _ => np - (intOf v41).toNat)
          case atStart => exact ⟨0, [], rfl, by omega, World.ownsRow_nil _ _ _ _, by simp, New.refl _, Lib.hid ⟨fun _ => rfl, fun h => by omega⟩⟩
          case round =>
            obtain ⟨v7, hv7⟩ : ∃ x, x = u7 := ⟨_, rfl⟩
            subst hv7
            obtain ⟨i, out, rfl, hi, own, hol, hnr, HGo2⟩ := hrel
            by_cases hlt : i < np
            · obtain ⟨bq, oq, vq, p', eq, hp', d1, d2, hwp⟩ := (HP.out.new hbase3).at hlt
              cases eq
              have hpm := List.mem_of_getElem? hp'
              have hpl := (HSU.out p' hpm).2
              obtain ⟨Aq, cq, rfl, hq1, hq2, hqr⟩ := hwp
              have d1r := cell_new hnr d1
              have d2r := cell_new hnr d2
              have BP := Blk.made wr 58 #[.int .i64 p'.1, .slice Aq p'.2.length cq]
              have hnA := (New.refl wr).alloc (.cells #[.int .i64 p'.1, .slice Aq p'.2.length cq] 58)
              have HQR := Lib.hid hqr
              have hqr1 := Lib.hid ((hqr.below hnr).below hnA)
              have ownA := own_new own hnA
              have hwr := hnr.size
              have hneA : v7.ownBlock ≠ some wr.heap.size := fun e => by have := (own.lt _ e).2; omega
              by_cases hi9 : i = 0
              · subst hi9
                obtain rfl : p0 = p' := by simpa using hp'
                obtain rfl : out = [] := HGo2.out.1 rfl
                simp only [Nat.zero_mul, Nat.add_zero] at d1r d2r
                clear d1 d2 hqr
                go_wp2_with (at_builtin; refine wpList_append_rd rfl (.tmp 55) (.tmp 57) rfl w3.heap.size v7 0 [] rfl ownA Aq p0.2.length cq p0.2 rfl hqr1.out (by omega) (by simp; omega) ?_; intro v8 w8 hown8 hg8)
                go_roundw
                case rel => exact ⟨0 + 1, p0.2, by go_num, by omega, own_to hown8 (by simp) (by simp), by omega, Below.grown (hnr.trans hnA) hg8 (by simp; omega) (fun q hq => (own.lt q hq).1), Lib.hid ⟨fun h => by omega, fun _ => HGO.out⟩⟩
                case measure => simp [intOf]; omega
              · have hpr : r[i - 1]? = some p' := by
                  obtain ⟨k, rfl⟩ : ∃ k, i = k + 1 := ⟨i - 1, by omega⟩
                  simpa using hp'
                obtain ⟨bl, ol, vl, l, rfl, hll, c1, hwl⟩ := (HL1.out.new n3).at (i := i - 1) (by have h1 := HNL.out; have h2 := HLL.out; have h3 := HRN.out; omega)
                obtain ⟨Al, cl, rfl, hl1, hl2, hlr⟩ := hwl
                have hgo := fillL_at (out := out) hll hpr
                rw [HGo2.out.2 (by omega), show i - 1 + 1 = i by omega] at hgo
                have hlm := hSL.out l (List.mem_of_getElem? hll)
                have HGo3 := Lib.hid hgo
                have c1r := cell_new hnA (cell_new hnr c1)
                have hlr1 := Lib.hid ((hlr.below hnr).below hnA)
                have hin : i - 1 < n := by have h1 := HNL.out; have h2 := HLL.out; have h3 := HRN.out; omega
                generalize p'.2 = ws at *
                generalize p'.1 = hz at *
                have HWSL := Lib.hid (rfl : ws.length = ws.length)
                have u1 : IntKind.i64.wrap ((i : Int) - 1) = (i : Int) - 1 := IntWalk.i64_in _ (by omega)
                have u2 : ((i : Int) - 1).toNat = i - 1 := by omega
                have u3 : (0 : Int) ≤ (i : Int) - 1 := by omega
                have u4 : (1 : Int) ≤ (i : Int) := by omega
                have u5 : (i : Int) - 1 < (n : Int) := by omega
                have u6 : (0 : Int) < (i : Int) := by omega
                have u7 : 0 < i := by omega
                clear d1 d2 hqr hlr c1 hgo hpr hp' hll hpm HWSL
                go_wp2_with (first
                  | (at_builtin; refine wpList_append_rd rfl (.tmp 55) (.tmp 57) rfl w3.heap.size v8 (out.length + l.length) (sCells out ++ sCells l) rfl hown8 Aq ws.length cq ws rfl (HQR.out.below hnw8) (by omega) hnw8.size ?_; intro v9 w9 hown9 hg9)
                  | (at_builtin; refine wpList_append_rd rfl (.tmp 48) (.tmp 53) rfl w3.heap.size v7 out.length (sCells out) rfl ownA Al l.length cl l rfl hlr1.out (by omega) (by simp; omega) ?_; intro v8 w8 hown8 hg8; have k9 := hg8.cell (BP.cell' 1 _ rfl) (Ne.symm hneA); have hnw8 : New w3 w8 := Below.grown (hnr.trans hnA) hg8 (by simp; omega) (fun q hq => (own.lt q hq).1)))
                go_roundw
                case rel =>
                  have hrel2 : (i + 1 : Nat) ≤ np ∧ w9.ownsRow w3.heap.size 9 1 v9 (out ++ l ++ ws).length (sCells (out ++ l ++ ws)) ∧ (out ++ l ++ ws).length ≤ (i + 1) * 2000 ∧ New w3 w9 ∧ Hid ((i + 1 = 0 → (out ++ l ++ ws) = []) ∧ (0 < i + 1 → fillL (out ++ l ++ ws) (ls.drop (i + 1 - 1)) (r.drop (i + 1 - 1)) = OUT)) :=
                    ⟨by omega, own_to hown9 (by simp; omega) (by rw [sCells_app, sCells_app]), by simp; omega, Below.grown hnw8 hg9 hnw8.size (fun q hq => (hown8.lt q hq).1), Lib.hid ⟨fun h => by omega, fun _ => HGo3.out.symm⟩⟩
                  exact ⟨i + 1, out ++ l ++ ws, by go_num, hrel2⟩
                case measure => simp [intOf]; omega
            · obtain rfl : i = np := by omega
              have hF : out = OUT := by
                have := HGo2.out.2 (by omega)
                rw [List.drop_of_length_le (show r.length ≤ i - 1 by have := HRN.out; omega)] at this
                rw [← this]
                cases (ls.drop (i - 1)) <;> rfl
              subst hF
              have hm3 := HM2.out
              rw [hm3] at own
              obtain ⟨A9, c9, rfl, q1, q2, q3⟩ := own_form own
              have HOUT : Hid (WRd wr (.slice A9 m c9) out) := Lib.hid ⟨A9, c9, by rw [hm3], by rw [hm3]; exact q1, q2, by rw [hm3]; exact q3⟩
              have HSS := Lib.hid (fun v v' w h h' => sameTexts_self v v' out w h h' (by omega))
              have B9 := B3.new hnr
              have HT9 := Lib.hid ((HT1.out.new n3).new hnr)
              have k0 := B9.cell' 0 _ rfl
              have k1 := B9.cell' 1 _ rfl
              clear q3 own hol HGo2
              have x1 : decide (e0 ≤ m) = true := decide_eq_true hem
              have x2 : ((e0 : Int) == (e0 : Int)) = true := beq_self_eq_true _
              go_wp2_with (first
                | (go_at_call 33; refine (HSS.out _ _ _ ((hb3.new hcA).new nd) (HOUT.out.new ((((na.trans nb).trans nc).trans hcA').trans nd))).mono ?_; rintro e we ⟨rfl, qn, hqe⟩; have ne : New wd we := (by rw [hqe]; exact new_drewN _ _); clear hqe; have g0 := cell_new ne f0; have g1 := cell_new ne f1; have g2 := cell_new ne f2)
                | (go_at_call 28; refine (D4.out wc.heap.size _ i cp _ _ (((((HT9.out.new na).new nb).new nc)).new hcA') ((Blk.made wc 25 #[.string nm, .slice (some ⟨bA, oA, none⟩) i cp]).cell' 0 _ rfl) ((Blk.made wc 25 #[.string nm, .slice (some ⟨bA, oA, none⟩) i cp]).cell' 1 _ rfl) (hb3.new hcA)).mono ?_; rintro e wd ⟨b, mm, c5, rfl, hmm, f0, f1, f2, nd⟩; have y1 : (0 : Int) < (mm : Int) := (by omega))
                | (go_at_call 25; refine (D3.out _ _ nm _ ((HT9.out.new na).new nb) hb2).mono ?_; rintro e wc ⟨rfl, nc⟩; have hb3 := hb2.new nc; have k4 := (((B9.new na).new nb).new nc).cell' 0 _ rfl; have k5 := (((B9.new na).new nb).new nc).cell' 1 _ rfl; have hcA := (New.refl wc).alloc (.cells #[.string nm, .slice (some ⟨bA, oA, none⟩) i cp] 25); have hcA' := hcA)
                | (go_at_call 31; refine (D2.out _ _ _ ha2).mono ?_; rintro e wb ⟨A6, c6, rfl, hb2, nb⟩; have k2 := ((B9.new na).new nb).cell' 0 _ rfl; have k3 := ((B9.new na).new nb).cell' 1 _ rfl)
                | (go_at_call 32; refine (D1.out _).mono ?_; rintro e wa ⟨A5, c5, rfl, ha2, na⟩))
              go_ret
              exact ⟨rfl, (((((((hbase3.trans hnr).trans na).trans nb).trans nc).trans hcA).trans nd).trans ne)⟩
        · have hR := HF.out hG
          have t2 : (G2 == 0) = false := beq_eq_false_iff_ne.2 hG
          have hR' : G1 = ⟨#[]⟩ := hR
          subst hR'
          clear hR
          go_wp2
          go_ret
          exact ⟨rfl, HBase.out.trans n3⟩
    · have t1 : decide ((12 : Int) < (n : Int)) = true := decide_eq_true (by omega)
      go_enter Tryz.func7, Tryz.ntmps7
      go_wp2_with (first
        | (go_at_call 13; refine (HFW.out _ ((HT.out.new hnS).new h0)).mono ?_; rintro e w1 ⟨⟨b, rfl, hb1⟩, hn1⟩; have hb3 := (hb1.2 HZ.out).trans HB.out; subst hb3; clear hb1)
        | (go_at_call 9; refine (HA.out _).mono ?_; rintro e w0 ⟨rfl, h0⟩; have k0 := (B0.new h0).cell' 0 _ rfl; have k1 := (B0.new h0).cell' 1 _ rfl))
      go_ret
      exact ⟨rfl, (hnS.trans h0).trans hn1⟩
end Go.Proofs.YtpoelhnceebmkaaGreatDoor

