/- Words under other letters and separators; a text with a line behind it: plain facts. No conditions. -/
import Derived.Test.YtpoelhnceebmkaaDoorM1
namespace Go.Proofs.YtpoelhnceebmkaaDoor
open Go Go.RowKit Go.Shelf
set_option linter.unusedSimpArgs false
set_option linter.unusedVariables false

def sepN : List Nat := [32, 44, 46, 123, 125, 45, 0, 255]
def mixN (c k : Nat) : Nat :=
  if 97 ≤ c ∧ c ≤ 122 then c - 32 * (k % 2) else if 65 ≤ c ∧ c ≤ 90 then c + 32 * (k % 2) else if (48 ≤ c ∧ c ≤ 57) ∨ c = 10 then c else sepN.getD (k % 8) 0
def stays (c : Nat) : Bool := decide ((48 ≤ c ∧ c ≤ 57) ∨ c = 10)
def mixF : List UInt8 → List UInt8 → List UInt8
  | [], _ => []
  | c :: r, g => UInt8.ofNat (mixN c.toNat (g.headD 0).toNat) :: mixF r (if stays c.toNat then g else g.tail)
theorem sep_val (k : Nat) : ∃ v, sepN.getD (k % 8) 0 = v ∧ v < 256 ∧ smN v = 0 ∧ v ≠ 10 := by
  refine ⟨_, rfl, ?_⟩
  have : ∀ j : Fin 8, sepN.getD j.1 0 < 256 ∧ smN (sepN.getD j.1 0) = 0 ∧ sepN.getD j.1 0 ≠ 10 := by decide
  exact this ⟨k % 8, Nat.mod_lt _ (by omega)⟩
theorem mixN_facts (c k : Nat) (hc : c < 256) : mixN c k < 256 ∧ smN (mixN c k) = smN c ∧ (mixN c k = 10 ↔ c = 10) := by
  have hk : k % 2 = 0 ∨ k % 2 = 1 := by omega
  unfold mixN
  split
  · rename_i h
    rcases hk with e | e <;> rw [e] <;> refine ⟨by omega, ?_, by omega⟩
    · rfl
    · unfold smN
      rw [if_pos (by omega), if_neg (by omega), if_pos (by omega)]; first | done | omega
  · split
    · rename_i h
      rcases hk with e | e <;> rw [e] <;> refine ⟨by omega, ?_, by omega⟩
      · rfl
      · unfold smN
        rw [if_neg (by omega), if_pos (by omega), if_pos (by omega)]; first | done | omega
    · split
      · exact ⟨hc, rfl, Iff.rfl⟩
      · rename_i h1 h2 h3
        obtain ⟨v, e, h4, h5, h6⟩ := sep_val k
        rw [e]
        refine ⟨h4, ?_, ⟨fun h => absurd h h6, fun h => absurd (Or.inr h) h3⟩⟩
        rw [h5]; unfold smN
        rw [if_neg (by omega), if_neg (by omega)]
theorem mixB_nat (c k : UInt8) : (UInt8.ofNat (mixN c.toNat k.toNat)).toNat = mixN c.toNat k.toNat := by
  have := (mixN_facts c.toNat k.toNat c.toNat_lt).1
  simp [UInt8.toNat_ofNat]; omega
theorem mixB_sm (c k : UInt8) : sm (UInt8.ofNat (mixN c.toNat k.toNat)) = sm c := by
  unfold sm
  rw [mixB_nat, (mixN_facts c.toNat k.toNat c.toNat_lt).2.1]
theorem mixB_ten (c k : UInt8) : UInt8.ofNat (mixN c.toNat k.toNat) = 10 ↔ c = 10 := by
  have h := (mixN_facts c.toNat k.toNat c.toNat_lt).2.2
  rw [← UInt8.toNat_inj, mixB_nat, ← UInt8.toNat_inj]
  exact h
theorem mixF_len : ∀ (l g : List UInt8), (mixF l g).length = l.length
  | [], _ => rfl
  | c :: r, g => by rw [mixF, List.length_cons, mixF_len, List.length_cons]
theorem spF_mix : ∀ (l g : List UInt8) (i f : Nat) (cur : List UInt8), spF i f cur (mixF l g) = spF i f cur l
  | [], _, _, _, _ => rfl
  | c :: r, g, i, f, cur => by
    rw [mixF, spF, spF, mixB_sm, spF_mix, spF_mix]
theorem count_mix : ∀ (l g : List UInt8) (i : Nat), ((mixF l g).take i).count 10 = (l.take i).count 10
  | [], _, _ => rfl
  | c :: r, g, 0 => by simp
  | c :: r, g, i + 1 => by
    rw [mixF, List.take_succ_cons, List.take_succ_cons, List.count_cons, List.count_cons, count_mix]
    by_cases h : c = 10
    · rw [h, (mixB_ten 10 (g.headD 0)).2 rfl]
    · have h2 := fun e => h ((mixB_ten c (g.headD 0)).1 e)
      generalize UInt8.ofNat (mixN c.toNat (g.headD 0).toNat) = d at *
      simp [h]; exact h2
theorem words_mix (s : ByteArray) (g : List UInt8) : wordsT (S (mixF s.data.toList g)) = wordsT s := by
  have e : spansV (S (mixF s.data.toList g)) = spansV s := by unfold spansV; rw [data_S, spF_mix]
  unfold wordsT
  rw [e]
  refine List.map_congr_left fun x _ => ?_
  unfold twOf lns
  rw [data_S, count_mix]

/-! ### a line behind a text -/
theorem spF_f : ∀ (l : List UInt8) (i f f' : Nat), spF i f [] l = spF i f' [] l
  | [], _, _, _ => rfl
  | c :: r, i, f, f' => by
    rw [spF, spF]
    split
    · rw [spF_f r (i + 1) f f']; rfl
    · rfl
theorem spF_line : ∀ (l : List UInt8) (i f : Nat) (cur r : List UInt8), spF i f cur (l ++ 10 :: r) = spF i f cur l ++ spF (i + l.length + 1) 0 [] r
  | [], i, f, cur, r => by
    have h : spF i f cur (10 :: r) = (if cur = [] then [] else [(f, cur)]) ++ spF (i + 1) f [] r := by rw [spF, if_pos (show sm 10 = 0 by decide)]
    rw [List.nil_append, h, spF_f r (i + 1) f 0]; rfl
  | c :: l, i, f, cur, r => by
    rw [List.cons_append, spF, spF]
    have e : i + (c :: l).length + 1 = i + 1 + l.length + 1 := by simp; omega
    split
    · rw [spF_line l, List.append_assoc, e]
    · rw [spF_line l, e]
def tailB : ByteArray := ⟨#[10, 32, 120]⟩
def cntL (s : ByteArray) : Nat := s.data.toList.count 10
theorem spans_tail (s : ByteArray) : spansV (s ++ tailB) = spansV s ++ [(s.size + 2, [120])] := by
  unfold spansV
  have e : (s ++ tailB).data.toList = s.data.toList ++ 10 :: [32, 120] := by simp [tailB]
  rw [e, spF_line, ← size_eq, Nat.zero_add]
  congr 1
theorem inc_mem {hi : Nat} {x : Nat × List UInt8} : ∀ {l : List (Nat × List UInt8)} {lo : Nat}, Inc hi lo l → x ∈ l → x.1 ≤ hi
  | [], _, _, h => by cases h
  | y :: r, _, hI, h => by
    rcases List.mem_cons.1 h with rfl | h
    · exact hI.2.1
    · exact inc_mem hI.2.2 h
theorem words_tail (s : ByteArray) : wordsT (s ++ tailB) = wordsT s ++ [(⟨#[120]⟩, cntL s + 1)] := by
  unfold wordsT
  rw [spans_tail, List.map_append]
  have e : (s ++ tailB).data.toList = s.data.toList ++ [10, 32, 120] := by simp [tailB]
  congr 1
  · refine List.map_congr_left fun x hx => ?_
    have hle := inc_mem (spans_inc s) hx
    unfold twOf lns
    rw [e, List.take_append_of_le_length (by rw [← size_eq]; exact hle)]
  · simp only [List.map_cons, List.map_nil, twOf, lns]
    rw [e, List.take_append, List.count_append, List.take_of_length_le (by rw [← size_eq]; omega), ← size_eq, Nat.add_sub_cancel_left]
    rfl
theorem lines_le (s : ByteArray) : ∀ x ∈ wordsT s, x.2 ≤ cntL s := by
  intro x hx
  obtain ⟨y, hy, rfl⟩ := List.mem_map.1 hx
  exact (List.take_sublist _ _).count_le _
end Go.Proofs.YtpoelhnceebmkaaDoor
