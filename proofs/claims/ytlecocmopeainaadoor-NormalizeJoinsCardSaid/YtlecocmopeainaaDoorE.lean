/- The normalized words of a text, as plain lists. No Go here. -/
import Derived.Test.YtlecocmopeainaaDoorC
namespace Go.Proofs.YtlecocmopeainaaDoor
open Go Go.RowKit

abbrev Lx := ByteArray × Nat
def lexOf (a b : Bool) (at_ : Nat) (line : ByteArray) : List Lx := (wds line).map fun w => (cls a b w, at_)
/-- One line: (its number, how many lines are still to be skipped, the words so far). -/
def wstep (a b : Bool) (st : Nat × Nat × List Lx) (line : ByteArray) : Nat × Nat × List Lx :=
  if 0 < st.2.1 then (st.1 + 1, st.2.1 - 1, st.2.2)
  else if 0 ≤ noteV (wds line) then (st.1 + 1, (noteV (wds line)).toNat, st.2.2)
  else (st.1 + 1, 0, st.2.2 ++ lexOf a b st.1 line)
def wst (a b : Bool) (pre : List ByteArray) : Nat × Nat × List Lx := pre.foldl (wstep a b) (0, 0, [])
theorem lexOf_len (a b : Bool) (k : Nat) (x : ByteArray) : (lexOf a b k x).length = (wds x).length := by simp [lexOf]
theorem wst_snoc (a b : Bool) (pre : List ByteArray) (x : ByteArray) : wst a b (pre ++ [x]) = wstep a b (wst a b pre) x := by simp [wst]
theorem wstep_at (a b : Bool) (st : Nat × Nat × List Lx) (x : ByteArray) : (wstep a b st x).1 = st.1 + 1 := by
  unfold wstep; split
  · rfl
  · split <;> rfl
theorem foldl_at (a b : Bool) : ∀ (l : List ByteArray) (st : Nat × Nat × List Lx), (l.foldl (wstep a b) st).1 = st.1 + l.length
  | [], st => by simp
  | x :: l, st => by rw [List.foldl_cons, foldl_at a b l, wstep_at]; simp; omega
theorem wst_at (a b : Bool) (pre : List ByteArray) : (wst a b pre).1 = pre.length := by rw [wst, foldl_at]; simp

theorem numV_range (b : ByteArray) : numV b ≤ 9223372036854775807 := by
  unfold numV
  split
  · rename_i v hv
    have := atoiAll_range hv
    split <;> omega
  · omega
theorem noteV_range (ws : List ByteArray) : noteV ws ≤ 9223372036854775807 := by
  unfold noteV
  split
  · split
    · exact numV_range _
    · omega
  · omega
theorem wstep_skip (a b : Bool) (st : Nat × Nat × List Lx) (x : ByteArray) (h : (st.2.1 : Int) ≤ 9223372036854775807) : ((wstep a b st x).2.1 : Int) ≤ 9223372036854775807 := by
  have := noteV_range (wds x)
  unfold wstep; split
  · show ((st.2.1 - 1 : Nat) : Int) ≤ _; omega
  · split
    · show (((noteV (wds x)).toNat : Nat) : Int) ≤ _; omega
    · show ((0 : Nat) : Int) ≤ _; omega
theorem foldl_skip (a b : Bool) : ∀ (l : List ByteArray) (st : Nat × Nat × List Lx), (st.2.1 : Int) ≤ 9223372036854775807 → ((l.foldl (wstep a b) st).2.1 : Int) ≤ 9223372036854775807
  | [], _, h => h
  | x :: l, st, h => by rw [List.foldl_cons]; exact foldl_skip a b l _ (wstep_skip a b st x h)
theorem wst_skip (a b : Bool) (pre : List ByteArray) : ((wst a b pre).2.1 : Int) ≤ 9223372036854775807 := foldl_skip a b pre _ (by show ((0 : Nat) : Int) ≤ _; omega)

theorem splitF_len : ∀ (n : Nat) (l : List UInt8), (splitF n l).length ≤ l.length
  | 0, _ => by simp [splitF]
  | _ + 1, [] => by simp [splitF]
  | n + 1, c :: r => by
    have h1 := splitF_len n r
    have h2 := splitF_len n (r.dropWhile part)
    have h3 := dropWhile_len (p := part) r
    simp only [splitF]
    split
    · simp; omega
    · split <;> simp <;> omega
theorem splitF_pos : ∀ (n : Nat) (l w : List UInt8), w ∈ splitF n l → 0 < w.length
  | 0, _, w, h => by simp [splitF] at h
  | _ + 1, [], w, h => by simp [splitF] at h
  | n + 1, c :: r, w, h => by
    simp only [splitF] at h
    split at h
    · exact splitF_pos n r w h
    · split at h
      · rcases List.mem_cons.1 h with rfl | h
        · simp
        · exact splitF_pos n _ w h
      · rcases List.mem_cons.1 h with rfl | h
        · simp
        · exact splitF_pos n _ w h
theorem wds_pos {s w : ByteArray} (h : w ∈ wds s) : 0 < w.size := by
  obtain ⟨l, hl, rfl⟩ := List.mem_map.1 h
  rw [size_S]; exact splitF_pos _ _ _ hl
theorem wds_len (s : ByteArray) : (wds s).length ≤ s.size := by rw [wds, List.length_map, size_eq]; exact splitF_len _ _
def total (l : List ByteArray) : Nat := (l.map ByteArray.size).sum
theorem wst_len (a b : Bool) : ∀ (l : List ByteArray) (st : Nat × Nat × List Lx), (l.foldl (wstep a b) st).2.2.length ≤ st.2.2.length + total l
  | [], st => by simp [total]
  | x :: l, st => by
    have h := wst_len a b l (wstep a b st x)
    have hx := wds_len x
    have h2 : (wstep a b st x).2.2.length ≤ st.2.2.length + x.size := by
      unfold wstep; split
      · simp
      · split
        · simp
        · simp [lexOf]; omega
    rw [List.foldl_cons]
    have h3 : total (x :: l) = x.size + total l := by simp [total]
    omega
theorem cut_total (c : UInt8) : ∀ l : List UInt8, ((cut c l).map List.length).sum ≤ l.length
  | [] => by simp [cut]
  | b :: r => by
    have ih := cut_total c r
    unfold cut
    split
    · simp; omega
    · split
      · rename_i e; exact absurd e (cut_ne c r)
      · rename_i h t e; rw [e] at ih; simp at ih ⊢; omega
theorem parts_total (c : UInt8) (s : ByteArray) : total (parts c s) ≤ s.size := by
  have := cut_total c s.data.toList
  rw [total, parts, List.map_map, size_eq]
  have e : (ByteArray.size ∘ S) = List.length := funext fun l => size_S l
  rw [e]; exact this
theorem prefix_total {l l' : List ByteArray} (h : l <+: l') : total l ≤ total l' := by
  obtain ⟨r, rfl⟩ := h
  simp [total]
theorem last_total {pre : List ByteArray} {x : ByteArray} {c : UInt8} {s : ByteArray} (h : (pre ++ [x]) <+: parts c s) : x.size ≤ s.size := by
  have h2 := prefix_total h
  have h3 := parts_total c s
  simp [total] at h2 h3
  omega
/-- The words so far are no more than the bytes. -/
theorem wst_small (a b : Bool) {pre : List ByteArray} {c : UInt8} {s : ByteArray} (h : pre <+: parts c s) : (wst a b pre).2.2.length ≤ s.size := by
  have h1 := wst_len a b pre (0, 0, [])
  have h2 := prefix_total h
  have h3 := parts_total c s
  simp only [List.length_nil] at h1
  show (pre.foldl (wstep a b) (0, 0, [])).2.2.length ≤ s.size
  omega

/-- The cells of words. -/
def lxCells (l : List Lx) : List Value := l.flatMap fun x => [.string x.1, .int .i64 x.2]
theorem lxCells_len (l : List Lx) : (lxCells l).length = l.length * 2 := by
  induction l with
  | nil => rfl
  | cons x l ih => simp only [lxCells, List.flatMap_cons, List.length_append, List.length_cons, List.length_nil] at ih ⊢; omega
theorem lxCells_app (l l' : List Lx) : lxCells (l ++ l') = lxCells l ++ lxCells l' := by simp [lxCells]
theorem lxCells_at : ∀ (l : List Lx) (k : Nat) (h : k < l.length), (lxCells l)[k * 2]? = some (.string l[k].1) ∧ (lxCells l)[k * 2 + 1]? = some (.int .i64 l[k].2)
  | [], k, h => by simp at h
  | x :: l, 0, _ => ⟨rfl, rfl⟩
  | x :: l, k + 1, h => by
    have ih := lxCells_at l k (by simpa using h)
    have e1 : (k + 1) * 2 = k * 2 + 2 := by omega
    have e2 : lxCells (x :: l) = .string x.1 :: .int .i64 x.2 :: lxCells l := rfl
    rw [e1, e2]
    simpa using ih

/-- How many line feeds there are. -/
def nl (s : ByteArray) : Nat := s.data.toList.count 10
/-- What Words returns: the error and the words. -/
def wordsV (a b : Bool) (path data : ByteArray) : Int × List Lx :=
  if !pathOK path then (2, [])
  else if 65536 < data.size ∨ 1024 ≤ nl data then (10, [])
  else if 8192 < (wst a b (parts 10 data)).2.2.length then (10, [])
  else (0, (wst a b (parts 10 data)).2.2)

/-- A text of words as a value: its path, its words. -/
def RText (w : World) (v : Value) (p : ByteArray) (ws : List Lx) : Prop :=
  ∃ A c, v = .agg #[.string p, .slice A ws.length c] ∧ ws.length ≤ c ∧ c ≤ maxLen ∧ Rd w 2 A ws.length (lxCells ws)
theorem RText.new {w w' : World} {v : Value} {p : ByteArray} {ws : List Lx} (h : RText w v p ws) (hn : New w w') : RText w' v p ws :=
  let ⟨A, c, e, h1, h2, hr⟩ := h
  ⟨A, c, e, h1, h2, hr.below hn⟩
end Go.Proofs.YtlecocmopeainaaDoor
