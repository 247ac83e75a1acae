/- The plain law of Joins: which lines have words; what strings.TrimFunc leaves of a line; which lines a set of spans has. No program in sight. -/
import Derived.Test.YtlecocmopeainaaDoorR2
import Derived.Test.YtlecocmopeainaaDoorT3
import Derived.Lib.TrimAscii
import Derived.Shelf.GgClosure.StringsTrimFunc
namespace Go.Proofs.YtlecocmopeainaaDoor
open Go Go.RowKit Go.Joins Go.Shelf
set_option linter.unusedSimpArgs false
set_option linter.unusedVariables false

/-! ### a line without words is blank -/
theorem splitF_blank : ∀ (n : Nat) (l : List UInt8), l.length ≤ n → (splitF n l = [] ↔ l.all blank = true)
  | 0, l, h => by
    obtain rfl : l = [] := List.eq_nil_of_length_eq_zero (by omega)
    simp [splitF]
  | n + 1, [], _ => by simp [splitF]
  | n + 1, c :: r, h => by
    have ih := splitF_blank n r (by simpa using h)
    rw [splitF]
    by_cases hb : blank c = true
    · rw [if_pos hb, ih]; simp [hb]
    · rw [if_neg hb]
      constructor
      · intro h2; split at h2 <;> simp at h2
      · intro h2; simp [hb] at h2
theorem wds_blank_iff (s : ByteArray) : wds s = [] ↔ s.data.toList.all blank = true := by
  rw [wds, List.map_eq_nil_iff, split, splitF_blank _ _ (Nat.le_refl _)]

theorem tw_next (p : UInt8 → Bool) : ∀ (l : List UInt8) (h : (l.takeWhile p).length < l.length), p (l[(l.takeWhile p).length]) = false
  | [], h => by simp at h
  | a :: l, h => by
    cases hp : p a with
    | true =>
      have e : (a :: l).takeWhile p = a :: l.takeWhile p := List.takeWhile_cons_of_pos hp
      simp only [e, List.length_cons, List.getElem_cons_succ]
      exact tw_next p l (by rw [e] at h; simpa using h)
    | false =>
      have e : (a :: l).takeWhile p = [] := List.takeWhile_cons_of_neg (by simp [hp])
      simp only [e, List.length_nil, List.getElem_cons_zero]
      exact hp
theorem tw_all (p : UInt8 → Bool) : ∀ (l : List UInt8), ¬ (l.takeWhile p).length < l.length → l.all p = true
  | [], _ => rfl
  | a :: l, h => by
    cases hp : p a with
    | true =>
      have e : (a :: l).takeWhile p = a :: l.takeWhile p := List.takeWhile_cons_of_pos hp
      rw [List.all_cons, hp, Bool.true_and]
      exact tw_all p l (by rw [e] at h; simpa using h)
    | false =>
      have e : (a :: l).takeWhile p = [] := List.takeWhile_cons_of_neg (by simp [hp])
      rw [e] at h
      simp at h
/-! ### strings.TrimFunc at blanks -/
def blN (r : Nat) : Bool := blankB (r : Int)
theorem blN_byte (c : UInt8) : blN c.toNat = blank c := rfl
theorem blN_big (r : Nat) (h : 128 ≤ r) : blN r = false := by simp [blN, blankB]; omega
theorem idx_false (p : Nat → Bool) (s : ByteArray) : ∀ f pos, Lib.idxFuncFrom p false s f pos = Lib.idxFuncFrom (fun r => !p r) true s f pos
  | 0, pos => rfl
  | f + 1, pos => by
    unfold Lib.idxFuncFrom
    have ih := idx_false p s f (pos + (Utf8.decode s pos).2)
    split
    · cases hp : p (Utf8.decode s pos).1
      · simp
      · simp [ih]
    · rfl
theorem idx_blank (s : ByteArray) : Lib.idxFunc blN false s = (if (s.data.toList.takeWhile blank).length < s.size then (((s.data.toList.takeWhile blank).length : Nat) : Int) else -1) := by
  have h := idx_bytes (fun r => !blN r) (fun r h => by simp [blN_big r h]) s
  have e : (s.data.toList.takeWhile fun c => !!blN c.toNat) = s.data.toList.takeWhile blank := by
    congr 1; funext c; simp [blN_byte]
  rw [Lib.idxFunc, idx_false, ← Lib.idxFunc, h, e]
theorem last_big (l : List UInt8) (b : UInt8) (h : 128 ≤ b.toNat) : 128 ≤ (Lib.decodeLastL (l ++ [b])).1 := by
  have hg : (l ++ [b]).getD ((l ++ [b]).length - 1) 0 = b := by simp [List.getD]
  unfold Lib.decodeLastL
  rw [if_neg (by simp), hg, if_neg (by omega)]
  simp only
  split
  · rename_i hd
    have hlt := Lib.lastStart_lt' (l ++ [b]) (by simp)
    generalize Lib.lastStart (l ++ [b]) = k at *
    cases hq : (l ++ [b]).drop k with
    | nil => simp at hq; simp at hlt; omega
    | cons c t =>
      rw [hq] at hd
      by_cases hc : c.toNat < 128
      · rw [Lib.decodeL_ascii c t hc] at hd
        simp only [List.length_append, List.length_cons, List.length_nil] at hd
        have hk : k = l.length := by omega
        rw [hk, List.drop_left] at hq
        simp at hq
        obtain ⟨rfl, _⟩ := hq
        omega
      · have := decode_big (S (c :: t)) 0 (by rw [size_S]; simp) (by show 128 ≤ c.toNat; omega)
        exact this
  · show 128 ≤ Utf8.runeError
    decide
theorem last_ascii (l : List UInt8) (b : UInt8) (h : b.toNat < 128) : Lib.decodeLastL (l ++ [b]) = (b.toNat, 1) := Lib.decodeLastL_ascii l b h
theorem lastFrom_hit (s : ByteArray) : ∀ (f i : Nat), i ≤ f → i ≤ s.size → (s.data.toList.take i).all blank = false → 0 ≤ Lib.lastIdxFuncFrom blN false s f i ∧ Lib.lastIdxFuncFrom blN false s f i < i
  | 0, i, h, _, ha => by
    obtain rfl : i = 0 := by omega
    simp at ha
  | f + 1, 0, _, _, ha => by simp at ha
  | f + 1, i + 1, h, hs, ha => by
    unfold Lib.lastIdxFuncFrom
    have hil : i < s.data.toList.length := by rw [← size_eq]; omega
    have et : s.data.toList.take (i + 1) = s.data.toList.take i ++ [s.data.toList[i]] := List.take_succ_eq_append_getElem hil
    have hw := Lib.decodeLastL_width (s.data.toList.take (i + 1)) (by rw [et]; simp)
    rw [if_pos (by omega)]
    generalize s.data.toList[i] = b at *
    by_cases hb : blank b = true
    · have hlt : b.toNat < 128 := by
        rcases Nat.lt_or_ge b.toNat 128 with h | h
        · exact h
        · rw [← blN_byte, blN_big _ h] at hb; cases hb
      rw [et, last_ascii _ _ hlt, blN_byte, if_neg (by rw [hb]; decide)]
      simp only [Nat.add_sub_cancel]
      have := lastFrom_hit s f i (by omega) (by omega) (by rw [et, List.all_append, List.all_cons, hb] at ha; simpa only [List.all_nil, Bool.and_true, Bool.true_and] using ha)
      exact ⟨this.1, by omega⟩
    · have hr : blN (Lib.decodeLastL (s.data.toList.take (i + 1))).1 = false := by
        rw [et]
        rcases Nat.lt_or_ge b.toNat 128 with h | h
        · rw [last_ascii _ _ h, blN_byte]; simpa using hb
        · exact blN_big _ (last_big _ _ h)
      rw [if_pos hr]
      exact ⟨by omega, by omega⟩
theorem trim_blank (s : ByteArray) : (Lib.trimF blN s).toList.isEmpty = s.data.toList.all blank := by
  have hi := idx_blank s
  by_cases h : (s.data.toList.takeWhile blank).length < s.size
  · rw [if_pos h] at hi
    generalize hk : (s.data.toList.takeWhile blank).length = k at *
    have hkl : k < s.data.toList.length := by rw [← size_eq]; exact h
    have hnb : blank s.data.toList[k] = false := by
      have := tw_next blank s.data.toList (by rw [hk]; exact hkl)
      simp only [hk] at this
      exact this
    have ha : s.data.toList.all blank = false := by
      rw [List.all_eq_false]
      exact ⟨_, List.getElem_mem hkl, by rw [hnb]; decide⟩
    rw [ha]
    have ht : Lib.trimLeftF blN s = s.extract k s.size := by
      rw [Lib.trimLeftF, hi, if_neg (by omega), Int.toNat_natCast]
    generalize hq : s.extract k s.size = t at *
    have htd : t.data.toList = s.data.toList.drop k := by rw [← hq, ext_from]; rfl
    have htl : t.data.toList.all blank = false := by
      rw [htd, List.drop_eq_getElem_cons hkl, List.all_cons, hnb]; rfl
    have hts : 0 < t.size := by
      rw [size_eq, htd, List.length_drop]; omega
    have hl := lastFrom_hit t t.size t.size (Nat.le_refl _) (Nat.le_refl _) (by rw [List.take_of_length_le (by rw [← size_eq]; exact Nat.le_refl _)]; exact htl)
    rw [← Lib.lastIdxFunc] at hl
    have hre : 0 < Lib.rightEndF blN t := by
      rw [Lib.rightEndF, if_pos hl.1]
      have : 1 ≤ (Lib.decodeGoB (t.extract (Lib.lastIdxFunc blN false t).toNat t.size)).2 := by
        rw [Lib.decodeGoB, if_neg]
        · exact Lib.width_pos _ _
        · rw [ext_from, size_S, List.length_drop, ← size_eq]; omega
      omega
    rw [Lib.trimF, ht, Lib.trimRightF, ext_to, toList_eq]
    show ((S _).data.toList).isEmpty = false
    rw [data_S]
    cases htt : t.data.toList with
    | nil => rw [size_eq, htt] at hts; simp at hts
    | cons a b =>
      obtain ⟨m, hm⟩ : ∃ m, Lib.rightEndF blN t = m + 1 := ⟨Lib.rightEndF blN t - 1, by omega⟩
      rw [hm, List.take_succ_cons]; rfl
  · rw [if_neg h] at hi
    have ha : s.data.toList.all blank = true := by
      exact tw_all blank _ (by rw [← size_eq]; exact h)
    rw [ha, Lib.trimF, Lib.trimLeftF, if_pos hi, Lib.trimRightF, toList_eq]
    have : (ByteArray.extract ⟨#[]⟩ 0 (Lib.rightEndF blN ⟨#[]⟩)).data.toList = [] := by rw [ext_to]; rfl
    rw [this]; rfl

/-! ### spans that have lines -/
def hasB (sp : List (Int × Int)) (i : Int) : Bool := sp.any fun x => decide (x.1 ≤ i) && decide (i < x.2)
/-- Spans of a valid set of lines of one file. -/
def GoodSp (sp : List (Int × Int)) : Prop := (∀ x ∈ sp, 0 ≤ x.1 ∧ x.1 < x.2 ∧ x.2 ≤ 1024) ∧ ∀ k x y, sp[k]? = some x → sp[k + 1]? = some y → x.2 < y.1
structure LInv (ls : List Int) (sp : List (Int × Int)) : Prop where
  good : GoodSp sp
  mem : ∀ i, hasB sp i = true ↔ i ∈ ls
  last : ∀ l, ls.getLast? = some l → ∃ init f, sp = init ++ [(f, l + 1)]
  none : ls = [] → sp = []
theorem hasB_app (a b : List (Int × Int)) (i : Int) : hasB (a ++ b) i = (hasB a i || hasB b i) := by simp [hasB]
theorem hasB_one (f t i : Int) : hasB [(f, t)] i = true ↔ f ≤ i ∧ i < t := by simp [hasB]
theorem GoodSp.snoc {init : List (Int × Int)} {x : Int × Int} (h : GoodSp init) (hx : 0 ≤ x.1 ∧ x.1 < x.2 ∧ x.2 ≤ 1024) (hl : ∀ y, init.getLast? = some y → y.2 < x.1) : GoodSp (init ++ [x]) := by
  refine ⟨fun y hy => ?_, fun k a b ha hb => ?_⟩
  · rcases List.mem_append.1 hy with h1 | h1
    · exact h.1 y h1
    · obtain rfl : y = x := by simpa using h1
      exact hx
  · by_cases hk : k + 1 < init.length
    · rw [List.getElem?_append_left (by omega)] at ha
      rw [List.getElem?_append_left hk] at hb
      exact h.2 k a b ha hb
    · have hk2 : k + 1 = init.length := by
        obtain ⟨hlt, _⟩ := List.getElem?_eq_some_iff.1 hb
        simp at hlt; omega
      rw [List.getElem?_append_left (by omega)] at ha
      rw [hk2, List.getElem?_append_right (Nat.le_refl _)] at hb
      simp at hb
      subst hb
      refine hl a ?_
      rw [List.getLast?_eq_getElem?, show init.length - 1 = k by omega]; exact ha
theorem GoodSp.init {init : List (Int × Int)} {x : Int × Int} (h : GoodSp (init ++ [x])) : GoodSp init ∧ ∀ y, init.getLast? = some y → y.2 < x.1 := by
  refine ⟨⟨fun y hy => h.1 y (List.mem_append_left _ hy), fun k a b ha hb => ?_⟩, fun y hy => ?_⟩
  · have h1 := (List.getElem?_eq_some_iff.1 hb).1
    exact h.2 k a b (by rw [List.getElem?_append_left (by omega)]; exact ha) (by rw [List.getElem?_append_left h1]; exact hb)
  · rw [List.getLast?_eq_getElem?] at hy
    have h1 := (List.getElem?_eq_some_iff.1 hy).1
    refine h.2 (init.length - 1) y x (by rw [List.getElem?_append_left h1]; exact hy) ?_
    rw [show init.length - 1 + 1 = init.length by omega, List.getElem?_append_right (Nat.le_refl _)]; simp
theorem linv_step {ls : List Int} {sp : List (Int × Int)} {l : Int} (h : LInv ls sp) (h0 : 0 ≤ l) (h1 : l < 1024) (hup : ∀ m, ls.getLast? = some m → m ≤ l) : LInv (ls ++ [l]) (pk sp l) := by
  cases hg : ls.getLast? with
  | none =>
    obtain rfl : ls = [] := by simpa using hg
    obtain rfl := h.none rfl
    refine ⟨?_, fun i => ?_, fun m hm => ?_, fun e => by simp at e⟩
    · exact GoodSp.snoc (init := []) ⟨by simp, by simp⟩ (by show 0 ≤ l ∧ l < l + 1 ∧ l + 1 ≤ 1024; omega) (by simp)
    · show hasB [(l, l + 1)] i = true ↔ _
      rw [hasB_one]; simp; omega
    · simp at hm; subst hm
      exact ⟨[], l, rfl⟩
  | some m =>
    obtain ⟨init, f, rfl⟩ := h.last m hg
    have hml := hup m hg
    obtain ⟨gi, gl⟩ := GoodSp.init h.good
    have gx := h.good.1 (f, m + 1) (by simp)
    simp only at gx
    by_cases hc : l ≤ m + 1
    · rw [pk_hit init (f, m + 1) l hc]
      refine ⟨gi.snoc (by show 0 ≤ f ∧ f < l + 1 ∧ l + 1 ≤ 1024; omega) gl, fun i => ?_, fun k hk => ?_, fun e => by simp at e⟩
      · have hm := h.mem i
        rw [hasB_app, Bool.or_eq_true, hasB_one] at hm
        rw [hasB_app, Bool.or_eq_true, hasB_one, List.mem_append, List.mem_singleton, ← hm]
        constructor
        · rintro (h2 | h2)
          · exact .inl (.inl h2)
          · by_cases h3 : i < m + 1
            · exact .inl (.inr ⟨h2.1, h3⟩)
            · exact .inr (by omega)
        · rintro ((h2 | h2) | h2)
          · exact .inl h2
          · exact .inr ⟨h2.1, by omega⟩
          · exact .inr ⟨by omega, by omega⟩
      · simp at hk; subst hk
        exact ⟨init, f, rfl⟩
    · rw [pk_miss init (f, m + 1) l hc]
      refine ⟨h.good.snoc (by show 0 ≤ l ∧ l < l + 1 ∧ l + 1 ≤ 1024; omega) (fun y hy => by simp at hy; subst hy; show m + 1 < l; omega), fun i => ?_, fun k hk => ?_, fun e => by simp at e⟩
      · rw [hasB_app, Bool.or_eq_true, h.mem i, hasB_one, List.mem_append, List.mem_singleton]
        constructor
        · rintro (h2 | h2)
          · exact .inl h2
          · exact .inr (by omega)
        · rintro (h2 | h2)
          · exact .inl h2
          · exact .inr ⟨by omega, by omega⟩
      · simp at hk; subst hk
        exact ⟨_, l, rfl⟩
theorem linv_all : ∀ (r ls : List Int) (sp : List (Int × Int)), LInv ls sp → Up (ls ++ r) → (∀ x ∈ r, 0 ≤ x ∧ x < 1024) → LInv (ls ++ r) (r.foldl pk sp)
  | [], ls, sp, h, _, _ => by simpa using h
  | l :: r, ls, sp, h, hu, hx => by
    have h1 := hx l (by simp)
    have h2 := linv_step h h1.1 h1.2 (fun m hm => by
      obtain ⟨q, rfl⟩ : ∃ q, ls = q ++ [m] := by
        have := List.getLast?_eq_some_iff.1 hm
        exact this
      have : ∀ (q : List Int) (a b : Int) (t : List Int), Up (q ++ a :: b :: t) → a ≤ b := by
        intro q
        induction q with
        | nil => intro a b t h; exact h.1
        | cons c q ih => intro a b t h; exact ih a b t (up_tail h)
      exact this q m l r (by simpa using hu))
    have := linv_all r (ls ++ [l]) (pk sp l) h2 (by simpa using hu) (fun x hx2 => hx x (by simp [hx2]))
    simpa using this
theorem linesV_inv {ls : List Int} (hu : Up ls) (hx : ∀ x ∈ ls, 0 ≤ x ∧ x < 1024) : LInv ls (linesV ls) := by
  have := linv_all ls [] [] ⟨⟨by simp, by simp⟩, fun i => by simp [hasB], fun l hl => by simp at hl, fun _ => rfl⟩ (by simpa using hu) hx
  simpa [linesV] using this

/-! ### the lines that have words -/
theorem allW_mem (a b : Bool) (i : Nat) : ∀ (l : List (List ByteArray)) (k : Nat), (i ∈ (allW a b k l).map Prod.snd) ↔ k ≤ i ∧ ∃ ws, l[i - k]? = some ws ∧ ws ≠ []
  | [], k => by simp [allW]
  | ws :: l, k => by
    rw [allW, List.map_append, List.mem_append, allW_mem a b i l (k + 1), List.map_map]
    constructor
    · rintro (h | ⟨h1, ws', h2, h3⟩)
      · obtain ⟨x, hx, rfl⟩ := List.mem_map.1 h
        exact ⟨Nat.le_refl _, ws, by simp, fun e => by subst e; simp at hx⟩
      · refine ⟨by omega, ws', ?_, h3⟩
        rw [show i - k = (i - (k + 1)) + 1 by omega]; simpa using h2
    · rintro ⟨h1, ws', h2, h3⟩
      by_cases hk : i = k
      · subst hk
        rw [Nat.sub_self] at h2
        simp at h2; subst h2
        left
        cases ws with
        | nil => exact absurd rfl h3
        | cons x r => simp
      · right
        refine ⟨by omega, ws', ?_, h3⟩
        rw [show i - k = (i - (k + 1)) + 1 by omega] at h2
        simpa using h2
/-- Line i of a text without notes has a word just where TrimFunc leaves something of it. -/
theorem has_trim {p z : ByteArray} {ws : List Lx} (hw : ws = allW false false 0 (lw z)) (hv : validV p (toZ ws) = true) {i : Nat} {s : ByteArray} (hs : (parts 10 z)[i]? = some s) :
    hasB (linesV ((toZ ws).map Prod.snd)) i = !(Lib.trimF blN s).toList.isEmpty := by
  have hok : okFrom 0 (toZ ws) = true := by
    rw [validV, Bool.and_eq_true] at hv; exact hv.2
  have inv := linesV_inv (up_of hok) (fun x hx => by
    obtain ⟨y, hy, rfl⟩ := List.mem_map.1 hx
    have := valid_lines hv y hy
    exact ⟨this.2, this.1⟩)
  rw [Bool.eq_iff_iff, inv.mem, trim_blank]
  have e1 : ((i : Int) ∈ (toZ ws).map Prod.snd) ↔ i ∈ ws.map Prod.snd := by
    rw [toZ, List.map_map]
    constructor
    · intro h
      obtain ⟨x, hx, he⟩ := List.mem_map.1 h
      refine List.mem_map.2 ⟨x, hx, ?_⟩
      have he' : (x.2 : Int) = (i : Int) := he
      omega
    · intro h
      obtain ⟨x, hx, he⟩ := List.mem_map.1 h
      refine List.mem_map.2 ⟨x, hx, ?_⟩
      show (x.2 : Int) = (i : Int)
      rw [he]
  rw [e1, hw, allW_mem, Nat.sub_zero]
  have e2 : (lw z)[i]? = some (wds s) := by rw [lw, List.getElem?_map, hs]; rfl
  constructor
  · rintro ⟨_, ws', h2, h3⟩
    rw [e2] at h2
    injection h2 with h2
    subst h2
    cases hb : s.data.toList.all blank with
    | false => rfl
    | true => exact absurd ((wds_blank_iff s).2 hb) h3
  · intro h
    refine ⟨Nat.zero_le _, _, e2, fun e => ?_⟩
    rw [(wds_blank_iff s).1 e] at h
    cases h
theorem lines_good {p : ByteArray} {ws : List Lx} (hv : validV p (toZ ws) = true) : GoodSp (linesV ((toZ ws).map Prod.snd)) := by
  have hok : okFrom 0 (toZ ws) = true := by
    rw [validV, Bool.and_eq_true] at hv; exact hv.2
  exact (linesV_inv (up_of hok) (fun x hx => by
    obtain ⟨y, hy, rfl⟩ := List.mem_map.1 hx
    have := valid_lines hv y hy
    exact ⟨this.2, this.1⟩)).good
end Go.Proofs.YtlecocmopeainaaDoor
