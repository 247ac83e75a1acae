/- The program's Apply. Conditions: sizes; the digest's contract where the base is not empty. Plain: the places of a patch's lines. No conditions. -/
import Derived.Test.YtfeknjpinboknaaGreatDoorGW1
import Derived.Test.YtfeknjpinboknaaGreatDoorGH

namespace Go.Proofs.YtfeknjpinboknaaGreatDoor
open Go Go.RowKit Go.Joins Go.Shelf
set_option linter.unusedSimpArgs false
set_option linter.unusedVariables false

theorem app_zero {sum : ByteArray → ByteArray} {base data : ByteArray} {l : List Hk} (h : appE sum base l data = 0) : validV base l = true ∧ linesE data = 0 ∧ cnt 1 l + cnt 2 l = (parts 10 data).length ∧ (base.size = 0 ∨ base = sum data) ∧ joinE (appOut data l) = 0 := by
  unfold appE at h
  split at h
  · cases h
  · rename_i h1
    split at h
    · cases h
    · rename_i h2
      split at h
      · cases h
      · rename_i h3
        refine ⟨by simpa using h1, Classical.byContradiction h2, Classical.byContradiction fun q => h3 (Or.inl q), ?_, h⟩
        by_cases hb : base.size = 0
        · exact Or.inl hb
        · exact Or.inr (Classical.byContradiction fun q => h3 (Or.inr ⟨hb, q⟩))
theorem join_len {ws : List ByteArray} (h : joinE ws = 0) : ws.length ≤ 1024 := by
  unfold joinE at h
  split at h
  · cases h
  · split at h
    · cases h
    · omega
def appT (sum : ByteArray → ByteArray) (base : ByteArray) (l : List Hk) (data : ByteArray) : ByteArray := if appE sum base l data = 0 then joinV (appOut data l) else ⟨#[]⟩
set_option maxHeartbeats 4000000 in
theorem applyT_any (sum : ByteArray → ByteArray) (base : ByteArray) (A : Option Addr) (n c : Nat) (hs : List Hm) (data : ByteArray) (w : World) (hr : PRd w A n hs) (hz : SzH hs) (hb : base.size ≤ 1000000) (hd : data.size ≤ 1000000) (hE : Env w) (hS : base.size = 0 ∨ SumC sum) :
    Calls Tryz.prog 21 #[.agg #[.string base, .slice A n c], .string data] w fun e w' => e = .returned (.tuple #[.string (appT sum base (hs.map Hm.d) data), .int .i64 (appE sum base (hs.map Hm.d) data)]) ∧ New w w' := by
  have hn0 := (New.refl w).alloc (.cells #[.string base, .slice A n c] 24)
  have HA := Lib.hid (apply_any sum base A n c hs data _ (hr.new hn0) hz hb hd (hE.new hn0) hS)
  have HZ := Lib.hid (out_sz hz hd)
  by_cases h0 : appE sum base (hs.map Hm.d) data = 0
  · have HA2 := Lib.hid (show Calls Tryz.prog 49 _ _ _ from HA.out.mono fun e w' h => ((And.intro h.1 (by have := h.2; rw [if_pos h0] at this; exact this)) : New _ w' ∧ ∃ A1 c1 A2 c2, e = .returned (.tuple #[.slice A1 (parts 10 data).length c1, .slice A2 (appOut data (hs.map Hm.d)).length c2, .int .i64 0]) ∧ LnOK w' [rowH (parts 10 data) A1 c1] ∧ LnOK w' [rowH (appOut data (hs.map Hm.d)) A2 c2]))
    have HL := Lib.hid (join_len (app_zero h0).2.2.2.2)
    have hT : appT sum base (hs.map Hm.d) data = joinV (appOut data (hs.map Hm.d)) := by rw [appT, if_pos h0]
    rw [h0, hT]
    generalize appOut data (hs.map Hm.d) = os at *
    generalize parts 10 data = ls at *
    clear hr hz hE hS h0 HA hT
    go_enter Tryz.func21, Tryz.ntmps21
    go_wp2_with (fail)
    with_reducible refine HA2.out.mono ?_
    rintro e w1 ⟨n1, A1, c1, A2, c2, rfl, l1, l2⟩
    have HJ := Lib.hid (join_strings A2 os.length c2 os rfl w1 (ln_rd l2).1 (ln_rd l2).2 (by have := HL.out; omega) HZ.out)
    have hnn := hn0.trans n1
    generalize os.length = ol at *
    generalize ls.length = ll at *
    clear l1 l2 n1 hn0
    go_wp2_with (go_at_call 50; (with_reducible refine HJ.out.mono ?_); rintro e w2 ⟨rfl, n2⟩)
    go_ret2
    exact ⟨rfl, hnn.trans n2⟩
  · have HA2 := Lib.hid (show Calls Tryz.prog 49 _ _ _ from HA.out.mono fun e w' h => ((And.intro h.1 (by have := h.2; rw [if_neg h0] at this; exact this)) : New _ w' ∧ e = .returned (.tuple #[.slice none 0 0, .slice none 0 0, .int .i64 (appE sum base (hs.map Hm.d) data)])))
    have hT : appT sum base (hs.map Hm.d) data = ⟨#[]⟩ := by rw [appT, if_neg h0]
    rw [hT]
    generalize appE sum base (hs.map Hm.d) data = x at *
    have HJ := Lib.hid (fun W => show Calls Tryz.prog 50 #[.slice none 0 0, .string ⟨#[10]⟩] W (fun e w' => e = .returned (.string ⟨#[]⟩) ∧ New W w') from join_strings none 0 0 [] rfl W ⟨rfl, fun h => absurd h (by decide)⟩ (Nat.le_refl _) (by decide) (fun _ h => by cases h))
    clear hr hz hE hS h0 HA hT
    go_enter Tryz.func21, Tryz.ntmps21
    go_wp2_with (first | (go_at_call 50; (with_reducible refine (HJ.out _).mono ?_); rintro e w2 ⟨rfl, n2⟩) | (go_at_call 49; (with_reducible refine HA2.out.mono ?_); rintro e w1 ⟨n1, rfl⟩))
    go_ret2
    exact ⟨rfl, (hn0.trans n1).trans n2⟩
end Go.Proofs.YtfeknjpinboknaaGreatDoor

namespace Go.Proofs.YtfeknjpinboknaaGreatDoor
open Go Go.RowKit Go.Joins
set_option linter.unusedSimpArgs false
set_option linter.unusedVariables false

def plC (p : Int × Int) : List Value := [.int .i64 p.1, .int .i64 p.2]
def pl3 (t n : Nat) : List (Int × Int) := (List.range n).map fun j => ((-1 : Int), ((t + j : Nat) : Int))
def pl1 (o n : Nat) : List (Int × Int) := (List.range n).map fun j => (((o + j : Nat) : Int), (-1 : Int))
theorem pl3_succ (t n : Nat) : pl3 t (n + 1) = pl3 t n ++ [((-1 : Int), ((t + n : Nat) : Int))] := by rw [pl3, List.range_succ, List.map_append]; rfl
theorem pl1_succ (t n : Nat) : pl1 t (n + 1) = pl1 t n ++ [(((t + n : Nat) : Int), (-1 : Int))] := by rw [pl1, List.range_succ, List.map_append]; rfl
theorem pl3_len (t n : Nat) : (pl3 t n).length = n := by simp [pl3]
theorem pl1_len (t n : Nat) : (pl1 t n).length = n := by simp [pl1]
def trS (st : List (Int × Int) × Nat × Nat) (h : Hk) : List (Int × Int) × Nat × Nat :=
  if h.kind = 3 then (st.1 ++ pl3 (st.2.2 + 1) h.n.toNat, st.2.1, st.2.2 + 1 + h.n.toNat)
  else if h.kind = 1 then (st.1 ++ pl1 st.2.1 h.n.toNat, st.2.1 + h.n.toNat, st.2.2 + 1)
  else (st.1, st.2.1 + h.n.toNat, st.2.2 + 1)
def trO (base : ByteArray) (l : List Hk) : List (Int × Int) × Nat × Nat := l.foldl trS ([], 0, if base.size = 0 then 0 else 1)
theorem trO_snoc (base : ByteArray) (l : List Hk) (h : Hk) : trO base (l ++ [h]) = trS (trO base l) h := by rw [trO, List.foldl_append]; rfl
theorem tr_old (base : ByteArray) (old : List ByteArray) : ∀ l : List Hk, (∀ h ∈ l, OkH h) → (trO base l).2.1 = (appO old l).2 := by
  intro l
  induction l using snoc_ind with
  | h0 => intro _; rfl
  | h1 l h ih =>
    intro ho
    have ih := ih (fun x hx => ho x (List.mem_append_left _ hx))
    have h2 := ho h (by simp)
    rw [trO_snoc, appO_snoc, trS, appS]
    by_cases k3 : h.kind = 3
    · rw [if_pos k3, if_neg (by omega), if_neg (by omega)]; exact ih
    · rw [if_neg k3]
      by_cases k1 : h.kind = 1
      · rw [if_pos k1, if_pos k1]; simp only [ih]
      · have k2 : h.kind = 2 := by have := h2.k1; have := h2.k3; omega
        rw [if_neg k1, if_neg k1, if_pos k2]; simp only [ih]
theorem textL_snoc (base : ByteArray) (l : List Hk) (h : Hk) : textL base (l ++ [h]) = textL base l ++ (headV h :: h.lines) := by
  rw [textL, linesL, List.flatMap_append, ← List.append_assoc]; simp [textL, linesL]
theorem tr_text (base : ByteArray) : ∀ l : List Hk, (∀ h ∈ l, OkH h) → (trO base l).2.2 = (textL base l).length := by
  intro l
  induction l using snoc_ind with
  | h0 => intro _; simp only [trO, List.foldl_nil, textL, linesL, List.flatMap_nil, List.append_nil, baseL]; split <;> rfl
  | h1 l h ih =>
    intro ho
    have h1 := ih (fun x hx => ho x (List.mem_append_left _ hx))
    have h2 := ho h (by simp)
    have := h2.n1
    rw [trO_snoc, textL_snoc, trS, List.length_append, List.length_cons, ← h1]
    by_cases k3 : h.kind = 3
    · have := h2.l3 k3
      rw [if_pos k3]; simp only; omega
    · have := h2.l0 k3
      rw [if_neg k3, this]
      split <;> simp
theorem tr_len (base : ByteArray) : ∀ l : List Hk, (∀ h ∈ l, OkH h) → ((trO base l).1.length : Int) = cnt 1 l + cnt 3 l := by
  intro l
  induction l using snoc_ind with
  | h0 => intro _; rfl
  | h1 l h ih =>
    intro ho
    have h1 := ih (fun x hx => ho x (List.mem_append_left _ hx))
    have h2 := ho h (by simp)
    have := h2.n1
    rw [trO_snoc, cnt_app, cnt_app, trS]
    by_cases k3 : h.kind = 3
    · rw [if_pos k3]; simp [cnt, k3, pl3_len]; omega
    · rw [if_neg k3]
      by_cases k1 : h.kind = 1
      · rw [if_pos k1]; simp [cnt, k1, pl1_len]; omega
      · rw [if_neg k1]; simp [cnt, k1, k3]; omega
def pick (old T : List ByteArray) (p : Int × Int) : Option ByteArray := if 0 ≤ p.1 then old[p.1.toNat]? else T[p.2.toNat]?
theorem pick_row (old : List ByteArray) (o n : Nat) (h : o + n ≤ old.length) : (List.range n).map (fun j => old[o + j]?) = ((old.drop o).take n).map some :=
  List.ext_getElem (by simp; omega) fun i h1 h2 => by
    simp only [List.length_map, List.length_range] at h1
    simp only [List.getElem_map, List.getElem_range, List.getElem_take, List.getElem_drop]
    exact List.getElem?_eq_getElem (by omega)
theorem pick_pl1 (old T : List ByteArray) (o n : Nat) (h : o + n ≤ old.length) : (pl1 o n).map (pick old T) = ((old.drop o).take n).map some := by
  rw [← pick_row old o n h, pl1, List.map_map]
  refine List.map_congr_left fun j _ => ?_
  simp only [Function.comp, pick]
  rw [if_pos (by omega), Int.toNat_natCast]
theorem pick_pl3 (old T : List ByteArray) (o n : Nat) (h : o + n ≤ T.length) : (pl3 o n).map (pick old T) = ((T.drop o).take n).map some := by
  rw [← pick_row T o n h, pl3, List.map_map]
  refine List.map_congr_left fun j _ => ?_
  simp only [Function.comp, pick]
  rw [if_neg (by omega), Int.toNat_natCast]
theorem tr_map (base : ByteArray) (old : List ByteArray) (T : List ByteArray) : ∀ l : List Hk, (∀ h ∈ l, OkH h) → cnt 1 l + cnt 2 l ≤ old.length → textL base l <+: T → (trO base l).1.map (pick old T) = (appO old l).1.map some := by
  intro l
  induction l using snoc_ind with
  | h0 => intro _ _ _; rfl
  | h1 l h ih =>
    intro ho hle hT
    have ho1 : ∀ x ∈ l, OkH x := fun x hx => ho x (List.mem_append_left _ hx)
    have h2 := ho h (by simp)
    have hn := h2.n1
    have e1 : cnt 1 (l ++ [h]) = cnt 1 l + (if h.kind = 1 then h.n else 0) := by rw [cnt_app]; simp [cnt]
    have e2 : cnt 2 (l ++ [h]) = cnt 2 l + (if h.kind = 2 then h.n else 0) := by rw [cnt_app]; simp [cnt]
    rw [e1, e2] at hle
    have hat := appO_at old l ho1
    have htx := tr_text base l ho1
    have hol := tr_old base old l ho1
    rw [textL_snoc] at hT
    have h1 := ih ho1 (by split at hle <;> split at hle <;> omega) ((List.prefix_append _ _).trans hT)
    rw [trO_snoc, appO_snoc, trS, appS]
    by_cases k3 : h.kind = 3
    · have hl3 := h2.l3 k3
      obtain ⟨Y, rfl⟩ := hT
      rw [if_pos k3, if_neg (by omega), if_neg (by omega)]
      simp only [List.map_append]
      rw [h1, pick_pl3 _ _ _ _ (by rw [htx]; simp only [List.length_append, List.length_cons]; omega)]
      congr 2
      rw [htx, show textL base l ++ headV h :: h.lines ++ Y = (textL base l ++ [headV h]) ++ (h.lines ++ Y) by simp, List.drop_left' (by simp), List.take_left' (by omega)]
    · rw [if_neg k3]
      by_cases k1 : h.kind = 1
      · rw [if_pos k1, if_pos k1]
        rw [if_pos k1] at hle
        simp only [List.map_append]
        rw [h1, pick_pl1 _ _ _ _ (by rw [hol]; split at hle <;> omega), hol]
      · have k2 : h.kind = 2 := by have := h2.k1; have := h2.k3; omega
        rw [if_neg k1, if_neg k1, if_pos k2]; exact h1
end Go.Proofs.YtfeknjpinboknaaGreatDoor

