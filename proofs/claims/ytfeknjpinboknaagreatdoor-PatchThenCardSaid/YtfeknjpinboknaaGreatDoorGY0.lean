/- What the calls of the laws return, as one form. No conditions. Plain: what the laws ask of patches, inverses, shortest patches and joined ones. No conditions. -/
import Derived.Test.YtfeknjpinboknaaGreatDoorGW32
import Derived.Test.YtfeknjpinboknaaGreatDoorGW8
import Derived.Test.YtfeknjpinboknaaGreatDoorGW29
import Derived.Test.YtfeknjpinboknaaGreatDoorGX7
import Derived.Test.YtfeknjpinboknaaGreatDoorGX4

namespace Go.Proofs.YtfeknjpinboknaaGreatDoor
open Go Go.RowKit Go.Joins Go.Shelf
set_option linter.unusedSimpArgs false
set_option linter.unusedVariables false

theorem szL_mem : ∀ {ws : List ByteArray} {s : ByteArray}, s ∈ ws → s.size ≤ szL ws
  | x :: r, s, h => by
    have e : szL (x :: r) = x.size + szL r := by simp [szL]
    rcases List.mem_cons.1 h with rfl | h
    · omega
    · have := szL_mem h; omega
theorem valid_sz {base : ByteArray} {l : List Hk} (h : validV base l = true) : SzK l ∧ l.length ≤ 1024 ∧ base.size ≤ 32 := by
  have hl := valid_len h
  have ho := ok_of h
  simp only [validV, Bool.and_eq_true, Bool.or_eq_true, decide_eq_true_eq] at h
  refine ⟨fun x hx => ⟨?_, fun s hs => ?_⟩, hl, by rcases h.1.1.1 with q | q <;> omega⟩
  · have hg := ho x hx
    by_cases k : x.kind = 3
    · have := hg.l3 k; have := hg.n2; omega
    · rw [hg.l0 k]; simp
  · have hj := h.2
    have hm : s ∈ textL base l := List.mem_append_right _ (List.mem_flatMap.2 ⟨x, hx, List.mem_cons_of_mem _ hs⟩)
    have h1 := szL_mem hm
    unfold joinE at hj
    split at hj
    · cases hj
    · split at hj
      · cases hj
      · omega
def OutP (B : ByteArray) (R : Int) (L : List Hk) (w : World) (e : Ending) (w' : World) : Prop :=
  New w w' ∧ ∃ A n c hs', e = .returned (.tuple #[.agg #[.string B, .slice A n c], .int .i64 R]) ∧ n = L.length ∧ PRd w' A n hs' ∧ SzH hs' ∧ hs'.map Hm.d = L
def okB (b : ByteArray) (l : List Hk) : ByteArray := if validV b l = true then b else ⟨#[]⟩
def okR (b : ByteArray) (l : List Hk) : Int := if validV b l = true then 0 else 10
def okL (b : ByteArray) (l : List Hk) : List Hk := if validV b l = true then l else []
theorem pat_out {b : ByteArray} {l : List Hk} {w w' : World} {e : Ending} (h : PatP w b l e w') : OutP (okB b l) (okR b l) (okL b l) w e w' := by
  obtain ⟨hn, h⟩ := h
  refine ⟨hn, ?_⟩
  by_cases hv : validV b l = true
  · rw [if_pos hv] at h
    obtain ⟨A, c, hs', he, hp, _, _, hm⟩ := h
    rw [okB, okR, okL, if_pos hv, if_pos hv, if_pos hv]
    have hz := valid_sz hv
    refine ⟨A, hs'.length, c, hs', he, by rw [← hm, List.length_map], hp, SzK.szh (by rw [hm]; exact hz.1) ?_, hm⟩
    have := hz.2.1
    rw [← hm, List.length_map] at this
    omega
  · rw [if_neg hv] at h
    rw [okB, okR, okL, if_neg hv, if_neg hv, if_neg hv]
    exact ⟨none, 0, 0, [], h, rfl, prd_nil _, szh_nil, rfl⟩
theorem out_none {x : Int} {w w' : World} {e : Ending} (hn : New w w') (h : e = .returned (.tuple #[.agg #[.string ⟨#[]⟩, .slice none 0 0], .int .i64 x])) : OutP ⟨#[]⟩ x [] w e w' := ⟨hn, none, 0, 0, [], h, rfl, prd_nil _, szh_nil, rfl⟩
def ivB (sum : ByteArray → ByteArray) (base : ByteArray) (l : List Hk) (data : ByteArray) : ByteArray := if appE sum base l data = 0 then okB (newB sum base (appOut data l)) (invL data l) else ⟨#[]⟩
def ivR (sum : ByteArray → ByteArray) (base : ByteArray) (l : List Hk) (data : ByteArray) : Int := if appE sum base l data = 0 then okR (newB sum base (appOut data l)) (invL data l) else appE sum base l data
def ivL (sum : ByteArray → ByteArray) (base : ByteArray) (l : List Hk) (data : ByteArray) : List Hk := if appE sum base l data = 0 then okL (newB sum base (appOut data l)) (invL data l) else []
theorem inv_out {sum : ByteArray → ByteArray} {base : ByteArray} {l : List Hk} {data : ByteArray} {w w' : World} {e : Ending} (h : InvP sum base l data w e w') : OutP (ivB sum base l data) (ivR sum base l data) (ivL sum base l data) w e w' := by
  unfold InvP at h
  by_cases h0 : appE sum base l data = 0
  · rw [if_pos h0] at h
    rw [ivB, ivR, ivL, if_pos h0, if_pos h0, if_pos h0]
    exact pat_out h
  · rw [if_neg h0] at h
    rw [ivB, ivR, ivL, if_neg h0, if_neg h0, if_neg h0]
    exact out_none h.1 h.2
def tnB (sum : ByteArray → ByteArray) (b1 : ByteArray) (l1 : List Hk) (b2 : ByteArray) (l2 : List Hk) (data : ByteArray) : ByteArray := if thnE sum b1 l1 b2 l2 data = 0 then okB b1 (thnL data l1 l2) else ⟨#[]⟩
def tnR (sum : ByteArray → ByteArray) (b1 : ByteArray) (l1 : List Hk) (b2 : ByteArray) (l2 : List Hk) (data : ByteArray) : Int := if thnE sum b1 l1 b2 l2 data = 0 then okR b1 (thnL data l1 l2) else thnE sum b1 l1 b2 l2 data
def tnL (sum : ByteArray → ByteArray) (b1 : ByteArray) (l1 : List Hk) (b2 : ByteArray) (l2 : List Hk) (data : ByteArray) : List Hk := if thnE sum b1 l1 b2 l2 data = 0 then okL b1 (thnL data l1 l2) else []
theorem thn_out {sum : ByteArray → ByteArray} {b1 b2 : ByteArray} {l1 l2 : List Hk} {data : ByteArray} {w w' : World} {e : Ending} (h : ThnP sum b1 l1 b2 l2 data w e w') : OutP (tnB sum b1 l1 b2 l2 data) (tnR sum b1 l1 b2 l2 data) (tnL sum b1 l1 b2 l2 data) w e w' := by
  unfold ThnP at h
  by_cases h0 : thnE sum b1 l1 b2 l2 data = 0
  · rw [if_pos h0] at h
    rw [tnB, tnR, tnL, if_pos h0, if_pos h0, if_pos h0]
    exact pat_out h
  · rw [if_neg h0] at h
    rw [tnB, tnR, tnL, if_neg h0, if_neg h0, if_neg h0]
    exact out_none h.1 h.2
def trL (base : ByteArray) (l : List Hk) (x : Int) : List (Int × Int) := if validV base l = true ∧ cnt 1 l + cnt 2 l = x then (trO base l).1 else []
def trR (base : ByteArray) (l : List Hk) (x : Int) : Int := if validV base l = true ∧ cnt 1 l + cnt 2 l = x then 0 else if validV base l = false then 1 else 9
theorem tr_out {base : ByteArray} {l : List Hk} {x : Int} {w w' : World} {e : Ending} (h : TrP base l x w e w') : New w w' ∧ ∃ A m c, e = .returned (.tuple #[.slice A m c, .int .i64 (trR base l x)]) ∧ m = (trL base l x).length ∧ Rd w' 2 A m ((trL base l x).flatMap plC) ∧ m ≤ 1000000 := by
  obtain ⟨hn, h⟩ := h
  refine ⟨hn, ?_⟩
  by_cases hc : validV base l = true ∧ cnt 1 l + cnt 2 l = x
  · rw [if_pos hc] at h
    rw [trR, trL, if_pos hc, if_pos hc]
    obtain ⟨A, c, he, hr, _⟩ := h
    have h1 := tr_len base l (ok_of hc.1)
    have h2 := sizes_of hc.1
    exact ⟨A, _, c, he, rfl, hr, by omega⟩
  · rw [if_neg hc] at h
    rw [trR, trL, if_neg hc, if_neg hc]
    exact ⟨none, 0, 0, h, rfl, ⟨rfl, fun q => absurd q (by decide)⟩, by omega⟩
end Go.Proofs.YtfeknjpinboknaaGreatDoor

namespace Go.Proofs.YtfeknjpinboknaaGreatDoor
open Go Go.RowKit Go.Joins
set_option linter.unusedSimpArgs false
set_option linter.unusedVariables false

theorem valid_go {base : ByteArray} {l : List Hk} (h : validV base l = true) : okGo 0 l = true := by
  simp only [validV, Bool.and_eq_true] at h
  have := h.1.1.2
  rw [goodGo_eq, Bool.and_eq_true] at this
  exact this.1
theorem joinE_parts {s : ByteArray} (h : linesE s = 0) : joinE (parts 10 s) = 0 := by
  have hne := parts_ne s
  have hlf := parts_lf s
  have hl := lines_len h
  have hj := joinV_sz hne
  rw [join_parts] at hj
  unfold linesE at h
  unfold joinE
  rw [if_neg (by
    rintro (e | e)
    · exact hne e
    · rw [hlf] at e; cases e), if_neg (by split at h <;> omega)]
theorem joinE_lines {ws : List ByteArray} (h : joinE ws = 0) : linesE (joinV ws) = 0 ∧ parts 10 (joinV ws) = ws := by
  have hle := joinV_le h
  have hl := join_len h
  have hp : parts 10 (joinV ws) = ws := by
    unfold joinE at h
    split at h
    · cases h
    · rename_i hq
      exact parts_join (fun q => hq (Or.inl q)) (by cases hb : ws.any lfB with | false => rfl | true => exact absurd (Or.inr hb) hq)
  refine ⟨?_, hp⟩
  unfold linesE
  rw [hp, if_neg (by omega)]
theorem size0 {b : ByteArray} (h : b.size = 0) : b = ⟨#[]⟩ := by
  rcases base_or b with ⟨_, q, _⟩ | ⟨q, _⟩
  · exact q
  · exact absurd h q
theorem app_of {sum : ByteArray → ByteArray} {base data : ByteArray} {l : List Hk} {out : List ByteArray} (hv : validV base l = true) (hl : linesE data = 0) (hc : cnt 1 l + cnt 2 l = (parts 10 data).length) (hb : base.size = 0 ∨ base = sum data) (ho : (appO (parts 10 data) l).1 = out) (hj : joinE out = 0) : appE sum base l data = 0 ∧ appOut data l = out := by
  refine ⟨?_, ho⟩
  unfold appE
  rw [if_neg (by rw [hv]; decide), if_neg (by omega), if_neg (by
    rintro (q | ⟨q1, q2⟩)
    · exact q hc
    · rcases hb with hb | hb
      · exact q1 hb
      · exact q2 hb)]
  rw [appOut, ho]; exact hj
theorem back_ok {sum : ByteArray → ByteArray} (hsum : ∀ d, (sum d).size = 32) {base data : ByteArray} {l : List Hk} (h0 : appE sum base l data = 0) (hv : validV (newB sum base (appOut data l)) (invL data l) = true) :
    appE sum (newB sum base (appOut data l)) (invL data l) (joinV (appOut data l)) = 0 ∧ joinV (appOut (joinV (appOut data l)) (invL data l)) = data ∧
    invL (joinV (appOut data l)) (invL data l) = l ∧ newB sum (newB sum base (appOut data l)) (appOut (joinV (appOut data l)) (invL data l)) = base ∧
    costV base l = costV (newB sum base (appOut data l)) (invL data l) ∧ (base.size = 0 ↔ (newB sum base (appOut data l)).size = 0) ∧ validV base l = true := by
  obtain ⟨hvl, hlin, hcc, hbs, hje⟩ := app_zero h0
  have hg := valid_go hvl
  have ho := ok_of hvl
  have hi := ok_of hv
  have hI := inv_ok ho hcc
  have hII := inv_inv hg hcc hi
  obtain ⟨hlT, hpT⟩ := joinE_lines hje
  have hjd := joinE_parts hlin
  have e1 : (appO (parts 10 data) l).1 = appOut data l := rfl
  have e2 : (invO (parts 10 data) l).1.flush.l = invL data l := rfl
  rw [e1, e2] at hI hII
  have happ : (appO (appOut data l) (invL data l)).1 = parts 10 data := by rw [hI.app, List.take_length]
  have hbase : (newB sum base (appOut data l)).size = 0 ∨ newB sum base (appOut data l) = sum (joinV (appOut data l)) := by
    unfold newB
    split
    · exact Or.inl rfl
    · exact Or.inr rfl
  have hA := app_of (data := joinV (appOut data l)) (out := parts 10 data) hv hlT (by rw [hpT]; exact hI.c2) hbase (by rw [hpT]; exact happ) hjd
  have hb0 : base.size = 0 ↔ (newB sum base (appOut data l)).size = 0 := by
    unfold newB
    split
    · rename_i q; exact ⟨fun _ => rfl, fun _ => q⟩
    · rename_i q; rw [hsum]; exact ⟨fun h => absurd h q, fun h => by cases h⟩
  refine ⟨hA.1, by rw [hA.2, join_parts], by rw [invL, hpT]; exact hII, ?_, ?_, hb0, hvl⟩
  · rw [hA.2]
    by_cases q : base.size = 0
    · rw [newB, if_pos (hb0.1 q), size0 q]
    · rw [newB, if_neg (fun h => q (hb0.2 h)), join_parts]
      rcases hbs with h | h
      · exact absurd h q
      · exact h.symm
  · have c := old_cnt l ho
    have c1 := hI.c1
    have c2 := hI.c2
    have c3 := hI.c3
    have m := old_mt (parts 10 data) l ho (by omega)
    rw [e1] at m
    rw [List.length_map] at c1
    rw [costV, costV, if_pos hvl, if_pos hv]
    omega
theorem few_lines {s : ByteArray} (h : s.size ≤ 500) : linesE s = 0 ∧ 1 ≤ (parts 10 s).length ∧ (parts 10 s).length ≤ 501 ∧ szL (parts 10 s) ≤ 500 := by
  have hne := parts_ne s
  have hj := joinV_sz hne
  rw [join_parts] at hj
  have h1 : 1 ≤ (parts 10 s).length := by
    cases hp : parts 10 s with
    | nil => exact absurd hp hne
    | cons x r => simp
  have h2 : (parts 10 s).length ≤ 501 := by omega
  refine ⟨?_, h1, h2, by omega⟩
  unfold linesE
  rw [if_neg (by omega)]
theorem short_ok {s1 s2 : ByteArray} (h1 : s1.size ≤ 500) (h2 : s2.size ≤ 500) : validV ⟨#[]⟩ (mkL s1 s2) = true ∧ mkR s1 s2 = 0 ∧ mkD s1 s2 = mkL s1 s2 := by
  obtain ⟨a1, a2, a3, a4⟩ := few_lines h1
  obtain ⟨b1, b2, b3, b4⟩ := few_lines h2
  have hv : validV ⟨#[]⟩ (mkL s1 s2) = true := make_valid a2 b2 a3 b3 b4 (parts_lf s2)
  exact ⟨hv, by rw [mkR, if_pos ⟨⟨a1, b1⟩, hv⟩], by rw [mkD, if_pos ⟨⟨a1, b1⟩, hv⟩]⟩
theorem short_app {sum : ByteArray → ByteArray} {s1 s2 : ByteArray} (h1 : s1.size ≤ 500) (h2 : s2.size ≤ 500) : appE sum ⟨#[]⟩ (mkL s1 s2) s1 = 0 ∧ joinV (appOut s1 (mkL s1 s2)) = s2 := by
  obtain ⟨hv, _, _⟩ := short_ok h1 h2
  have hI := make_ok (parts 10 s1) (parts 10 s2)
  have hA := app_of (sum := sum) (data := s1) (out := parts 10 s2) hv (few_lines h1).1 hI.c2 (Or.inl rfl) (by rw [mkL, hI.app, List.take_length]) (joinE_parts (few_lines h2).1)
  exact ⟨hA.1, by rw [hA.2, join_parts]⟩
theorem parts_inj {s1 s2 : ByteArray} (h : parts 10 s1 = parts 10 s2) : s1 = s2 := by rw [← join_parts s1, h, join_parts]
theorem short_zero {s1 s2 : ByteArray} (h1 : s1.size ≤ 500) (h2 : s2.size ≤ 500) : costV ⟨#[]⟩ (mkL s1 s2) = 0 ↔ s1 = s2 := by
  rw [costV, if_pos (short_ok h1 h2).1, mkL, make_zero]
  exact ⟨parts_inj, fun h => by rw [h]⟩
theorem short_best {sum : ByteArray → ByteArray} {s1 s2 base : ByteArray} {l : List Hk} (h1 : s1.size ≤ 500) (h2 : s2.size ≤ 500) (h0 : appE sum base l s1 = 0) (hT : joinV (appOut s1 l) = s2) : costV ⟨#[]⟩ (mkL s1 s2) ≤ costV base l := by
  obtain ⟨hvl, hlin, hcc, hbs, hje⟩ := app_zero h0
  have hp := (joinE_lines hje).2
  rw [hT] at hp
  rw [costV, costV, if_pos (short_ok h1 h2).1, if_pos hvl, mkL]
  exact make_best (ok_of hvl) hcc (by rw [hp]; rfl)
theorem then_ok {sum : ByteArray → ByteArray} {b1 b2 data : ByteArray} {l1 l2 : List Hk} (h0 : thnE sum b1 l1 b2 l2 data = 0) (hv : validV b1 (thnL data l1 l2) = true) :
    appE sum b1 l1 data = 0 ∧ appE sum b2 l2 (joinV (appOut data l1)) = 0 ∧ appE sum b1 (thnL data l1 l2) data = 0 ∧ appOut data (thnL data l1 l2) = thnO data l1 l2 ∧ costV b1 (thnL data l1 l2) ≤ costV b1 l1 + costV b2 l2 := by
  have e1 : appE sum b1 l1 data = 0 := by
    unfold thnE at h0
    split at h0
    · assumption
    · rename_i q; exact absurd h0 q
  have e2 : appE sum b2 l2 (joinV (appOut data l1)) = 0 := by rw [thnE, if_pos e1] at h0; exact h0
  obtain ⟨hv1, hlin1, hcc1, hbs1, hje1⟩ := app_zero e1
  obtain ⟨hv2, hlin2, hcc2, hbs2, hje2⟩ := app_zero e2
  have hp := (joinE_lines hje1).2
  rw [hp] at hcc2
  have ho1 := ok_of hv1
  have ho2 := ok_of hv2
  obtain ⟨t1, t2, t3, t4⟩ := thn_ok ho1 hcc1 (mid := appOut data l1) rfl ho2 hcc2
  have eo : thnO data l1 l2 = (appO (appOut data l1) l2).1 := by rw [thnO, appOut, hp]
  have hr := rise_up 0 t1
  rw [Nat.zero_add, t2, ← eo] at hr
  have hI := ofV_ok (old := parts 10 data) (nw := thnO data l1 l2) hr (fun p hp => by
    obtain ⟨q1, q2⟩ := fpairs_mem hp
    rw [eo]
    exact t3 _ _ q2)
  have eT : ofV (thnO data l1 l2) (parts 10 data).length (fpairs 0 (thnX l1 l2)) = thnL data l1 l2 := rfl
  rw [eT] at hI
  have hA := app_of (sum := sum) (data := data) (out := thnO data l1 l2) hv hlin1 hI.c2 hbs1 (by rw [hI.app, List.take_length]) hje2
  refine ⟨e1, e2, hA.1, hA.2, ?_⟩
  rw [costV, costV, costV, if_pos hv, if_pos hv1, if_pos hv2]
  have u1 := old_cnt l1 ho1
  have u2 := old_cnt l2 ho2
  have p2 := (pairs_ok ho2 hcc2).2.2
  rw [← t4] at p2
  have hn := comp_none (ys := (oldO l2).1) (b := 0) p2
  rw [List.drop_zero] at hn
  have n1 := noneC_len (oldO l1).1 0
  have n2 := noneC_len (oldO l2).1 0
  have n3 := noneC_len (thnX l1 l2) 0
  have e3 : comp (oldO l1).1 (oldO l2).1 = thnX l1 l2 := rfl
  rw [e3] at hn
  have c1 := hI.c1
  have c2 := hI.c2
  have c3 := hI.c3
  rw [eo] at c3
  have m2 := (old_mt (appOut data l1) l2 ho2 (by omega)).2.1
  omega
def keepH (n : Nat) : List Hk := [⟨1, n, []⟩]
theorem keep_valid {n : Nat} (h1 : 1 ≤ n) (h2 : n ≤ 1024) : validV ⟨#[]⟩ (keepH n) = true := by
  have ho : OkH ⟨1, n, []⟩ := ⟨by simp, by simp, by simp only; omega, by simp only; omega, fun h => by simp at h, fun _ => rfl⟩
  have ht : textL ⟨#[]⟩ (keepH n) = [headV ⟨1, n, []⟩] := by rw [textL, baseL, if_pos (by rfl)]; rfl
  have hh := head_sz9 (h := ⟨1, n, []⟩) (by simp only; omega) (by simp only; omega)
  have hlf := head_lf (h := ⟨1, n, []⟩) (by simp only; omega) (by simp only; omega)
  simp only [validV, Bool.and_eq_true, Bool.or_eq_true, decide_eq_true_eq]
  refine ⟨⟨⟨Or.inl rfl, ?_⟩, ?_⟩, ?_⟩
  · rw [goodGo_eq]
    have : okGo 0 (keepH n) = true := by rw [keepH, okGo, okH_iff.2 ho]; rfl
    rw [this]; rfl
  · simp only [sizesOK, keepH, cnt, Bool.and_eq_true, decide_eq_true_eq]
    simp
    omega
  · rw [ht]
    unfold joinE
    rw [if_neg (by
      rintro (e | e)
      · cases e
      · rw [List.any_cons, hlf] at e; cases e), if_neg (by
      have : szL [headV ⟨1, (n : Int), []⟩] = (headV ⟨1, (n : Int), []⟩).size := by simp [szL]
      rw [this]
      simp only [List.length_singleton]; omega)]
theorem keep_app (old : List ByteArray) : (appO old (keepH old.length)).1 = old := by
  show (appS old ([], 0) ⟨1, (old.length : Int), []⟩).1 = old
  rw [appS, if_pos rfl]
  simp
theorem then_keep {sum : ByteArray → ByteArray} {b1 data : ByteArray} {l1 : List Hk} (e1 : appE sum b1 l1 data = 0) : thnE sum b1 l1 ⟨#[]⟩ (keepH (appOut data l1).length) data = 0 ∧ thnL data l1 (keepH (appOut data l1).length) = l1 := by
  obtain ⟨hv1, hlin1, hcc1, hbs1, hje1⟩ := app_zero e1
  obtain ⟨hlT, hpT⟩ := joinE_lines hje1
  have hlen := join_len hje1
  have hne : 1 ≤ (appOut data l1).length := by
    cases hp : appOut data l1 with
    | nil => rw [hp] at hje1; cases hje1
    | cons x r => simp
  have hv2 := keep_valid hne hlen
  have hka := keep_app (appOut data l1)
  have hA := app_of (sum := sum) (data := joinV (appOut data l1)) (out := appOut data l1) hv2 hlT (by rw [hpT]; simp [keepH, cnt]) (Or.inl rfl) (by rw [hpT]; exact hka) hje1
  refine ⟨by rw [thnE, if_pos e1]; exact hA.1, ?_⟩
  have ho1 := ok_of hv1
  have m1 := old_mt (parts 10 data) l1 ho1 (by omega)
  have eX : thnX l1 (keepH (appOut data l1).length) = (oldO l1).1 := by
    have : (oldO (keepH (appOut data l1).length)).1 = (List.range (oldO l1).1.length).map fun i => some (0 + i) := by
      show (oldS ([], 0) ⟨1, ((appOut data l1).length : Int), []⟩).1 = _
      rw [oldS, if_neg (by simp), if_pos rfl, m1.2.1]
      simp only [List.nil_append, Int.toNat_natCast]; rfl
    rw [thnX, this, comp_id]
  rw [thnL, eX, thnO, hA.2]
  exact reb_V (valid_go hv1) hcc1
end Go.Proofs.YtfeknjpinboknaaGreatDoor

