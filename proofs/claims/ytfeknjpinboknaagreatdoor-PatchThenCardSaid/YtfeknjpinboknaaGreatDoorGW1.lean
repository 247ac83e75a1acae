/- Plain: what applying a patch gives. No conditions. The program's apply. The digest's contract is a hypothesis where the base is not empty. Conditions: sizes. (Printed by mk-w2.py.) -/
import Derived.Test.YtfeknjpinboknaaGreatDoorGBase
import Derived.Test.YtfeknjpinboknaaGreatDoorGQ
import Derived.Test.YtfeknjpinboknaaGreatDoorGU
import Derived.Test.YtfeknjpinboknaaGreatDoorGBase
import Derived.Deep.DeepCutAuto

namespace Go.Proofs.YtfeknjpinboknaaGreatDoor
open Go Go.RowKit Go.Joins
set_option linter.unusedSimpArgs false
set_option linter.unusedVariables false

def appS (old : List ByteArray) (st : List ByteArray × Nat) (h : Hk) : List ByteArray × Nat :=
  if h.kind = 1 then (st.1 ++ (old.drop st.2).take h.n.toNat, st.2 + h.n.toNat) else if h.kind = 2 then (st.1, st.2 + h.n.toNat) else (st.1 ++ h.lines, st.2)
def appO (old : List ByteArray) (l : List Hk) : List ByteArray × Nat := l.foldl (appS old) ([], 0)
theorem appO_snoc (old : List ByteArray) (l : List Hk) (h : Hk) : appO old (l ++ [h]) = appS old (appO old l) h := by rw [appO, List.foldl_append]; rfl
theorem map_take {hs : List Hm} {k : Nat} {h : Hm} (hk : hs[k]? = some h) : (hs.take (k + 1)).map Hm.d = (hs.take k).map Hm.d ++ [h.d] := by
  obtain ⟨hi, rfl⟩ := List.getElem?_eq_some_iff.1 hk
  rw [List.take_succ_eq_append_getElem hi, List.map_append]; rfl
theorem ok_take {hs : List Hm} (ho : OkA hs) (k : Nat) : ∀ x ∈ (hs.take k).map Hm.d, OkH x := fun x hx => by
  obtain ⟨y, hy, rfl⟩ := List.mem_map.1 hx
  exact ho y (List.mem_of_mem_take hy)
theorem snoc_ind {α : Type} {P : List α → Prop} (h0 : P []) (h1 : ∀ l x, P l → P (l ++ [x])) (l : List α) : P l := by
  have : ∀ n (l : List α), l.length = n → P l := by
    intro n
    induction n with
    | zero => intro l hl; rw [List.eq_nil_of_length_eq_zero hl]; exact h0
    | succ n ih =>
      intro l hl
      have hne : l ≠ [] := by intro e; rw [e] at hl; cases hl
      rw [← List.dropLast_concat_getLast hne]
      exact h1 _ _ (ih _ (by rw [List.length_dropLast]; omega))
  exact this _ l rfl
theorem appO_at (old : List ByteArray) : ∀ (l : List Hk), (∀ h ∈ l, OkH h) → ((appO old l).2 : Int) = cnt 1 l + cnt 2 l := by
  intro l
  induction l using snoc_ind with
  | h0 => intro _; rfl
  | h1 l h ih =>
    intro ho
    have h1 := ih (fun x hx => ho x (List.mem_append_left _ hx))
    have h2 := ho h (by simp)
    have := h2.n1
    rw [appO_snoc, cnt_app, cnt_app, appS]
    by_cases k1 : h.kind = 1
    · rw [if_pos k1]; simp [cnt, k1]; omega
    · rw [if_neg k1]
      by_cases k2 : h.kind = 2
      · rw [if_pos k2]; simp [cnt, k2]; omega
      · rw [if_neg k2]; simp [cnt, k1, k2]; omega
theorem appO_len (old : List ByteArray) : ∀ (l : List Hk), (∀ h ∈ l, OkH h) → cnt 1 l + cnt 2 l ≤ old.length → ((appO old l).1.length : Int) = cnt 1 l + cnt 3 l := by
  intro l
  induction l using snoc_ind with
  | h0 => intro _ _; rfl
  | h1 l h ih =>
    intro ho hle
    have ho1 : ∀ x ∈ l, OkH x := fun x hx => ho x (List.mem_append_left _ hx)
    have h2 := ho h (by simp)
    have hn := h2.n1
    have c1 := cnt_bound 1 ho1
    have c2 := cnt_bound 2 ho1
    have e1 : cnt 1 (l ++ [h]) = cnt 1 l + (if h.kind = 1 then h.n else 0) := by rw [cnt_app]; simp [cnt]
    have e2 : cnt 2 (l ++ [h]) = cnt 2 l + (if h.kind = 2 then h.n else 0) := by rw [cnt_app]; simp [cnt]
    have e3 : cnt 3 (l ++ [h]) = cnt 3 l + (if h.kind = 3 then h.n else 0) := by rw [cnt_app]; simp [cnt]
    rw [e1, e2] at hle
    have hat := appO_at old l ho1
    have h1 := ih ho1 (by split at hle <;> split at hle <;> omega)
    rw [appO_snoc, e1, e3, appS]
    by_cases k1 : h.kind = 1
    · have k2 : ¬ h.kind = 2 := by omega
      have k3 : ¬ h.kind = 3 := by omega
      rw [if_pos k1, if_neg k2] at hle
      rw [if_pos k1, if_pos k1, if_neg k3]
      simp only [List.length_append, List.length_take, List.length_drop]; omega
    · by_cases k2 : h.kind = 2
      · have k3 : ¬ h.kind = 3 := by omega
        simp only [if_neg k1, if_pos k2, if_neg k3]; omega
      · have k3 : h.kind = 3 := by have := h2.k1; have := h2.k3; omega
        have := h2.l3 k3
        rw [if_neg k1, if_neg k2, if_neg k1, if_pos k3]
        simp only [List.length_append]; omega
theorem cnt_mono {hs : List Hm} (ho : OkA hs) (j : Int) (k : Nat) : cnt j ((hs.take k).map Hm.d) ≤ cnt j (hs.map Hm.d) := by
  have e : hs.map Hm.d = (hs.take k).map Hm.d ++ (hs.drop k).map Hm.d := by rw [← List.map_append, List.take_append_drop]
  rw [e, cnt_app]
  have := (cnt_bound j (l := (hs.drop k).map Hm.d) (fun x hx => by
    obtain ⟨y, hy, rfl⟩ := List.mem_map.1 hx
    exact ho y (List.mem_of_mem_drop hy))).1
  omega
theorem appO_mem (old : List ByteArray) : ∀ (l : List Hk), ∀ s ∈ (appO old l).1, s ∈ old ∨ ∃ h ∈ l, s ∈ h.lines := by
  intro l
  induction l using snoc_ind with
  | h0 => intro s hs; cases hs
  | h1 l h ih =>
    intro s hs
    rw [appO_snoc, appS] at hs
    have key : s ∈ (appO old l).1 → s ∈ old ∨ ∃ h' ∈ l ++ [h], s ∈ h'.lines := fun q => by
      rcases ih s q with q | ⟨y, hy, q⟩
      · exact Or.inl q
      · exact Or.inr ⟨y, List.mem_append_left _ hy, q⟩
    split at hs
    · rcases List.mem_append.1 hs with q | q
      · exact key q
      · exact Or.inl (List.mem_of_mem_drop (List.mem_of_mem_take q))
    · split at hs
      · exact key hs
      · rcases List.mem_append.1 hs with q | q
        · exact key q
        · exact Or.inr ⟨h, by simp, q⟩
def appOut (data : ByteArray) (l : List Hk) : List ByteArray := (appO (parts 10 data) l).1
def appE (sum : ByteArray → ByteArray) (base : ByteArray) (l : List Hk) (data : ByteArray) : Int :=
  if validV base l = false then 1 else if linesE data ≠ 0 then 10 else if cnt 1 l + cnt 2 l ≠ (parts 10 data).length ∨ (base.size ≠ 0 ∧ base ≠ sum data) then 9 else joinE (appOut data l)
theorem lf_lines {base : ByteArray} {l : List Hk} (h : validV base l = true) : ∀ x ∈ l, ∀ s ∈ x.lines, lfB s = false := by
  simp only [validV, Bool.and_eq_true] at h
  have := h.1.1.2
  rw [goodGo_eq, Bool.and_eq_true, Bool.not_eq_true'] at this
  intro x hx s hs
  have h2 := this.2
  rw [lfAny, List.any_eq_false] at h2
  have h3 := h2 x hx
  rw [Bool.not_eq_true, List.any_eq_false] at h3
  simpa using h3 s hs
theorem out_lf {base data : ByteArray} {l : List Hk} (h : validV base l = true) : (appOut data l).any lfB = false := by
  rw [List.any_eq_false]
  intro s hs
  rcases appO_mem _ _ s hs with q | ⟨x, hx, q⟩
  · have := parts_lf data
    rw [List.any_eq_false] at this
    exact this s q
  · rw [lf_lines h x hx s q]; decide
theorem out_len {base data : ByteArray} {l : List Hk} (h : validV base l = true) (hc : cnt 1 l + cnt 2 l = (parts 10 data).length) : ((appOut data l).length : Int) = cnt 1 l + cnt 3 l := appO_len _ _ (okA_of h) (by omega)
theorem sizes_of {base : ByteArray} {l : List Hk} (h : validV base l = true) : 1 ≤ cnt 1 l + cnt 2 l ∧ cnt 1 l + cnt 2 l ≤ 1024 ∧ 1 ≤ cnt 1 l + cnt 3 l ∧ cnt 1 l + cnt 3 l ≤ 1024 := by
  simp only [validV, sizesOK, Bool.and_eq_true, decide_eq_true_eq] at h
  exact ⟨h.1.2.1.1.1, h.1.2.1.1.2, h.1.2.1.2, h.1.2.2⟩
theorem out_join {base data : ByteArray} {l : List Hk} (h : validV base l = true) (hc : cnt 1 l + cnt 2 l = (parts 10 data).length) : joinE (appOut data l) = 0 ∨ joinE (appOut data l) = 10 := by
  have h1 := out_lf (data := data) h
  have h2 := out_len h hc
  have h3 := sizes_of h
  unfold joinE
  rw [if_neg (by
    rintro (e | e)
    · rw [e] at h2; simp at h2; omega
    · rw [h1] at e; cases e)]
  split
  · exact Or.inr rfl
  · exact Or.inl rfl
end Go.Proofs.YtfeknjpinboknaaGreatDoor

namespace Go.Proofs.YtfeknjpinboknaaGreatDoor
open Go Go.RowKit Go.Joins Go.Shelf
set_option linter.unusedSimpArgs false
set_option linter.unusedVariables false

def SumC (sum : ByteArray → ByteArray) : Prop := ∀ (d : ByteArray) (W : World), d.size ≤ 1000000 → Calls Tryz.prog 53 #[.string d] W fun e w' => e = .returned (.string (sum d)) ∧ New W w'
def AppP (sum : ByteArray → ByteArray) (base : ByteArray) (l : List Hk) (data : ByteArray) (w : World) (e : Ending) (w' : World) : Prop := New w w' ∧
  if appE sum base l data = 0 then ∃ A1 c1 A2 c2, e = .returned (.tuple #[.slice A1 (parts 10 data).length c1, .slice A2 (appOut data l).length c2, .int .i64 0]) ∧ LnOK w' [rowH (parts 10 data) A1 c1] ∧ LnOK w' [rowH (appOut data l) A2 c2]
  else e = .returned (.tuple #[.slice none 0 0, .slice none 0 0, .int .i64 (appE sum base l data)])
theorem app_no {sum : ByteArray → ByteArray} {base data : ByteArray} {l : List Hk} {w w' : World} {e : Ending} {x : Int} (h : appE sum base l data = x) (hx : x ≠ 0) (he : e = .returned (.tuple #[.slice none 0 0, .slice none 0 0, .int .i64 x])) (hn : New w w') : AppP sum base l data w e w' := by
  refine ⟨hn, ?_⟩
  rw [h, if_neg hx]; exact he
theorem app_yes {sum : ByteArray → ByteArray} {base data : ByteArray} {l : List Hk} {w w' : World} {e : Ending} {A1 A2 : Option Addr} {c1 c2 n1 n2 : Nat} (h : appE sum base l data = 0) (h1 : n1 = (parts 10 data).length) (h2 : n2 = (appOut data l).length) (he : e = .returned (.tuple #[.slice A1 n1 c1, .slice A2 n2 c2, .int .i64 0])) (l1 : LnOK w' [rowH (parts 10 data) A1 c1]) (l2 : LnOK w' [rowH (appOut data l) A2 c2]) (hn : New w w') : AppP sum base l data w e w' := by
  subst h1 h2
  refine ⟨hn, ?_⟩
  rw [if_pos h]
  exact ⟨A1, c1, A2, c2, he, l1, l2⟩
theorem ln_rd {w : World} {ws : List ByteArray} {A : Option Addr} {c : Nat} (h : LnOK w [rowH ws A c]) : Rd w 1 A ws.length (sCells ws) ∧ ws.length ≤ c := ⟨(h (rowH ws A c) (by simp)).2.1, (h (rowH ws A c) (by simp)).1⟩
theorem own_ln {w : World} {base n : Nat} {v : Value} {ws : List ByteArray} (h : w.ownsRow base 9 1 v n (sCells ws)) : ∃ A c, v = .slice A n c ∧ n = ws.length ∧ LnOK w [rowH ws A c] := by
  obtain ⟨A, c, rfl, h1, h2, h3, h4⟩ := own_lines h
  refine ⟨A, c, rfl, h2.symm, fun y hy => ?_⟩
  rw [List.mem_singleton] at hy
  subst hy
  simp only [rowH]
  subst h2
  exact ⟨h1, h3, h4⟩
theorem out_sz {data : ByteArray} {hs : List Hm} (hz : SzH hs) (hd : data.size ≤ 1000000) : ∀ s ∈ appOut data (hs.map Hm.d), s.size ≤ 1000000 := fun s h => by
  rcases appO_mem _ _ s h with q | ⟨x, hx, q⟩
  · have := parts_size q; omega
  · obtain ⟨y, hy, rfl⟩ := List.mem_map.1 hx
    exact hz.ls y hy s q
theorem app_step {ls : List ByteArray} {hs : List Hm} (ho : OkA hs) (hc : cnt 1 (hs.map Hm.d) + cnt 2 (hs.map Hm.d) = ls.length) {k : Nat} {h : Hm} (hk : hs[k]? = some h) {os : List ByteArray} {at0 : Nat} (e : appO ls ((hs.take k).map Hm.d) = (os, at0)) :
    (h.kind = 1 → at0 + h.n.toNat ≤ ls.length ∧ appO ls ((hs.take (k + 1)).map Hm.d) = (os ++ (ls.drop at0).take h.n.toNat, at0 + h.n.toNat)) ∧ (h.kind = 2 → at0 + h.n.toNat ≤ ls.length ∧ appO ls ((hs.take (k + 1)).map Hm.d) = (os, at0 + h.n.toNat)) ∧ (h.kind = 3 → at0 ≤ ls.length ∧ appO ls ((hs.take (k + 1)).map Hm.d) = (os ++ h.lines, at0)) := by
  have hok : OkH h.d := ho h (List.mem_of_getElem? hk)
  have e2 : appO ls ((hs.take (k + 1)).map Hm.d) = appS ls (os, at0) h.d := by rw [map_take hk, appO_snoc, e]
  have h2 := appO_at ls ((hs.take (k + 1)).map Hm.d) (ok_take ho _)
  have m1 := cnt_mono ho 1 (k + 1)
  have m2 := cnt_mono ho 2 (k + 1)
  rw [e2] at h2
  rw [e2]
  have dk : h.d.kind = h.kind := rfl
  have dn : h.d.n = h.n := rfl
  generalize cnt 1 ((hs.take (k + 1)).map Hm.d) = c1 at *
  generalize cnt 2 ((hs.take (k + 1)).map Hm.d) = c2 at *
  refine ⟨fun hk1 => ?_, fun hk1 => ?_, fun hk1 => ?_⟩ <;> simp only [appS, dk, dn, hk1] at h2 ⊢ <;> simp at h2 ⊢ <;> (try refine ⟨?_, rfl⟩) <;> omega
theorem app_len {ls : List ByteArray} {hs : List Hm} (ho : OkA hs) (hc : cnt 1 (hs.map Hm.d) + cnt 2 (hs.map Hm.d) = ls.length) (k : Nat) : ((appO ls ((hs.take k).map Hm.d)).1.length : Int) ≤ cnt 1 (hs.map Hm.d) + cnt 3 (hs.map Hm.d) := by
  have m1 := cnt_mono ho 1 k
  have m2 := cnt_mono ho 2 k
  have m3 := cnt_mono ho 3 k
  have := appO_len ls ((hs.take k).map Hm.d) (ok_take ho _) (by omega)
  omega
set_option maxRecDepth 100000 in
set_option maxHeartbeats 32000000 in
theorem apply_any (sum : ByteArray → ByteArray) (base : ByteArray) (A : Option Addr) (n c : Nat) (hs : List Hm) (data : ByteArray) (w : World) (hr : PRd w A n hs) (hz : SzH hs) (hb : base.size ≤ 1000000) (hd : data.size ≤ 1000000) (hE : Env w) (hS : base.size = 0 ∨ SumC sum) :
    Calls Tryz.prog 49 #[.agg #[.string base, .slice A n c], .string data] w (AppP sum base (hs.map Hm.d) data w) := by
  have hn0 := (New.refl w).alloc (.cells #[.string base, .slice A n c] 24)
  have B0 := Blk.made w 24 #[.string base, .slice A n c]
  have HR := Lib.hid hr
  have HL := Lib.hid hr.len
  have HZ := Lib.hid hz
  have HE := Lib.hid hE
  have HCK := Lib.hid (check_any base A n c hs _ (hr.new hn0) hz hb (hE.new hn0))
  have HNO := Lib.hid (fun (x : Int) (w' : World) (e : Ending) h hx he hn => app_no (sum := sum) (base := base) (data := data) (l := hs.map Hm.d) (w := w) (w' := w') (e := e) (x := x) h hx he hn)
  have HAE : Hid (appE sum base (hs.map Hm.d) data = if validV base (hs.map Hm.d) = false then 1 else if linesE data ≠ 0 then 10 else if cnt 1 (hs.map Hm.d) + cnt 2 (hs.map Hm.d) ≠ (parts 10 data).length ∨ (base.size ≠ 0 ∧ base ≠ sum data) then 9 else joinE (appOut data (hs.map Hm.d))) := Lib.hid rfl
  cases hv : validV base (hs.map Hm.d)
  · have hae : appE sum base (hs.map Hm.d) data = 1 := by rw [HAE.out, if_pos hv]
    have HN := Lib.hid (fun w' e => HNO.out 1 w' e hae (by decide))
    rw [hv] at HCK
    clear hr hz hE hS hv hae HNO HAE
    go_enter Tryz.func49, Tryz.ntmps49
    go_wp2_with (go_at_call 33; (with_reducible refine HCK.out.mono ?_); rintro e w1 ⟨rfl, n1⟩)
    go_ret3
    exact HN.out _ _ rfl (hn0.trans n1)
  have HV := Lib.hid hv
  obtain ⟨ho, hln, hbz, s1, s2, s3, s4⟩ := valid_ok hv
  have HO := Lib.hid ho
  rw [hv] at HCK
  have hn1024 : n ≤ 1024 := by rw [← hr.len]; exact hln
  by_cases hl : linesE data = 0
  · have HLI := Lib.hid (fun W (hN : Env W) => lines_eq data W (by omega) hN hl)
    have HSZ := Lib.hid (fun W (hN : New w W) => sizes_any base A n c hs W (hr.new hN) ho (by omega))
    have HLE := Lib.hid hl
    obtain ⟨cc1, hcc1⟩ : ∃ q, cnt 1 (hs.map Hm.d) = q := ⟨_, rfl⟩
    obtain ⟨cc2, hcc2⟩ : ∃ q, cnt 2 (hs.map Hm.d) = q := ⟨_, rfl⟩
    obtain ⟨cc3, hcc3⟩ : ∃ q, cnt 3 (hs.map Hm.d) = q := ⟨_, rfl⟩
    have b1 := (cnt_bound 1 (l := hs.map Hm.d) (fun x hx => by obtain ⟨y, hy, rfl⟩ := List.mem_map.1 hx; exact ho y hy)).1
    have b2 := (cnt_bound 2 (l := hs.map Hm.d) (fun x hx => by obtain ⟨y, hy, rfl⟩ := List.mem_map.1 hx; exact ho y hy)).1
    have b3 := (cnt_bound 3 (l := hs.map Hm.d) (fun x hx => by obtain ⟨y, hy, rfl⟩ := List.mem_map.1 hx; exact ho y hy)).1
    rw [hcc1] at s1 s2 s3 s4 b1
    rw [hcc2] at s1 s2 b2
    rw [hcc3] at s3 s4 b3
    rw [hcc1, hcc2, hcc3] at HSZ
    rw [hcc1, hcc2] at HAE
    have HC1 := Lib.hid hcc1
    have HC2 := Lib.hid hcc2
    have HC3 := Lib.hid hcc3
    obtain ⟨ol, hol⟩ : ∃ q, (parts 10 data).length = q := ⟨_, rfl⟩
    have HOL := Lib.hid hol
    rw [hol] at HLI HAE
    have HAE2 : Hid (appE sum base (hs.map Hm.d) data = if cc1 + cc2 ≠ ol ∨ (base.size ≠ 0 ∧ base ≠ sum data) then 9 else joinE (appOut data (hs.map Hm.d))) := Lib.hid (by rw [HAE.out, if_neg (by rw [HV.out]; decide), if_neg (by rw [HLE.out]; decide)])
    clear hr hz hE hv hcc1 hcc2 hcc3 hol hl HAE ho
    go_enter Tryz.func49, Tryz.ntmps49
    go_wp2_with (fail)
    with_reducible refine HCK.out.mono ?_
    rintro e w1 ⟨rfl, n1⟩
    have hW1 := hn0.trans n1
    have BX := B0.new n1
    have nL := (New.refl w1).alloc (.cells (sCells (parts 10 data)).toArray 9)
    have hLN : LnOK (w1.alloc (.cells (sCells (parts 10 data)).toArray 9)) [rowH (parts 10 data) (some ⟨w1.heap.size, 0, none⟩) ol] := fun y hy => by
      rw [List.mem_singleton] at hy
      subst hy
      simp only [rowH]
      rw [← HOL.out]
      exact ⟨Nat.le_refl _, rd_new w1 (sCells (parts 10 data)) 9 _ (by simp [sCells]), fun _ => ⟨_, 0, _, _, rfl, Blk.made w1 9 (sCells (parts 10 data)).toArray⟩⟩
    have BX2 := BX.new nL
    have hW2 := hW1.trans nL
    have HLI2 := Lib.hid (HLI.out w1 (HE.out.new hW1))
    obtain ⟨g, hg⟩ : ∃ g, w1.heap.size = g := ⟨_, rfl⟩
    rw [hg] at hLN HLI2
    obtain ⟨w2, hw2⟩ : ∃ w2, w1.alloc (.cells (sCells (parts 10 data)).toArray 9) = w2 := ⟨_, rfl⟩
    rw [hw2] at hLN BX2 hW2 HLI2
    have d0 := BX2.cell' 0 _ rfl
    have d1 := BX2.cell' 1 _ rfl
    clear hg hw2 nL BX hW1 hn0 B0 n1
    obtain ⟨bad, hbad⟩ : ∃ bad : Bool, decide (cc1 + cc2 ≠ ol ∨ (base.size ≠ 0 ∧ base ≠ sum data)) = bad := ⟨_, rfl⟩
    have HBAD := Lib.hid hbad
    have hSu := hS
    clear hbad
    go_upto_region 8 with (first | (go_at_call 39; (with_reducible refine HLI2.out.mono ?_); rintro e w3 ⟨rfl, rfl⟩) | (go_at_call 37; (with_reducible refine (HSZ.out _ hW2).mono ?_); rintro e w4 ⟨rfl, n4⟩))
    have BX4 := BX2.new n4
    have hW4 := hW2.trans n4
    have LN4 := Lib.hid (hLN.new n4)
    clear BX2 hW2 hLN n4 d0 d1
    have f0 := BX4.cell' 0 _ rfl
    go_cut [58] (fun v58 wc => v58 = .bool bad ∧ New w wc ∧ Blk wc w.heap.size 24 #[.string base, .slice A n c] ∧ LnOK wc [rowH (parts 10 data) (some ⟨g, 0, none⟩) ol])
    case first =>
      have k0 : IntKind.i64.wrap (cc1 + cc2) = cc1 + cc2 := IntWalk.i64_in _ (by omega)
      by_cases h1 : cc1 + cc2 = ol
      · have k1 : (cc1 + cc2 == (ol : Int)) = true := by simpa using h1
        have k2 : (cc1 + cc2 != (ol : Int)) = false := by simpa using h1
        have k3 : IntKind.i64.wrap (ol : Int) = (ol : Int) := IntWalk.i64_in _ (by omega)
        by_cases h2 : base.size = 0
        · have x1 : base.toList = [] := by rw [toList_eq]; exact List.eq_nil_of_length_eq_zero (by rw [← size_eq]; exact h2)
          have x2 : (base.toList == ([] : List UInt8)) = true := by rw [x1]; rfl
          obtain rfl : bad = false := by rw [← HBAD.out]; simp [h1, h2]
          refine wp_region_held_drew (S := (New _)) (by kernel_rfl) ((New.refl _).drew) (fun hS => ?_)
          refine tkT 0 (v := ?v19) hS (fun wq hSq => ?y19) ?_; (case y19 => clear hSq; go_simp; (try with_reducible rfl)); simp only [Act.put, gqD, gqE, gqF]
          refine tkT 1 (v := ?v20) hS (fun wq hSq => ?y20) ?_; (case y20 => clear hSq; go_simp; (try with_reducible rfl)); simp only [Act.put, gqD, gqE, gqF]
          refine tkT 2 (v := ?v21) hS (fun wq hSq => ?y21) ?_; (case y21 => clear hSq; go_simp; (try with_reducible rfl)); simp only [Act.put, gqD, gqE, gqF]
          refine tkT 3 (v := ?v22) hS (fun wq hSq => ?y22) ?_; (case y22 => clear hSq; go_simp; (try with_reducible rfl)); simp only [Act.put, gqD, gqE, gqF]
          refine tkT 4 (v := ?v23) hS (fun wq hSq => ?y23) ?_; (case y23 => clear hSq; go_simp; (try with_reducible rfl)); simp only [Act.put, gqD, gqE, gqF]
          refine tkT 5 (v := ?v24) hS (fun wq hSq => ?y24) ?_; (case y24 => clear hSq; go_simp; (try with_reducible rfl)); simp only [Act.put, gqD, gqE, gqF]
          refine tkT 6 (v := ?v25) hS (fun wq hSq => ?y25) ?_; (case y25 => clear hSq; go_simp; (try with_reducible rfl)); simp only [Act.put, gqD, gqE, gqF]
          refine tkT 7 (v := ?v26) hS (fun wq hSq => ?y26) ?_; (case y26 => clear hSq; go_simp; (try with_reducible rfl)); simp only [Act.put, gqD, gqE, gqF]
          refine tkT 8 (v := ?v27) hS (fun wq hSq => ?y27) ?_; (case y27 => have hf0 := cell_new hSq f0; clear hSq; go_simp; (try with_reducible rfl)); simp only [Act.put, gqD, gqE, gqF]
          refine tkT 9 (v := ?v28) hS (fun wq hSq => ?y28) ?_; (case y28 => clear hSq; go_simp; (try with_reducible rfl)); simp only [Act.put, gqD, gqE, gqF]
          refine tkT 10 (v := ?v29) hS (fun wq hSq => ?y29) ?_; (case y29 => clear hSq; go_simp; (try with_reducible rfl)); simp only [Act.put, gqD, gqE, gqF]
          refine tkU 11 hS ?_; simp only [Act.put, gqD, gqE, gqF]
          refine tkU 12 hS ?_; simp only [Act.put, gqD, gqE, gqF]
          refine tkU 13 hS ?_; simp only [Act.put, gqD, gqE, gqF]
          refine tkU 14 hS ?_; simp only [Act.put, gqD, gqE, gqF]
          refine tkU 15 hS ?_; simp only [Act.put, gqD, gqE, gqF]
          refine tkT 16 (v := ?v35) hS (fun wq hSq => ?y35) ?_; (case y35 => clear hSq; go_simp; (try with_reducible rfl)); simp only [Act.put, gqD, gqE, gqF]
          refine tkT 17 (v := ?v36) hS (fun wq hSq => ?y36) ?_; (case y36 => clear hSq; go_simp; (try with_reducible rfl)); simp only [Act.put, gqD, gqE, gqF]
          refine wpAnyH_done (by kernel_rfl) ?_ _
          go_wp2
          go_meet
          case rel => exact ⟨rfl, hW4.trans (by assumption), BX4.new (by assumption), LN4.out.new (by assumption)⟩
        · have x1 : (base.toList == ([] : List UInt8)) = false := by rw [toList_eq, data_cons (by omega)]; rfl
          have x2 : base.toList.isEmpty = false := by rw [toList_eq, data_cons (by omega)]; rfl
          have HSU : Hid (SumC sum) := Lib.hid (by
            rcases hSu with q | q
            · exact absurd q h2
            · exact q)
          have HSD := Lib.hid (fun W => HSU.out data W hd)
          by_cases h3 : base = sum data
          · have y1 : (base.toList == (sum data).toList) = true := by rw [← h3]; simp
            have y2 : (base.toList != (sum data).toList) = false := by rw [← h3]; simp
            obtain rfl : bad = false := by rw [← HBAD.out]; simp [h1, ← h3]
            generalize sum data = sd at *
            clear h3
            refine wp_region_held_drew (S := (New _)) (by kernel_rfl) ((New.refl _).drew) (fun hS => ?_)
            refine tkT 0 (v := ?v37) hS (fun wq hSq => ?y37) ?_; (case y37 => clear hSq; go_simp; (try with_reducible rfl)); simp only [Act.put, gqD, gqE, gqF]
            refine tkT 1 (v := ?v38) hS (fun wq hSq => ?y38) ?_; (case y38 => clear hSq; go_simp; (try with_reducible rfl)); simp only [Act.put, gqD, gqE, gqF]
            refine tkT 2 (v := ?v39) hS (fun wq hSq => ?y39) ?_; (case y39 => clear hSq; go_simp; (try with_reducible rfl)); simp only [Act.put, gqD, gqE, gqF]
            refine tkT 3 (v := ?v40) hS (fun wq hSq => ?y40) ?_; (case y40 => clear hSq; go_simp; (try with_reducible rfl)); simp only [Act.put, gqD, gqE, gqF]
            refine tkT 4 (v := ?v41) hS (fun wq hSq => ?y41) ?_; (case y41 => clear hSq; go_simp; (try with_reducible rfl)); simp only [Act.put, gqD, gqE, gqF]
            refine tkT 5 (v := ?v42) hS (fun wq hSq => ?y42) ?_; (case y42 => clear hSq; go_simp; (try with_reducible rfl)); simp only [Act.put, gqD, gqE, gqF]
            refine tkT 6 (v := ?v43) hS (fun wq hSq => ?y43) ?_; (case y43 => clear hSq; go_simp; (try with_reducible rfl)); simp only [Act.put, gqD, gqE, gqF]
            refine tkT 7 (v := ?v44) hS (fun wq hSq => ?y44) ?_; (case y44 => clear hSq; go_simp; (try with_reducible rfl)); simp only [Act.put, gqD, gqE, gqF]
            refine tkT 8 (v := ?v45) hS (fun wq hSq => ?y45) ?_; (case y45 => have hf0 := cell_new hSq f0; clear hSq; go_simp; (try with_reducible rfl)); simp only [Act.put, gqD, gqE, gqF]
            refine tkT 9 (v := ?v46) hS (fun wq hSq => ?y46) ?_; (case y46 => clear hSq; go_simp; (try with_reducible rfl)); simp only [Act.put, gqD, gqE, gqF]
            refine tkT 10 (v := ?v47) hS (fun wq hSq => ?y47) ?_; (case y47 => clear hSq; go_simp; (try with_reducible rfl)); simp only [Act.put, gqD, gqE, gqF]
            refine tkT 11 (v := ?v48) hS (fun wq hSq => ?y48) ?_; (case y48 => clear hSq; go_simp; (try with_reducible rfl)); simp only [Act.put, gqD, gqE, gqF]
            refine tkT 12 (v := ?v49) hS (fun wq hSq => ?y49) ?_; (case y49 => have hf0 := cell_new hSq f0; clear hSq; go_simp; (try with_reducible rfl)); simp only [Act.put, gqD, gqE, gqF]
            refine tkT 13 (v := ?v50) hS (fun wq hSq => ?y50) ?_; (case y50 => clear hSq; go_simp; (try with_reducible rfl)); simp only [Act.put, gqD, gqE, gqF]
            refine wpAnyH_ready (rs := [14]) (by kernel_rfl) (by simp) ?_
            refine AllReadyH.cons (o := ?oi51) ?hi51 (fun K hK => ?_) AllReadyH.nil
            case hi51 => (simp only [gqA, gqB, gqC]; rfl)
            go_simp
            with_reducible refine (HSD.out _).mono ?_
            rintro e w5 ⟨rfl, n5⟩
            refine hK.out _ _ (hS.trans n5) (fun hS => ?_)
            clear hK K
            refine tkT 15 (v := ?v52) hS (fun wq hSq => ?y52) ?_; (case y52 => clear hSq; go_simp; (try with_reducible rfl)); simp only [Act.put, gqD, gqE, gqF]
            refine tkT 16 (v := ?v53) hS (fun wq hSq => ?y53) ?_; (case y53 => clear hSq; go_simp; (try with_reducible rfl)); simp only [Act.put, gqD, gqE, gqF]
            refine tkT 17 (v := ?v54) hS (fun wq hSq => ?y54) ?_; (case y54 => clear hSq; go_simp; (try with_reducible rfl)); simp only [Act.put, gqD, gqE, gqF]
            refine wpAnyH_done (by kernel_rfl) ?_ _
            go_wp2
            go_meet
            case rel => exact ⟨rfl, hW4.trans (by assumption), BX4.new (by assumption), LN4.out.new (by assumption)⟩
          · have y0 : base.toList ≠ (sum data).toList := fun e => h3 (by
              rw [toList_eq, toList_eq] at e
              exact ByteArray.ext (Array.toList_inj.1 e))
            have y1 : (base.toList == (sum data).toList) = false := by simpa using y0
            have y2 : (base.toList != (sum data).toList) = true := by simpa using y0
            obtain rfl : bad = true := by rw [← HBAD.out]; simp [h2, h3]
            generalize sum data = sd at *
            clear h3 y0
            refine wp_region_held_drew (S := (New _)) (by kernel_rfl) ((New.refl _).drew) (fun hS => ?_)
            refine tkT 0 (v := ?v55) hS (fun wq hSq => ?y55) ?_; (case y55 => clear hSq; go_simp; (try with_reducible rfl)); simp only [Act.put, gqD, gqE, gqF]
            refine tkT 1 (v := ?v56) hS (fun wq hSq => ?y56) ?_; (case y56 => clear hSq; go_simp; (try with_reducible rfl)); simp only [Act.put, gqD, gqE, gqF]
            refine tkT 2 (v := ?v57) hS (fun wq hSq => ?y57) ?_; (case y57 => clear hSq; go_simp; (try with_reducible rfl)); simp only [Act.put, gqD, gqE, gqF]
            refine tkT 3 (v := ?v58) hS (fun wq hSq => ?y58) ?_; (case y58 => clear hSq; go_simp; (try with_reducible rfl)); simp only [Act.put, gqD, gqE, gqF]
            refine tkT 4 (v := ?v59) hS (fun wq hSq => ?y59) ?_; (case y59 => clear hSq; go_simp; (try with_reducible rfl)); simp only [Act.put, gqD, gqE, gqF]
            refine tkT 5 (v := ?v60) hS (fun wq hSq => ?y60) ?_; (case y60 => clear hSq; go_simp; (try with_reducible rfl)); simp only [Act.put, gqD, gqE, gqF]
            refine tkT 6 (v := ?v61) hS (fun wq hSq => ?y61) ?_; (case y61 => clear hSq; go_simp; (try with_reducible rfl)); simp only [Act.put, gqD, gqE, gqF]
            refine tkT 7 (v := ?v62) hS (fun wq hSq => ?y62) ?_; (case y62 => clear hSq; go_simp; (try with_reducible rfl)); simp only [Act.put, gqD, gqE, gqF]
            refine tkT 8 (v := ?v63) hS (fun wq hSq => ?y63) ?_; (case y63 => have hf0 := cell_new hSq f0; clear hSq; go_simp; (try with_reducible rfl)); simp only [Act.put, gqD, gqE, gqF]
            refine tkT 9 (v := ?v64) hS (fun wq hSq => ?y64) ?_; (case y64 => clear hSq; go_simp; (try with_reducible rfl)); simp only [Act.put, gqD, gqE, gqF]
            refine tkT 10 (v := ?v65) hS (fun wq hSq => ?y65) ?_; (case y65 => clear hSq; go_simp; (try with_reducible rfl)); simp only [Act.put, gqD, gqE, gqF]
            refine tkT 11 (v := ?v66) hS (fun wq hSq => ?y66) ?_; (case y66 => clear hSq; go_simp; (try with_reducible rfl)); simp only [Act.put, gqD, gqE, gqF]
            refine tkT 12 (v := ?v67) hS (fun wq hSq => ?y67) ?_; (case y67 => have hf0 := cell_new hSq f0; clear hSq; go_simp; (try with_reducible rfl)); simp only [Act.put, gqD, gqE, gqF]
            refine tkT 13 (v := ?v68) hS (fun wq hSq => ?y68) ?_; (case y68 => clear hSq; go_simp; (try with_reducible rfl)); simp only [Act.put, gqD, gqE, gqF]
            refine wpAnyH_ready (rs := [14]) (by kernel_rfl) (by simp) ?_
            refine AllReadyH.cons (o := ?oi69) ?hi69 (fun K hK => ?_) AllReadyH.nil
            case hi69 => (simp only [gqA, gqB, gqC]; rfl)
            go_simp
            with_reducible refine (HSD.out _).mono ?_
            rintro e w5 ⟨rfl, n5⟩
            refine hK.out _ _ (hS.trans n5) (fun hS => ?_)
            clear hK K
            refine tkT 15 (v := ?v70) hS (fun wq hSq => ?y70) ?_; (case y70 => clear hSq; go_simp; (try with_reducible rfl)); simp only [Act.put, gqD, gqE, gqF]
            refine tkT 16 (v := ?v71) hS (fun wq hSq => ?y71) ?_; (case y71 => clear hSq; go_simp; (try with_reducible rfl)); simp only [Act.put, gqD, gqE, gqF]
            refine tkT 17 (v := ?v72) hS (fun wq hSq => ?y72) ?_; (case y72 => clear hSq; go_simp; (try with_reducible rfl)); simp only [Act.put, gqD, gqE, gqF]
            refine wpAnyH_done (by kernel_rfl) ?_ _
            go_wp2
            go_meet
            case rel => exact ⟨rfl, hW4.trans (by assumption), BX4.new (by assumption), LN4.out.new (by assumption)⟩
      · have k1 : (cc1 + cc2 == (ol : Int)) = false := by simpa using h1
        have k2 : (cc1 + cc2 != (ol : Int)) = true := by simpa using h1
        obtain rfl : bad = true := by rw [← HBAD.out]; simp [h1]
        refine wp_region_held_drew (S := (New _)) (by kernel_rfl) ((New.refl _).drew) (fun hS => ?_)
        refine tkT 0 (v := ?v1) hS (fun wq hSq => ?y1) ?_; (case y1 => clear hSq; go_simp; (try with_reducible rfl)); simp only [Act.put, gqD, gqE, gqF]
        refine tkT 1 (v := ?v2) hS (fun wq hSq => ?y2) ?_; (case y2 => clear hSq; go_simp; (try with_reducible rfl)); simp only [Act.put, gqD, gqE, gqF]
        refine tkT 2 (v := ?v3) hS (fun wq hSq => ?y3) ?_; (case y3 => clear hSq; go_simp; (try with_reducible rfl)); simp only [Act.put, gqD, gqE, gqF]
        refine tkT 3 (v := ?v4) hS (fun wq hSq => ?y4) ?_; (case y4 => clear hSq; go_simp; (try with_reducible rfl)); simp only [Act.put, gqD, gqE, gqF]
        refine tkT 4 (v := ?v5) hS (fun wq hSq => ?y5) ?_; (case y5 => clear hSq; go_simp; (try with_reducible rfl)); simp only [Act.put, gqD, gqE, gqF]
        refine tkT 5 (v := ?v6) hS (fun wq hSq => ?y6) ?_; (case y6 => clear hSq; go_simp; (try with_reducible rfl)); simp only [Act.put, gqD, gqE, gqF]
        refine tkT 6 (v := ?v7) hS (fun wq hSq => ?y7) ?_; (case y7 => clear hSq; go_simp; (try with_reducible rfl)); simp only [Act.put, gqD, gqE, gqF]
        refine tkU 7 hS ?_; simp only [Act.put, gqD, gqE, gqF]
        refine tkU 8 hS ?_; simp only [Act.put, gqD, gqE, gqF]
        refine tkU 9 hS ?_; simp only [Act.put, gqD, gqE, gqF]
        refine tkU 10 hS ?_; simp only [Act.put, gqD, gqE, gqF]
        refine tkU 11 hS ?_; simp only [Act.put, gqD, gqE, gqF]
        refine tkU 12 hS ?_; simp only [Act.put, gqD, gqE, gqF]
        refine tkU 13 hS ?_; simp only [Act.put, gqD, gqE, gqF]
        refine tkU 14 hS ?_; simp only [Act.put, gqD, gqE, gqF]
        refine tkU 15 hS ?_; simp only [Act.put, gqD, gqE, gqF]
        refine tkU 16 hS ?_; simp only [Act.put, gqD, gqE, gqF]
        refine tkT 17 (v := ?v18) hS (fun wq hSq => ?y18) ?_; (case y18 => clear hSq; go_simp; (try with_reducible rfl)); simp only [Act.put, gqD, gqE, gqF]
        refine wpAnyH_done (by kernel_rfl) ?_ _
        go_wp2
        go_meet
        case rel => exact ⟨rfl, hW4.trans (by assumption), BX4.new (by assumption), LN4.out.new (by assumption)⟩
    case rest =>
      obtain ⟨rfl, hWc, BC, LNC⟩ := hcut
      clear hW4 BX4 LN4 f0
      cases bad
      · have hp := of_decide_eq_false HBAD.out
        have hce : cc1 + cc2 = ol := Classical.byContradiction fun q => hp (Or.inl q)
        have HAE3 : Hid (appE sum base (hs.map Hm.d) data = joinE (appOut data (hs.map Hm.d))) := Lib.hid (by rw [HAE2.out, if_neg hp])
        have HCE : Hid (cnt 1 (hs.map Hm.d) + cnt 2 (hs.map Hm.d) = (parts 10 data).length) := Lib.hid (by rw [HC1.out, HC2.out, HOL.out]; exact hce)
        have HJN := Lib.hid (out_join (data := data) HV.out HCE.out)
        have d1 := BC.cell' 1 _ rfl
        have hzc := hWc.size
        obtain ⟨g0, hg0⟩ : ∃ g0, wc.heap.size = g0 := ⟨_, rfl⟩
        have HG0 := Lib.hid hg0
        clear hp HBAD HAE2 hg0 hSu hS
        go_wp2
        clear d1
        go_loopw [14, 15, 62] (fun v14 v15 v62 wr => ∃ (V : Value) (k at0 : Nat) (os : List ByteArray), V = v14 ∧ v15 = .int .i64 (at0 : Int) ∧ v62 = .int .i64 (k : Int) ∧ k ≤ n ∧ New wc wr ∧ wr.ownsRow g0 9 1 V os.length (sCells os) ∧ Hid (appO (parts 10 data) ((hs.take k).map Hm.d) = (os, at0))) (fun _ _ v62 _ => n - (intOf v62).toNat)
        case atStart => exact ⟨_, 0, 0, [], rfl, rfl, rfl, by omega, New.refl _, World.ownsRow_nil _ _ _ _, Lib.hid rfl⟩
        case round =>
          obtain ⟨V, k, at0, os, rfl, rfl, rfl, hk, hnr, hown, HO2⟩ := hrel
          by_cases hlt : k < n
          · obtain ⟨bk, o, rfl, hbk, p, hp, hcell⟩ := rd_row (f := hmC) (k := 3) (fun _ => rfl) HL.out (HR.out.new (hWc.trans hnr)).rd hlt
            have hok := HO.out p (List.mem_of_getElem? hp)
            have HMM := Lib.hid (List.mem_of_getElem? hp)
            have hst := app_step HO.out HCE.out hp HO2.out
            have hln := app_len HO.out HCE.out k
            rw [HO2.out, HC1.out, HC3.out] at hln
            simp only at hln
            obtain ⟨pk, pn, pl, pa, pc⟩ := p
            have q0 := hcell 0 (.int .i64 pk) (by omega) rfl
            have q1 := hcell 1 (.int .i64 pn) (by omega) rfl
            have q2 := hcell 2 (.slice pa pl.length pc) (by omega) rfl
            simp only [Nat.add_zero] at q0
            rw [← Nat.add_assoc] at q1 q2
            have i0' : (0 : Int) ≤ (k : Int) := by omega
            have i1' : (k : Int) < (n : Int) := by omega
            have k1 : 1 ≤ pk := hok.k1
            have k3 : pk ≤ 3 := hok.k3
            have n1 : 1 ≤ pn := hok.n1
            have n2 : pn ≤ 1024 := hok.n2
            have hpl : pl.length ≤ 1024 := by
              by_cases hk : pk = 3
              · have := hok.l3 hk; simp only [Hm.d] at this; omega
              · have h0 : pl = [] := hok.l0 hk
                rw [h0]; simp
            obtain ⟨nl, hnl⟩ : ∃ nl, pl.length = nl := ⟨_, rfl⟩
            rw [hnl] at q2 hpl
            have HNL := Lib.hid hnl
            obtain ⟨pm, rfl⟩ : ∃ pm : Nat, pn = (pm : Int) := ⟨pn.toNat, by omega⟩
            have hnr1 := hnr.alloc (.cells #[.int .i64 pk, .int .i64 pm, .slice pa nl pc] 55)
            have BH := Blk.made wr 55 #[.int .i64 pk, .int .i64 pm, .slice pa nl pc]
            have ownA := hown.alloc (.cells #[.int .i64 pk, .int .i64 pm, .slice pa nl pc] 55)
            have LN1 := Lib.hid (LNC.new hnr1)
            have hzr := hnr.size
            have b0 := BH.cell' 0 _ rfl
            have b1 := BH.cell' 1 _ rfl
            have b2 := BH.cell' 2 _ rfl
            have k9 := HG0.out
            have hql : os.length ≤ 1024 := by omega
            obtain ⟨q, hq⟩ : ∃ q, os.length = q := ⟨_, rfl⟩
            rw [hq] at hown ownA hql
            have HQ := Lib.hid hq
            have HST := Lib.hid hst
            clear hcell hp hok hnl hst hln hq
            by_cases e1 : pk = 1
            · subst e1
              obtain ⟨st1, st2⟩ := HST.out.1 rfl
              simp only [Int.toNat_natCast] at st1 st2
              rw [HOL.out] at st1
              have HS2 := Lib.hid st2
              have c0 : IntKind.i64.wrap ((at0 : Int) + (pm : Int)) = (at0 : Int) + (pm : Int) := IntWalk.i64_in _ (by omega)
              have c1 : (0 : Int) ≤ (at0 : Int) := by omega
              have c2 : (at0 : Int) ≤ (at0 : Int) + (pm : Int) := by omega
              have c3 : (at0 : Int) + (pm : Int) ≤ (ol : Int) := by omega
              have c4 : ((at0 : Int) + (pm : Int)).toNat = at0 + pm := by omega
              have c5 : ¬ ol = at0 := by omega
              clear st2
              have hR1 : Rd (wr.alloc (.cells #[.int .i64 1, .int .i64 pm, .slice pa nl pc] 55)) 1 (some ⟨g, at0, none⟩) pm (sCells (((parts 10 data).drop at0).take pm)) := by
                have := (LN1.out.cut at0 (by rw [HOL.out]; omega)).take pm (by rw [List.length_drop, HOL.out]; omega)
                have ea : (⟨g, 0, none⟩ : Addr).add at0 = ⟨g, at0, none⟩ := by cases at0 <;> simp [Addr.add]
                rw [if_neg c5, Option.map_some, ea] at this
                exact this
              have hneh : V.ownBlock ≠ some wr.heap.size := fun e => by have := (hown.lt _ e).2; omega
              have HTL : Hid ((((parts 10 data).drop at0).take pm).length = pm) := Lib.hid (by rw [List.length_take, List.length_drop, HOL.out]; omega)
              generalize ((parts 10 data).drop at0).take pm = nx at *
              go_wp2_with (at_builtin; refine wpList_append_rd rfl _ _ rfl g0 _ q _ rfl ownA (some ⟨g, at0, none⟩) pm (ol - at0) nx rfl hR1 (by omega) (by simp; omega) ?_)
              intro v5 w5 hown5 hg5
              have b15 := (BH.grown hg5 (Ne.symm hneh)).cell' 1 _ rfl
              go_wp2
              go_roundw
              case rel => exact ⟨_, k + 1, at0 + pm, os ++ nx, rfl, by go_num, by go_num, by omega, Below.grown hnr1 hg5 (by have := hnr1.size; omega) (fun q hq => by have := (ownA.lt q hq).1; omega), by rw [sCells_app]; exact own_len hown5 (by rw [List.length_append, HQ.out, HTL.out]) rfl, HS2⟩
              case measure => simp [intOf]; omega
            · by_cases e2 : pk = 2
              · subst e2
                obtain ⟨st1, st2⟩ := HST.out.2.1 rfl
                simp only [Int.toNat_natCast] at st1 st2
                rw [HOL.out] at st1
                have HS2 := Lib.hid st2
                have c0 : IntKind.i64.wrap ((at0 : Int) + (pm : Int)) = (at0 : Int) + (pm : Int) := IntWalk.i64_in _ (by omega)
                clear st2
                go_wp2
                go_roundw
                case rel => exact ⟨_, k + 1, at0 + pm, os, rfl, by go_num, by go_num, by omega, hnr1, by rw [HQ.out]; exact ownA, HS2⟩
                case measure => simp [intOf]; omega
              · obtain rfl : pk = 3 := by omega
                obtain ⟨st1, st2⟩ := HST.out.2.2 rfl
                have HS2 := Lib.hid st2
                clear st2
                have hR2 : Rd (wr.alloc (.cells #[.int .i64 3, .int .i64 pm, .slice pa nl pc] 55)) 1 pa nl (sCells pl) := ((HR.out.new (hWc.trans hnr1)).ln _ HMM.out).1 |> fun q => by simp only [HNL.out] at q; exact q
                go_wp2_with (at_builtin; refine wpList_append_rd rfl _ _ rfl g0 _ q _ rfl ownA pa nl pc pl rfl hR2 (by omega) (by simp; omega) ?_)
                intro v5 w5 hown5 hg5
                go_wp2
                go_roundw
                case rel => exact ⟨_, k + 1, at0, os ++ pl, rfl, rfl, by go_num, by omega, Below.grown hnr1 hg5 (by have := hnr1.size; omega) (fun q hq => by have := (ownA.lt q hq).1; omega), by rw [sCells_app]; exact own_len hown5 (by rw [List.length_append, HQ.out, HNL.out]) rfl, HS2⟩
                case measure => simp [intOf]; omega
          · obtain rfl : k = n := by omega
            have e : hs.take k = hs := List.take_of_length_le (by rw [HL.out]; exact Nat.le_refl _)
            rw [e] at HO2
            have HAO : Hid (appOut data (hs.map Hm.d) = os) := Lib.hid (by rw [appOut, HO2.out])
            have hl2 := app_len HO.out HCE.out k
            rw [e, HO2.out, HC1.out, HC3.out] at hl2
            simp only at hl2
            obtain ⟨q, hq⟩ : ∃ q, os.length = q := ⟨_, rfl⟩
            rw [hq] at hown hl2
            have HQ := Lib.hid hq
            obtain ⟨A1, c1, rfl, -, hoo⟩ := own_ln hown
            have HJ := Lib.hid (join_any A1 q c1 os wr (HE.out.new (hWc.trans hnr)) hq (by omega) (by rw [← hq]; exact (ln_rd hoo).2) (by rw [← hq]; exact (ln_rd hoo).1) (fun s h => out_sz HZ.out hd s (by rw [HAO.out]; exact h)))
            have HLO := Lib.hid hoo
            have HLC := Lib.hid (LNC.new hnr)
            have hnn := hWc.trans hnr
            rw [HAO.out] at HJN HAE3
            clear hoo hown hq
            rcases HJN.out with j0 | j0
            · rw [j0] at HJ HAE3
              go_wp2_with (fail)
              with_reducible refine HJ.out.mono ?_
              rintro e w6 ⟨rfl, n6⟩
              go_wp2
              go_ret3
              exact app_yes HAE3.out HOL.out.symm (by rw [HAO.out, HQ.out]) rfl (HLC.out.new n6) (by rw [HAO.out]; exact HLO.out.new n6) (hnn.trans n6)
            · rw [j0] at HJ HAE3
              go_wp2_with (go_at_call 60; (with_reducible refine HJ.out.mono ?_); rintro e w6 ⟨rfl, n6⟩)
              go_ret3
              exact HNO.out 10 _ _ HAE3.out (by decide) rfl (hnn.trans n6)
      · have hp := of_decide_eq_true HBAD.out
        have hae : appE sum base (hs.map Hm.d) data = 9 := by rw [HAE2.out, if_pos hp]
        have HN := Lib.hid (fun w' e => HNO.out 9 w' e hae (by decide))
        clear hp hae HAE2 HNO HBAD
        go_wp2
        go_ret3
        exact HN.out _ _ rfl hWc
  · have hae : appE sum base (hs.map Hm.d) data = 10 := by rw [HAE.out, if_neg (by rw [HV.out]; decide), if_pos hl]
    have HN := Lib.hid (fun w' e => HNO.out 10 w' e hae (by decide))
    have HLI := Lib.hid (fun W (hN : Env W) => lines_bad data W (by omega) hN hl)
    clear hr hz hE hS hv hae HNO HAE hl s1 s2 s3 s4 hbz hln ho HV
    go_enter Tryz.func49, Tryz.ntmps49
    go_wp2_with (first | (go_at_call 39; (with_reducible refine (HLI.out _ (HE.out.new (hn0.trans n1))).mono ?_); rintro e w2 ⟨rfl, rfl⟩) | (go_at_call 33; (with_reducible refine HCK.out.mono ?_); rintro e w1 ⟨rfl, n1⟩))
    go_ret3
    exact HN.out _ _ rfl (hn0.trans n1)
end Go.Proofs.YtfeknjpinboknaaGreatDoor

