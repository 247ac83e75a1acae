/- licitref35.Find: the walk. Conditions: the lists' lengths; no string is longer than a string can be. -/
import Derived.Test.YtpoelhnceebmkaaGreatDoorE6
namespace Go.Proofs.YtpoelhnceebmkaaGreatDoor
open Go Go.RowKit Go.Shelf
set_option linter.unusedSimpArgs false
set_option linter.unusedVariables false

theorem goodV_app : ∀ (l : List Tm) (i : Nat) (t : Tm), goodV i (l ++ [t]) = goodV i l ++ if checkV t.2 = 0 then [i + l.length] else []
  | [], i, t => by
    rw [List.nil_append, goodV, goodV]
    split <;> simp [goodV]
  | x :: l, i, t => by
    have ih := goodV_app l (i + 1) t
    rw [List.cons_append, goodV, goodV, ih]
    have e : i + (x :: l).length = i + 1 + l.length := by simp; omega
    rw [e]
    split <;> simp
theorem good_take {l : List Tm} {k : Nat} {t : Tm} (h : l[k]? = some t) : goodV 0 (l.take (k + 1)) = goodV 0 (l.take k) ++ if checkV t.2 = 0 then [k] else [] := by
  obtain ⟨hi, he⟩ := List.getElem?_eq_some_iff.1 h
  rw [List.take_succ_eq_append_getElem hi, goodV_app, he, List.length_take, Nat.min_eq_left (by omega), Nat.zero_add]
theorem best_take {l : List Tm} {words : List ByteArray} {a k : Nat} {t : Tm} (h : l[k]? = some t) : bestV l words a (goodV 0 (l.take (k + 1))) = if checkV t.2 = 0 then betterV l words a (bestV l words a (goodV 0 (l.take k))) k else bestV l words a (goodV 0 (l.take k)) := by
  rw [good_take h]
  unfold bestV
  rw [List.foldl_append]
  split <;> rfl
def tpI (b : Fd) : Int := if b.2.2 = 0 then -1 else (b.1 : Nat)
theorem rmatch_bad {ps : List Pt} {words : List ByteArray} {a : Int} (h : checkV ps ≠ 0) : rmatchV ps words a = -1 := rmatch_no (fun q => h q.1)
theorem rmatch_good {ps : List Pt} {words : List ByteArray} {a : Nat} (h : checkV ps = 0) (ha : a < words.length) : rmatchV ps words a = match matchV ps words a with
    | some j => (j : Int)
    | none => -1 := by
  unfold rmatchV matchT
  rw [if_pos ⟨h, by omega, by omega⟩, Int.toNat_natCast]
  cases matchV ps words a <;> rfl

set_option maxRecDepth 100000 in
set_option maxHeartbeats 8000000 in
theorem rfind_any (A : Option Addr) (c n : Nat) (l : List Tm) (v' : Value) (words : List ByteArray) (w : World) (h : TsRd w A n l) (h' : WRd w v' words) (hs : ∀ t ∈ l, SmT t.2) (hx : ∀ t ∈ l, ∀ p ∈ t.2, SzX p.2) (hz : n ≤ 100000) (hm : words.length ≤ 100000) :
    Calls Tryz.prog 29 #[.slice A n c, v'] w fun e w' => ∃ v, e = .returned v ∧ w'.ownsRow w.heap.size 53 3 v (findV l words (goodV 0 l) words.length 0).length (mCells (findV l words (goodV 0 l) words.length 0)) ∧ New w w' := by
  obtain ⟨j0, hj, hy0, hy1, hy2⟩ := info_parts Tryz.info53
  obtain ⟨A', c', rfl, hc1', hc2', hr'⟩ := h'
  have HW : Hid (WRd w (.slice A' words.length c') words) := Lib.hid ⟨A', c', rfl, hc1', hc2', hr'⟩
  have HTS := Lib.hid h
  have HL := Lib.hid h.1
  obtain ⟨M, hM⟩ : ∃ k, words.length = k := ⟨_, rfl⟩
  obtain ⟨F, hF⟩ : ∃ x, findV l words (goodV 0 l) words.length 0 = x := ⟨_, rfl⟩
  rw [hF]
  rw [hM] at HW hm hc1' ⊢
  rw [hM] at hF
  have HF : Hid ([] ++ findV l words (goodV 0 l) M 0 = F) := Lib.hid hF
  have HMl := Lib.hid hM
  have HS := Lib.hid hs
  have HX := Lib.hid hx
  have HGM := Lib.hid (fun k hk => goodV_mem l 0 k hk)
  have HTK : Hid (goodV 0 (l.take n) = goodV 0 l) := Lib.hid (by rw [List.take_of_length_le (by rw [HL.out]; exact Nat.le_refl _)])
  clear hM hF hs hx h hr'
  go_enter Tryz.func29, Tryz.ntmps29
  go_wp2
  go_loopw [5, 6] (fun v5 v6 wr => ∃ (f a : Nat) (acc : List Fd), v6 = .int .i64 a ∧ a ≤ M ∧ M - a ≤ f ∧ acc.length ≤ a ∧ wr.ownsRow w.heap.size 53 3 v5 acc.length (mCells acc) ∧ New w wr ∧ Hid (acc ++ findV l words (goodV 0 l) f a = F)) (fun _ v6 _ => M - (intOf v6).toNat)
  case atStart => exact ⟨M, 0, [], rfl, by omega, by omega, by simp, World.ownsRow_nil _ _ _ _, New.refl _, HF⟩
  case round =>
    obtain ⟨f, a, acc, rfl, ha, hf, hal, own, hn2, H2⟩ := hrel
    by_cases hlt : a < M
    · obtain ⟨f, rfl⟩ : ∃ f', f = f' + 1 := ⟨f - 1, by omega⟩
      obtain ⟨wi, rfl⟩ : ∃ x, x = wr := ⟨_, rfl⟩
      obtain ⟨v5, hv5⟩ : ∃ x, x = u5 := ⟨_, rfl⟩
      subst hv5
      have B0 := Blk.made wi 53 #[.int .i64 (-1), .int .i64 0, .int .i64 0]
      have hfn : Hid (findV l words (goodV 0 l) (f + 1) a = if (bestV l words a (goodV 0 l)).2.2 = 0 then findV l words (goodV 0 l) f (a + 1) else bestV l words a (goodV 0 l) :: findV l words (goodV 0 l) f (bestV l words a (goodV 0 l)).2.2) := Lib.hid (by rw [findV, if_pos (by rw [HMl.out]; exact hlt)])
      have hbg : Hid ((bestV l words a (goodV 0 l)).2.2 ≠ 0 → a < (bestV l words a (goodV 0 l)).2.2 ∧ (bestV l words a (goodV 0 l)).2.2 ≤ words.length) := Lib.hid (bestV_gt (fun k hk => by obtain ⟨_, t, h1, h2⟩ := HGM.out k hk; exact ⟨t, h1, h2⟩))
      go_wp2
      go_loopw [8] (fun v8 wr => ∃ (k : Nat) (b : Fd), v8 = .int .i64 k ∧ k ≤ n ∧ New wi wr ∧ Blk wr wi.heap.size 53 #[.int .i64 (tpI b), .int .i64 (b.2.1 : Nat), .int .i64 (b.2.2 : Nat)] ∧ Hid (b = bestV l words a (goodV 0 (l.take k))) ∧ Hid (b.2.2 = 0 → b = (0, 0, 0))) (fun v8 _ => n - (intOf v8).toNat)
      case atStart => exact ⟨0, (0, 0, 0), rfl, by omega, (New.refl wi).alloc _, B0, Lib.hid rfl, Lib.hid (fun _ => rfl)⟩
      case round =>
        obtain ⟨k, b, rfl, hk, hn3, BB, H3, HZ⟩ := hrel
        have e0 := BB.cell' 0 _ rfl
        have e1 := BB.cell' 1 _ rfl
        have e2 := BB.cell' 2 _ rfl
        by_cases hkn : k < n
        · obtain ⟨bk, o, vt, t, rfl, ht, d1, d2, htr⟩ := (HTS.out.new (hn2.trans hn3)).at hkn
          obtain ⟨At, ct, rfl⟩ := TRd.form htr
          have htm := List.mem_of_getElem? ht
          have hsz := HS.out t htm
          have hxz := HX.out t htm
          have hbt := best_take (words := words) (a := a) ht
          rw [← H3.out] at hbt
          have hb0 := fun hm => better_none (b := b) (words := words) (a := a) ht hm
          have hb1 := fun e hm => better_some (b := b) (words := words) (a := a) (e := e) ht hm
          have HX2 := Lib.hid (fun w h h2 => rmatch_any (.agg #[.string t.1, .slice At t.2.length ct]) (.slice A' M c') t.1 t.2 words a w h h2 hsz hxz (by rw [HMl.out]; exact hm))
          have HT := Lib.hid htr
          have HWr := Lib.hid (HW.out.new (hn2.trans hn3))
          have hrv : ∀ (x : Int), rmatchV t.2 words a = x → (x = -1 ∧ bestV l words a (goodV 0 (l.take (k + 1))) = b) ∨ ∃ e9 : Nat, x = e9 ∧ bestV l words a (goodV 0 (l.take (k + 1))) = if b.2.2 < e9 then (k, a, e9) else b := by
            intro x hx
            by_cases hc : checkV t.2 = 0
            · rw [if_pos hc] at hbt
              rw [rmatch_good hc (by rw [HMl.out]; exact hlt)] at hx
              cases hmv : matchV t.2 words a with
              | none => rw [hmv] at hx; exact Or.inl ⟨hx.symm, hbt.trans (hb0 hmv)⟩
              | some e9 => rw [hmv] at hx; exact Or.inr ⟨e9, hx.symm, hbt.trans (hb1 e9 hmv)⟩
            · rw [if_neg hc] at hbt
              rw [rmatch_bad hc] at hx
              exact Or.inl ⟨hx.symm, hbt⟩
          obtain ⟨x, hx⟩ : ∃ x, rmatchV t.2 words a = x := ⟨_, rfl⟩
          have hrx := hrv x hx
          rw [hx] at HX2
          obtain ⟨nt, hnt⟩ : ∃ k, t.2.length = k := ⟨_, rfl⟩
          rw [hnt] at d2 HX2 HT
          have i0 : (0 : Int) ≤ (k : Int) := by omega
          have i1 : (k : Int) < (n : Int) := by omega
          clear hrv hx hbt hb0 hb1 htr hsz hxz htm ht
          rcases hrx with ⟨rfl, hbb⟩ | ⟨e9, rfl, hbb⟩
          · have HB := Lib.hid hbb
            have t1 : ¬ (b.2.2 : Int) < -1 := by omega
            clear hbb
            go_wp2_with (go_at_call 26; refine (HX2.out _ HT.out HWr.out).mono ?_; rintro e w9 ⟨rfl, hn9⟩; have e29 := (BB.new hn9).cell' 2 _ rfl)
            go_roundw
            case rel => exact ⟨k + 1, b, by go_num, by omega, hn3.trans hn9, BB.new hn9, Lib.hid HB.out.symm, HZ⟩
            case measure => simp [intOf]; omega
          · by_cases hbe : b.2.2 < e9
            · rw [if_pos hbe] at hbb
              have HB := Lib.hid hbb
              have t1 : (b.2.2 : Int) < (e9 : Int) := by omega
              have hp9 : tpI (k, a, e9) = (k : Int) := if_neg (by show e9 ≠ 0; omega)
              clear hbb
              go_wp2_with (go_at_call 26; refine (HX2.out _ HT.out HWr.out).mono ?_; rintro e w9 ⟨rfl, hn9⟩; have e29 := (BB.new hn9).cell' 2 _ rfl; have e19 := (BB.new hn9).cell' 1 _ rfl; have e09 := (BB.new hn9).cell' 0 _ rfl; have f29 := (BB.new hn9).free 2; have f19 := (BB.new hn9).free 1; have f09 := (BB.new hn9).free 0; have g1 := ((BB.new hn9).put 0 (.int .i64 (k : Nat))).cell' 1 _ rfl; have g2 := ((BB.new hn9).put 0 (.int .i64 (k : Nat))).free 1; have g3 := (((BB.new hn9).put 0 (.int .i64 (k : Nat))).put 1 (.int .i64 (a : Nat))).cell' 2 _ rfl; have g4 := (((BB.new hn9).put 0 (.int .i64 (k : Nat))).put 1 (.int .i64 (a : Nat))).free 2)
              go_roundw
              case rel =>
                refine ⟨k + 1, (k, a, e9), by go_num, by omega, ((((hn3.trans hn9).setCell (Nat.le_refl _) _).setCell (Nat.le_refl _) _).setCell (Nat.le_refl _) _), ?_, Lib.hid HB.out.symm, Lib.hid (fun hq => by have : e9 = 0 := hq; omega)⟩
                exact ((((BB.new hn9).put 0 _).put 1 _).put 2 _).same (by rw [hp9]; simp)
              case measure => simp [intOf]; omega
            · rw [if_neg hbe] at hbb
              have HB := Lib.hid hbb
              have t1 : ¬ (b.2.2 : Int) < (e9 : Int) := by omega
              clear hbb
              go_wp2_with (go_at_call 26; refine (HX2.out _ HT.out HWr.out).mono ?_; rintro e w9 ⟨rfl, hn9⟩; have e29 := (BB.new hn9).cell' 2 _ rfl)
              go_roundw
              case rel => exact ⟨k + 1, b, by go_num, by omega, hn3.trans hn9, BB.new hn9, Lib.hid HB.out.symm, HZ⟩
              case measure => simp [intOf]; omega
        · obtain rfl : k = n := by omega
          have hb := H3.out
          rw [HTK.out] at hb
          rw [← hb] at hfn hbg
          by_cases hb0 : b.2.2 = 0
          · have HN : Hid (acc ++ findV l words (goodV 0 l) f (a + 1) = F) := Lib.hid (by rw [← H2.out, hfn.out, if_pos hb0])
            have htp : tpI b = -1 := if_pos hb0
            rw [htp] at e0
            clear hb0 hb
            go_wp2
            go_roundw
            case rel => exact ⟨f, a + 1, acc, by go_num, by omega, by omega, by omega, own_new own hn3, hn2.trans hn3, HN⟩
            case measure => simp [intOf]; omega
          · obtain ⟨hb1, hb2⟩ := hbg.out hb0
            rw [HMl.out] at hb2
            have HN : Hid ((acc ++ [b]) ++ findV l words (goodV 0 l) f b.2.2 = F) := Lib.hid (by rw [← H2.out, hfn.out, if_neg hb0]; simp)
            have htp : tpI b = (b.1 : Nat) := if_neg hb0
            rw [htp] at e0 BB
            have q1 : ¬ (b.1 : Int) < 0 := by omega
            clear hb0 hb
            go_wp2_with (at_builtin; refine wpList_append_own _ rfl (.tmp 41) (.tmp 43) 51 rfl w.heap.size 53 j0 (.agg #[.int .i64 0, .int .i64 0, .int .i64 0]) 3 24 Tryz.underlying51 hj hy0 hy1 hy2 rfl (by decide) _ _ _ rfl ((own_new own hn3).alloc _) ⟨wr.heap.size, 0, none⟩ 1 1 [.int .i64 (b.1 : Nat), .int .i64 (b.2.1 : Nat), .int .i64 (b.2.2 : Nat)] rfl rfl ?c1 ?c2 ?c3 ?c4 ?c5 ?_)
            case c2 => simp [Value.oneCell']
            case c3 => simp [maxLen]; omega
            case c4 => omega
            case c5 => have := hn2.size; have := hn3.size; simp; omega
            intro v' w2 hown hg _
            have g2 := ((BB.alloc (.cells #[.int .i64 (b.1 : Nat), .int .i64 (b.2.1 : Nat), .int .i64 (b.2.2 : Nat)] 53)).grown hg (fun e => by have := (own.lt _ e.symm).2; omega)).cell' 2 _ rfl
            go_wp2
            go_roundw
            case rel => exact ⟨f, b.2.2, acc ++ [b], rfl, by omega, by omega, by simp; omega, own_to hown (by simp) (by rw [mCells_app]; rfl), Below.grown ((hn2.trans hn3).alloc _) hg (by have := hn2.size; have := hn3.size; simp; omega) (fun q hq => (own.lt q hq).1), HN⟩
            case measure => simp [intOf]; omega
    · obtain rfl : a = M := by omega
      have hacc : acc = F := by
        have := H2.out
        cases f with
        | zero => simpa [findV] using this
        | succ f => rw [findV, if_neg (by rw [HMl.out]; omega)] at this; simpa using this
      subst hacc
      obtain ⟨A9, c9, rfl, _, _, _⟩ := own_form own
      go_wp2
      go_ret
      exact ⟨_, rfl, own, hn2⟩
end Go.Proofs.YtpoelhnceebmkaaGreatDoor
