/- template.Find: the walk. No conditions but the sizes' own. -/
import Derived.Test.YtpoelhnceebmkaaGreatDoorL
namespace Go.Proofs.YtpoelhnceebmkaaGreatDoor
open Go Go.RowKit
set_option linter.unusedSimpArgs false
set_option linter.unusedVariables false

theorem Tryz.info3' : (Tryz.prog.info? 3).map (fun i => (i.zero, i.size, i.bytes)) = some (some (.int .i64 0), 1, 8) := by kernel_rfl
theorem Tryz.info53 : (Tryz.prog.info? 53).map (fun i => (i.zero, i.size, i.bytes)) = some (some (.agg #[.int .i64 0, .int .i64 0, .int .i64 0]), 3, 24) := by kernel_rfl
def iCells (l : List Nat) : List Value := l.map fun k => .int .i64 (k : Nat)
theorem iCells_app (a b : List Nat) : iCells (a ++ b) = iCells a ++ iCells b := List.map_append

theorem better_none {l : List Tm} {words : List ByteArray} {a q : Nat} {b : Fd} {t : Tm} (h : l[q]? = some t) (hm : matchV t.2 words a = none) : betterV l words a b q = b := by simp [betterV, h, hm]
theorem better_some {l : List Tm} {words : List ByteArray} {a q e : Nat} {b : Fd} {t : Tm} (h : l[q]? = some t) (hm : matchV t.2 words a = some e) : betterV l words a b q = if b.2.2 < e then (q, a, e) else b := by simp [betterV, h, hm]
theorem own_down {w : World} {base base' size n : Nat} {e : TypeId} {v : Value} {xs : List Value} (h : w.ownsRow base e size v n xs) (hb : base' ≤ base) : w.ownsRow base' e size v n xs := by
  refine ⟨h.1, ?_⟩
  rcases h.2 with h0 | ⟨g, cap, cur, h1, h2, h3⟩
  · exact Or.inl h0
  · exact Or.inr ⟨g, cap, cur, h1, by omega, h3⟩
theorem TRd.form {w : World} {nm : ByteArray} {v : Value} {ps : List Pt} (h : TRd w (.agg #[.string nm, v]) nm ps) : ∃ A c, v = .slice A ps.length c := by
  obtain ⟨A, c, e, _⟩ := h
  refine ⟨A, c, ?_⟩
  injection e with e; injection e with e; simpa using e
set_option maxRecDepth 100000 in
set_option maxHeartbeats 4000000 in
theorem find_any (A : Option Addr) (c n : Nat) (l : List Tm) (v' : Value) (words : List ByteArray) (w : World) (h : TsRd w A n l) (h' : WRd w v' words) (hs : ∀ t ∈ l, SmT t.2) (hz : n ≤ 100000) (hm : words.length ≤ 100000) :
    Calls Tryz.prog 28 #[.slice A n c, v'] w fun e w' => ∃ v, e = .returned v ∧ w'.ownsRow w.heap.size 53 3 v (findV l words (goodV 0 l) words.length 0).length (mCells (findV l words (goodV 0 l) words.length 0)) ∧ New w w' := by
  obtain ⟨i0, hi, hz0, hz1, hz2⟩ := info_parts Tryz.info3'
  obtain ⟨j0, hj, hy0, hy1, hy2⟩ := info_parts Tryz.info53
  obtain ⟨A', c', rfl, hc1', hc2', hr'⟩ := h'
  have HW : Hid (WRd w (.slice A' words.length c') words) := Lib.hid ⟨A', c', rfl, hc1', hc2', hr'⟩
  have HL := Lib.hid h.1
  have HS := Lib.hid hs
  obtain ⟨M, hM⟩ : ∃ M, words.length = M := ⟨_, rfl⟩
  rw [hM] at hc1' hr' hm HW ⊢
  have HMl := Lib.hid hM
  have HGM := Lib.hid (goodV_mem l 0)
  have HGL : Hid ((goodV 0 l).length ≤ n) := Lib.hid (by have := goodV_le l 0; rw [h.1] at this; exact this)
  obtain ⟨G, hG⟩ : ∃ G, goodV 0 l = G := ⟨_, rfl⟩
  rw [hG] at HGM HGL ⊢
  have HG := Lib.hid hG
  obtain ⟨F, hF⟩ : ∃ F, findV l words G M 0 = F := ⟨_, rfl⟩
  rw [hF]
  have HF := Lib.hid hF
  clear hM hG hF hs hr'
  go_enter Tryz.func28, Tryz.ntmps28
  go_wp2
  go_loopw [5, 17] (fun v5 v17 wr => ∃ (i : Nat) (g : List Nat), v17 = .int .i64 i ∧ i ≤ n ∧ g.length ≤ i ∧ wr.ownsRow w.heap.size 3 1 v5 g.length (iCells g) ∧ New w wr ∧ Hid (g ++ goodV i (l.drop i) = G)) (fun _ v17 _ => n - (intOf v17).toNat)
  case atStart => exact ⟨0, [], rfl, by omega, by simp, World.ownsRow_nil _ _ _ _, New.refl _, Lib.hid (by rw [← HG.out]; rfl)⟩
  case round =>
    obtain ⟨i, g, rfl, hi2, hgl, own, hn, H⟩ := hrel
    by_cases hlt : i < n
    · obtain ⟨bk, o, vt, t, rfl, ht, d1, d2, htr⟩ := (h.new hn).at hlt
      obtain ⟨At, ct, rfl⟩ := TRd.form htr
      have hgo := goodV_at ht
      obtain ⟨nt, hnt⟩ : ∃ k, t.2.length = k := ⟨_, rfl⟩
      rw [hnt] at d2 htr
      have hsz := HS.out t (List.mem_of_getElem? ht)
      have HC := Lib.hid (fun w h => check_any (.agg #[.string t.1, .slice At nt ct]) t.1 t.2 w h hsz)
      have HT := Lib.hid htr
      obtain ⟨k9, hk9⟩ : ∃ k, checkV t.2 = k := ⟨_, rfl⟩
      rw [hk9] at hgo HC
      by_cases h0 : k9 = 0
      · subst h0
        rw [if_pos rfl] at hgo
        have HN : Hid ((g ++ [i]) ++ goodV (i + 1) (l.drop (i + 1)) = G) := Lib.hid (by rw [← H.out, hgo]; simp)
        clear hgo hk9 htr ht
        have BB := Blk.made wr 25 #[.string t.1, .slice At nt ct]
        go_wp2_with (first
          | (at_builtin; refine wpList_append_own _ rfl (.tmp 25) (.tmp 27) 85 rfl w.heap.size 3 i0 (.int .i64 0) 1 8 Tryz.underlying85 hi hz0 hz1 hz2 rfl (by decide) _ _ _ rfl ((own_new own ((New.refl wr).alloc _ |>.trans hn1)).alloc _) ⟨w1.heap.size, 0, none⟩ 1 1 [.int .i64 (i : Nat)] rfl rfl ?c1 ?c2 ?c3 ?c4 ?c5 ?_)
          | (go_at_call 21; refine (HC.out _ (HT.out.new ((New.refl wr).alloc _))).mono ?_; rintro e w1 ⟨rfl, hn1⟩))
        case c1 => exact cell_one_new w1 _ 3
        case c2 => simp [Value.oneCell']
        case c3 => simp [maxLen]; omega
        case c4 => omega
        case c5 => have := hn.size; have := hn1.size; simp at *; omega
        intro v' w2 hown hg _
        go_wp2
        go_roundw
        case rel => exact ⟨i + 1, g ++ [i], by go_num, by omega, by simp; omega, own_to hown (by simp) (by rw [iCells_app]; rfl), Below.grown (((hn.alloc _).trans hn1).alloc _) hg (by have := hn.size; have := hn1.size; simp at *; omega) (fun q hq => (own.lt q hq).1), HN⟩
        case measure => simp [intOf]; omega
      · rw [if_neg h0] at hgo
        have HN : Hid (g ++ goodV (i + 1) (l.drop (i + 1)) = G) := Lib.hid (by rw [← H.out, hgo])
        have k1 : (k9 == 0) = false := beq_eq_false_iff_ne.2 h0
        clear hgo hk9 htr ht h0
        have BB := Blk.made wr 25 #[.string t.1, .slice At nt ct]
        go_wp2_with (go_at_call 21; refine (HC.out _ (HT.out.new ((New.refl wr).alloc _))).mono ?_; rintro e w1 ⟨rfl, hn1⟩)
        go_roundw
        case rel => exact ⟨i + 1, g, by go_num, by omega, by omega, own_new own (((New.refl wr).alloc _).trans hn1), (hn.alloc _).trans hn1, HN⟩
        case measure => simp [intOf]; omega
    · obtain rfl : i = n := by omega
      have hgG : g = G := by have := H.out; rw [List.drop_of_length_le (by rw [HL.out]; exact Nat.le_refl _)] at this; simpa [goodV] using this
      subst hgG
      obtain ⟨ng, hng⟩ : ∃ k, g.length = k := ⟨_, rfl⟩
      rw [hng] at own hgl
      have HNG := Lib.hid hng
      obtain ⟨Ag, cg, rfl, _, _, hrg⟩ := own_form own
      obtain ⟨wo, rfl⟩ : ∃ x, x = wr := ⟨_, rfl⟩
      clear own hng H
      go_wp2
      go_loopw [8, 9] (fun v8 v9 wr => ∃ (f a : Nat) (acc : List Fd), v9 = .int .i64 a ∧ a ≤ M ∧ M - a ≤ f ∧ acc.length ≤ a ∧ wr.ownsRow wo.heap.size 53 3 v8 acc.length (mCells acc) ∧ New wo wr ∧ Hid (acc ++ findV l words g f a = F)) (fun _ v9 _ => M - (intOf v9).toNat)
      case atStart => exact ⟨M, 0, [], rfl, by omega, by omega, by simp, World.ownsRow_nil _ _ _ _, New.refl _, HF⟩
      case round =>
        obtain ⟨f, a, acc, rfl, ha, hf, hal, own, hn2, H2⟩ := hrel
        by_cases hlt : a < M
        · obtain ⟨f, rfl⟩ : ∃ f', f = f' + 1 := ⟨f - 1, by omega⟩
          obtain ⟨wi, rfl⟩ : ∃ x, x = wr := ⟨_, rfl⟩
          have B0 := Blk.made wi 53 #[.int .i64 0, .int .i64 0, .int .i64 0]
          have hnb : New w (wi.alloc (.cells #[.int .i64 0, .int .i64 0, .int .i64 0] 53)) := (hn.trans hn2).alloc _
          have hfn : Hid (findV l words g (f + 1) a = if (bestV l words a g).2.2 = 0 then findV l words g f (a + 1) else bestV l words a g :: findV l words g f (bestV l words a g).2.2) := Lib.hid (by rw [findV, if_pos (by rw [HMl.out]; exact hlt)])
          have hbg : Hid ((bestV l words a g).2.2 ≠ 0 → a < (bestV l words a g).2.2 ∧ (bestV l words a g).2.2 ≤ words.length) := Lib.hid (bestV_gt (fun k hk => by obtain ⟨_, t, h1, h2⟩ := HGM.out k hk; exact ⟨t, h1, h2⟩))
          have hfold : Hid ((g.drop 0).foldl (betterV l words a) (0, 0, 0) = bestV l words a g) := Lib.hid rfl
          generalize bestV l words a g = bb at *
          go_wp2
          go_loopw [37] (fun v37 wr => ∃ (k : Nat) (b : Fd), v37 = .int .i64 k ∧ k ≤ ng ∧ New wi wr ∧ Blk wr wi.heap.size 53 #[.int .i64 (b.1 : Nat), .int .i64 (b.2.1 : Nat), .int .i64 (b.2.2 : Nat)] ∧ Hid ((g.drop k).foldl (betterV l words a) b = bb)) (fun v37 _ => ng - (intOf v37).toNat)
          case atStart => exact ⟨0, (0, 0, 0), rfl, by omega, (New.refl wi).alloc _, B0, hfold⟩
          case round =>
            obtain ⟨k, b, rfl, hk, hn3, BB, H3⟩ := hrel
            have e0 := BB.cell' 0 _ rfl
            have e1 := BB.cell' 1 _ rfl
            have e2 := BB.cell' 2 _ rfl
            by_cases hkg : k < ng
            · have hkl : k < g.length := by rw [HNG.out]; exact hkg
              obtain ⟨bg, og, rfl, _, hcg⟩ := (hrg.below (hn2.trans hn3)).2 (by omega)
              have eg := hcg k (.int .i64 (g[k] : Nat)) (by rw [iCells, List.getElem?_map, List.getElem?_eq_getElem hkl]; rfl)
              obtain ⟨_, t, hlt2, hck⟩ := HGM.out g[k] (List.getElem_mem hkl)
              rw [Nat.sub_zero] at hlt2
              have hqn : g[k] < i := by have := (List.getElem?_eq_some_iff.1 hlt2).1; rw [HL.out] at this; exact this
              have hdr := List.drop_eq_getElem_cons hkl
              generalize g[k] = q at *
              obtain ⟨bk, o, vt, t', rfl, ht', d1, d2, htr⟩ := (h.new ((hn.trans hn2).trans hn3)).at hqn
              obtain rfl : t = t' := by rw [hlt2] at ht'; exact Option.some.inj ht'
              obtain ⟨At, ct, rfl⟩ := TRd.form htr
              have hsz := HS.out t (List.mem_of_getElem? hlt2)
              obtain ⟨p0, r, hps, _, _, _, hh, _⟩ := check_ok hck
              have hb0 := fun hm => better_none (b := b) (words := words) (a := a) hlt2 hm
              have hb1 := fun e hm => better_some (b := b) (words := words) (a := a) (e := e) hlt2 hm
              have H3' : Hid ((g.drop (k + 1)).foldl (betterV l words a) (betterV l words a b q) = bb) := Lib.hid (by have := H3.out; rw [hdr, List.foldl_cons] at this; exact this)
              have HX := Lib.hid (fun w h h2 => match_any (.agg #[.string t.1, .slice At t.2.length ct]) (.slice A' M c') t.1 p0 r words a w (by rw [← hps]; exact h) h2 (by rw [← hps]; exact hsz) (fun p hp => ⟨by have := (hh p hp).1; omega, (hh p hp).2.1⟩) (by rw [HMl.out]; exact hm) (by rw [HMl.out]; omega))
              rw [← hps] at HX
              have HT := Lib.hid htr
              obtain ⟨mv, hmv⟩ : ∃ m, matchV t.2 words a = m := ⟨_, rfl⟩
              rw [hmv] at HX hb0 hb1
              have HB0 := Lib.hid hb0
              have HB1 := Lib.hid hb1
              obtain ⟨nt, hnt⟩ : ∃ k, t.2.length = k := ⟨_, rfl⟩
              rw [hnt] at d2 HX HT
              clear hdr hps hh hsz ht' hmv htr hck hlt2 hcg H3 hb0 hb1
              have HWr := Lib.hid (HW.out.new ((hn.trans hn2).trans hn3))
              cases mv with
              | none =>
                rw [HB0.out rfl] at H3'
                go_wp2_with (go_at_call 55; refine (HX.out _ HT.out HWr.out).mono ?_; rintro e w9 ⟨rfl, hn9⟩)
                go_roundw
                case rel => exact ⟨k + 1, b, by go_num, by omega, hn3.trans hn9, BB.new hn9, H3'⟩
                case measure => simp [intOf]; omega
              | some e9 =>
                by_cases hbe : b.2.2 < e9
                · rw [show betterV l words a b q = (q, a, e9) from (HB1.out e9 rfl).trans (if_pos hbe)] at H3'
                  have t1 : (b.2.2 : Int) < (e9 : Int) := by omega
                  go_wp2_with (go_at_call 55; refine (HX.out _ HT.out HWr.out).mono ?_; rintro e w9 ⟨rfl, hn9⟩; have e29 := (BB.new hn9).cell' 2 _ rfl; have e19 := (BB.new hn9).cell' 1 _ rfl; have e09 := (BB.new hn9).cell' 0 _ rfl; have f29 := (BB.new hn9).free 2; have f19 := (BB.new hn9).free 1; have f09 := (BB.new hn9).free 0)
                  go_roundw
                  case rel =>
                    refine ⟨k + 1, (q, a, e9), by go_num, by omega, ((((hn3.trans hn9).setCell (Nat.le_refl _) _).setCell (Nat.le_refl _) _).setCell (Nat.le_refl _) _), ?_, H3'⟩
                    exact ((((BB.new hn9).put 0 _).put 1 _).put 2 _).same (by simp)
                  case measure => simp [intOf]; omega
                · rw [show betterV l words a b q = b from (HB1.out e9 rfl).trans (if_neg hbe)] at H3'
                  have t1 : ¬ (b.2.2 : Int) < (e9 : Int) := by omega
                  go_wp2_with (go_at_call 55; refine (HX.out _ HT.out HWr.out).mono ?_; rintro e w9 ⟨rfl, hn9⟩; have e29 := (BB.new hn9).cell' 2 _ rfl)
                  go_roundw
                  case rel => exact ⟨k + 1, b, by go_num, by omega, hn3.trans hn9, BB.new hn9, H3'⟩
                  case measure => simp [intOf]; omega
            · obtain rfl : k = ng := by omega
              have hb : b = bb := by have := H3.out; rw [List.drop_of_length_le (by rw [HNG.out]; exact Nat.le_refl _)] at this; exact this
              subst hb
              by_cases hb0 : b.2.2 = 0
              · have HN : Hid (acc ++ findV l words g f (a + 1) = F) := Lib.hid (by rw [← H2.out, hfn.out, if_pos hb0])
                have q1 : ((b.2.2 : Int) == 0) = true := by rw [hb0]; rfl
                rw [hb0] at e2
                clear hb0
                go_wp2
                go_roundw
                case rel => exact ⟨f, a + 1, acc, by go_num, by omega, by omega, by omega, own_new own hn3, hn2.trans hn3, HN⟩
                case measure => simp [intOf]; omega
              · obtain ⟨hb1, hb2⟩ := hbg.out hb0
                rw [HMl.out] at hb2
                have HN : Hid ((acc ++ [b]) ++ findV l words g f b.2.2 = F) := Lib.hid (by rw [← H2.out, hfn.out, if_neg hb0]; simp)
                have q1 : ((b.2.2 : Int) == 0) = false := beq_eq_false_iff_ne.2 (by omega)
                clear hb0
                go_wp2_with (at_builtin; refine wpList_append_own _ rfl (.tmp 68) (.tmp 70) 51 rfl wo.heap.size 53 j0 (.agg #[.int .i64 0, .int .i64 0, .int .i64 0]) 3 24 Tryz.underlying51 hj hy0 hy1 hy2 rfl (by decide) _ _ _ rfl ((own_new own hn3).alloc _) ⟨wr.heap.size, 0, none⟩ 1 1 [.int .i64 (b.1 : Nat), .int .i64 (b.2.1 : Nat), .int .i64 (b.2.2 : Nat)] rfl rfl ?c1 ?c2 ?c3 ?c4 ?c5 ?_)
                case c1 =>
                  intro j u hu
                  rw [add_none rfl, Nat.zero_add, (Blk.made wr 53 _).cell j]
                  simpa using hu
                case c2 => simp [Value.oneCell']
                case c3 => simp [maxLen]; omega
                case c4 => omega
                case c5 => have := hn2.size; have := hn3.size; simp; omega
                intro v' w2 hown hg _
                have g2 := ((BB.alloc (.cells #[.int .i64 (b.1 : Nat), .int .i64 (b.2.1 : Nat), .int .i64 (b.2.2 : Nat)] 53)).grown hg (fun e => by have := (own.lt _ e.symm).2; omega)).cell' 2 _ rfl
                go_wp2
                go_roundw
                case rel => exact ⟨f, b.2.2, acc ++ [b], rfl, by omega, by omega, by simp; omega, own_to hown (by simp) (by rw [mCells_app]; rfl), Below.grown ((hn2.trans hn3).alloc _) hg (by have := hn2.size; have := hn3.size; simp; omega) (fun q hq => (own.lt q hq).1), HN⟩
                case measure => simp [intOf]; omega
        · obtain rfl : a = M := by omega
          have hacc : acc = F := by
            have := H2.out
            cases f with
            | zero => simpa [findV] using this
            | succ f => rw [findV, if_neg (by rw [HMl.out]; omega)] at this; simpa using this
          subst hacc
          obtain ⟨A9, c9, rfl, _, _, _⟩ := own_form own
          go_wp2
          go_ret
          exact ⟨_, rfl, own_down own hn.size, hn.trans hn2⟩
end Go.Proofs.YtpoelhnceebmkaaGreatDoor
