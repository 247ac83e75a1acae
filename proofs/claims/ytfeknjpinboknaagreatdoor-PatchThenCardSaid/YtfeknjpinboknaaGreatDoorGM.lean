/- The reference's lines. Conditions: the hunks are in form, the base is empty or a digest. (Printed by mk-m.py.) Plain: the number at the head of a text, as the reader of codec counts it. No conditions. Plain: lines and joined lines; the heads of hunks as the reference reads them. No conditions. -/
import Derived.Test.YtfeknjpinboknaaGreatDoorGJ
import Derived.Test.YtfeknjpinboknaaGreatDoorGBase
import Derived.Deep.DeepCutAuto
import Derived.Test.YtfeknjpinboknaaGreatDoorGA

namespace Go.Proofs.YtfeknjpinboknaaGreatDoor
open Go Go.RowKit Go.Joins Go.Shelf
set_option linter.unusedSimpArgs false
set_option linter.unusedVariables false

theorem own_len {w : World} {base size n n' : Nat} {e : TypeId} {v : Value} {xs xs' : List Value} (h : w.ownsRow base e size v n xs) (e1 : n = n') (e2 : xs = xs') : w.ownsRow base e size v n' xs' := by subst e1; subst e2; exact h
set_option maxRecDepth 100000 in
set_option maxHeartbeats 8000000 in
theorem rlines_any (base : ByteArray) (A : Option Addr) (n c : Nat) (hs : List Hm) (w : World) (hr : PRd w A n hs) (ho : OkA hs) (hl : n ≤ 4000) (hb : base.size = 0 ∨ base.size = 32) :
    Calls Tryz.prog 36 #[.agg #[.string base, .slice A n c]] w (RowOut w (textL base (hs.map Hm.d))) := by
  obtain ⟨i0, hi, hz0, hz1, hz2⟩ := info_parts Tryz.info9'
  have HR := Lib.hid hr
  have HO := Lib.hid ho
  have HL := Lib.hid hr.len
  have HB := Lib.hid (linesL_take_bound ho (by rw [hr.len]; exact hl))
  have HBL := baseL_len base
  clear hr ho
  have hn0 := (New.refl w).alloc (.cells #[.string base, .slice A n c] 24)
  have B0 := Blk.made w 24 #[.string base, .slice A n c]
  have hX : (base.toList = [] ∧ baseL base = []) ∨ ((base.toList == ([] : List UInt8)) = false ∧ base.toList.isEmpty = false ∧ base.size = 32 ∧ baseL base = [⟨#[98, 97, 115, 101, 32]⟩ ++ S (hexL base.data.toList)]) := by
    rcases hb with h | h
    · exact Or.inl ⟨by rw [toList_eq]; exact List.eq_nil_of_length_eq_zero (by rw [← size_eq]; exact h), by rw [baseL, if_pos h]⟩
    · refine Or.inr ⟨?_, ?_, h, by rw [baseL, if_neg (by omega), S_append]; rfl⟩
      · rw [toList_eq, data_cons (by omega)]; rfl
      · rw [toList_eq, data_cons (by omega)]; rfl
  have HX := Lib.hid hX
  clear hX hb
  go_enter Tryz.func36, Tryz.ntmps36
  go_upto_if 11 with (fail)
  go_cut [3] (fun v3 wc => ∃ (V : Value) (m : Nat), V = v3 ∧ wc.ownsRow w.heap.size 9 1 V m (sCells (baseL base)) ∧ m = (baseL base).length ∧ New w wc ∧ Blk wc w.heap.size 24 #[.string base, .slice A n c])
  case first =>
    rcases HX.out with ⟨x1, x2⟩ | ⟨x1, x2, x3, x4⟩
    · have HX2 := Lib.hid x2
      have y1 : base.toList.isEmpty = true := by rw [x1]; rfl
      have y2 : (!base.toList.isEmpty) = false := by rw [x1]; rfl
      clear x2 HX HBL
      rw [y2]
      go_wp2
      go_meet
      case rel => exact ⟨_, 0, rfl, by rw [HX2.out]; exact World.ownsRow_nil _ _ _ _, by rw [HX2.out]; rfl, hn0, B0⟩
    · have HH := Lib.hid (rhex_any base (w.alloc (.cells #[.string base, .slice A n c] 24)) x3)
      have ht : (S (hexL base.data.toList)).size ≤ 64 := by rw [size_S, hexL_length, ← size_eq]; omega
      have HX4 := Lib.hid x4
      have y2 : (!base.toList.isEmpty) = true := by rw [x2]; rfl
      generalize S (hexL base.data.toList) = t at *
      have k1 : ¬ (9223372036854775807 < 5 + t.size) := by omega
      clear x3 x4 HX HBL
      rw [y2]
      go_wp2_with (fail)
      with_reducible refine HH.out.mono ?_
      rintro e w1 ⟨rfl, n1⟩
      have z1 := hn0.size
      have z2 := n1.size
      go_wp2_with (at_builtin; refine wpList_append_own _ rfl _ _ 49 rfl w.heap.size 9 i0 (.string ⟨#[]⟩) 1 16 Tryz.underlying49 hi hz0 hz1 hz2 rfl (by decide) _ 0 [] rfl (World.ownsRow_nil _ _ _ _) ⟨w1.heap.size, 0, none⟩ 1 1 [.string (⟨#[98, 97, 115, 101, 32]⟩ ++ t)] rfl rfl ?c1 ?c2 ?c3 ?c4 ?c5 ?_)
      case c1 => exact cell_one_new _ _ _
      case c2 => simp [Value.oneCell']
      case c3 => simp [maxLen]
      case c4 => omega
      case c5 => simp at z2 ⊢; omega
      intro v' w2 hown hg _
      have hn2 : New w w2 := Below.grown ((hn0.trans n1).alloc _) hg (by simp at z2 ⊢; omega) (fun k hk => by simp [Value.ownBlock] at hk)
      have B2 : Blk w2 w.heap.size 24 #[.string base, .slice A n c] := ((B0.new n1).alloc _).grown hg (by simp [Value.ownBlock])
      go_wp2
      go_meet
      case rel => exact ⟨_, 1, rfl, by rw [HX4.out]; exact hown, by rw [HX4.out]; rfl, hn2, B2⟩
  case rest =>
    clear hn0 B0 HX
    obtain ⟨V, m, rfl, hown0, hm, hn0, B0⟩ := hcut
    have HM := Lib.hid hm
    have hm1 : m ≤ 1 := by omega
    have a0 := B0.cell' 0 _ rfl
    have a1 := B0.cell' 1 _ rfl
    have hzc := hn0.size
    have hlt0 := B0.lt
    obtain ⟨g, hg⟩ : ∃ g, wc.heap.size = g := ⟨_, rfl⟩
    have HG := Lib.hid hg
    have hgw : w.heap.size ≤ g := by omega
    have hgw2 : w.heap.size < g := by omega
    have BW0 := Blk.made wc 9 #[.string ⟨#[]⟩, .string ⟨#[107, 101, 101, 112, 32]⟩, .string ⟨#[100, 114, 111, 112, 32]⟩, .string ⟨#[97, 100, 100, 32]⟩]
    have hn1 := hn0.alloc (.cells #[.string ⟨#[]⟩, .string ⟨#[107, 101, 101, 112, 32]⟩, .string ⟨#[100, 114, 111, 112, 32]⟩, .string ⟨#[97, 100, 100, 32]⟩] 9)
    have hownW := hown0.alloc (.cells #[.string ⟨#[]⟩, .string ⟨#[107, 101, 101, 112, 32]⟩, .string ⟨#[100, 114, 111, 112, 32]⟩, .string ⟨#[97, 100, 100, 32]⟩] 9)
    have BA := B0.alloc (.cells #[.string ⟨#[]⟩, .string ⟨#[107, 101, 101, 112, 32]⟩, .string ⟨#[100, 114, 111, 112, 32]⟩, .string ⟨#[97, 100, 100, 32]⟩] 9)
    have hgown : V.ownBlock ≠ some g := fun e => by have := (hown0.lt _ e).2; omega
    rw [hg] at BW0
    clear hm hg hown0 B0 HBL hn0
    go_wp2
    rw [HG.out]
    go_loopw [3, 27] (fun v3 v27 wr => ∃ (V : Value) (k q : Nat), V = v3 ∧ v27 = .int .i64 k ∧ k ≤ n ∧ New w wr ∧ wr.ownsRow w.heap.size 9 1 V q (sCells (baseL base ++ linesL ((hs.take k).map Hm.d))) ∧ Hid (q = (baseL base ++ linesL ((hs.take k).map Hm.d)).length) ∧ q ≤ 4100001 ∧ Blk wr g 9 #[.string ⟨#[]⟩, .string ⟨#[107, 101, 101, 112, 32]⟩, .string ⟨#[100, 114, 111, 112, 32]⟩, .string ⟨#[97, 100, 100, 32]⟩] ∧ V.ownBlock ≠ some g ∧ g < wr.heap.size) (fun _ v27 _ => n - (intOf v27).toNat)
    case atStart => exact ⟨_, 0, m, rfl, rfl, by omega, hn1, by simpa [linesL] using hownW, Lib.hid (by rw [HM.out]; simp [linesL]), by omega, BW0, hgown, BW0.lt⟩
    case round =>
      obtain ⟨V, k, q, rfl, rfl, hk, hnr, hown, HQ, hq, BW, hne, hgr⟩ := hrel
      by_cases hlt : k < n
      · obtain ⟨bk, o, rfl, hbk, p, hp, hcell⟩ := rd_row (f := hmC) (k := 3) (fun _ => rfl) HL.out (HR.out.new hnr).rd hlt
        have hok := HO.out p (List.mem_of_getElem? hp)
        have HN := Lib.hid (linesL_take hp)
        have hbd := HB.out (k + 1)
        have HMM := Lib.hid (List.mem_of_getElem? hp)
        obtain ⟨pk, pn, pl, pa, pc⟩ := p
        have q0 := hcell 0 (.int .i64 pk) (by omega) rfl
        have q1 := hcell 1 (.int .i64 pn) (by omega) rfl
        have q2 := hcell 2 (.slice pa pl.length pc) (by omega) rfl
        simp only [Nat.add_zero] at q0
        rw [← Nat.add_assoc] at q1 q2
        have i0' : (0 : Int) ≤ (k : Int) := by omega
        have i1' : (k : Int) < (n : Int) := by omega
        have k1 : 1 ≤ pk := hok.k1
        have k3 : pk ≤ 3 := hok.k3
        have n1 : 1 ≤ pn := hok.n1
        have n2 : pn ≤ 1024 := hok.n2
        have hpl : pl.length ≤ 1024 := by
          by_cases hk : pk = 3
          · have := hok.l3 hk; simp only [Hm.d] at this; omega
          · have h0 : pl = [] := hok.l0 hk
            rw [h0]; simp
        simp only [Hm.d, head_eq] at HN
        obtain ⟨nl, hnl⟩ : ∃ nl, pl.length = nl := ⟨_, rfl⟩
        rw [hnl] at q2 hpl
        have HNL := Lib.hid hnl
        have hql : q + 1 + nl ≤ 4200000 := by omega
        have hnr1 := hnr.alloc (.cells #[.int .i64 pk, .int .i64 pn, .slice pa nl pc] 55)
        have BH := Blk.made wr 55 #[.int .i64 pk, .int .i64 pn, .slice pa nl pc]
        have ownA := hown.alloc (.cells #[.int .i64 pk, .int .i64 pn, .slice pa nl pc] 55)
        have BW1 := BW.alloc (.cells #[.int .i64 pk, .int .i64 pn, .slice pa nl pc] 55)
        have hts := itoa_size pn n1 n2
        obtain ⟨pm, rfl⟩ : ∃ pm : Nat, pn = (pm : Int) := ⟨pn.toNat, by omega⟩
        have HI := Lib.hid (fun W => decimal_any pm (by omega) W)
        have hneh : V.ownBlock ≠ some wr.heap.size := fun e => by have := (hown.lt _ e).2; omega
        have hzr := hnr.size
        have HQB : Hid (q + 1 + nl ≤ 4100001) := Lib.hid (by
          have h1 := HQ.out
          have h2 := congrArg List.length HN.out
          have h3 := HM.out
          simp only [List.length_append, List.length_cons, List.length_nil] at h1 h2
          omega)
        clear hcell hp hok hnl hbd
        generalize S (Lib.itoa (pm : Int)) = t at *
        generalize hXS : baseL base ++ linesL ((hs.take k).map Hm.d) = XS at *
        have HXS := Lib.hid hXS
        have s1 : ¬ (9223372036854775807 < 5 + t.size) := by omega
        have s2 : ¬ (9223372036854775807 < 4 + t.size) := by omega
        clear hXS
        by_cases e1 : pk = 1
        · subst e1
          have b0 := BH.cell' 0 _ rfl
          have b1 := BH.cell' 1 _ rfl
          have b2 := BH.cell' 2 _ rfl
          have bw := BW1.cell' 1 _ rfl
          go_wp2_with (fail)
          have hS : New (wr.alloc (.cells #[.int .i64 1, .int .i64 pm, .slice pa nl pc] 55)) (wr.alloc (.cells #[.int .i64 1, .int .i64 pm, .slice pa nl pc] 55)) := New.refl _
          go_region_held3 (fun W => W.cell? ⟨wr.heap.size, 0, none⟩ = some (.int .i64 1) ∧ W.cell? ⟨wr.heap.size, 1, none⟩ = some (.int .i64 pm) ∧ W.cell? ⟨g, 1, none⟩ = some (.string word1)) (first | exact ⟨b0, b1, bw⟩ | exact ⟨BH2.cell' 0 _ rfl, BH2.cell' 1 _ rfl, BW2.cell' 1 _ rfl⟩ | exact ⟨BH9.cell' 0 _ rfl, BH9.cell' 1 _ rfl, BW9.cell' 1 _ rfl⟩ | exact ⟨(BH9.alloc _).cell' 0 _ rfl, (BH9.alloc _).cell' 1 _ rfl, (BW9.alloc _).cell' 1 _ rfl⟩ | go_keep) (first | (go_at_call 63; (with_reducible refine (HI.out _).mono ?_); rintro e w9 ⟨rfl, m9⟩; have BH9 := BH.drew.new m9; have BW9 := BW1.drew.new m9; have own9 : w9.ownsRow w.heap.size 9 1 V q (sCells XS) := own_new ownA.drew m9; have z9 : w.heap.size ≤ w9.heap.size := Nat.le_trans hnr1.size m9.size) | (refine step_append_lies _ (by rfl) _ _ _ (by rfl) w.heap.size 9 i0 (.string ⟨#[]⟩) 1 16 Tryz.underlying49 hi hz0 hz1 hz2 rfl (by omega) V q (sCells XS) (by rfl) (own9.alloc _) ⟨w9.heap.size, 0, none⟩ 1 1 [.string (word1 ++ t)] (by rfl) (by rfl) (World.news_of_block (cs := #[.string (word1 ++ t)]) (t := 9) (fr := (0, 0)) (heap_alloc_new _ _)) (by simp [Value.oneCell']) (by omega) (by simp [maxLen]; try omega) (by omega) (by simp; omega) (w9.heap.size + 1) (by simp) ?_; intro gg cap2 w2 hown2 hgrow hat hlt2; have BH2 := (BH9.alloc (.cells #[.string (word1 ++ t)] 9)).grown hgrow (Ne.symm hneh); have BW2 := (BW9.alloc (.cells #[.string (word1 ++ t)] 9)).grown hgrow (Ne.symm hne)))
          have e2 := BH2.cell' 2 _ rfl
          have hn2 : New w w2 := Below.grown ((hnr1.trans (New.trans (New.refl _).drew m9)).alloc _) hgrow (by simp; omega) (fun q hq => (hown.lt q hq).1)
          have hR2 : Rd w2 1 pa nl (sCells pl) := ((HR.out.new hn2).ln _ HMM.out).1 |> fun q => by simp only [HNL.out] at q; exact q
          have hz2' := hgrow.size
          have hgr2 : g < w2.heap.size := BW2.lt
          go_wp2_with (at_builtin; refine wpList_append_rd_at rfl _ _ rfl w.heap.size _ (q + 1) _ rfl hown2 pa nl pc pl rfl hR2 (by omega) (by simp at hz2'; omega) ?_)
          intro v5 w5 hown5 hg5 hat5
          have hng : gg ≠ g := fun e => by rcases hat with h | h
                                           · exact hne (by rw [h, e])
                                           · have := BW9.lt; omega
          go_wp2
          go_roundw
          case rel => exact ⟨_, k + 1, q + 1 + nl, rfl, by go_num, by omega, Below.grown hn2 hg5 (by have := hn2.size; omega) (fun q hq => (hown2.lt q hq).1), by rw [HN.out, ← List.append_assoc, HXS.out, word1_eq, sCells_app, sCells_app]; exact own_len hown5 rfl (by simp [sCells]), Lib.hid (by rw [HN.out, ← List.append_assoc, HXS.out, List.length_append, List.length_append]; simp only [List.length_cons, List.length_nil]; have := HQ.out; have := HNL.out; omega), HQB.out, BW2.grown hg5 (by simp [Value.ownBlock]; omega), (fun e => by rcases hat5 with h | h <;> (rw [h] at e; simp [Value.ownBlock] at e; omega)), by have := hg5.size; omega⟩
          case measure => simp [intOf]; omega
        · by_cases e2 : pk = 2
          · subst e2
            have b0 := BH.cell' 0 _ rfl
            have b1 := BH.cell' 1 _ rfl
            have b2 := BH.cell' 2 _ rfl
            have bw := BW1.cell' 2 _ rfl
            go_wp2_with (fail)
            have hS : New (wr.alloc (.cells #[.int .i64 2, .int .i64 pm, .slice pa nl pc] 55)) (wr.alloc (.cells #[.int .i64 2, .int .i64 pm, .slice pa nl pc] 55)) := New.refl _
            go_region_held3 (fun W => W.cell? ⟨wr.heap.size, 0, none⟩ = some (.int .i64 2) ∧ W.cell? ⟨wr.heap.size, 1, none⟩ = some (.int .i64 pm) ∧ W.cell? ⟨g, 2, none⟩ = some (.string word2)) (first | exact ⟨b0, b1, bw⟩ | exact ⟨BH2.cell' 0 _ rfl, BH2.cell' 1 _ rfl, BW2.cell' 2 _ rfl⟩ | exact ⟨BH9.cell' 0 _ rfl, BH9.cell' 1 _ rfl, BW9.cell' 2 _ rfl⟩ | exact ⟨(BH9.alloc _).cell' 0 _ rfl, (BH9.alloc _).cell' 1 _ rfl, (BW9.alloc _).cell' 2 _ rfl⟩ | go_keep) (first | (go_at_call 63; (with_reducible refine (HI.out _).mono ?_); rintro e w9 ⟨rfl, m9⟩; have BH9 := BH.drew.new m9; have BW9 := BW1.drew.new m9; have own9 : w9.ownsRow w.heap.size 9 1 V q (sCells XS) := own_new ownA.drew m9; have z9 : w.heap.size ≤ w9.heap.size := Nat.le_trans hnr1.size m9.size) | (refine step_append_lies _ (by rfl) _ _ _ (by rfl) w.heap.size 9 i0 (.string ⟨#[]⟩) 1 16 Tryz.underlying49 hi hz0 hz1 hz2 rfl (by omega) V q (sCells XS) (by rfl) (own9.alloc _) ⟨w9.heap.size, 0, none⟩ 1 1 [.string (word2 ++ t)] (by rfl) (by rfl) (World.news_of_block (cs := #[.string (word2 ++ t)]) (t := 9) (fr := (0, 0)) (heap_alloc_new _ _)) (by simp [Value.oneCell']) (by omega) (by simp [maxLen]; try omega) (by omega) (by simp; omega) (w9.heap.size + 1) (by simp) ?_; intro gg cap2 w2 hown2 hgrow hat hlt2; have BH2 := (BH9.alloc (.cells #[.string (word2 ++ t)] 9)).grown hgrow (Ne.symm hneh); have BW2 := (BW9.alloc (.cells #[.string (word2 ++ t)] 9)).grown hgrow (Ne.symm hne)))
            have e2 := BH2.cell' 2 _ rfl
            have hn2 : New w w2 := Below.grown ((hnr1.trans (New.trans (New.refl _).drew m9)).alloc _) hgrow (by simp; omega) (fun q hq => (hown.lt q hq).1)
            have hR2 : Rd w2 1 pa nl (sCells pl) := ((HR.out.new hn2).ln _ HMM.out).1 |> fun q => by simp only [HNL.out] at q; exact q
            have hz2' := hgrow.size
            have hgr2 : g < w2.heap.size := BW2.lt
            go_wp2_with (at_builtin; refine wpList_append_rd_at rfl _ _ rfl w.heap.size _ (q + 1) _ rfl hown2 pa nl pc pl rfl hR2 (by omega) (by simp at hz2'; omega) ?_)
            intro v5 w5 hown5 hg5 hat5
            have hng : gg ≠ g := fun e => by rcases hat with h | h
                                             · exact hne (by rw [h, e])
                                             · have := BW9.lt; omega
            go_wp2
            go_roundw
            case rel => exact ⟨_, k + 1, q + 1 + nl, rfl, by go_num, by omega, Below.grown hn2 hg5 (by have := hn2.size; omega) (fun q hq => (hown2.lt q hq).1), by rw [HN.out, ← List.append_assoc, HXS.out, word2_eq, sCells_app, sCells_app]; exact own_len hown5 rfl (by simp [sCells]), Lib.hid (by rw [HN.out, ← List.append_assoc, HXS.out, List.length_append, List.length_append]; simp only [List.length_cons, List.length_nil]; have := HQ.out; have := HNL.out; omega), HQB.out, BW2.grown hg5 (by simp [Value.ownBlock]; omega), (fun e => by rcases hat5 with h | h <;> (rw [h] at e; simp [Value.ownBlock] at e; omega)), by have := hg5.size; omega⟩
            case measure => simp [intOf]; omega
          · obtain rfl : pk = 3 := by omega
            have b0 := BH.cell' 0 _ rfl
            have b1 := BH.cell' 1 _ rfl
            have b2 := BH.cell' 2 _ rfl
            have bw := BW1.cell' 3 _ rfl
            go_wp2_with (fail)
            have hS : New (wr.alloc (.cells #[.int .i64 3, .int .i64 pm, .slice pa nl pc] 55)) (wr.alloc (.cells #[.int .i64 3, .int .i64 pm, .slice pa nl pc] 55)) := New.refl _
            go_region_held3 (fun W => W.cell? ⟨wr.heap.size, 0, none⟩ = some (.int .i64 3) ∧ W.cell? ⟨wr.heap.size, 1, none⟩ = some (.int .i64 pm) ∧ W.cell? ⟨g, 3, none⟩ = some (.string word3)) (first | exact ⟨b0, b1, bw⟩ | exact ⟨BH2.cell' 0 _ rfl, BH2.cell' 1 _ rfl, BW2.cell' 3 _ rfl⟩ | exact ⟨BH9.cell' 0 _ rfl, BH9.cell' 1 _ rfl, BW9.cell' 3 _ rfl⟩ | exact ⟨(BH9.alloc _).cell' 0 _ rfl, (BH9.alloc _).cell' 1 _ rfl, (BW9.alloc _).cell' 3 _ rfl⟩ | go_keep) (first | (go_at_call 63; (with_reducible refine (HI.out _).mono ?_); rintro e w9 ⟨rfl, m9⟩; have BH9 := BH.drew.new m9; have BW9 := BW1.drew.new m9; have own9 : w9.ownsRow w.heap.size 9 1 V q (sCells XS) := own_new ownA.drew m9; have z9 : w.heap.size ≤ w9.heap.size := Nat.le_trans hnr1.size m9.size) | (refine step_append_lies _ (by rfl) _ _ _ (by rfl) w.heap.size 9 i0 (.string ⟨#[]⟩) 1 16 Tryz.underlying49 hi hz0 hz1 hz2 rfl (by omega) V q (sCells XS) (by rfl) (own9.alloc _) ⟨w9.heap.size, 0, none⟩ 1 1 [.string (word3 ++ t)] (by rfl) (by rfl) (World.news_of_block (cs := #[.string (word3 ++ t)]) (t := 9) (fr := (0, 0)) (heap_alloc_new _ _)) (by simp [Value.oneCell']) (by omega) (by simp [maxLen]; try omega) (by omega) (by simp; omega) (w9.heap.size + 1) (by simp) ?_; intro gg cap2 w2 hown2 hgrow hat hlt2; have BH2 := (BH9.alloc (.cells #[.string (word3 ++ t)] 9)).grown hgrow (Ne.symm hneh); have BW2 := (BW9.alloc (.cells #[.string (word3 ++ t)] 9)).grown hgrow (Ne.symm hne)))
            have e2 := BH2.cell' 2 _ rfl
            have hn2 : New w w2 := Below.grown ((hnr1.trans (New.trans (New.refl _).drew m9)).alloc _) hgrow (by simp; omega) (fun q hq => (hown.lt q hq).1)
            have hR2 : Rd w2 1 pa nl (sCells pl) := ((HR.out.new hn2).ln _ HMM.out).1 |> fun q => by simp only [HNL.out] at q; exact q
            have hz2' := hgrow.size
            have hgr2 : g < w2.heap.size := BW2.lt
            go_wp2_with (at_builtin; refine wpList_append_rd_at rfl _ _ rfl w.heap.size _ (q + 1) _ rfl hown2 pa nl pc pl rfl hR2 (by omega) (by simp at hz2'; omega) ?_)
            intro v5 w5 hown5 hg5 hat5
            have hng : gg ≠ g := fun e => by rcases hat with h | h
                                             · exact hne (by rw [h, e])
                                             · have := BW9.lt; omega
            go_wp2
            go_roundw
            case rel => exact ⟨_, k + 1, q + 1 + nl, rfl, by go_num, by omega, Below.grown hn2 hg5 (by have := hn2.size; omega) (fun q hq => (hown2.lt q hq).1), by rw [HN.out, ← List.append_assoc, HXS.out, word3_eq, sCells_app, sCells_app]; exact own_len hown5 rfl (by simp [sCells]), Lib.hid (by rw [HN.out, ← List.append_assoc, HXS.out, List.length_append, List.length_append]; simp only [List.length_cons, List.length_nil]; have := HQ.out; have := HNL.out; omega), HQB.out, BW2.grown hg5 (by simp [Value.ownBlock]; omega), (fun e => by rcases hat5 with h | h <;> (rw [h] at e; simp [Value.ownBlock] at e; omega)), by have := hg5.size; omega⟩
            case measure => simp [intOf]; omega
      · obtain rfl : k = n := by omega
        have e : hs.take k = hs := List.take_of_length_le (by rw [HL.out]; exact Nat.le_refl _)
        rw [e] at hown HQ
        obtain ⟨A1, c1, rfl, hcc, _, hrd⟩ := own_form hown
        have HRO : Hid (RowOut w (textL base (hs.map Hm.d)) (.returned (.slice A1 q c1)) wr) := Lib.hid ⟨A1, c1, by rw [HQ.out]; rfl, by have := HQ.out; rw [this] at hrd; exact hrd, by have := HQ.out; show (baseL base ++ linesL (hs.map Hm.d)).length ≤ _; omega, hnr⟩
        clear HQ
        go_wp2
        go_ret
        exact HRO.out
end Go.Proofs.YtfeknjpinboknaaGreatDoor

namespace Go.Proofs.YtfeknjpinboknaaGreatDoor
open Go Go.RowKit Go.Joins
set_option linter.unusedSimpArgs false
set_option linter.unusedVariables false

def digB (c : UInt8) : Bool := decide (48 ≤ c.toNat) && decide (c.toNat ≤ 57)
theorem digB_iff (c : UInt8) : digB c = true ↔ 48 ≤ c.toNat ∧ c.toNat ≤ 57 := by simp [digB]
def dval (v : Nat) (l : List UInt8) : Nat := l.foldl (fun v c => 10 * v + (c.toNat - 48)) v
theorem dval_snoc (v : Nat) (l : List UInt8) (c : UInt8) : dval v (l ++ [c]) = 10 * dval v l + (c.toNat - 48) := by simp [dval]
theorem dval_cons (v : Nat) (l : List UInt8) (c : UInt8) : dval v (c :: l) = dval (10 * v + (c.toNat - 48)) l := by unfold dval; rw [List.foldl_cons]
theorem dig_of (c : UInt8) (h : digB c = true) : UInt8.ofNat (48 + (c.toNat - 48)) = c := by
  rw [digB_iff] at h
  apply UInt8.toNat_inj.1
  rw [UInt8.toNat_ofNat']
  omega
theorem dec_step (v : Nat) (c : UInt8) (hv : 1 ≤ v) (h : digB c = true) : Lib.decDigits (10 * v + (c.toNat - 48)) = Lib.decDigits v ++ [c] := by
  have hd := (digB_iff c).1 h
  rw [Lib.decDigits, dif_neg (by omega), show (10 * v + (c.toNat - 48)) / 10 = v by omega, show (10 * v + (c.toNat - 48)) % 10 = c.toNat - 48 by omega, dig_of c h]
theorem dec_more : ∀ (l : List UInt8) (v : Nat), 1 ≤ v → l.all digB = true → Lib.decDigits (dval v l) = Lib.decDigits v ++ l
  | [], v, _, _ => by simp [dval]
  | c :: r, v, hv, h => by
    rw [List.all_cons, Bool.and_eq_true] at h
    rw [dval_cons, dec_more r _ (by omega) h.2, dec_step v c hv h.1, List.append_assoc]; rfl
theorem dec_val (c : UInt8) (r : List UInt8) (h : (c :: r).all digB = true) (h0 : r = [] ∨ c.toNat ≠ 48) : Lib.decDigits (dval 0 (c :: r)) = c :: r := by
  rw [List.all_cons, Bool.and_eq_true] at h
  have hd := (digB_iff c).1 h.1
  have h1 : Lib.decDigits (10 * 0 + (c.toNat - 48)) = [c] := by
    rw [Nat.mul_zero, Nat.zero_add, Lib.decDigits, dif_pos (by omega), dig_of c h.1]
  rcases h0 with rfl | h0
  · exact h1
  · rw [dval_cons, dec_more r _ (by omega) h.2, h1]; rfl
theorem dec_shape (u : Nat) : (Lib.decDigits u).all digB = true ∧ (∃ c r, Lib.decDigits u = c :: r ∧ (r = [] ∨ c.toNat ≠ 48)) ∧ dval 0 (Lib.decDigits u) = u ∧ (1 ≤ u → ∃ c r, Lib.decDigits u = c :: r ∧ c.toNat ≠ 48) := by
  induction u using Nat.strongRecOn with
  | _ u ih =>
    have hdig : ∀ k, k < 10 → digB (UInt8.ofNat (48 + k)) = true ∧ (UInt8.ofNat (48 + k)).toNat = 48 + k := fun k hk => by
      have e : (UInt8.ofNat (48 + k)).toNat = 48 + k := by rw [UInt8.toNat_ofNat']; omega
      exact ⟨by rw [digB_iff, e]; omega, e⟩
    by_cases h : u < 10
    · obtain ⟨h1, h2⟩ := hdig u h
      rw [Lib.decDigits, dif_pos h]
      refine ⟨by rw [List.all_cons, h1]; rfl, ⟨_, [], rfl, Or.inl rfl⟩, ?_, fun hu => ⟨_, [], rfl, by omega⟩⟩
      rw [dval_cons, h2]; simp [dval]
    · obtain ⟨h1, h2⟩ := hdig (u % 10) (by omega)
      obtain ⟨i1, _, i3, i4⟩ := ih (u / 10) (by omega)
      obtain ⟨c, r, hc, h48⟩ := i4 (by omega)
      rw [Lib.decDigits, dif_neg h]
      refine ⟨by rw [List.all_append, i1, List.all_cons, h1]; rfl, ⟨c, r ++ [_], by rw [hc]; rfl, Or.inr h48⟩, ?_, fun _ => ⟨c, r ++ [_], by rw [hc]; rfl, h48⟩⟩
      rw [dval_snoc, i3, h2]; omega
theorem dval_ge : ∀ (l : List UInt8) (v : Nat), v ≤ dval v l
  | [], v => Nat.le_refl _
  | c :: r, v => by
    have := dval_ge r (10 * v + (c.toNat - 48))
    rw [dval_cons]; omega

def cntGo (most : Nat) (e : UInt8) : List UInt8 → Nat → Nat → Option (Nat × Nat)
  | [], _, _ => none
  | c :: r, i, n =>
    if c = e ∧ 0 < i then some (n, i + 1)
    else if c.toNat < 48 ∨ 57 < c.toNat ∨ (0 < i ∧ n = 0) then none
    else if most < 10 * n + (c.toNat - 48) then none
    else cntGo most e r (i + 1) (10 * n + (c.toNat - 48))
theorem cnt_run {most : Nat} {e : UInt8} (he : digB e = false) (r : List UInt8) : ∀ (D : List UInt8) (i n : Nat), D.all digB = true → (0 < i → n = 0 → D = []) → (i = 0 → n = 0 ∧ ∃ c q, D = c :: q ∧ (q = [] ∨ c.toNat ≠ 48)) → dval n D ≤ most → cntGo most e (D ++ e :: r) i n = some (dval n D, i + D.length + 1)
  | [], i, n, _, _, h2, _ => by
    have hi : 0 < i := by
      rcases Nat.eq_zero_or_pos i with h | h
      · obtain ⟨_, c, q, h3, _⟩ := h2 h; cases h3
      · exact h
    show cntGo most e (e :: r) i n = _
    rw [cntGo, if_pos ⟨rfl, hi⟩]
    rfl
  | c :: D, i, n, hd, h1, h2, hm => by
    rw [List.all_cons, Bool.and_eq_true] at hd
    have hc := (digB_iff c).1 hd.1
    have hce : c ≠ e := fun h => by rw [h, he] at hd; exact absurd hd.1 (by decide)
    have hz : ¬ (0 < i ∧ n = 0) := fun h => by have := h1 h.1 h.2; cases this
    have hge := dval_ge D (10 * n + (c.toNat - 48))
    rw [dval_cons] at hm ⊢
    rw [List.cons_append, cntGo, if_neg (fun h => hce h.1), if_neg (by omega), if_neg (by omega), cnt_run he r D (i + 1) _ hd.2 ?_ (fun h => by omega) hm, List.length_cons]
    · congr 2; omega
    · intro _ hn0
      rcases Nat.eq_zero_or_pos i with h | h
      · obtain ⟨h3, c', q, h4, h5⟩ := h2 h
        injection h4 with h4 h6
        subst h4 h6
        rcases h5 with h5 | h5
        · exact h5
        · omega
      · have : n ≠ 0 := fun h' => hz ⟨h, h'⟩
        omega
theorem cntg_app {most : Nat} {e : UInt8} (he : digB e = false) (n : Nat) (hn : n ≤ most) (r : List UInt8) : cntGo most e (Lib.decDigits n ++ e :: r) 0 0 = some (n, (Lib.decDigits n).length + 1) := by
  obtain ⟨h1, h2, h3, _⟩ := dec_shape n
  have := cnt_run (most := most) he r (Lib.decDigits n) 0 0 h1 (fun h => by omega) (fun _ => ⟨rfl, h2⟩) (by rw [h3]; exact hn)
  rw [this, h3, Nat.zero_add]
theorem cnt_sound {most : Nat} {e : UInt8} : ∀ (l : List UInt8) (i n m k : Nat), n ≤ most → cntGo most e l i n = some (m, k) → ∃ D r, l = D ++ e :: r ∧ D.all digB = true ∧ m = dval n D ∧ k = i + D.length + 1 ∧ m ≤ most ∧ 0 < i + D.length ∧ (0 < i → n = 0 → D = [])
  | [], i, n, m, k, _, h => by cases h
  | c :: r, i, n, m, k, hn, h => by
    rw [cntGo] at h
    split at h
    · rename_i hc
      injection h with h; injection h with h1 h2
      exact ⟨[], r, by rw [hc.1]; rfl, rfl, h1.symm, by simpa using h2.symm, by omega, by simpa using hc.2, fun _ _ => rfl⟩
    · split at h
      · cases h
      · split at h
        · cases h
        · rename_i h1 h2 h3
          obtain ⟨D, r', q1, q2, q3, q4, q5, q6, q7⟩ := cnt_sound r (i + 1) _ m k (by omega) h
          refine ⟨c :: D, r', by rw [q1]; rfl, ?_, by rw [dval_cons]; exact q3, by rw [q4, List.length_cons]; omega, q5, by rw [List.length_cons]; omega, fun hi h0 => absurd (And.intro hi h0) (by omega)⟩
          rw [List.all_cons, q2, Bool.and_true, digB_iff]
          omega
theorem cnt_some {most : Nat} {e : UInt8} {l : List UInt8} {m k : Nat} (h : cntGo most e l 0 0 = some (m, k)) : ∃ r, l = Lib.decDigits m ++ e :: r ∧ k = (Lib.decDigits m).length + 1 ∧ m ≤ most := by
  cases l with
  | nil => cases h
  | cons c r =>
    rw [cntGo, if_neg (fun h => by omega)] at h
    split at h
    · cases h
    · split at h
      · cases h
      · rename_i h2 h3
        obtain ⟨D, r', q1, q2, q3, q4, q5, q6, q7⟩ := cnt_sound r _ _ m k (by omega) h
        have hd : (c :: D).all digB = true := by rw [List.all_cons, q2, Bool.and_true, digB_iff]; omega
        have hm : m = dval 0 (c :: D) := by rw [dval_cons]; exact q3
        have hv := dec_val c D hd (by
          by_cases h48 : c.toNat = 48
          · exact Or.inl (q7 (by omega) (by omega))
          · exact Or.inr h48)
        rw [← hm] at hv
        exact ⟨r', by rw [hv, q1]; rfl, by rw [hv, q4, List.length_cons]; omega, q5⟩
end Go.Proofs.YtfeknjpinboknaaGreatDoor

namespace Go.Proofs.YtfeknjpinboknaaGreatDoor
open Go Go.RowKit Go.Joins
set_option linter.unusedSimpArgs false
set_option linter.unusedVariables false

/-! ### cut and join -/
theorem cut_noc {c : UInt8} : ∀ {l : List UInt8}, c ∉ l → cut c l = [l]
  | [], _ => rfl
  | b :: r, h => by
    rw [List.mem_cons, not_or] at h
    rw [cut, if_neg (fun e => h.1 e.symm), cut_noc h.2]
theorem cut_mid {c : UInt8} : ∀ {a : List UInt8} (b : List UInt8), c ∉ a → cut c (a ++ c :: b) = a :: cut c b
  | [], b, _ => by rw [List.nil_append, cut, if_pos rfl]
  | x :: a, b, h => by
    rw [List.mem_cons, not_or] at h
    rw [List.cons_append, cut, if_neg (fun e => h.1 e.symm), cut_mid b h.2]
theorem cut_no {c : UInt8} : ∀ {l : List UInt8}, ∀ x ∈ cut c l, c ∉ x
  | [], x, h => by rw [cut, List.mem_singleton] at h; subst h; simp
  | b :: r, x, h => by
    rw [cut] at h
    split at h
    · rcases List.mem_cons.1 h with rfl | h
      · simp
      · exact cut_no x h
    · rename_i hb
      split at h
      · rename_i e; exact absurd e (cut_ne c r)
      · rename_i y t e
        have ih := cut_no (c := c) (l := r)
        rw [e] at ih
        rcases List.mem_cons.1 h with rfl | h
        · rw [List.mem_cons, not_or]; exact ⟨fun q => hb q.symm, ih y (by simp)⟩
        · exact ih x (List.mem_cons_of_mem _ h)
theorem joinTail_cons (y : List UInt8) (l : List (List UInt8)) : Lib.joinTail [10] (y :: l) = [10] ++ y ++ Lib.joinTail [10] l := by simp [Lib.joinTail]
theorem cut_tail : ∀ (l : List (List UInt8)) (a : List UInt8), 10 ∉ a → (∀ x ∈ l, 10 ∉ x) → cut 10 (a ++ Lib.joinTail [10] l) = a :: l
  | [], a, ha, _ => by
    rw [show Lib.joinTail [10] [] = [] from by simp [Lib.joinTail], List.append_nil, cut_noc ha]
  | y :: l, a, ha, h => by
    rw [joinTail_cons, List.append_assoc, List.singleton_append, cut_mid _ ha, cut_tail l y (h y (by simp)) (fun x hx => h x (List.mem_cons_of_mem _ hx))]
theorem lf_mem (s : ByteArray) : lfB s = false ↔ (10 : UInt8) ∉ s.data.toList := by
  rw [lfB, Bool.eq_false_iff, ne_eq, List.contains_iff_mem]
theorem map_data (ws : List ByteArray) : (ws.map (·.data.toList)).map S = ws := by
  rw [List.map_map]
  have : (S ∘ fun x : ByteArray => x.data.toList) = id := funext fun x => S_data x
  rw [this, List.map_id]
theorem parts_join {ws : List ByteArray} (h0 : ws ≠ []) (h : ws.any lfB = false) : parts 10 (joinV ws) = ws := by
  cases ws with
  | nil => exact absurd rfl h0
  | cons x r =>
    have hall : ∀ y ∈ x :: r, (10 : UInt8) ∉ y.data.toList := fun y hy => (lf_mem y).1 (by
      rw [List.any_eq_false] at h
      simpa using h y hy)
    have e : (joinV (x :: r)).data.toList = x.data.toList ++ Lib.joinTail [10] (r.map (·.data.toList)) := by
      show (S _).data.toList = _
      rw [data_S, List.map_cons, Lib.join_cons]
    rw [parts, e, cut_tail _ _ (hall x (by simp)) (fun y hy => by
      obtain ⟨z, hz, rfl⟩ := List.mem_map.1 hy
      exact hall z (List.mem_cons_of_mem _ hz)), List.map_cons, S_data, map_data]
theorem tail_cut : ∀ l : List UInt8, ∃ a t, cut 10 l = a :: t ∧ l = a ++ Lib.joinTail [10] t
  | [] => ⟨[], [], rfl, by simp [Lib.joinTail]⟩
  | b :: r => by
    obtain ⟨a, t, h1, h2⟩ := tail_cut r
    by_cases hb : b = 10
    · subst hb
      exact ⟨[], a :: t, by rw [cut, if_pos rfl, h1], by rw [joinTail_cons, List.append_assoc, ← h2]; rfl⟩
    · exact ⟨b :: a, t, by rw [cut, if_neg hb, h1], by rw [List.cons_append, ← h2]⟩
theorem join_parts (s : ByteArray) : joinV (parts 10 s) = s := by
  obtain ⟨a, t, h1, h2⟩ := tail_cut s.data.toList
  apply bytes_ext
  show (S _).data.toList = _
  rw [data_S, parts, h1, List.map_cons, List.map_cons, Lib.join_cons, data_S, List.map_map]
  have : ((fun x : ByteArray => x.data.toList) ∘ S) = id := funext fun x => data_S x
  rw [this, List.map_id, ← h2]
theorem parts_ne (s : ByteArray) : parts 10 s ≠ [] := by
  rw [parts]
  intro h
  exact cut_ne 10 _ (List.map_eq_nil_iff.1 h)
theorem parts_lf (s : ByteArray) : (parts 10 s).any lfB = false := by
  rw [List.any_eq_false]
  intro x hx
  rw [parts, List.mem_map] at hx
  obtain ⟨y, hy, rfl⟩ := hx
  have := (lf_mem (S y)).2 (by rw [data_S]; exact cut_no y hy)
  rw [this]; decide
theorem size_szL {x : ByteArray} : ∀ {ws : List ByteArray}, x ∈ ws → x.size ≤ szL ws
  | y :: r, h => by
    have e : szL (y :: r) = y.size + szL r := by simp [szL]
    rcases List.mem_cons.1 h with rfl | h
    · omega
    · have := size_szL h; omega
theorem parts_size {s x : ByteArray} (h : x ∈ parts 10 s) : x.size ≤ s.size := by
  have h1 := joinV_sz (parts_ne s)
  rw [join_parts] at h1
  have h2 : x.size ≤ szL (parts 10 s) := size_szL h
  omega

theorem joinE_lf {ws : List ByteArray} (h : joinE ws = 0) : ws.any lfB = false := by
  unfold joinE at h
  split at h
  · cases h
  · rename_i hn
    cases hb : ws.any lfB
    · rfl
    · exact absurd (Or.inr hb) hn

/-! ### heads -/
def afterL (p l : List UInt8) : Option (List UInt8) := if l.take p.length = p then some (l.drop p.length) else none
theorem after_some {p l r : List UInt8} (h : afterL p l = some r) : l = p ++ r := by
  unfold afterL at h
  split at h
  · rename_i e; injection h with h; rw [← h]; conv => lhs; rw [← List.take_append_drop p.length l, e]
  · cases h
theorem after_app (p r : List UInt8) : afterL p (p ++ r) = some r := by simp [afterL]
theorem after_ne {p l : List UInt8} (h : p.head? ≠ l.head?) (hp : p ≠ []) : afterL p l = none := by
  unfold afterL
  rw [if_neg]
  intro e
  cases p with
  | nil => exact hp rfl
  | cons a p =>
    cases l with
    | nil => simp at e
    | cons b l => simp at e; simp [e.1] at h
def numL (l : List UInt8) : Nat := match cntGo 1024 59 (l ++ [59]) 0 0 with
  | some (n, k) => if k = l.length + 1 then n else 0
  | none => 0
theorem num_dec {n : Nat} (h : n ≤ 1024) : numL (Lib.decDigits n) = n := by
  rw [numL, show Lib.decDigits n ++ [59] = Lib.decDigits n ++ 59 :: [] from rfl, cntg_app (by decide) n h]
  simp
theorem dec_num {l : List UInt8} {n : Nat} (h : numL l = n) (h0 : n ≠ 0) : l = Lib.decDigits n ∧ n ≤ 1024 := by
  unfold numL at h
  split at h
  · rename_i m k e
    split at h
    · rename_i hk
      subst h
      obtain ⟨r, h1, h2, h3⟩ := cnt_some e
      have hl : (Lib.decDigits m).length = l.length := by omega
      have := List.append_inj h1 hl.symm
      exact ⟨this.1, h3⟩
    · exact absurd h.symm h0
  · exact absurd h.symm h0
def chkN (k : Int) (r : List UInt8) : Option (Int × Nat) := if numL r = 0 then none else some (k, numL r)
def headL (x : ByteArray) : Option (Int × Nat) := match afterL [107, 101, 101, 112, 32] x.data.toList with
  | some r => chkN 1 r
  | none => match afterL [100, 114, 111, 112, 32] x.data.toList with
    | some r => chkN 2 r
    | none => match afterL [97, 100, 100, 32] x.data.toList with
      | some r => chkN 3 r
      | none => none
theorem itoa_dec (n : Nat) : Lib.itoa (n : Int) = Lib.decDigits n := by rw [Lib.itoa, if_neg (by omega), Int.toNat_natCast]
theorem head_data (k : Int) (n : Nat) (ls : List ByteArray) : (headV ⟨k, n, ls⟩).data.toList = wordL k ++ Lib.decDigits n := by rw [headV, data_S, itoa_dec]
theorem head_compl {k : Int} {n : Nat} (ls : List ByteArray) (h1 : 1 ≤ k) (h2 : k ≤ 3) (h3 : 1 ≤ n) (h4 : n ≤ 1024) : headL (headV ⟨k, n, ls⟩) = some (k, n) := by
  have hn := num_dec h4
  have hc : ∀ k, chkN k (Lib.decDigits n) = some (k, n) := fun k => by rw [chkN, if_neg (by omega), hn]
  rw [headL, head_data]
  obtain rfl | rfl | rfl : k = 1 ∨ k = 2 ∨ k = 3 := by omega
  · rw [show wordL 1 = [107, 101, 101, 112, 32] from rfl, after_app]; exact hc 1
  · rw [show wordL 2 = [100, 114, 111, 112, 32] from rfl, after_ne (by simp) (by simp), after_app]; exact hc 2
  · rw [show wordL 3 = [97, 100, 100, 32] from rfl, after_ne (by simp) (by simp), after_ne (by simp) (by simp), after_app]; exact hc 3
theorem chk_some {k k' : Int} {n : Nat} {r : List UInt8} (h : chkN k r = some (k', n)) : k' = k ∧ r = Lib.decDigits n ∧ 1 ≤ n ∧ n ≤ 1024 := by
  unfold chkN at h
  split at h
  · cases h
  · rename_i h0
    injection h with h; injection h with h1 h2
    obtain ⟨a, b⟩ := dec_num h2 (by omega)
    exact ⟨h1.symm, a, by omega, b⟩
theorem head_sound {x : ByteArray} {k : Int} {n : Nat} (ls : List ByteArray) (h : headL x = some (k, n)) : x = headV ⟨k, n, ls⟩ ∧ 1 ≤ k ∧ k ≤ 3 ∧ 1 ≤ n ∧ n ≤ 1024 := by
  unfold headL at h
  have key : ∀ (k0 : Int) (r : List UInt8), afterL (wordL k0) x.data.toList = some r → chkN k0 r = some (k, n) → x = headV ⟨k, n, ls⟩ ∧ k = k0 ∧ 1 ≤ n ∧ n ≤ 1024 := fun k0 r h1 h2 => by
    obtain ⟨rfl, h3, h4, h5⟩ := chk_some h2
    exact ⟨bytes_ext (by rw [head_data, after_some h1, h3]), rfl, h4, h5⟩
  split at h
  · rename_i r e; obtain ⟨a, rfl, b, c⟩ := key 1 r e h; exact ⟨a, by omega, by omega, b, c⟩
  · split at h
    · rename_i r e; obtain ⟨a, rfl, b, c⟩ := key 2 r e h; exact ⟨a, by omega, by omega, b, c⟩
    · split at h
      · rename_i r e; obtain ⟨a, rfl, b, c⟩ := key 3 r e h; exact ⟨a, by omega, by omega, b, c⟩
      · cases h
def refGo : List ByteArray → Option (List Hk)
  | [] => some []
  | x :: r => match headL x with
    | none => none
    | some (k, n) => if k = 3 then (if n ≤ r.length then (refGo (r.drop n)).map (⟨3, n, r.take n⟩ :: ·) else none) else (refGo r).map (⟨k, n, []⟩ :: ·)
termination_by l => l.length
decreasing_by
  · simp only [List.length_drop, List.length_cons]; omega
  · simp
theorem refGo_nil : refGo [] = some [] := by rw [refGo]
theorem refGo_cons (x : ByteArray) (r : List ByteArray) : refGo (x :: r) = match headL x with
    | none => none
    | some (k, n) => if k = 3 then (if n ≤ r.length then (refGo (r.drop n)).map (⟨3, n, r.take n⟩ :: ·) else none) else (refGo r).map (⟨k, n, []⟩ :: ·) := by rw [refGo]
theorem ref_compl : ∀ {l : List Hk}, (∀ h ∈ l, OkH h) → refGo (linesL l) = some l
  | [], _ => refGo_nil
  | h :: r, ho => by
    have ih := ref_compl (fun x hx => ho x (List.mem_cons_of_mem _ hx))
    have h1 := ho h (by simp)
    obtain ⟨k, n, ls⟩ := h
    have k1 := h1.k1; have k3 := h1.k3; have n1 := h1.n1; have n2 := h1.n2; have l3 := h1.l3; have l0 := h1.l0
    simp only at k1 k3 n1 n2 l3 l0
    obtain ⟨m, rfl⟩ : ∃ m : Nat, n = (m : Int) := ⟨n.toNat, by omega⟩
    rw [show linesL (⟨k, m, ls⟩ :: r) = headV ⟨k, m, ls⟩ :: (ls ++ linesL r) from rfl, refGo_cons, head_compl ls k1 k3 (by omega) (by omega)]
    by_cases hk : k = 3
    · subst hk
      have hl := l3 rfl
      have hl' : ls.length = m := by omega
      simp only [if_pos]
      rw [if_pos (by rw [List.length_append]; omega), ← hl', List.drop_left, List.take_left, ih]
      rfl
    · simp only [if_neg hk]
      rw [l0 hk, List.nil_append, ih]; rfl
theorem ref_sound : ∀ {ls : List ByteArray} {l : List Hk}, refGo ls = some l → linesL l = ls ∧ ∀ h ∈ l, OkH h
  | [], l, h => by rw [refGo_nil] at h; injection h with h; subst h; exact ⟨rfl, fun _ h => by cases h⟩
  | x :: r, l, h => by
    rw [refGo_cons] at h
    split at h
    · cases h
    · rename_i k n e
      split at h
      · rename_i hk
        subst hk
        split at h
        · rename_i hn
          obtain ⟨l', h1, rfl⟩ := Option.map_eq_some_iff.1 h
          obtain ⟨i1, i2⟩ := ref_sound h1
          obtain ⟨a, _, _, b, c⟩ := head_sound (r.take n) e
          have hl : (r.take n).length = n := by rw [List.length_take]; omega
          refine ⟨?_, fun q hq => ?_⟩
          · rw [show linesL (⟨3, n, r.take n⟩ :: l') = headV ⟨3, n, r.take n⟩ :: (r.take n ++ linesL l') from rfl, i1, List.take_append_drop, ← a]
          · rcases List.mem_cons.1 hq with rfl | hq
            · exact ⟨by simp, by simp, by simp only; omega, by simp only; omega, fun _ => by simp only [hl], fun h => absurd rfl h⟩
            · exact i2 q hq
        · cases h
      · rename_i hk
        obtain ⟨l', h1, rfl⟩ := Option.map_eq_some_iff.1 h
        obtain ⟨i1, i2⟩ := ref_sound h1
        obtain ⟨a, k1, k3, b, c⟩ := head_sound [] e
        refine ⟨?_, fun q hq => ?_⟩
        · rw [show linesL (⟨k, n, []⟩ :: l') = headV ⟨k, n, []⟩ :: ([] ++ linesL l') from rfl, i1, List.nil_append, ← a]
        · rcases List.mem_cons.1 hq with rfl | hq
          · exact ⟨k1, k3, by simp only; omega, by simp only; omega, fun h => absurd h hk, fun _ => rfl⟩
          · exact i2 q hq
termination_by ls => ls.length
decreasing_by all_goals (first | (simp only [List.length_drop, List.length_cons]; omega) | simp)
end Go.Proofs.YtfeknjpinboknaaGreatDoor

