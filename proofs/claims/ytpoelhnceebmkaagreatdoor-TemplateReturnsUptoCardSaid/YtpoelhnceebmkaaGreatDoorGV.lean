/- template.Parse: the walk. Conditions: the text's size; strings.IndexAny answers on the text's ends. -/
import Derived.Test.YtpoelhnceebmkaaGreatDoorGU

namespace Go.Proofs.YtpoelhnceebmkaaGreatDoor
open Go Go.RowKit Go.Shelf
set_option linter.unusedSimpArgs false
set_option linter.unusedVariables false

theorem ext_drop (s : ByteArray) (a : Nat) : (s.extract a s.size).data.toList = s.data.toList.drop a := by
  rw [extract_S, data_S, List.take_of_length_le]
  rw [List.length_drop, size_eq]; omega
theorem ext_take (s : ByteArray) (a i : Nat) : (s.extract a (a + i)).data.toList = (s.data.toList.drop a).take i := by
  rw [extract_S, data_S, Nat.add_sub_cancel_left]
theorem wordsL_len (t : ByteArray) : (wordsL t.data.toList).length ≤ t.size := by
  unfold wordsL
  rw [List.length_map, S_data]; exact spans_len t
theorem InvG.push {nm : ByteArray} {w : World} {m g cP g2 c2 : Nat} {qs : List QV} {h h2 : Int} {ws : List ByteArray} {u : Value} {wr W : World} (I : InvG nm w m g cP qs h ws u wr) 
    (h0 : wr.grownBy W (some g)) (h1 : W.ownsRow w.heap.size 58 2 (.slice (some ⟨g2, 0, none⟩) (m + 1 + 1) c2) (m + 1 + 1) (qCells qs ++ [.int .i64 h, u] ++ [.int .i64 h2, .slice none 0 0])) :
    InvG nm w (m + 1) g2 c2 (qs ++ [((h, ws), u)]) h2 [] (.slice none 0 0) (W.setCell ⟨w.heap.size + 2, 1, none⟩ (.slice (some ⟨g2, 0, none⟩) (m + 1 + 1) c2)) := by
  have e1 : w.heap.size ≠ g := fun e => own_off_blk I.row I.res (by decide) (by rw [e]; rfl)
  have e2 : w.heap.size + 2 ≠ g := fun e => own_off_blk I.row I.tpl (by decide) (by rw [e]; rfl)
  have e3 : w.heap.size + 3 ≠ g := fun e => own_off_blk I.row I.cnt (by decide) (by rw [e]; rfl)
  have hg : w.heap.size ≤ g ∧ g < wr.heap.size := I.row.lt g rfl
  have T := I.tpl.grown h0 (fun e => e2 (Option.some.inj e))
  have own : ∀ q ∈ qs ++ [((h, ws), u)], W.ownsRow w.heap.size 9 1 q.2 q.1.2.length (sCells q.1.2) := fun q hq => by
    rcases List.mem_append.1 hq with hq | hq
    · exact (I.own q hq).kept h0 (.inr (fun e => own_off (I.own q hq) I.row (by decide) rfl e))
    · rw [List.mem_singleton.1 hq]
      exact I.last.kept h0 (.inr (fun e => own_off I.last I.row (by decide) rfl e))
  refine ⟨(Below.grown I.new h0 I.new.size (fun k e => by cases e; exact hg.1)).setCell (p := ⟨w.heap.size + 2, 1, none⟩) (by show w.heap.size ≤ w.heap.size + 2; omega) _, by rw [List.length_append, I.len]; rfl, (I.res.grown h0 (fun e => e1 (Option.some.inj e))).far (by show w.heap.size ≠ w.heap.size + 2; omega) _, (T.put 1 _).same (by simp),
    own_to (h1.kept (grown_set W _ _) (.inr (fun e => own_off_blk h1 T (by decide) e))) rfl (by rw [qCells_app]; simp [qCells]), fun q hq => (own q hq).kept (grown_set W _ _) (.inr (fun e => own_off_blk (own q hq) T (by decide) e)), World.ownsRow_nil _ _ _ _, (((I.cnt.grown h0 (fun e => e3 (Option.some.inj e))).far (by show w.heap.size + 3 ≠ w.heap.size + 2; omega) _)).same (by simp [pts, totW_app, totW])⟩

theorem InvG.lastc {nm : ByteArray} {w : World} {m g cP : Nat} {qs : List QV} {h : Int} {ws : List ByteArray} {u : Value} {wr : World} (I : InvG nm w m g cP qs h ws u wr) : wr.cell? ⟨g, m * 2 + 1, none⟩ = some u := by
  rw [I.row.cellAt (m * 2 + 1) (by omega), List.getElem?_append_right (by rw [qCells_len, I.len]; omega), qCells_len, I.len]; simp
theorem InvG.fill {nm : ByteArray} {w : World} {m g cP : Nat} {qs : List QV} {h : Int} {ws : List ByteArray} {u : Value} {wr : World} (I : InvG nm w m g cP qs h ws u wr) (a b : Value) :
    Blk ((wr.setCell ⟨w.heap.size, 0, none⟩ a).setCell ⟨w.heap.size, 1, none⟩ b) w.heap.size 25 #[a, b] ∧ New w ((wr.setCell ⟨w.heap.size, 0, none⟩ a).setCell ⟨w.heap.size, 1, none⟩ b) :=
  ⟨((I.res.put 0 a).put 1 b).same (by simp), (I.new.setCell (p := ⟨w.heap.size, 0, none⟩) (Nat.le_refl _) a).setCell (p := ⟨w.heap.size, 1, none⟩) (Nat.le_refl _) b⟩
theorem InvG.full {nm : ByteArray} {w : World} {m g cP : Nat} {qs : List QV} {h : Int} {ws : List ByteArray} {u : Value} {wr : World} (I : InvG nm w m g cP qs h ws u wr) (a b : Value) :
    TRd ((wr.setCell ⟨w.heap.size, 0, none⟩ a).setCell ⟨w.heap.size, 1, none⟩ b) (.agg #[.string nm, .slice (some ⟨g, 0, none⟩) (m + 1) cP]) nm (pts qs ++ [(h, ws)]) := by
  have hk : ∀ k, k ≠ w.heap.size → ((wr.setCell ⟨w.heap.size, 0, none⟩ a).setCell ⟨w.heap.size, 1, none⟩ b).heap[k]? = wr.heap[k]? := fun k hk => (Below.heap_setCell _ ⟨w.heap.size, 1, none⟩ b k hk).trans (Below.heap_setCell _ ⟨w.heap.size, 0, none⟩ a k hk)
  refine I.done ⟨rfl, rfl, rfl, ?_, fun k h1 => hk k (by omega)⟩ (fun k h1 _ => hk k h1) ?_
  · simp [World.setCell]
  · simp [World.setCell]
theorem put_inv (t : ByteArray) {nm : ByteArray} {w : World} {m g cP : Nat} {qs : List QV} {h : Int} {W : World} (I : InvG nm w m g cP qs h [] (.slice none 0 0) W) (ht : t.size ≤ 10000) (hm : m ≤ 10000) (hk : totW (pts qs) ≤ 100000) :
    Calls Tryz.prog 36 #[.string t, .pointer (some ⟨w.heap.size + 1 + 1, 0, none⟩), .pointer (some ⟨w.heap.size + 1 + 1 + 1, 0, none⟩)] W fun e w' => e = .returned (.tuple #[]) ∧ ∃ v, InvG nm w m g cP qs h (wordsL t.data.toList) v w' := by
  refine (put_any t nm W (w.heap.size + 2) (w.heap.size + 3) g cP m w.heap.size (totW (pts qs)) (qCells qs) h ht hk hm (by rw [qCells_len, I.len]) I.tpl I.row (by simpa using I.cnt)).mono ?_
  rintro e w' ⟨rfl, v, h1, h2, h3, h4⟩
  have e1 : wordsL t.data.toList = (spansV t).map fun x => S x.2 := by rw [wordsL, S_data]
  have e2 : (wordsL t.data.toList).length = (spansV t).length := by rw [e1, List.length_map]
  refine ⟨rfl, v, I.put h1 ?_ ?_ h4⟩
  · rw [e2, e1]; exact h2
  · rw [e2]; exact h3

set_option maxRecDepth 100000 in
set_option maxHeartbeats 4000000 in
theorem parse_any (nm s : ByteArray) (w : World) (hs : s.size ≤ 10000)
    (HA : ∀ (a : Nat) (W : World), Calls Tryz.prog 38 #[.string (s.extract a s.size), .string ⟨#[123, 125]⟩] W fun e w' => e = .returned (.int .i64 (brk (s.data.toList.drop a))) ∧ New W w') :
    Calls Tryz.prog 10 #[.string nm, .string s] w fun e w' => ∃ tv, e = .returned (.tuple #[tv, .int .i64 ((parseV s).2.1 : Nat), .int .i64 (parseV s).2.2]) ∧ New w w' ∧ ((parseV s).1 = none → tv = .agg #[.string ⟨#[]⟩, .slice none 0 0]) ∧ (∀ ps, (parseV s).1 = some ps → TRd w' tv nm ps) := by
  obtain ⟨j0, hi0, hz0, hz1, hz2⟩ := info_parts Tryz.info58
  obtain ⟨PV, hPV⟩ : ∃ x, parseV s = x := ⟨_, rfl⟩
  rw [hPV]
  by_cases hbig : 4096 < s.size
  · have hP2 : PV = (none, 0, 10) := by rw [← hPV, parseV, if_pos hbig]
    subst hP2
    clear hPV
    have t1 : decide ((4096 : Int) < (s.size : Int)) = true := decide_eq_true (by omega)
    go_enter Tryz.func10, Tryz.ntmps10
    go_wp2
    exact bodyPost_ret (v := .tuple #[.agg #[.string ⟨#[]⟩, .slice none 0 0], .int .i64 0, .int .i64 10]) (by simp [results, Tryz.results10, go_sem]) rfl ⟨_, rfl, (New.refl w).alloc _, fun _ => rfl, fun ps h => by cases h⟩
  · have t1 : decide ((4096 : Int) < (s.size : Int)) = false := decide_eq_false (by omega)
    have hP2 : goV (s.size + 1) s.data.toList 0 0 [] 0 = PV := by rw [← hPV, parseV, if_neg hbig]
    have HP := Lib.hid hP2
    have HHA := Lib.hid HA
    clear hPV hP2 HA
    go_enter Tryz.func10, Tryz.ntmps10
    go_wp2
    obtain ⟨w0, hw0⟩ : ∃ x, x = ((((w.alloc (.cells #[.string ⟨#[]⟩, .slice none 0 0] 25)).alloc (.cells #[.int .i64 0, .slice none 0 0] 58)).alloc (.cells #[.string nm, .slice (some ⟨w.heap.size + 1, 0, none⟩) 1 1] 25)).alloc (.cells #[.int .i64 0] 3)) := ⟨_, rfl⟩
    rw [← hw0]
    have I0 : InvG nm w 0 (w.heap.size + 1) 1 [] 0 [] (.slice none 0 0) w0 := by
      have b0 : Blk w0 w.heap.size 25 #[.string ⟨#[]⟩, .slice none 0 0] := by rw [hw0]; exact (((Blk.made w _ _).alloc _).alloc _).alloc _
      have b1 : Blk w0 (w.heap.size + 1) 58 #[.int .i64 0, .slice none 0 0] := by rw [hw0]; have := Blk.made (w.alloc (.cells #[.string ⟨#[]⟩, .slice none 0 0] 25)) 58 #[.int .i64 0, .slice none 0 0]; rw [World.size_alloc] at this; exact (this.alloc _).alloc _
      have b2 : Blk w0 (w.heap.size + 2) 25 #[.string nm, .slice (some ⟨w.heap.size + 1, 0, none⟩) 1 1] := by rw [hw0]; have := Blk.made ((w.alloc (.cells #[.string ⟨#[]⟩, .slice none 0 0] 25)).alloc (.cells #[.int .i64 0, .slice none 0 0] 58)) 25 #[.string nm, .slice (some ⟨w.heap.size + 1, 0, none⟩) 1 1]; simp only [World.size_alloc] at this; exact this.alloc _
      have b3 : Blk w0 (w.heap.size + 3) 3 #[.int .i64 0] := by rw [hw0]; have := Blk.made (((w.alloc (.cells #[.string ⟨#[]⟩, .slice none 0 0] 25)).alloc (.cells #[.int .i64 0, .slice none 0 0] 58)).alloc (.cells #[.string nm, .slice (some ⟨w.heap.size + 1, 0, none⟩) 1 1] 25)) 3 #[.int .i64 0]; simp only [World.size_alloc] at this; exact this
      have hn : New w w0 := by rw [hw0]; exact ((((New.refl w).alloc _).alloc _).alloc _).alloc _
      exact ⟨hn, rfl, b0, b2, ⟨rfl, .inr ⟨w.heap.size + 1, 1, _, rfl, by omega, b1, Nat.le_refl _, by simp [maxLen], rfl, rfl⟩⟩, (fun q hq => by cases hq), World.ownsRow_nil _ _ _ _, b3⟩
    clear hw0
    go_loopw [9, 11] (fun v9 v11 wr => ∃ (fr last f m g cP : Nat) (qs : List QV) (h : Int), v9 = .int .i64 last ∧ v11 = .int .i64 fr ∧ fr ≤ s.size ∧ m ≤ fr ∧ s.size - fr < f ∧ totW (pts qs) ≤ fr ∧ InvG nm w m g cP qs h [] (.slice none 0 0) wr ∧ Hid (goV f (s.data.toList.drop fr) fr last (pts qs) h = PV)) (fun _ v11 _ => s.size - (intOf v11).toNat)
    case atStart => exact ⟨0, 0, s.size + 1, 0, w.heap.size + 1, 1, [], 0, rfl, rfl, by omega, by omega, by omega, by simp [pts, totW], I0, Lib.hid HP.out⟩
    case round =>
      obtain ⟨fr, last, f, m, g, cP, qs, h, rfl, rfl, hfr, hmf, hf, htot, I, HG⟩ := hrel
      clear HP
      have hgo := HG.out
      rw [goV_at (by omega)] at hgo
      clear HG
      obtain ⟨L, hL⟩ : ∃ x, s.data.toList.drop fr = x := ⟨_, rfl⟩
      have HC := HHA.out fr
      rw [hL] at hgo HC
      have hLl : L.length = s.size - fr := by rw [← hL, List.length_drop, size_eq]
      have z1 : (fr : Int) ≤ (s.size : Int) := by omega
      have z0 : (0 : Int) ≤ (fr : Int) := by omega
      have HI := Lib.hid I
      have hql := I.len
      have p1 : IntKind.i64.wrap (((m + 1 : Nat) : Int) - 1) = (m : Int) := by rw [IntWalk.i64_in _ (by omega)]; omega
      have p2 : (0 : Int) ≤ (m : Int) := by omega
      have p3 : (m : Int) < ((m + 1 : Nat) : Int) := by omega
      have p4 : (m : Int).toNat = m := by omega
      have p5 : m < m + 1 := by omega
      clear I
      by_cases hb : brk L < 0
      · rw [if_pos hb] at hgo
        obtain ⟨t, ht⟩ : ∃ x, s.extract fr s.size = x := ⟨_, rfl⟩
        have htd : t.data.toList = L := by rw [← ht, ext_drop, hL]
        have hts : t.size ≤ s.size := by rw [size_eq, htd, hLl]; omega
        have HPUT := Lib.hid (fun W (I' : InvG nm w m g cP qs h [] (.slice none 0 0) W) => put_inv t I' (by omega) (by omega) (by omega))
        rw [ht] at HC
        rw [htd] at HPUT
        have hwl := wordsL_len t
        rw [htd] at hwl
        generalize wordsL L = ws at *
        obtain ⟨tot, htt⟩ : ∃ x, totW (pts qs) + ws.length = x := ⟨_, rfl⟩
        have e1 : (pts qs ++ [(h, ws)]).length = m + 1 := by simp [pts, hql]
        have e2 : totW (pts qs ++ [(h, ws)]) = tot := by rw [totW_app, ← htt]; simp [totW]
        rw [finV, e1, e2] at hgo
        generalize brk L = bI at *
        have b1 : decide (bI < 0) = true := decide_eq_true hb
        have HCC := Lib.hid HC
        clear HC
        by_cases hA : 1 < m + 1 ∧ ws = []
        · rw [if_pos hA] at hgo
          obtain ⟨hA1, rfl⟩ := hA
          subst hgo
          have b2 : decide ((1 : Int) < ((m + 1 : Nat) : Int)) = true := decide_eq_true (by omega)
          go_wp2_with (first | (go_at_call 36; refine (HPUT.out _ (HI.out.turn hn1)).mono ?_; rintro e w2 ⟨rfl, v, I2⟩; obtain ⟨A2, c2, rfl, _, _, _⟩ := own_form I2.last; have k1 := I2.tpl.cell' 1 _ rfl; have k2 := I2.lastc; have k3 := I2.cnt.cell' 0 _ rfl; have k4 := I2.res.cell' 0 _ rfl; have k5 := I2.res.free 0; have k6 := (I2.res.put 0 (.string ⟨#[]⟩)).cell' 1 _ rfl; have k7 := (I2.res.put 0 (.string ⟨#[]⟩)).free 1) | (go_at_call 38; refine (HCC.out _).mono ?_; rintro e w1 ⟨rfl, hn1⟩))
          obtain ⟨BB, hnn⟩ := I2.fill (.string ⟨#[]⟩) (.slice none 0 0)
          have k8 := BB.cell' 0 _ rfl
          have k9 := BB.cell' 1 _ rfl
          exact bodyPost_ret (v := .tuple #[.agg #[.string ⟨#[]⟩, .slice none 0 0], .int .i64 last, .int .i64 5]) (by simp [results, Tryz.results10, go_sem, k8, k9]) rfl ⟨rfl, hnn⟩
        · rw [if_neg hA] at hgo
          have HTT := Lib.hid htt
          clear htt
          by_cases hm0 : m = 0
          · have b2 : decide ((1 : Int) < ((m + 1 : Nat) : Int)) = false := decide_eq_false (by omega)
            have hm9 : m < 1 := by omega
            have hm8 : ¬ (1 : Int) < (m : Int) + 1 := by omega
            clear hm0 hA
            by_cases h0 : tot = 0
            · rw [if_pos h0] at hgo
              subst hgo
              have b4 : ((tot : Int) == 0) = true := beq_iff_eq.2 (by omega)
              go_wp2_with (first | (go_at_call 36; refine (HPUT.out _ (HI.out.turn hn1)).mono ?_; rintro e w2 ⟨rfl, v, I2⟩; obtain ⟨A2, c2, rfl, _, _, _⟩ := own_form I2.last; have k1 := I2.tpl.cell' 1 _ rfl; have k2 := I2.lastc; have k3 := I2.cnt.cell' 0 _ rfl; rw [HTT.out] at k3; have k4 := I2.res.cell' 0 _ rfl; have k5 := I2.res.free 0; have k6 := (I2.res.put 0 (.string ⟨#[]⟩)).cell' 1 _ rfl; have k7 := (I2.res.put 0 (.string ⟨#[]⟩)).free 1) | (go_at_call 38; refine (HCC.out _).mono ?_; rintro e w1 ⟨rfl, hn1⟩))
              obtain ⟨BB, hnn⟩ := I2.fill (.string ⟨#[]⟩) (.slice none 0 0)
              have k8 := BB.cell' 0 _ rfl
              have k9 := BB.cell' 1 _ rfl
              exact bodyPost_ret (v := .tuple #[.agg #[.string ⟨#[]⟩, .slice none 0 0], .int .i64 0, .int .i64 1]) (by simp [results, Tryz.results10, go_sem, k8, k9]) rfl ⟨rfl, hnn⟩
            · rw [if_neg h0] at hgo
              have b4 : ((tot : Int) == 0) = false := beq_eq_false_iff_ne.2 (by omega)
              by_cases h6 : 256 < tot
              · rw [if_pos h6] at hgo
                subst hgo
                have b5 : decide ((256 : Int) < (tot : Int)) = true := decide_eq_true (by omega)
                go_wp2_with (first | (go_at_call 36; refine (HPUT.out _ (HI.out.turn hn1)).mono ?_; rintro e w2 ⟨rfl, v, I2⟩; obtain ⟨A2, c2, rfl, _, _, _⟩ := own_form I2.last; have k1 := I2.tpl.cell' 1 _ rfl; have k2 := I2.lastc; have k3 := I2.cnt.cell' 0 _ rfl; rw [HTT.out] at k3; have k4 := I2.res.cell' 0 _ rfl; have k5 := I2.res.free 0; have k6 := (I2.res.put 0 (.string ⟨#[]⟩)).cell' 1 _ rfl; have k7 := (I2.res.put 0 (.string ⟨#[]⟩)).free 1) | (go_at_call 38; refine (HCC.out _).mono ?_; rintro e w1 ⟨rfl, hn1⟩))
                obtain ⟨BB, hnn⟩ := I2.fill (.string ⟨#[]⟩) (.slice none 0 0)
                have k8 := BB.cell' 0 _ rfl
                have k9 := BB.cell' 1 _ rfl
                exact bodyPost_ret (v := .tuple #[.agg #[.string ⟨#[]⟩, .slice none 0 0], .int .i64 0, .int .i64 10]) (by simp [results, Tryz.results10, go_sem, k8, k9]) rfl ⟨rfl, hnn⟩
              · rw [if_neg h6] at hgo
                subst hgo
                have b5 : decide ((256 : Int) < (tot : Int)) = false := decide_eq_false (by omega)
                go_wp2_with (first | (go_at_call 36; refine (HPUT.out _ (HI.out.turn hn1)).mono ?_; rintro e w2 ⟨rfl, v, I2⟩; obtain ⟨A2, c2, rfl, _, _, _⟩ := own_form I2.last; have k1 := I2.tpl.cell' 1 _ rfl; have k2 := I2.lastc; have k3 := I2.cnt.cell' 0 _ rfl; rw [HTT.out] at k3; have k4 := I2.res.cell' 0 _ rfl; have k5 := I2.res.free 0; have k6 := (I2.res.put 0 (.string nm)).cell' 1 _ rfl; have k7 := (I2.res.put 0 (.string nm)).free 1; have k0 := I2.tpl.cell' 0 _ rfl) | (go_at_call 38; refine (HCC.out _).mono ?_; rintro e w1 ⟨rfl, hn1⟩))
                obtain ⟨BB, hnn⟩ := I2.fill (.string nm) (.slice (some ⟨g, 0, none⟩) (m + 1) cP)
                have k8 := BB.cell' 0 _ rfl
                have k9 := BB.cell' 1 _ rfl
                exact bodyPost_ret (v := .tuple #[.agg #[.string nm, .slice (some ⟨g, 0, none⟩) (m + 1) cP], .int .i64 0, .int .i64 0]) (by simp [results, Tryz.results10, go_sem, k8, k9]) rfl ⟨_, rfl, hnn, I2.full _ _⟩
          · have b2 : decide ((1 : Int) < ((m + 1 : Nat) : Int)) = true := decide_eq_true (by omega)
            have hw0 : ws ≠ [] := fun e => hA ⟨by omega, e⟩
            have hwp := List.length_pos_iff.2 hw0
            have b3 : ((ws.length : Int) == 0) = false := beq_eq_false_iff_ne.2 (by omega)
            have hm9 : 0 < m := by omega
            have hm8 : (1 : Int) < (m : Int) + 1 := by omega
            clear hw0 hA hm0
            by_cases h0 : tot = 0
            · rw [if_pos h0] at hgo
              subst hgo
              have b4 : ((tot : Int) == 0) = true := beq_iff_eq.2 (by omega)
              go_wp2_with (first | (go_at_call 36; refine (HPUT.out _ (HI.out.turn hn1)).mono ?_; rintro e w2 ⟨rfl, v, I2⟩; obtain ⟨A2, c2, rfl, _, _, _⟩ := own_form I2.last; have k1 := I2.tpl.cell' 1 _ rfl; have k2 := I2.lastc; have k3 := I2.cnt.cell' 0 _ rfl; rw [HTT.out] at k3; have k4 := I2.res.cell' 0 _ rfl; have k5 := I2.res.free 0; have k6 := (I2.res.put 0 (.string ⟨#[]⟩)).cell' 1 _ rfl; have k7 := (I2.res.put 0 (.string ⟨#[]⟩)).free 1) | (go_at_call 38; refine (HCC.out _).mono ?_; rintro e w1 ⟨rfl, hn1⟩))
              obtain ⟨BB, hnn⟩ := I2.fill (.string ⟨#[]⟩) (.slice none 0 0)
              have k8 := BB.cell' 0 _ rfl
              have k9 := BB.cell' 1 _ rfl
              exact bodyPost_ret (v := .tuple #[.agg #[.string ⟨#[]⟩, .slice none 0 0], .int .i64 0, .int .i64 1]) (by simp [results, Tryz.results10, go_sem, k8, k9]) rfl ⟨rfl, hnn⟩
            · rw [if_neg h0] at hgo
              have b4 : ((tot : Int) == 0) = false := beq_eq_false_iff_ne.2 (by omega)
              by_cases h6 : 256 < tot
              · rw [if_pos h6] at hgo
                subst hgo
                have b5 : decide ((256 : Int) < (tot : Int)) = true := decide_eq_true (by omega)
                go_wp2_with (first | (go_at_call 36; refine (HPUT.out _ (HI.out.turn hn1)).mono ?_; rintro e w2 ⟨rfl, v, I2⟩; obtain ⟨A2, c2, rfl, _, _, _⟩ := own_form I2.last; have k1 := I2.tpl.cell' 1 _ rfl; have k2 := I2.lastc; have k3 := I2.cnt.cell' 0 _ rfl; rw [HTT.out] at k3; have k4 := I2.res.cell' 0 _ rfl; have k5 := I2.res.free 0; have k6 := (I2.res.put 0 (.string ⟨#[]⟩)).cell' 1 _ rfl; have k7 := (I2.res.put 0 (.string ⟨#[]⟩)).free 1) | (go_at_call 38; refine (HCC.out _).mono ?_; rintro e w1 ⟨rfl, hn1⟩))
                obtain ⟨BB, hnn⟩ := I2.fill (.string ⟨#[]⟩) (.slice none 0 0)
                have k8 := BB.cell' 0 _ rfl
                have k9 := BB.cell' 1 _ rfl
                exact bodyPost_ret (v := .tuple #[.agg #[.string ⟨#[]⟩, .slice none 0 0], .int .i64 0, .int .i64 10]) (by simp [results, Tryz.results10, go_sem, k8, k9]) rfl ⟨rfl, hnn⟩
              · rw [if_neg h6] at hgo
                subst hgo
                have b5 : decide ((256 : Int) < (tot : Int)) = false := decide_eq_false (by omega)
                go_wp2_with (first | (go_at_call 36; refine (HPUT.out _ (HI.out.turn hn1)).mono ?_; rintro e w2 ⟨rfl, v, I2⟩; obtain ⟨A2, c2, rfl, _, _, _⟩ := own_form I2.last; have k1 := I2.tpl.cell' 1 _ rfl; have k2 := I2.lastc; have k3 := I2.cnt.cell' 0 _ rfl; rw [HTT.out] at k3; have k4 := I2.res.cell' 0 _ rfl; have k5 := I2.res.free 0; have k6 := (I2.res.put 0 (.string nm)).cell' 1 _ rfl; have k7 := (I2.res.put 0 (.string nm)).free 1; have k0 := I2.tpl.cell' 0 _ rfl) | (go_at_call 38; refine (HCC.out _).mono ?_; rintro e w1 ⟨rfl, hn1⟩))
                obtain ⟨BB, hnn⟩ := I2.fill (.string nm) (.slice (some ⟨g, 0, none⟩) (m + 1) cP)
                have k8 := BB.cell' 0 _ rfl
                have k9 := BB.cell' 1 _ rfl
                exact bodyPost_ret (v := .tuple #[.agg #[.string nm, .slice (some ⟨g, 0, none⟩) (m + 1) cP], .int .i64 0, .int .i64 0]) (by simp [results, Tryz.results10, go_sem, k8, k9]) rfl ⟨_, rfl, hnn, I2.full _ _⟩
      · rw [if_neg hb] at hgo
        have hbl := brk_lt hb
        obtain ⟨i, hi⟩ : ∃ i : Nat, brk L = (i : Int) := ⟨(brk L).toNat, by omega⟩
        rw [hi] at hgo HC hbl
        simp only [Int.toNat_natCast] at hgo hbl
        have HCC := Lib.hid HC
        obtain ⟨t, ht⟩ : ∃ x, s.extract fr (fr + i) = x := ⟨_, rfl⟩
        have htd : t.data.toList = L.take i := by rw [← ht, ext_take, hL]
        have hts : t.size = i := by rw [size_eq, htd, List.length_take]; omega
        obtain ⟨r, hr⟩ : ∃ x, s.extract (fr + i) s.size = x := ⟨_, rfl⟩
        have hrd : r.data.toList = L.drop i := by rw [← hr, ext_drop, ← hL, List.drop_drop]
        have hrs : r.size ≤ s.size := by rw [size_eq, hrd, List.length_drop]; omega
        have HPUT := Lib.hid (fun W (I' : InvG nm w m g cP qs h [] (.slice none 0 0) W) => put_inv t I' (by omega) (by omega) (by omega))
        rw [htd] at HPUT
        have HH := Lib.hid (fun W => hole_any r W (by omega))
        rw [hrd] at HH
        have hwl := wordsL_len t
        have hvl := holeV_len (L.drop i)
        have hvv := holeV_val (L.drop i)
        rw [htd] at hwl
        rw [List.length_drop] at hvl
        generalize wordsL (L.take i) = ws at *
        generalize holeV (L.drop i) = V at *
        obtain ⟨V1, V2⟩ := V
        simp only at hgo HH hvl hvv
        have u6 : IntKind.i64.wrap ((fr : Int) + (i : Int)) = ((fr + i : Nat) : Int) := by rw [IntWalk.i64_in _ (by omega)]; omega
        have z2 : (fr : Int) ≤ ((fr + i : Nat) : Int) := by omega
        have z3 : ((fr + i : Nat) : Int) ≤ (s.size : Int) := by omega
        have z4 : fr ≤ fr + i := by omega
        have z5 : fr + i ≤ s.size := by omega
        have z6 : (0 : Int) ≤ ((fr + i : Nat) : Int) := by omega
        have b1 : decide ((i : Int) < 0) = false := decide_eq_false (by omega)
        have HGO := Lib.hid hgo
        have HLL := Lib.hid hL
        clear HC hi hb hgo htd hrd hL HHA
        by_cases hV : V2 = 0
        · have hg2 := HGO.out
          rw [if_pos hV] at hg2
          subst hg2 hV
          have b2 : (((0 : Nat) : Int) == 0) = true := rfl
          go_wp2_with (first | (go_at_call 39; refine (HH.out _).mono ?_; rintro e w3 ⟨rfl, hn3⟩; have I3 := I2.turn hn3; have k1 := I3.tpl.cell' 1 _ rfl; have k2 := I3.lastc; have k4 := I3.res.cell' 0 _ rfl; have k5 := I3.res.free 0; have k6 := (I3.res.put 0 (.string ⟨#[]⟩)).cell' 1 _ rfl; have k7 := (I3.res.put 0 (.string ⟨#[]⟩)).free 1) | (go_at_call 36; refine (HPUT.out _ (HI.out.turn hn1)).mono ?_; rintro e w2 ⟨rfl, v, I2⟩; obtain ⟨A2, c2, rfl, _, _, _⟩ := own_form I2.last) | (go_at_call 38; refine (HCC.out _).mono ?_; rintro e w1 ⟨rfl, hn1⟩))
          obtain ⟨BB, hnn⟩ := I3.fill (.string ⟨#[]⟩) (.slice none 0 0)
          have k8 := BB.cell' 0 _ rfl
          have k9 := BB.cell' 1 _ rfl
          exact bodyPost_ret (v := .tuple #[.agg #[.string ⟨#[]⟩, .slice none 0 0], .int .i64 (fr + i : Nat), .int .i64 4]) (by simp [results, Tryz.results10, go_sem, k8, k9]) rfl ⟨rfl, hnn⟩
        · have b2 : ((V2 : Int) == 0) = false := beq_eq_false_iff_ne.2 (by omega)
          by_cases hw0 : ws = []
          · have hg2 := HGO.out
            rw [if_neg hV, if_pos hw0] at hg2
            subst hg2 hw0
            go_wp2_with (first | (go_at_call 39; refine (HH.out _).mono ?_; rintro e w3 ⟨rfl, hn3⟩; have I3 := I2.turn hn3; have k1 := I3.tpl.cell' 1 _ rfl; have k2 := I3.lastc; have k4 := I3.res.cell' 0 _ rfl; have k5 := I3.res.free 0; have k6 := (I3.res.put 0 (.string ⟨#[]⟩)).cell' 1 _ rfl; have k7 := (I3.res.put 0 (.string ⟨#[]⟩)).free 1) | (go_at_call 36; refine (HPUT.out _ (HI.out.turn hn1)).mono ?_; rintro e w2 ⟨rfl, v, I2⟩; obtain ⟨A2, c2, rfl, _, _, _⟩ := own_form I2.last) | (go_at_call 38; refine (HCC.out _).mono ?_; rintro e w1 ⟨rfl, hn1⟩))
            obtain ⟨BB, hnn⟩ := I3.fill (.string ⟨#[]⟩) (.slice none 0 0)
            have k8 := BB.cell' 0 _ rfl
            have k9 := BB.cell' 1 _ rfl
            exact bodyPost_ret (v := .tuple #[.agg #[.string ⟨#[]⟩, .slice none 0 0], .int .i64 (fr + i : Nat), .int .i64 5]) (by simp [results, Tryz.results10, go_sem, k8, k9]) rfl ⟨rfl, hnn⟩
          · have hg2 := HGO.out
            rw [if_neg hV, if_neg hw0] at hg2
            have hwp := List.length_pos_iff.2 hw0
            have b3 : ((ws.length : Int) == 0) = false := beq_eq_false_iff_ne.2 (by omega)
            have u7 : IntKind.i64.wrap (((fr + i : Nat) : Int) + (V2 : Int)) = ((fr + i + V2 : Nat) : Int) := by rw [IntWalk.i64_in _ (by omega)]; omega
            have HG2 := Lib.hid hg2
            clear hg2 hw0
            go_wp2_with (first 
              | (at_builtin; refine wpList_append_own _ rfl (.tmp 65) (.tmp 68) 23 rfl w.heap.size 58 j0 (.agg #[.int .i64 0, .slice none 0 0]) 2 32 Tryz.underlying23 hi0 hz0 hz1 hz2 rfl (by decide) _ _ _ rfl (I3.row.alloc _) ⟨w3.heap.size, 0, none⟩ 1 1 [.int .i64 (V1 : Nat), .slice none 0 0] rfl rfl ?c1 ?c2 ?c3 ?c4 ?c5 ?_)
              | (go_at_call 39; refine (HH.out _).mono ?_; rintro e w3 ⟨rfl, hn3⟩; have I3 := I2.turn hn3; have k1 := I3.tpl.cell' 1 _ rfl; have k2 := I3.lastc; have k4 := I3.res.cell' 0 _ rfl; have k5 := I3.res.free 0; have k6 := (I3.res.put 0 (.string ⟨#[]⟩)).cell' 1 _ rfl; have k7 := (I3.res.put 0 (.string ⟨#[]⟩)).free 1) | (go_at_call 36; refine (HPUT.out _ (HI.out.turn hn1)).mono ?_; rintro e w2 ⟨rfl, v, I2⟩; obtain ⟨A2, c2, rfl, _, _, _⟩ := own_form I2.last) | (go_at_call 38; refine (HCC.out _).mono ?_; rintro e w1 ⟨rfl, hn1⟩))
            case c1 => exact cell_two_at _ _ rfl _ _ _
            case c2 => simp [Value.oneCell']
            case c3 => simp [maxLen]; omega
            case c4 => omega
            case c5 => have := I3.new.size; simp; omega
            intro v' w4 hown4 hg4 _
            obtain ⟨g4, c4, rfl, _, _⟩ := hown4.form (by omega)
            have I4 := I3.turn ((New.refl w3).alloc (.cells #[.int .i64 (V1 : Nat), .slice none 0 0] 58))
            have I5 := I4.push (h2 := (V1 : Nat)) hg4 (own_to hown4 rfl (by simp))
            have T4 := I4.tpl.grown hg4 (fun e => own_off_blk I4.row I4.tpl (by decide) e.symm)
            have q1 := T4.cell' 1 _ rfl
            have q2 := T4.free 1
            clear hown4 hg4 T4 I4 k1 k2 k4 k5 k6 k7
            go_wp2
            go_roundw
            case rel =>
              refine ⟨fr + i + V2, fr + i, f - 1, m + 1, g4, c4, qs ++ [((h, ws), .slice A2 ws.length c2)], V1, by go_num, by go_num, by omega, by omega, by omega, ?_, I5, Lib.hid ?_⟩
              · rw [pts, List.map_append, totW_app]
                simp only [List.map_cons, List.map_nil, totW, pts] at htot ⊢
                omega
              · have e := HG2.out
                rw [← HLL.out, List.drop_drop] at e
                rw [show pts (qs ++ [((h, ws), .slice A2 ws.length c2)]) = pts qs ++ [(h, ws)] by simp [pts], show fr + i + V2 = fr + (i + V2) by omega]
                simpa only [Nat.add_assoc] using e
            case measure => simp [intOf]; omega
end Go.Proofs.YtpoelhnceebmkaaGreatDoor

