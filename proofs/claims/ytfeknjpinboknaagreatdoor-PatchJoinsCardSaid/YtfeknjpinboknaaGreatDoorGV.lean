/- The reference's Lines and Parse. Conditions: sizes. (Printed by mk-v.py.) -/
import Derived.Test.YtfeknjpinboknaaGreatDoorGBase
import Derived.Test.YtfeknjpinboknaaGreatDoorGU
import Derived.Test.YtfeknjpinboknaaGreatDoorGBase

namespace Go.Proofs.YtfeknjpinboknaaGreatDoor
open Go Go.RowKit Go.Joins Go.Shelf
set_option linter.unusedSimpArgs false
set_option linter.unusedVariables false

set_option maxHeartbeats 1000000 in
theorem rlns_ok (s : ByteArray) (w : World) (hs : s.size ≤ 1000000) (h : linesE s = 0) :
    Calls Tryz.prog 30 #[.string s] w fun e w' => ∃ A c, e = .returned (.tuple #[.slice A (parts 10 s).length c, .int .i64 0]) ∧ LnOK w' [rowH (parts 10 s) A c] ∧ New w w' := by
  have HC := Lib.hid (show Calls Tryz.prog 58 #[.string s, .int .u8 10] w _ from rsplit_any s 10 w (by omega))
  have hz : s.size ≤ 65536 ∧ (parts 10 s).length ≤ 1024 := by
    unfold linesE at h
    split at h
    · cases h
    · omega
  obtain ⟨z1, z2⟩ := hz
  generalize parts 10 s = ws at *
  have t1 : ¬ (65536 : Int) < (s.size : Int) := by omega
  clear h
  go_enter Tryz.func30, Tryz.ntmps30
  have t2 : ¬ (1024 : Int) < (ws.length : Int) := by omega
  go_wp2_with (go_at_call 58; (with_reducible refine HC.out.mono ?_); rintro e w1 ⟨v, rfl, hown, n1⟩; obtain ⟨A, c, rfl, h1, h2, h3, h4⟩ := own_lines (ws := ws) hown; have HL := Lib.hid (show LnOK w1 [rowH ws A c] from fun y hy => by
    rw [List.mem_singleton] at hy
    subst hy
    exact ⟨h1, h3, h4⟩); clear hown h3 h4)
  go_ret2
  exact ⟨A, c, rfl, HL.out, n1⟩
set_option maxHeartbeats 1000000 in
theorem rlns_bad (s : ByteArray) (w : World) (hs : s.size ≤ 1000000) (h : linesE s ≠ 0) :
    Calls Tryz.prog 30 #[.string s] w fun e w' => e = .returned (.tuple #[.slice none 0 0, .int .i64 10]) ∧ New w w' := by
  have HC := Lib.hid (show Calls Tryz.prog 58 #[.string s, .int .u8 10] w _ from rsplit_any s 10 w (by omega))
  have hz : 65536 < s.size ∨ 1024 < (parts 10 s).length := by
    unfold linesE at h
    split at h
    · assumption
    · exact absurd rfl h
  generalize parts 10 s = ws at *
  clear h
  by_cases h1 : 65536 < s.size
  · have t1 : (65536 : Int) < (s.size : Int) := by omega
    clear hz HC
    go_enter Tryz.func30, Tryz.ntmps30
    go_wp2
    go_ret2
    exact ⟨rfl, New.refl _⟩
  · have t1 : ¬ (65536 : Int) < (s.size : Int) := by omega
    have t2 : (1024 : Int) < (ws.length : Int) := by omega
    clear hz
    go_enter Tryz.func30, Tryz.ntmps30
    go_wp2_with (go_at_call 58; (with_reducible refine HC.out.mono ?_); rintro e w1 ⟨v, rfl, hown, n1⟩; obtain ⟨A, c, rfl, _, _, _⟩ := own_form hown)
    go_ret2
    exact ⟨rfl, n1⟩
theorem sCells_one (ws : List ByteArray) : ∀ u ∈ sCells ws, u.oneCell' = true := fun u hu => by
  obtain ⟨x, _, rfl⟩ := List.mem_map.1 hu
  rfl
theorem LnOK.cons' {w : World} {hs : List Hm} (h : LnOK w hs) {y : Hm} {ys : List Hm} (k : LnOK w (y :: ys)) : LnOK w (y :: hs) := fun z hz => by
  rcases List.mem_cons.1 hz with rfl | hz
  · exact k z (by simp)
  · exact h z hz
theorem head_fits {x : ByteArray} {k : Int} {n : Nat} (h : headL x = some (k, n)) : Fits x k n := fun k' n' e => by
  rw [h] at e; injection e with e; injection e with e1 e2; subst e1 e2; exact ⟨rfl, rfl⟩
def Inv2 (ls r : List ByteArray) (acc : List Hk) : Prop := refGo ls = (refGo r).map (acc ++ ·)
theorem Inv2.start (ls : List ByteArray) : Inv2 ls ls [] := by unfold Inv2; cases refGo ls <;> simp
theorem Inv2.one {ls r : List ByteArray} {acc : List Hk} {x : ByteArray} {k : Int} {n : Nat} (h : Inv2 ls (x :: r) acc) (hh : headL x = some (k, n)) (hk : k ≠ 3) : Inv2 ls r (acc ++ [⟨k, n, []⟩]) := by
  unfold Inv2 at h ⊢
  rw [h, refGo_cons, hh]
  simp only [if_neg hk]
  cases refGo r <;> simp
theorem Inv2.add {ls r : List ByteArray} {acc : List Hk} {x : ByteArray} {n : Nat} (h : Inv2 ls (x :: r) acc) (hh : headL x = some (3, n)) (hn : n ≤ r.length) : Inv2 ls (r.drop n) (acc ++ [⟨3, n, r.take n⟩]) := by
  unfold Inv2 at h ⊢
  rw [h, refGo_cons, hh]
  simp only [if_pos, if_pos hn]
  cases refGo (r.drop n) <;> simp
theorem Inv2.fin {ls : List ByteArray} {acc : List Hk} {base : ByteArray} (h : Inv2 ls [] acc) : finV base ls = if validV base acc = true then some (base, acc) else none := by
  unfold Inv2 at h
  rw [refGo_nil] at h
  rw [finV, h]
  simp
theorem head_keep {x : ByteArray} {r : List UInt8} (h : afterL [107, 101, 101, 112, 32] x.data.toList = some r) : headL x = chkN 1 r := by rw [headL, h]
theorem head_drop {x : ByteArray} {r : List UInt8} (h1 : afterL [107, 101, 101, 112, 32] x.data.toList = none) (h : afterL [100, 114, 111, 112, 32] x.data.toList = some r) : headL x = chkN 2 r := by rw [headL, h1]; simp only [h]
theorem head_add {x : ByteArray} {r : List UInt8} (h1 : afterL [107, 101, 101, 112, 32] x.data.toList = none) (h2 : afterL [100, 114, 111, 112, 32] x.data.toList = none) (h : afterL [97, 100, 100, 32] x.data.toList = some r) : headL x = chkN 3 r := by rw [headL, h1]; simp only [h2, h]
theorem head_not {x : ByteArray} (h1 : afterL [107, 101, 101, 112, 32] x.data.toList = none) (h2 : afterL [100, 114, 111, 112, 32] x.data.toList = none) (h : afterL [97, 100, 100, 32] x.data.toList = none) : headL x = none := by rw [headL, h1]; simp only [h2, h]
theorem after_yes {p s : ByteArray} {r : List UInt8} (h : afterL p.data.toList s.data.toList = some r) (W : World) : Calls Tryz.prog 45 #[.string s, .string p] W fun e w' => e = .returned (.tuple #[.string (S r), .bool true]) ∧ w' = W :=
  (after_any s p W).mono fun e w' ⟨he, hw⟩ => ⟨by rw [he, afT, afB, h]; rfl, hw⟩
theorem after_no {p s : ByteArray} (h : afterL p.data.toList s.data.toList = none) (W : World) : Calls Tryz.prog 45 #[.string s, .string p] W fun e w' => e = .returned (.tuple #[.string ⟨#[]⟩, .bool false]) ∧ w' = W :=
  (after_any s p W).mono fun e w' ⟨he, hw⟩ => ⟨by rw [he, afT, afB, h]; rfl, hw⟩
def PR0 (text : ByteArray) (w wc : World) (g : Nat) (l : List ByteArray) (A : Option Addr) (c : Nat) (v7 : Value) : Prop := ∃ (base : ByteArray) (i : Nat) (Ai : Option Addr) (ci : Nat), v7 = .int .i64 (i : Int) ∧ i ≤ l.length ∧ PS text w wc g base (l.drop i) (l.drop i) Ai ci (.slice none 0 0) [] ∧ parseV text = finV base (l.drop i) ∧ base.size ≤ 1000 ∧ LnOK wc [rowH l A c]
theorem ln_two {w : World} {x : Hm} (h : LnOK w [x]) {y : Hm} (k : LnOK w [y]) : LnOK w [x, y] := fun z hz => by
  rcases List.mem_cons.1 hz with rfl | hz
  · exact h z (by simp)
  · exact k z hz
set_option maxRecDepth 100000 in
set_option maxHeartbeats 32000000 in
theorem rparse_any (text : ByteArray) (w : World) (hs9 : text.size ≤ 900000) : Calls Tryz.prog 18 #[.string text] w (ParP text w) := by
  have n0 := (New.refl w).alloc (.cells #[.string ⟨#[]⟩, .slice none 0 0] 24)
  have B0 := Blk.made w 24 #[.string ⟨#[]⟩, .slice none 0 0]
  have hs : text.size ≤ 1000000 := by omega
  by_cases hl : linesE text = 0
  · have HLI := Lib.hid (rlns_ok text (w.alloc (.cells #[.string ⟨#[]⟩, .slice none 0 0] 24)) hs hl)
    have HNO := Lib.hid (fun (hp : parseV text = none) w' e he hn => par_no (text := text) (w := w) (w' := w') (e := e) (x := 4) hp (by rw [if_pos hl]) he hn)
    have HPV : Hid (parseV text = lineV (parts 10 text)) := Lib.hid (by rw [parseV, if_pos hl])
    have HPS := Lib.hid (fun s (h : s ∈ parts 10 text) => Nat.le_trans (parts_size h) hs)
    have HPL : Hid ((parts 10 text).length ≤ 1024) := Lib.hid (by
      unfold linesE at hl
      split at hl
      · cases hl
      · omega)
    have HNE := Lib.hid (parts_ne text)
    have HXS := Lib.hid (fun s (h : s ∈ parts 10 text) => Nat.le_trans (parts_size h) hs9)
    obtain ⟨l, hll⟩ : ∃ l, parts 10 text = l := ⟨_, rfl⟩
    rw [hll] at HLI HPV HPS HPL HNE HXS
    have hl1 : 1 ≤ l.length := by
      cases l with
      | nil => exact absurd rfl HNE.out
      | cons x r => simp
    have hl2 : l.length ≤ 1024 := HPL.out
    obtain ⟨x, hx⟩ : ∃ x, l[0]? = some x := ⟨_, List.getElem?_eq_getElem (by omega)⟩
    have HX0 : Hid (l = x :: l.drop 1) := Lib.hid (by
      have := drop_at hx
      simpa using this)
    have HAF := Lib.hid (fun W => after_any x ⟨#[98, 97, 115, 101, 32]⟩ W)
    clear hl hll
    go_enter Tryz.func18, Tryz.ntmps18
    go_wp2_with (fail)
    with_reducible refine HLI.out.mono ?_
    rintro e w1 ⟨A, c, rfl, LN1, n1⟩
    have B1 := B0.new n1
    have hg6 : w.heap.size < w1.heap.size := B1.lt
    obtain ⟨b, o, hA, hx0⟩ : ∃ b o, A = some ⟨b, o, none⟩ ∧ ∀ j u, (sCells l)[j]? = some u → w1.cell? ⟨b, o + j, none⟩ = some u := by
      obtain ⟨b, o, e, _, hc⟩ := (LN1 (rowH l A c) (by simp)).2.1.2 (by simp only [rowH]; omega)
      exact ⟨b, o, e, hc⟩
    subst hA
    have hlc : l.length ≤ c := (LN1 (rowH l (some ⟨b, o, none⟩) c) (by simp)).1
    have hx1 := cell_new ((New.refl w1).alloc (.cells #[.string ⟨#[]⟩, .slice none 0 0] 24)) (hx0 0 (.string x) (by rw [sCells, List.getElem?_map, hx]; rfl))
    rw [Nat.add_zero] at hx1
    have B2 := B1.alloc (.cells #[.string ⟨#[]⟩, .slice none 0 0] 24)
    have n2 := (n0.trans n1).alloc (.cells #[.string ⟨#[]⟩, .slice none 0 0] 24)
    have B6 := Blk.made w1 24 #[.string ⟨#[]⟩, .slice none 0 0]
    have LN2 := LN1.new ((New.refl w1).alloc (.cells #[.string ⟨#[]⟩, .slice none 0 0] 24))
    have h3 : (0 : Int) < (l.length : Int) := by omega
    clear HLI LN1 B1 n1 hx hx0
    generalize hnl : l.length = nl at *
    have HNL := Lib.hid hnl
    clear hnl
    have HLV : Hid (lineV l = lineV (x :: l.drop 1)) := Lib.hid (congrArg lineV HX0.out)
    have HPR : Hid (∀ i, ∀ s ∈ l.drop i, s.size ≤ 1000000) := Lib.hid (fun i s h => HPS.out s (List.mem_of_mem_drop h))
    go_upto_if 29 with (go_at_call 45; (with_reducible refine (HAF.out _).mono ?_); rintro e w2 ⟨rfl, rfl⟩)
    go_cut [7, 8, 9] (fun v7 v8 v9 wc => PR0 text w wc w1.heap.size l (some ⟨b, o, none⟩) c v7)
    case first =>
      cases haf : afterL baseW x.data.toList with
      | none =>
        have hB : afB ⟨#[98, 97, 115, 101, 32]⟩ x = false := by rw [afB, show (⟨#[98, 97, 115, 101, 32]⟩ : ByteArray).data.toList = baseW from rfl, haf]; rfl
        have HV : Hid (parseV text = finV ⟨#[]⟩ (l.drop 0)) := Lib.hid (by rw [HPV.out, HLV.out, lineV, haf, List.drop_zero]; simp only; rw [← HX0.out])
        rw [hB]
        clear haf hB
        go_wp2
        go_meet
        case rel => exact ⟨⟨#[]⟩, 0, some ⟨b, o, none⟩, c, rfl, Nat.zero_le _, ⟨HPR.out 0, by rw [List.drop_zero, HNL.out]; simpa using hl2, B2, B6, World.ownsRow_nil _ _ _ _, by rw [List.drop_zero]; exact LN2, n2, Inv.start _, hg6, ⟨by simp, fun _ h => (by cases h), fun _ h => (by cases h)⟩⟩, HV.out, by decide, LN2⟩
      | some hh =>
        have hB : afB ⟨#[98, 97, 115, 101, 32]⟩ x = true := by rw [afB, show (⟨#[98, 97, 115, 101, 32]⟩ : ByteArray).data.toList = baseW from rfl, haf]; rfl
        have hT : afT ⟨#[98, 97, 115, 101, 32]⟩ x = S hh := by rw [afT, show (⟨#[98, 97, 115, 101, 32]⟩ : ByteArray).data.toList = baseW from rfl, haf]
        rw [hB, hT]
        have HDP := Lib.hid (rdparse_any (S hh) (w1.alloc (.cells #[.string ⟨#[]⟩, .slice none 0 0] 24)))
        have b60 := B6.cell' 0 _ rfl
        have f60 := B6.free 0
        cases hb : baseP hh with
        | none =>
          have e1 : dpT hh = ⟨#[]⟩ := by rw [dpT, hb]
          have e2 : dpE hh = 4 := by rw [dpE, hb]
          have HD2 : Hid (Calls Tryz.prog 46 #[.string (S hh)] (w1.alloc (.cells #[.string ⟨#[]⟩, .slice none 0 0] 24)) fun e w' => e = .returned (.tuple #[.string ⟨#[]⟩, .int .i64 4]) ∧ New (w1.alloc (.cells #[.string ⟨#[]⟩, .slice none 0 0] 24)) w') := Lib.hid (HDP.out.mono fun e w' ⟨he, hn⟩ => ⟨by rw [he, data_S, e1, e2], hn⟩)
          have HVV := Lib.hid (HNO.out (by rw [HPV.out, HLV.out, lineV, haf]; simp only [hb]))
          clear haf hB hT hb e1 e2 HDP
          go_wp2_with (go_at_call 46; (with_reducible refine HD2.out.mono ?_); rintro e w3 ⟨rfl, n3⟩; have B63 := B6.new n3; have B23 := B2.new n3; have c60 := B63.cell' 0 _ rfl; have g60 := B63.free 0; have c20 := B23.cell' 0 _ rfl; have g20 := B23.free 0; have c21 := B23.cell' 1 _ rfl; have g21 := B23.free 1)
          have BE := put2 (B23.far (p := ⟨w1.heap.size, 0, none⟩) (show w.heap.size ≠ w1.heap.size by omega) (.string ⟨#[]⟩)) (.string ⟨#[]⟩) (.slice none 0 0)
          have e0 := BE.cell' 0 _ rfl
          have e1 := BE.cell' 1 _ rfl
          have nn := (((n2.trans n3).setCell (p := ⟨w1.heap.size, 0, none⟩) (show w.heap.size ≤ w1.heap.size by omega) (.string ⟨#[]⟩)).setCell (p := ⟨w.heap.size, 0, none⟩) (Nat.le_refl _) (.string ⟨#[]⟩)).setCell (p := ⟨w.heap.size, 1, none⟩) (Nat.le_refl _) (.slice none 0 0)
          exact bodyPost_ret (v := .tuple #[.agg #[.string ⟨#[]⟩, .slice none 0 0], .int .i64 4]) (by simp [results, Tryz.results18, go_sem, e0, e1]) rfl (HVV.out _ _ rfl nn)
        | some bb =>
          have e1 : dpT hh = S bb := by rw [dpT, hb]
          have e2 : dpE hh = 0 := by rw [dpE, hb]
          have HD2 : Hid (Calls Tryz.prog 46 #[.string (S hh)] (w1.alloc (.cells #[.string ⟨#[]⟩, .slice none 0 0] 24)) fun e w' => e = .returned (.tuple #[.string (S bb), .int .i64 0]) ∧ New (w1.alloc (.cells #[.string ⟨#[]⟩, .slice none 0 0] 24)) w') := Lib.hid (HDP.out.mono fun e w' ⟨he, hn⟩ => ⟨by rw [he, data_S, e1, e2], hn⟩)
          have HV : Hid (parseV text = finV (S bb) (l.drop 1)) := Lib.hid (by rw [HPV.out, HLV.out, lineV, haf]; simp only [hb])
          have HBZ : Hid ((S bb).size ≤ 1000) := Lib.hid (by
            have : hh.length = 64 := by
              unfold baseP at hb
              split at hb
              · assumption
              · cases hb
            unfold baseP at hb
            rw [if_pos this] at hb
            have := hexP_len hb
            rw [size_S]; omega)
          have LC := LN2.cut 1 (by rw [HNL.out]; exact hl1)
          clear haf hB hT hb e1 e2 HDP
          generalize S bb = base at *
          go_wp2_with (go_at_call 46; (with_reducible refine HD2.out.mono ?_); rintro e w3 ⟨rfl, n3⟩; have B63 := B6.new n3; have B23 := B2.new n3; have LN3 := LC.new n3; have LN4 := LN2.new n3; have c60 := B63.cell' 0 _ rfl; have g60 := B63.free 0; have c20 := B23.cell' 0 _ rfl; have g20 := B23.free 0; have c21 := B23.cell' 1 _ rfl; have g21 := B23.free 1)
          go_meet
          have hkp : ∀ q, some w1.heap.size = some q → ∃ cs t fz, w3.heap[q]? = some (.cells cs t fz) ∧ t ≠ 9 := fun q e => by injection e with e; subst e; exact ⟨_, 24, _, B63, by decide⟩
          case rel => exact ⟨base, 1, _, _, rfl, by rw [HNL.out]; exact hl1, ⟨HPR.out 1, by rw [List.length_drop, HNL.out]; simp; omega, B23.far (p := ⟨w1.heap.size, 0, none⟩) (show w.heap.size ≠ w1.heap.size by omega) _, (B63.put 0 _).same (by simp), World.ownsRow_nil _ _ _ _, LN3.keep (grown_set w3 w1.heap.size 0 _) hkp, (n2.trans n3).setCell (p := ⟨w1.heap.size, 0, none⟩) (show w.heap.size ≤ w1.heap.size by omega) _, Inv.start _, hg6, ⟨by simp, fun _ h => (by cases h), fun _ h => (by cases h)⟩⟩, HV.out, HBZ.out, LN4.keep (grown_set w3 w1.heap.size 0 _) hkp⟩
    case rest =>
      obtain ⟨base, i0, A0, c0, rfl, hi0, hps, hpv, hbz, hln⟩ := hcut
      obtain ⟨ls, hls⟩ : ∃ ls, l.drop i0 = ls := ⟨_, rfl⟩
      have hps2 : PS text w wc w1.heap.size base ls (l.drop i0) A0 c0 (.slice none 0 0) [] := by rw [hls] at hps ⊢; exact hps
      have HI0 : Hid (Inv2 ls (l.drop i0) []) := Lib.hid (by rw [hls]; exact Inv2.start _)
      rw [hls] at hpv
      have HPVV := Lib.hid hpv
      have hi0' : i0 ≤ nl := by rw [← HNL.out]; exact hi0
      clear hpv hps hls hi0 HPS HPV HLV HX0 HAF hx1 B2 n2 B6 LN2 h3 hl1
      generalize w1.heap.size = g at *
      go_wp2
      go_loopw [7] (fun v7 wr => ∃ (i : Nat) (Ai : Option Addr) (ci : Nat) (V : Value) (hs : List Hm), v7 = .int .i64 (i : Int) ∧ i ≤ nl ∧ PS text w wr g base ls (l.drop i) Ai ci V hs ∧ LnOK wr [rowH l (some ⟨b, o, none⟩) c] ∧ Hid (Inv2 ls (l.drop i) (hs.map Hm.d))) (fun v7 _ => nl - (intOf v7).toNat)
      case atStart => exact ⟨i0, A0, c0, _, [], rfl, hi0', hps2, hln, HI0⟩
      case round =>
        clear hps2 hln HI0 hi0'
        obtain ⟨i, Ai, ci, V, hs, rfl, hi, hps, hln, HI2⟩ := hrel
        by_cases hlt : i < nl
        · obtain ⟨x, hx⟩ : ∃ x, l[i]? = some x := ⟨_, List.getElem?_eq_getElem (by rw [HNL.out]; exact hlt)⟩
          have hdr := drop_at hx
          rw [hdr] at hps HI2
          obtain ⟨b1, o1, e1, _, hc1⟩ := (hln (rowH l (some ⟨b, o, none⟩) c) (by simp)).2.1.2 (by simp only [rowH]; rw [HNL.out]; omega)
          injection e1 with e1
          injection e1 with q1 q2
          subst q1 q2
          have hxc := hc1 i (.string x) (by simp only [rowH]; rw [sCells, List.getElem?_map, hx]; rfl)
          have HPX := Lib.hid hps
          have HLN := Lib.hid hln
          have hxz := hps.sz x (by simp)
          have hll0 := hps.rl
          have hsl : (x :: l.drop (i + 1)).length = nl - i := by rw [List.length_cons, List.length_drop, HNL.out]; omega
          rw [hsl] at hll0
          have HDL : Hid ((l.drop (i + 1)).length = nl - (i + 1)) := Lib.hid (by rw [List.length_drop, HNL.out])
          have nA := (New.refl wr).alloc (.cells #[.int .i64 0, .int .i64 0, .slice none 0 0] 55)
          have hx2 := cell_new nA hxc
          have i1 : (0 : Int) ≤ (i : Int) := by omega
          have i2 : (i : Int) < (nl : Int) := by omega
          have HXL := Lib.hid (HXS.out x (List.mem_of_getElem? hx))
          have HRZ := Lib.hid (HPR.out (i + 1))
          clear hc1 hdr hps hln hsl hx
          cases hk : afterL [107, 101, 101, 112, 32] x.data.toList with
          | some rr =>
            have HA1 := Lib.hid (fun W => after_yes (p := ⟨#[107, 101, 101, 112, 32]⟩) hk W)
            have hrz : rr.length ≤ 900000 := by
              have h1 := congrArg List.length (after_some hk)
              have h2 := HXL.out
              rw [List.length_append, ← size_eq] at h1; omega
            have HNU := Lib.hid (fun W => number_any (S rr) W (by rw [size_S]; exact hrz))
            rw [data_S] at HNU
            have HHX := Lib.hid (head_keep hk)
            by_cases hn0 : numL rr = 0
            · rw [hn0] at HNU
              have PX := HPX.out.new ((New.refl wr).alloc (.cells #[.int .i64 1, .int .i64 0, .slice none 0 0] 55))
              have d20 := PX.b2.cell' 0 _ rfl
              have d21 := PX.b2.cell' 1 _ rfl
              have e20 := PX.b2.free 0
              have e21 := PX.b2.free 1
              have HN := Lib.hid (HNO.out (HPVV.out.trans (fin_none (HPX.out.inv.none_ (by rw [HHX.out, chkN, if_pos hn0])))))
              clear hn0
              go_wp2_with (fail)
              with_reducible refine (HA1.out _).mono ?_
              rintro e w3 ⟨rfl, rfl⟩
              go_wp2_with (fail)
              with_reducible refine (HNU.out _).mono ?_
              rintro e w8 ⟨rfl, rfl⟩
              go_wp2
              have BE := put2 PX.b2 (.string ⟨#[]⟩) (.slice none 0 0)
              have e0 := BE.cell' 0 _ rfl
              have e1 := BE.cell' 1 _ rfl
              have nn := (PX.nw.setCell (p := ⟨w.heap.size, 0, none⟩) (Nat.le_refl _) (.string ⟨#[]⟩)).setCell (p := ⟨w.heap.size, 1, none⟩) (Nat.le_refl _) (.slice none 0 0)
              exact bodyPost_ret (v := .tuple #[.agg #[.string ⟨#[]⟩, .slice none 0 0], .int .i64 4]) (by simp [results, Tryz.results18, go_sem, e0, e1]) rfl (HN.out _ _ rfl nn)
            · obtain ⟨hrr, hn2⟩ := dec_num rfl hn0
              have HHV : Hid (headL x = some (1, numL rr)) := Lib.hid (by rw [HHX.out, chkN, if_neg hn0])
              have hn1 : 1 ≤ numL rr := by omega
              clear hrr
              generalize numL rr = nv at *
              have nv0 : ((nv : Int) == 0) = false := by simp; omega
              have nK := (New.refl wr).alloc (.cells #[.int .i64 1, .int .i64 (nv : Int), .slice none 0 0] 55)
              have PA := HPX.out.new nK
              have c60 := PA.b6.cell' 0 _ rfl
              have c61 := PA.b6.cell' 1 _ rfl
              have hown := HPX.out.own
              have hzw := HPX.out.nw.size
              obtain ⟨j0, hinf, hz0, hz1, hz2⟩ := info_parts Tryz.info55'
              obtain ⟨AV, cV, rfl, _, _, _⟩ := own_form hown
              have HOW := Lib.hid hown
              have HPA := Lib.hid PA
              obtain ⟨A2, c2, hT⟩ : ∃ A2 c2, ∀ W, New wr W → LnOK W (rowH (l.drop (i + 1)) A2 c2 :: hs) := ⟨_, _, fun W hN => (HPX.out.ln.tail.new hN).cons' ((HLN.out.new hN).cut (i + 1) (by rw [HNL.out]; omega))⟩
              have HLC := Lib.hid hT
              have u1 : IntKind.i64.wrap ((i : Int) + 1) = (i : Int) + 1 := IntWalk.i64_in _ (by omega)
              generalize hhl : hs.length = hl at *
              have HHL := Lib.hid hhl
              clear hown PA hhl hT
              go_wp2_with (fail)
              with_reducible refine (HA1.out _).mono ?_
              rintro e w3 ⟨rfl, rfl⟩
              go_wp2_with (fail)
              with_reducible refine (HNU.out _).mono ?_
              rintro e w8 ⟨rfl, rfl⟩
              go_wp2_with (at_builtin; refine wpList_append_own _ rfl _ _ 22 rfl w.heap.size 55 j0 (.agg #[.int .i64 0, .int .i64 0, .slice none 0 0]) 3 40 Tryz.underlying22 hinf hz0 hz1 hz2 rfl (by decide) _ hl _ rfl ((HOW.out.alloc _).alloc _) ⟨wr.heap.size + 1, 0, none⟩ 1 1 [.int .i64 1, .int .i64 (nv : Int), .slice none 0 0] rfl rfl ?c1 ?c2 ?c3 ?c4 ?c5 ?_)
              case c1 =>
                have := World.news_of_block (cs := #[.int .i64 1, .int .i64 (nv : Int), .slice none 0 0]) (t := 55) (fr := (0, 0)) (heap_alloc_new (wr.alloc (.cells #[.int .i64 1, .int .i64 (nv : Int), .slice none 0 0] 55)) (.cells #[.int .i64 1, .int .i64 (nv : Int), .slice none 0 0] 55))
                rw [World.size_alloc] at this
                exact this
              case c2 => simp [Value.oneCell']
              case c3 => simp [maxLen]; omega
              case c4 => omega
              case c5 => simp; omega
              intro v' w5 own5 hg5 _
              obtain ⟨A9, c9, rfl, _, _, _⟩ := own_form own5
              have PB := HPA.out.new ((New.refl _).alloc (.cells #[.int .i64 1, .int .i64 (nv : Int), .slice none 0 0] 55))
              have LB := HLC.out _ (nK.alloc (.cells #[.int .i64 1, .int .i64 (nv : Int), .slice none 0 0] 55))
              have B65 := PB.b6.grown hg5 (fun e => (ne_kind (cs := []) PB.own PB.b6 (by decide)) e.symm)
              have d61 := B65.cell' 1 _ rfl
              have f61 := B65.free 1
              have LL := Lib.hid (((HLN.out.new (nK.alloc (.cells #[.int .i64 1, .int .i64 (nv : Int), .slice none 0 0] 55))).keep hg5 (fun q e => by
                obtain ⟨cs, fz, hc⟩ := own_kind3 PB.own q e
                exact ⟨cs, 55, fz, hc, by decide⟩)).keep (grown_set w5 g 1 (.slice A9 (hl + 1) c9)) (fun q e => by injection e with e; subst e; exact ⟨_, 24, _, B65, by decide⟩))
              have PN := Lib.hid (PB.app ⟨1, nv, [], none, 0⟩ LB (ln_none _ _ _) (HHL.out ▸ own5) hg5 (by rw [List.map_append]; exact HPX.out.inv.one (head_fits HHV.out) (show (1 : Int) ≠ 3 by decide)) HRZ.out (by rw [HHL.out, HDL.out]; omega) (fun s h => (by cases h)) (by simp))
              have HI3 := Lib.hid (HI2.out.one HHV.out (show (1 : Int) ≠ 3 by decide))
              clear PB own5 hg5 LB
              go_wp2
              go_roundw
              case rel => exact ⟨i + 1, A2, c2, .slice A9 (hl + 1) c9, _, by go_num, by omega, HHL.out ▸ PN.out, LL.out, Lib.hid (by rw [List.map_append]; exact HI3.out)⟩
              case measure => simp [intOf]; omega
          | none =>
            have HA1 := Lib.hid (fun W => after_no (p := ⟨#[107, 101, 101, 112, 32]⟩) hk W)
            cases hd : afterL [100, 114, 111, 112, 32] x.data.toList with
            | some rr =>
              have HA2 := Lib.hid (fun W => after_yes (p := ⟨#[100, 114, 111, 112, 32]⟩) hd W)
              have hrz : rr.length ≤ 900000 := by
                have h1 := congrArg List.length (after_some hd)
                have h2 := HXL.out
                rw [List.length_append, ← size_eq] at h1; omega
              have HNU := Lib.hid (fun W => number_any (S rr) W (by rw [size_S]; exact hrz))
              rw [data_S] at HNU
              have HHX := Lib.hid (head_drop hk hd)
              by_cases hn0 : numL rr = 0
              · rw [hn0] at HNU
                have PX := HPX.out.new ((New.refl wr).alloc (.cells #[.int .i64 2, .int .i64 0, .slice none 0 0] 55))
                have d20 := PX.b2.cell' 0 _ rfl
                have d21 := PX.b2.cell' 1 _ rfl
                have e20 := PX.b2.free 0
                have e21 := PX.b2.free 1
                have HN := Lib.hid (HNO.out (HPVV.out.trans (fin_none (HPX.out.inv.none_ (by rw [HHX.out, chkN, if_pos hn0])))))
                clear hn0
                go_wp2_with (fail)
                with_reducible refine (HA1.out _).mono ?_
                rintro e w3 ⟨rfl, rfl⟩
                go_wp2_with (fail)
                with_reducible refine (HA2.out _).mono ?_
                rintro e w4 ⟨rfl, rfl⟩
                go_wp2_with (fail)
                with_reducible refine (HNU.out _).mono ?_
                rintro e w8 ⟨rfl, rfl⟩
                go_wp2
                have BE := put2 PX.b2 (.string ⟨#[]⟩) (.slice none 0 0)
                have e0 := BE.cell' 0 _ rfl
                have e1 := BE.cell' 1 _ rfl
                have nn := (PX.nw.setCell (p := ⟨w.heap.size, 0, none⟩) (Nat.le_refl _) (.string ⟨#[]⟩)).setCell (p := ⟨w.heap.size, 1, none⟩) (Nat.le_refl _) (.slice none 0 0)
                exact bodyPost_ret (v := .tuple #[.agg #[.string ⟨#[]⟩, .slice none 0 0], .int .i64 4]) (by simp [results, Tryz.results18, go_sem, e0, e1]) rfl (HN.out _ _ rfl nn)
              · obtain ⟨hrr, hn2⟩ := dec_num rfl hn0
                have HHV : Hid (headL x = some (2, numL rr)) := Lib.hid (by rw [HHX.out, chkN, if_neg hn0])
                have hn1 : 1 ≤ numL rr := by omega
                clear hrr
                generalize numL rr = nv at *
                have nv0 : ((nv : Int) == 0) = false := by simp; omega
                have nK := (New.refl wr).alloc (.cells #[.int .i64 2, .int .i64 (nv : Int), .slice none 0 0] 55)
                have PA := HPX.out.new nK
                have c60 := PA.b6.cell' 0 _ rfl
                have c61 := PA.b6.cell' 1 _ rfl
                have hown := HPX.out.own
                have hzw := HPX.out.nw.size
                obtain ⟨j0, hinf, hz0, hz1, hz2⟩ := info_parts Tryz.info55'
                obtain ⟨AV, cV, rfl, _, _, _⟩ := own_form hown
                have HOW := Lib.hid hown
                have HPA := Lib.hid PA
                obtain ⟨A2, c2, hT⟩ : ∃ A2 c2, ∀ W, New wr W → LnOK W (rowH (l.drop (i + 1)) A2 c2 :: hs) := ⟨_, _, fun W hN => (HPX.out.ln.tail.new hN).cons' ((HLN.out.new hN).cut (i + 1) (by rw [HNL.out]; omega))⟩
                have HLC := Lib.hid hT
                have u1 : IntKind.i64.wrap ((i : Int) + 1) = (i : Int) + 1 := IntWalk.i64_in _ (by omega)
                generalize hhl : hs.length = hl at *
                have HHL := Lib.hid hhl
                clear hown PA hhl hT
                go_wp2_with (fail)
                with_reducible refine (HA1.out _).mono ?_
                rintro e w3 ⟨rfl, rfl⟩
                go_wp2_with (fail)
                with_reducible refine (HA2.out _).mono ?_
                rintro e w4 ⟨rfl, rfl⟩
                go_wp2_with (fail)
                with_reducible refine (HNU.out _).mono ?_
                rintro e w8 ⟨rfl, rfl⟩
                go_wp2_with (at_builtin; refine wpList_append_own _ rfl _ _ 22 rfl w.heap.size 55 j0 (.agg #[.int .i64 0, .int .i64 0, .slice none 0 0]) 3 40 Tryz.underlying22 hinf hz0 hz1 hz2 rfl (by decide) _ hl _ rfl ((HOW.out.alloc _).alloc _) ⟨wr.heap.size + 1, 0, none⟩ 1 1 [.int .i64 2, .int .i64 (nv : Int), .slice none 0 0] rfl rfl ?c1 ?c2 ?c3 ?c4 ?c5 ?_)
                case c1 =>
                  have := World.news_of_block (cs := #[.int .i64 2, .int .i64 (nv : Int), .slice none 0 0]) (t := 55) (fr := (0, 0)) (heap_alloc_new (wr.alloc (.cells #[.int .i64 2, .int .i64 (nv : Int), .slice none 0 0] 55)) (.cells #[.int .i64 2, .int .i64 (nv : Int), .slice none 0 0] 55))
                  rw [World.size_alloc] at this
                  exact this
                case c2 => simp [Value.oneCell']
                case c3 => simp [maxLen]; omega
                case c4 => omega
                case c5 => simp; omega
                intro v' w5 own5 hg5 _
                obtain ⟨A9, c9, rfl, _, _, _⟩ := own_form own5
                have PB := HPA.out.new ((New.refl _).alloc (.cells #[.int .i64 2, .int .i64 (nv : Int), .slice none 0 0] 55))
                have LB := HLC.out _ (nK.alloc (.cells #[.int .i64 2, .int .i64 (nv : Int), .slice none 0 0] 55))
                have B65 := PB.b6.grown hg5 (fun e => (ne_kind (cs := []) PB.own PB.b6 (by decide)) e.symm)
                have d61 := B65.cell' 1 _ rfl
                have f61 := B65.free 1
                have LL := Lib.hid (((HLN.out.new (nK.alloc (.cells #[.int .i64 2, .int .i64 (nv : Int), .slice none 0 0] 55))).keep hg5 (fun q e => by
                  obtain ⟨cs, fz, hc⟩ := own_kind3 PB.own q e
                  exact ⟨cs, 55, fz, hc, by decide⟩)).keep (grown_set w5 g 1 (.slice A9 (hl + 1) c9)) (fun q e => by injection e with e; subst e; exact ⟨_, 24, _, B65, by decide⟩))
                have PN := Lib.hid (PB.app ⟨2, nv, [], none, 0⟩ LB (ln_none _ _ _) (HHL.out ▸ own5) hg5 (by rw [List.map_append]; exact HPX.out.inv.one (head_fits HHV.out) (show (2 : Int) ≠ 3 by decide)) HRZ.out (by rw [HHL.out, HDL.out]; omega) (fun s h => (by cases h)) (by simp))
                have HI3 := Lib.hid (HI2.out.one HHV.out (show (2 : Int) ≠ 3 by decide))
                clear PB own5 hg5 LB
                go_wp2
                go_roundw
                case rel => exact ⟨i + 1, A2, c2, .slice A9 (hl + 1) c9, _, by go_num, by omega, HHL.out ▸ PN.out, LL.out, Lib.hid (by rw [List.map_append]; exact HI3.out)⟩
                case measure => simp [intOf]; omega
            | none =>
              have HA2 := Lib.hid (fun W => after_no (p := ⟨#[100, 114, 111, 112, 32]⟩) hd W)
              cases ha : afterL [97, 100, 100, 32] x.data.toList with
              | some rr =>
                have HA3 := Lib.hid (fun W => after_yes (p := ⟨#[97, 100, 100, 32]⟩) ha W)
                have hrz : rr.length ≤ 900000 := by
                  have h1 := congrArg List.length (after_some ha)
                  have h2 := HXL.out
                  rw [List.length_append, ← size_eq] at h1; omega
                have HNU := Lib.hid (fun W => number_any (S rr) W (by rw [size_S]; exact hrz))
                rw [data_S] at HNU
                have HHX := Lib.hid (head_add hk hd ha)
                by_cases hn0 : numL rr = 0
                · rw [hn0] at HNU
                  have PX := HPX.out.new ((New.refl wr).alloc (.cells #[.int .i64 3, .int .i64 0, .slice none 0 0] 55))
                  have d20 := PX.b2.cell' 0 _ rfl
                  have d21 := PX.b2.cell' 1 _ rfl
                  have e20 := PX.b2.free 0
                  have e21 := PX.b2.free 1
                  have HN := Lib.hid (HNO.out (HPVV.out.trans (fin_none (HPX.out.inv.none_ (by rw [HHX.out, chkN, if_pos hn0])))))
                  clear hn0
                  go_wp2_with (fail)
                  with_reducible refine (HA1.out _).mono ?_
                  rintro e w3 ⟨rfl, rfl⟩
                  go_wp2_with (fail)
                  with_reducible refine (HA2.out _).mono ?_
                  rintro e w4 ⟨rfl, rfl⟩
                  go_wp2_with (fail)
                  with_reducible refine (HA3.out _).mono ?_
                  rintro e w5 ⟨rfl, rfl⟩
                  go_wp2_with (fail)
                  with_reducible refine (HNU.out _).mono ?_
                  rintro e w8 ⟨rfl, rfl⟩
                  go_wp2
                  have BE := put2 PX.b2 (.string ⟨#[]⟩) (.slice none 0 0)
                  have e0 := BE.cell' 0 _ rfl
                  have e1 := BE.cell' 1 _ rfl
                  have nn := (PX.nw.setCell (p := ⟨w.heap.size, 0, none⟩) (Nat.le_refl _) (.string ⟨#[]⟩)).setCell (p := ⟨w.heap.size, 1, none⟩) (Nat.le_refl _) (.slice none 0 0)
                  exact bodyPost_ret (v := .tuple #[.agg #[.string ⟨#[]⟩, .slice none 0 0], .int .i64 4]) (by simp [results, Tryz.results18, go_sem, e0, e1]) rfl (HN.out _ _ rfl nn)
                · obtain ⟨hrr, hn2⟩ := dec_num rfl hn0
                  have HHV : Hid (headL x = some (3, numL rr)) := Lib.hid (by rw [HHX.out, chkN, if_neg hn0])
                  have hn1 : 1 ≤ numL rr := by omega
                  clear hrr
                  generalize numL rr = nv at *
                  have nv0 : ((nv : Int) == 0) = false := by simp; omega
                  have u1 : IntKind.i64.wrap ((i : Int) + 1) = (i : Int) + 1 := IntWalk.i64_in _ (by omega)
                  have u2 : IntKind.i64.wrap ((i : Int) + 1 + (nv : Int)) = (i : Int) + 1 + (nv : Int) := IntWalk.i64_in _ (by omega)
                  by_cases hlong : nl < i + 1 + nv
                  · have tl : (nl : Int) < (i : Int) + 1 + (nv : Int) := by omega
                    have PX := HPX.out.new ((New.refl wr).alloc (.cells #[.int .i64 3, .int .i64 (nv : Int), .slice none 0 0] 55))
                    have d20 := PX.b2.cell' 0 _ rfl
                    have d21 := PX.b2.cell' 1 _ rfl
                    have e20 := PX.b2.free 0
                    have e21 := PX.b2.free 1
                    have HN := Lib.hid (HNO.out (HPVV.out.trans (HPX.out.inv.short (head_fits HHV.out) (by rw [HDL.out]; omega) |> fin_none)))
                    go_wp2_with (fail)
                    with_reducible refine (HA1.out _).mono ?_
                    rintro e w3 ⟨rfl, rfl⟩
                    go_wp2_with (fail)
                    with_reducible refine (HA2.out _).mono ?_
                    rintro e w4 ⟨rfl, rfl⟩
                    go_wp2_with (fail)
                    with_reducible refine (HA3.out _).mono ?_
                    rintro e w5 ⟨rfl, rfl⟩
                    go_wp2_with (fail)
                    with_reducible refine (HNU.out _).mono ?_
                    rintro e w8 ⟨rfl, rfl⟩
                    go_wp2
                    have BE := put2 PX.b2 (.string ⟨#[]⟩) (.slice none 0 0)
                    have e0 := BE.cell' 0 _ rfl
                    have e1 := BE.cell' 1 _ rfl
                    have nn := (PX.nw.setCell (p := ⟨w.heap.size, 0, none⟩) (Nat.le_refl _) (.string ⟨#[]⟩)).setCell (p := ⟨w.heap.size, 1, none⟩) (Nat.le_refl _) (.slice none 0 0)
                    exact bodyPost_ret (v := .tuple #[.agg #[.string ⟨#[]⟩, .slice none 0 0], .int .i64 4]) (by simp [results, Tryz.results18, go_sem, e0, e1]) rfl (HN.out _ _ rfl nn)
                  · have tl : ¬ (nl : Int) < (i : Int) + 1 + (nv : Int) := by omega
                    have tl2 : (i : Int) + 1 + (nv : Int) ≤ (nl : Int) := by omega
                    have tl3 : (i : Int) + 1 + (nv : Int) ≤ (c : Int) := by omega
                    have tl4 : (0 : Int) ≤ (i : Int) + 1 := by omega
                    have tl5 : (0 : Int) ≤ (i : Int) + 1 + (nv : Int) := by omega
                    have tl6 : ((i : Int) + 1).toNat = i + 1 := by omega
                    have tl7 : ((i : Int) + 1 + (nv : Int)).toNat = i + 1 + nv := by omega
                    have tl8 : ¬ c = i + 1 := by omega
                    have tl9 : (i : Int) + 1 ≤ (i : Int) + 1 + (nv : Int) := by omega
                    have nK := (New.refl wr).alloc (.cells #[.int .i64 3, .int .i64 (nv : Int), .slice none 0 0] 55)
                    have BH := Blk.made wr 55 #[.int .i64 3, .int .i64 (nv : Int), .slice none 0 0]
                    have h0 := BH.cell' 0 _ rfl
                    have h1 := BH.cell' 1 _ rfl
                    have h2 := BH.cell' 2 _ rfl
                    have hzw := HPX.out.nw.size
                    obtain ⟨k0, kinf, kz0, kz1, kz2⟩ := info_parts Tryz.info9'
                    have HNW : Hid (∀ j u, (sCells ((l.drop (i + 1)).take nv))[j]? = some u → (wr.alloc (.cells #[.int .i64 3, .int .i64 (nv : Int), .slice none 0 0] 55)).cell? ((⟨b, o + (i + 1), none⟩ : Addr).add j) = some u) := Lib.hid (fun j u hu => by
                      obtain ⟨b1, o1, e1, _, hc1⟩ := ((HLN.out.new nK) (rowH l (some ⟨b, o, none⟩) c) (by simp)).2.1.2 (by simp only [rowH]; rw [HNL.out]; omega)
                      injection e1 with e1
                      injection e1 with q1 q2
                      subst q1 q2
                      rw [add_none rfl]
                      have := hc1 (i + 1 + j) u (by
                        simp only [rowH, sCells, List.getElem?_map] at hu ⊢
                        rw [List.getElem?_take] at hu
                        split at hu
                        · rw [List.getElem?_drop] at hu; exact hu
                        · cases hu)
                      rw [show o + (i + 1) + j = o + (i + 1 + j) by omega]; exact this)
                    have HLT : Hid ((sCells ((l.drop (i + 1)).take nv)).length = nv * 1) := Lib.hid (by rw [sCells_len, List.length_take, HDL.out]; omega)
                    go_wp2_with (fail)
                    with_reducible refine (HA1.out _).mono ?_
                    rintro e w3 ⟨rfl, rfl⟩
                    go_wp2_with (fail)
                    with_reducible refine (HA2.out _).mono ?_
                    rintro e w4 ⟨rfl, rfl⟩
                    go_wp2_with (fail)
                    with_reducible refine (HA3.out _).mono ?_
                    rintro e w5 ⟨rfl, rfl⟩
                    go_wp2_with (fail)
                    with_reducible refine (HNU.out _).mono ?_
                    rintro e w8 ⟨rfl, rfl⟩
                    go_wp2_with (fail)
                    have hS0 : New (wr.alloc (.cells #[.int .i64 3, .int .i64 (nv : Int), .slice none 0 0] 55)) (wr.alloc (.cells #[.int .i64 3, .int .i64 (nv : Int), .slice none 0 0] 55)) := New.refl _
                    refine wp_region_held_drew (S := (fun W => W.cell? ⟨wr.heap.size, 1, none⟩ = some (.int .i64 (nv : Int)))) (by kernel_rfl) (h1) (fun hS => ?_)
                    refine tkT 0 (v := ?v1) hS (fun wq hSq => ?y1) ?_; (case y1 => clear hSq; go_simp; (try with_reducible rfl)); simp only [Act.put, gqD, gqE, gqF]
                    refine tkT 2 (v := ?v2) hS (fun wq hSq => ?y2) ?_; (case y2 => clear hSq; go_simp; (try with_reducible rfl)); simp only [Act.put, gqD, gqE, gqF]
                    refine tkT 3 (v := ?v3) hS (fun wq hSq => ?y3) ?_; (case y3 => clear hSq; go_simp; (try with_reducible rfl)); simp only [Act.put, gqD, gqE, gqF]
                    refine tkT 4 (v := ?v4) hS (fun wq hSq => ?y4) ?_; (case y4 => clear hSq; go_simp; (try with_reducible rfl)); simp only [Act.put, gqD, gqE, gqF]
                    refine tkT 5 (v := ?v5) hS (fun wq hSq => ?y5) ?_; (case y5 => clear hSq; go_simp; (try with_reducible rfl)); simp only [Act.put, gqD, gqE, gqF]
                    refine tkT 6 (v := ?v6) hS (fun wq hSq => ?y6) ?_; (case y6 => have hf0 := hSq; clear hSq; go_simp; (try with_reducible rfl)); simp only [Act.put, gqD, gqE, gqF]
                    refine tkT 7 (v := ?v7) hS (fun wq hSq => ?y7) ?_; (case y7 => clear hSq; go_simp; (try with_reducible rfl)); simp only [Act.put, gqD, gqE, gqF]
                    refine tkT 8 (v := ?v8) hS (fun wq hSq => ?y8) ?_; (case y8 => clear hSq; go_simp; (try with_reducible rfl)); simp only [Act.put, gqD, gqE, gqF]
                    refine wpAnyH_ready (rs := [1]) (by kernel_rfl) (by simp) ?_
                    refine AllReadyH.cons (o := ?oi9) ?hi9 (fun K hK => ?_) AllReadyH.nil
                    case hi9 => (simp only [gqA, gqB, gqC]; rfl)
                    go_simp
                    refine hK.out _ _ (hS) (fun hS => ?_)
                    clear hK K
                    refine wpAnyH_ready (rs := [9]) (by kernel_rfl) (by simp) ?_
                    refine AllReadyH.cons (o := ?oi10) ?hi10 (fun K hK => ?_) AllReadyH.nil
                    case hi10 => (simp only [gqA, gqB, gqC]; rfl)
                    refine step_append_lies _ (by rfl) _ _ _ (by rfl) wr.heap.size 9 k0 (.string ⟨#[]⟩) 1 16 Tryz.underlying49 kinf kz0 kz1 kz2 rfl (by omega) (.slice none 0 0) 0 [] (by rfl) (World.ownsRow_nil _ _ _ _) ⟨b, o + (i + 1), none⟩ nv (c - (i + 1)) (sCells ((l.drop (i + 1)).take nv)) (by rfl) HLT.out (fun j u hu => HNW.out j u hu) (sCells_one _) (by omega) (by simp only [maxLen]; omega) (by omega) (by simp) (wr.heap.size + 1) (by simp) ?_
                    intro gg cap2 w2 hown2 hgrow hat hlt2
                    have ng2 : New (wr.alloc (.cells #[.int .i64 3, .int .i64 (nv : Int), .slice none 0 0] 55)) w2 := Below.grown (New.refl (wr.alloc (.cells #[.int .i64 3, .int .i64 (nv : Int), .slice none 0 0] 55))).drew hgrow (Nat.le_refl _) (fun q hq => by simp [Value.ownBlock] at hq)
                    have BH2 := BH.new ng2
                    have z22 := BH2.free 2
                    have x21 := BH2.cell' 1 _ rfl
                    have x22 := BH2.cell' 2 _ rfl
                    simp only [Act.put, gqD, gqE, gqF]
                    refine hK.out _ _ (x21) (fun hS => ?_)
                    clear hK K
                    refine tkT 10 (v := ?v11) hS (fun wq hSq => ?y11) ?_; (case y11 => clear hSq; go_simp; (try with_reducible rfl)); simp only [Act.put, gqD, gqE, gqF]
                    refine wpAnyH_ready (rs := [11]) (by kernel_rfl) (by simp) ?_
                    refine AllReadyH.cons (o := ?oi12) ?hi12 (fun K hK => ?_) AllReadyH.nil
                    case hi12 => (simp only [gqA, gqB, gqC]; rfl)
                    go_simp
                    refine hK.out _ _ ((BH2.put 2 _).cell' 1 _ rfl) (fun hS => ?_)
                    clear hK K
                    refine wpAnyH_done (by kernel_rfl) ?_ _
                    have nW : New wr (w2.setCell ⟨wr.heap.size, 2, none⟩ (.slice (some ⟨gg, 0, none⟩) nv cap2)) := (nK.trans ng2).setCell (p := ⟨wr.heap.size, 2, none⟩) (Nat.le_refl _) _
                    have PB0 := HPX.out.new nW
                    have LN0 := HLN.out.new nW
                    have BH3 : Blk (w2.setCell ⟨wr.heap.size, 2, none⟩ (.slice (some ⟨gg, 0, none⟩) nv cap2)) wr.heap.size 55 #[.int .i64 3, .int .i64 (nv : Int), .slice (some ⟨gg, 0, none⟩) nv cap2] := (BH2.put 2 _).same (by simp)
                    have own2 : w2.ownsRow wr.heap.size 9 1 (.slice (some ⟨gg, 0, none⟩) nv cap2) nv (sCells ((l.drop (i + 1)).take nv)) := by simpa using hown2
                    obtain ⟨A9, c9, e9, k1, k2, k3, k4⟩ := own_lines own2
                    injection e9 with e91 _ e93
                    subst e91 e93
                    have HK2 : LnOK (w2.setCell ⟨wr.heap.size, 2, none⟩ (.slice (some ⟨gg, 0, none⟩) nv cap2)) [⟨3, nv, (l.drop (i + 1)).take nv, some ⟨gg, 0, none⟩, cap2⟩] := LnOK.keep (w := w2) (fun y hy => by
                      rw [List.mem_singleton] at hy
                      subst hy
                      exact ⟨by simp only; omega, by simp only; rw [k2]; exact k3, fun h0 => k4 (by omega)⟩) (grown_set w2 wr.heap.size 2 _) (fun q e => by injection e with e; subst e; exact ⟨_, 55, _, BH2, by decide⟩)
                    have HDD : Hid ((l.drop (i + 1)).drop nv = l.drop (i + 1 + nv)) := Lib.hid (by rw [List.drop_drop])
                    obtain ⟨A2, c2, hT⟩ : ∃ A2 c2, LnOK (w2.setCell ⟨wr.heap.size, 2, none⟩ (.slice (some ⟨gg, 0, none⟩) nv cap2)) (rowH (l.drop (i + 1 + nv)) A2 c2 :: hs) := ⟨_, _, PB0.ln.tail.cons' (LN0.cut (i + 1 + nv) (by rw [HNL.out]; omega))⟩
                    generalize w2.setCell ⟨wr.heap.size, 2, none⟩ (.slice (some ⟨gg, 0, none⟩) nv cap2) = W2 at *
                    have c60 := PB0.b6.cell' 0 _ rfl
                    have c61 := PB0.b6.cell' 1 _ rfl
                    have h20 := BH3.cell' 0 _ rfl
                    have h21 := BH3.cell' 1 _ rfl
                    have h22 := BH3.cell' 2 _ rfl
                    have hown := PB0.own
                    have hzw2 := PB0.nw.size
                    obtain ⟨j0, hinf, hz0, hz1, hz2⟩ := info_parts Tryz.info55'
                    obtain ⟨AV, cV, rfl, _, _, _⟩ := own_form hown
                    have HOW := Lib.hid hown
                    have HPB := Lib.hid PB0
                    have HRT : Hid (((l.drop (i + 1)).take nv).length = nv) := Lib.hid k2
                    have HRD2 : Hid ((l.drop (i + 1 + nv)).length = nl - (i + 1 + nv)) := Lib.hid (by rw [List.length_drop, HNL.out])
                    generalize hhl : hs.length = hl at *
                    have HHL := Lib.hid hhl
                    clear hown PB0 hhl BH3 BH2 nW nK BH hown2 own2 k1 k2 k3 k4 h0 h1 h2 x21 x22 z22 ng2 hgrow hat hlt2 hS
                    go_wp2_with (at_builtin; refine wpList_append_own _ rfl _ _ 22 rfl w.heap.size 55 j0 (.agg #[.int .i64 0, .int .i64 0, .slice none 0 0]) 3 40 Tryz.underlying22 hinf hz0 hz1 hz2 rfl (by decide) _ hl _ rfl (HOW.out.alloc _) ⟨W2.heap.size, 0, none⟩ 1 1 [.int .i64 3, .int .i64 (nv : Int), .slice (some ⟨gg, 0, none⟩) nv cap2] rfl rfl ?c1 ?c2 ?c3 ?c4 ?c5 ?_)
                    try case c1 => exact World.news_of_block (cs := #[.int .i64 3, .int .i64 (nv : Int), .slice (some ⟨gg, 0, none⟩) nv cap2]) (t := 55) (fr := (0, 0)) (heap_alloc_new W2 (.cells #[.int .i64 3, .int .i64 (nv : Int), .slice (some ⟨gg, 0, none⟩) nv cap2] 55))
                    case c2 => simp [Value.oneCell']
                    case c3 => simp [maxLen]; omega
                    case c4 => omega
                    case c5 => first | omega | (simp; omega) | (have := hzw2; simp at this ⊢; omega)
                    intro v' w5 own5 hg5 _
                    obtain ⟨A5, c5, rfl, _, _, _⟩ := own_form own5
                    have nB : New W2 (W2.alloc (.cells #[.int .i64 3, .int .i64 (nv : Int), .slice (some ⟨gg, 0, none⟩) nv cap2] 55)) := (New.refl W2).alloc _
                    have PB := HPB.out.new nB
                    have LB := hT.new nB
                    have HKB := HK2.new nB
                    have B65 := PB.b6.grown hg5 (fun e => (ne_kind (cs := []) PB.own PB.b6 (by decide)) e.symm)
                    have d61 := B65.cell' 1 _ rfl
                    have f61 := B65.free 1
                    have e3 : hmC ⟨3, nv, (l.drop (i + 1)).take nv, some ⟨gg, 0, none⟩, cap2⟩ = [.int .i64 3, .int .i64 (nv : Int), .slice (some ⟨gg, 0, none⟩) nv cap2] := by simp only [hmC, HRT.out]
                    have LL := Lib.hid ((((LN0.new nB)).keep hg5 (fun q e => by
                      obtain ⟨cs, fz, hc⟩ := own_kind3 PB.own q e
                      exact ⟨cs, 55, fz, hc, by decide⟩)).keep (grown_set w5 g 1 (.slice A5 (hl + 1) c5)) (fun q e => by injection e with e; subst e; exact ⟨_, 24, _, B65, by decide⟩))
                    have PN := Lib.hid (PB.app ⟨3, nv, (l.drop (i + 1)).take nv, some ⟨gg, 0, none⟩, cap2⟩ LB HKB (by rw [e3]; exact HHL.out ▸ own5) hg5 (by rw [List.map_append, ← HDD.out]; exact HPX.out.inv.add (head_fits HHV.out) (by rw [HDL.out]; omega)) (HPR.out (i + 1 + nv)) (by rw [HHL.out, HRD2.out]; omega) (fun s h => HRZ.out s (List.mem_of_mem_take h)) (by simp only [HRT.out]; omega))
                    have HI3 := Lib.hid (HI2.out.add HHV.out (by rw [HDL.out]; omega))
                    clear PB own5 hg5 e3 LB HKB HK2 nB hT LN0
                    go_wp2
                    go_roundw
                    case rel => exact ⟨i + 1 + nv, A2, c2, .slice A5 (hl + 1) c5, _, by go_num, by omega, HHL.out ▸ PN.out, LL.out, Lib.hid (by rw [List.map_append, ← HDD.out]; exact HI3.out)⟩
                    case measure => simp [intOf]; omega
              | none =>
                have HA3 := Lib.hid (fun W => after_no (p := ⟨#[97, 100, 100, 32]⟩) ha W)
                have HNU := Lib.hid (fun W => number_any ⟨#[]⟩ W (by decide))
                rw [show numL (⟨#[]⟩ : ByteArray).data.toList = 0 from by decide] at HNU
                have HHX := Lib.hid (head_not hk hd ha)
                have PX := HPX.out.new ((New.refl wr).alloc (.cells #[.int .i64 0, .int .i64 0, .slice none 0 0] 55))
                have d20 := PX.b2.cell' 0 _ rfl
                have d21 := PX.b2.cell' 1 _ rfl
                have e20 := PX.b2.free 0
                have e21 := PX.b2.free 1
                have HN := Lib.hid (HNO.out (HPVV.out.trans (fin_none (HPX.out.inv.none_ HHX.out))))
                clear hk hd ha
                go_wp2_with (fail)
                with_reducible refine (HA1.out _).mono ?_
                rintro e w3 ⟨rfl, rfl⟩
                go_wp2_with (fail)
                with_reducible refine (HA2.out _).mono ?_
                rintro e w4 ⟨rfl, rfl⟩
                go_wp2_with (fail)
                with_reducible refine (HA3.out _).mono ?_
                rintro e w5 ⟨rfl, rfl⟩
                go_wp2_with (fail)
                with_reducible refine (HNU.out _).mono ?_
                rintro e w8 ⟨rfl, rfl⟩
                go_wp2
                have BE := put2 PX.b2 (.string ⟨#[]⟩) (.slice none 0 0)
                have e0 := BE.cell' 0 _ rfl
                have e1 := BE.cell' 1 _ rfl
                have nn := (PX.nw.setCell (p := ⟨w.heap.size, 0, none⟩) (Nat.le_refl _) (.string ⟨#[]⟩)).setCell (p := ⟨w.heap.size, 1, none⟩) (Nat.le_refl _) (.slice none 0 0)
                exact bodyPost_ret (v := .tuple #[.agg #[.string ⟨#[]⟩, .slice none 0 0], .int .i64 4]) (by simp [results, Tryz.results18, go_sem, e0, e1]) rfl (HN.out _ _ rfl nn)
        · obtain rfl : i = nl := by omega
          rw [List.drop_of_length_le (by rw [HNL.out]; exact Nat.le_refl _)] at hps HI2
          obtain ⟨A9, c9, hV9, hc9, hprd⟩ := own_prd hps.own hps.ln.tail
          subst hV9
          have HC := Lib.hid (rvalid_any base A9 hs.length c9 hs wr hprd hps.szh (by omega))
          have HPX := Lib.hid hps
          have c60 := hps.b6.cell' 0 _ rfl
          have c61 := hps.b6.cell' 1 _ rfl
          have HFN := Lib.hid (HPVV.out.trans HI2.out.fin)
          have HYES := Lib.hid (fun (hv : validV base (hs.map Hm.d) = true) (w' : World) (e : Ending) he hr hc hn => par_yes (text := text) (base := base) (w := w) (w' := w') (e := e) (A := A9) (c := c9) (hs := hs) hv (parse_sound (HFN.out.trans (if_pos hv))).2 he hr hc hn)
          have HBAD := Lib.hid (fun (hv : validV base (hs.map Hm.d) = false) => HNO.out (HFN.out.trans (if_neg (by rw [hv]; decide))))
          clear hprd hps HI2
          generalize hs.length = m9 at *
          generalize validV base (hs.map Hm.d) = vv at *
          cases vv
          · have HN := Lib.hid (HBAD.out rfl)
            clear HYES HFN HBAD
            go_wp2_with (go_at_call 34; (with_reducible refine HC.out.mono ?_); rintro e w5 ⟨rfl, n5⟩; have PX := HPX.out.new n5; have d20 := PX.b2.cell' 0 _ rfl; have d21 := PX.b2.cell' 1 _ rfl; have e20 := PX.b2.free 0; have e21 := PX.b2.free 1)
            obtain ⟨BE, _, _, _, nn⟩ := ps_out PX (.string ⟨#[]⟩) (.slice none 0 0)
            have e0 := BE.cell' 0 _ rfl
            have e1 := BE.cell' 1 _ rfl
            exact bodyPost_ret (v := .tuple #[.agg #[.string ⟨#[]⟩, .slice none 0 0], .int .i64 4]) (by simp [results, Tryz.results18, go_sem, e0, e1]) rfl (HN.out _ _ rfl nn)
          · have HN := Lib.hid (HYES.out rfl)
            clear HYES HFN HBAD
            go_wp2_with (go_at_call 34; (with_reducible refine HC.out.mono ?_); rintro e w5 ⟨rfl, n5⟩; have PX := HPX.out.new n5; have d20 := PX.b2.cell' 0 _ rfl; have d21 := PX.b2.cell' 1 _ rfl; have e20 := PX.b2.free 0; have e21 := PX.b2.free 1; have c62 := PX.b6.cell' 0 _ rfl; have c63 := PX.b6.cell' 1 _ rfl)
            obtain ⟨BE, hr9, hm9, hc99, nn⟩ := ps_out PX (.string base) (.slice A9 m9 c9)
            have e0 := BE.cell' 0 _ rfl
            have e1 := BE.cell' 1 _ rfl
            exact bodyPost_ret (v := .tuple #[.agg #[.string base, .slice A9 m9 c9], .int .i64 0]) (by simp [results, Tryz.results18, go_sem, e0, e1]) rfl (HN.out _ _ rfl (hm9 ▸ hr9) (hm9 ▸ hc99) nn)
  · have hp : parseV text = none := by rw [parseV, if_neg hl]
    have HB := Lib.hid (rlns_bad text (w.alloc (.cells #[.string ⟨#[]⟩, .slice none 0 0] 24)) hs hl)
    have HN := Lib.hid (fun w' e he hn => par_no (text := text) (w := w) (w' := w') (e := e) (x := 10) hp (by rw [if_neg hl]) he hn)
    clear hl hp
    go_enter Tryz.func18, Tryz.ntmps18
    go_wp2_with (go_at_call 30; (with_reducible refine HB.out.mono ?_); rintro e w1 ⟨rfl, n1⟩; have B1 := B0.new n1; have d20 := B1.cell' 0 _ rfl; have d21 := B1.cell' 1 _ rfl; have e20 := B1.free 0; have e21 := B1.free 1)
    have BE := put2 B1 (.string ⟨#[]⟩) (.slice none 0 0)
    have e0 := BE.cell' 0 _ rfl
    have e1 := BE.cell' 1 _ rfl
    have nn := ((n0.trans n1).setCell (p := ⟨w.heap.size, 0, none⟩) (Nat.le_refl _) (.string ⟨#[]⟩)).setCell (p := ⟨w.heap.size, 1, none⟩) (Nat.le_refl _) (.slice none 0 0)
    exact bodyPost_ret (v := .tuple #[.agg #[.string ⟨#[]⟩, .slice none 0 0], .int .i64 10]) (by simp [results, Tryz.results18, go_sem, e0, e1]) rfl (HN.out _ _ rfl nn)
end Go.Proofs.YtfeknjpinboknaaGreatDoor

