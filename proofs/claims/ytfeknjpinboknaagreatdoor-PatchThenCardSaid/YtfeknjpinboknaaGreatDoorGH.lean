/- The lines of a patch's text: the program's lines. Conditions: the hunks are in form, the base is empty or a digest. (Printed by mk-h.py.) -/
import Derived.Test.YtfeknjpinboknaaGreatDoorGE

namespace Go.Proofs.YtfeknjpinboknaaGreatDoor
open Go Go.RowKit Go.Joins Go.Shelf
set_option linter.unusedSimpArgs false
set_option linter.unusedVariables false

def RowOut (w : World) (ws : List ByteArray) (e : Ending) (w' : World) : Prop := ∃ A c, e = .returned (.slice A ws.length c) ∧ Rd w' 1 A ws.length (sCells ws) ∧ ws.length ≤ c ∧ New w w'
theorem linesL_take {hs : List Hm} {k : Nat} {h : Hm} (hk : hs[k]? = some h) : linesL ((hs.take (k + 1)).map Hm.d) = linesL ((hs.take k).map Hm.d) ++ ([headV h.d] ++ h.lines) := by
  obtain ⟨hi, he⟩ := List.getElem?_eq_some_iff.1 hk
  rw [List.take_succ_eq_append_getElem hi, he, List.map_append, linesL, List.flatMap_append]
  simp [linesL, Hm.d]
theorem linesL_bound : ∀ {l : List Hk}, (∀ h ∈ l, OkH h) → (linesL l).length ≤ l.length * 1025
  | [], _ => by simp [linesL]
  | h :: r, ho => by
    have ih := linesL_bound (fun x hx => ho x (List.mem_cons_of_mem _ hx))
    have h1 := ho h (by simp)
    have h2 : h.lines.length ≤ 1024 := by
      by_cases hk : h.kind = 3
      · have := h1.l3 hk; have := h1.n2; omega
      · rw [h1.l0 hk]; simp
    have e : linesL (h :: r) = headV h :: (h.lines ++ linesL r) := rfl
    rw [e, List.length_cons, List.length_append, List.length_cons, Nat.add_mul]; omega
theorem linesL_take_bound {hs : List Hm} (ho : OkA hs) (hl : hs.length ≤ 4000) (k : Nat) : (linesL ((hs.take k).map Hm.d)).length ≤ 4100000 := by
  have h1 := linesL_bound (l := (hs.take k).map Hm.d) (fun x hx => by
    obtain ⟨y, hy, rfl⟩ := List.mem_map.1 hx
    exact ho y (List.mem_of_mem_take hy))
  rw [List.length_map] at h1
  have h2 := List.length_take_le' k hs
  have : (hs.take k).length * 1025 ≤ 4000 * 1025 := Nat.mul_le_mul_right _ (by omega)
  omega
theorem head_eq (k n : Int) (l : List ByteArray) : headV ⟨k, n, l⟩ = S (wordL k) ++ S (Lib.itoa n) := by rw [headV, S_append]
theorem baseL_len (b : ByteArray) : (baseL b).length ≤ 1 := by unfold baseL; split <;> simp
theorem itoa_size (n : Int) (h0 : 1 ≤ n) (h1 : n ≤ 1024) : (S (Lib.itoa n)).size ≤ 21 := by
  rw [size_S]; exact Lib.itoa_length_le _ (by omega) (by omega)
abbrev word1 : ByteArray := ⟨#[107, 101, 101, 112, 32]⟩
abbrev word2 : ByteArray := ⟨#[100, 114, 111, 112, 32]⟩
abbrev word3 : ByteArray := ⟨#[97, 100, 100, 32]⟩
theorem word1_eq : S (wordL 1) = word1 := rfl
theorem word2_eq : S (wordL 2) = word2 := rfl
theorem word3_eq : S (wordL 3) = word3 := rfl
set_option maxRecDepth 100000 in
set_option maxHeartbeats 8000000 in
theorem lines_any (base : ByteArray) (A : Option Addr) (n c : Nat) (hs : List Hm) (w : World) (hr : PRd w A n hs) (ho : OkA hs) (hl : n ≤ 4000) (hb : base.size = 0 ∨ base.size = 32) (hE : Env w) :
    Calls Tryz.prog 61 #[.agg #[.string base, .slice A n c]] w (RowOut w (textL base (hs.map Hm.d))) := by
  have HR := Lib.hid hr
  have HO := Lib.hid ho
  have HL := Lib.hid hr.len
  have HB := Lib.hid (linesL_take_bound ho (by rw [hr.len]; exact hl))
  have HBL := baseL_len base
  clear hr ho
  have hn0 := ((New.refl w).alloc (.cells #[.string base, .slice A n c] 24)).alloc (.cells #[.slice none 0 0] 49)
  have hB0 := Blk.made (w.alloc (.cells #[.string base, .slice A n c] 24)) 49 #[.slice none 0 0]
  have hA0 := (Blk.made w 24 #[.string base, .slice A n c]).alloc (.cells #[.slice none 0 0] 49)
  rw [World.size_alloc] at hB0
  obtain ⟨g, hg⟩ : ∃ g, w.heap.size + 1 = g := ⟨_, rfl⟩
  have HG := Lib.hid hg
  have hgw : w.heap.size ≤ g := by omega
  have hgw2 : w.heap.size < g := by omega
  rw [hg] at hB0
  obtain ⟨W0, hW0⟩ : ∃ W0, (w.alloc (.cells #[.string base, .slice A n c] 24)).alloc (.cells #[.slice none 0 0] 49) = W0 := ⟨_, rfl⟩
  rw [hW0] at hB0 hA0 hn0
  have HW0 := Lib.hid hW0
  have hs0 : LS W0 w.heap.size g [] := ⟨_, hB0, World.ownsRow_nil _ _ _ _, hgw⟩
  clear hg hW0 hB0
  have a0 := hA0.cell' 0 _ rfl
  have a1 := hA0.cell' 1 _ rfl
  by_cases hz : base.size = 0
  · have hbe : base.toList = [] := by rw [toList_eq]; exact List.eq_nil_of_length_eq_zero (by rw [← size_eq]; exact hz)
    have HX : Hid (baseL base = []) := Lib.hid (by rw [baseL, if_pos hz])
    clear hz
    go_enter Tryz.func61, Tryz.ntmps61
    go_wp2
    rw [HG.out, HW0.out]
    go_wp2
    replace hs0 : LS W0 w.heap.size g (baseL base) := by rw [HX.out]; exact hs0
    clear HX
    obtain ⟨W1, hW1⟩ : ∃ W1, W0 = W1 := ⟨_, rfl⟩
    subst hW1
    go_loopw [28] (fun v28 wr => ∃ k : Nat, v28 = .int .i64 k ∧ k ≤ n ∧ New w wr ∧ LS wr w.heap.size g (baseL base ++ linesL ((hs.take k).map Hm.d))) (fun v28 _ => n - (intOf v28).toNat)
    case atStart => exact ⟨0, rfl, by omega, hn0, by simpa [linesL] using hs0⟩
    case round =>
      obtain ⟨k, rfl, hk, hnr, hls⟩ := hrel
      by_cases hlt : k < n
      · obtain ⟨bk, o, rfl, hbk, p, hp, hcell⟩ := rd_row (f := hmC) (k := 3) (fun _ => rfl) HL.out (HR.out.new hnr).rd hlt
        have hok := HO.out p (List.mem_of_getElem? hp)
        have hln := ((HR.out.new hnr).ln p (List.mem_of_getElem? hp)).1
        have HN := Lib.hid (linesL_take hp)
        have hbd := HB.out k
        obtain ⟨pk, pn, pl, pa, pc⟩ := p
        have q0 := hcell 0 (.int .i64 pk) (by omega) rfl
        have q1 := hcell 1 (.int .i64 pn) (by omega) rfl
        have q2 := hcell 2 (.slice pa pl.length pc) (by omega) rfl
        simp only [Nat.add_zero] at q0
        rw [← Nat.add_assoc] at q1 q2
        have i0 : (0 : Int) ≤ (k : Int) := by omega
        have i1 : (k : Int) < (n : Int) := by omega
        have k1 : 1 ≤ pk := hok.k1
        have k3 : pk ≤ 3 := hok.k3
        have n1 : 1 ≤ pn := hok.n1
        have n2 : pn ≤ 1024 := hok.n2
        have hpl : pl.length ≤ 1024 := by
          by_cases hk : pk = 3
          · have := hok.l3 hk; simp only [Hm.d] at this; omega
          · have h0 : pl = [] := hok.l0 hk
            rw [h0]; simp
        simp only [Hm.d, head_eq] at HN
        simp only at hln
        have HM := Lib.hid (List.mem_of_getElem? hp)
        clear hcell hp hok
        obtain ⟨nl, hnl⟩ : ∃ nl, pl.length = nl := ⟨_, rfl⟩
        rw [hnl] at hln q2 hpl
        have HNL := Lib.hid hnl
        have hnr1 := hnr.alloc (.cells #[.int .i64 pk, .int .i64 pn, .slice pa nl pc] 55)
        have BH := Blk.made wr 55 #[.int .i64 pk, .int .i64 pn, .slice pa nl pc]
        have hls1 := hls.new ((New.refl wr).alloc (.cells #[.int .i64 pk, .int .i64 pn, .slice pa nl pc] 55))
        have hln1 := hln.below ((New.refl wr).alloc (.cells #[.int .i64 pk, .int .i64 pn, .slice pa nl pc] 55))
        have hts := itoa_size pn n1 n2
        have HI := Lib.hid (fun W (hN : New w W) => itoa_any pn W (by omega) (by omega) (hE.new hN))
        have hgr : g < wr.heap.size := by obtain ⟨v, h, _⟩ := hls; exact h.lt
        clear hnl
        generalize S (Lib.itoa pn) = t at *
        generalize hXS : baseL base ++ linesL ((hs.take k).map Hm.d) = XS at *
        have hxs : XS.length ≤ 4100001 := by rw [← hXS, List.length_append]; omega
        have HXS := Lib.hid hXS
        have s1 : ¬ (9223372036854775807 < 5 + t.size) := by omega
        have s2 : ¬ (9223372036854775807 < 4 + t.size) := by omega
        clear hXS
        by_cases e1 : pk = 1
        · subst e1
          go_wp2_with (fail)
          with_reducible refine (HI.out _ hnr1).mono ?_
          rintro e w2 ⟨rfl, m2⟩
          have B2 := BH.new m2
          have e1 := B2.cell' 1 _ rfl
          have e2 := B2.cell' 2 _ rfl
          have z2 := hnr1.size
          have z3 := m2.size
          have HP := Lib.hid (putClos w.heap.size g XS [word1 ++ t] (some ⟨w2.heap.size, 0, none⟩) 1 1 (w2.alloc (.cells #[.string (word1 ++ t)] 9)) (hls1.new (m2.alloc _)) rfl (rd_new w2 [.string (word1 ++ t)] 9 1 rfl) (by omega) (by simp; omega))
          go_wp2_with (fail)
          with_reducible refine HP.out.mono ?_
          rintro e w3 ⟨rfl, l3, m3, o3⟩
          have B3 := (B2.alloc (.cells #[.string (word1 ++ t)] 9)).keptB o3 (by omega) (by decide)
          have e3 := B3.cell' 2 _ rfl
          have z4 := m3.size
          have hR3 : Rd w3 1 pa nl (sCells pl) := ((HR.out.new (Below.trans ((hnr1.trans m2).alloc _) m3)).ln _ (HM.out)).1 |> fun q => by simp only [HNL.out] at q; exact q
          have HQ := Lib.hid (putClos w.heap.size g (XS ++ [word1 ++ t]) pl pa nl pc w3 l3 HNL.out hR3 (by simp; omega) (by simp at z4; omega))
          go_wp2_with (fail)
          with_reducible refine HQ.out.mono ?_
          rintro e w4 ⟨rfl, l4, m4, o4⟩
          go_wp2
          go_roundw
          case rel => exact ⟨k + 1, by go_num, by omega, Below.trans (Below.trans ((hnr1.trans m2).alloc _) m3) m4, by rw [HN.out, ← List.append_assoc, HXS.out, word1_eq, ← List.append_assoc]; exact l4⟩
          case measure => simp [intOf]; omega
        · by_cases e2 : pk = 2
          · subst e2
            go_wp2_with (fail)
            with_reducible refine (HI.out _ hnr1).mono ?_
            rintro e w2 ⟨rfl, m2⟩
            have B2 := BH.new m2
            have e1 := B2.cell' 1 _ rfl
            have e2 := B2.cell' 2 _ rfl
            have z2 := hnr1.size
            have z3 := m2.size
            have HP := Lib.hid (putClos w.heap.size g XS [word2 ++ t] (some ⟨w2.heap.size, 0, none⟩) 1 1 (w2.alloc (.cells #[.string (word2 ++ t)] 9)) (hls1.new (m2.alloc _)) rfl (rd_new w2 [.string (word2 ++ t)] 9 1 rfl) (by omega) (by simp; omega))
            go_wp2_with (fail)
            with_reducible refine HP.out.mono ?_
            rintro e w3 ⟨rfl, l3, m3, o3⟩
            have B3 := (B2.alloc (.cells #[.string (word2 ++ t)] 9)).keptB o3 (by omega) (by decide)
            have e3 := B3.cell' 2 _ rfl
            have z4 := m3.size
            have hR3 : Rd w3 1 pa nl (sCells pl) := ((HR.out.new (Below.trans ((hnr1.trans m2).alloc _) m3)).ln _ (HM.out)).1 |> fun q => by simp only [HNL.out] at q; exact q
            have HQ := Lib.hid (putClos w.heap.size g (XS ++ [word2 ++ t]) pl pa nl pc w3 l3 HNL.out hR3 (by simp; omega) (by simp at z4; omega))
            go_wp2_with (fail)
            with_reducible refine HQ.out.mono ?_
            rintro e w4 ⟨rfl, l4, m4, o4⟩
            go_wp2
            go_roundw
            case rel => exact ⟨k + 1, by go_num, by omega, Below.trans (Below.trans ((hnr1.trans m2).alloc _) m3) m4, by rw [HN.out, ← List.append_assoc, HXS.out, word2_eq, ← List.append_assoc]; exact l4⟩
            case measure => simp [intOf]; omega
          · obtain rfl : pk = 3 := by omega
            go_wp2_with (fail)
            with_reducible refine (HI.out _ hnr1).mono ?_
            rintro e w2 ⟨rfl, m2⟩
            have B2 := BH.new m2
            have e1 := B2.cell' 1 _ rfl
            have e2 := B2.cell' 2 _ rfl
            have z2 := hnr1.size
            have z3 := m2.size
            have HP := Lib.hid (putClos w.heap.size g XS [word3 ++ t] (some ⟨w2.heap.size, 0, none⟩) 1 1 (w2.alloc (.cells #[.string (word3 ++ t)] 9)) (hls1.new (m2.alloc _)) rfl (rd_new w2 [.string (word3 ++ t)] 9 1 rfl) (by omega) (by simp; omega))
            go_wp2_with (fail)
            with_reducible refine HP.out.mono ?_
            rintro e w3 ⟨rfl, l3, m3, o3⟩
            have B3 := (B2.alloc (.cells #[.string (word3 ++ t)] 9)).keptB o3 (by omega) (by decide)
            have e3 := B3.cell' 2 _ rfl
            have z4 := m3.size
            have hR3 : Rd w3 1 pa nl (sCells pl) := ((HR.out.new (Below.trans ((hnr1.trans m2).alloc _) m3)).ln _ (HM.out)).1 |> fun q => by simp only [HNL.out] at q; exact q
            have HQ := Lib.hid (putClos w.heap.size g (XS ++ [word3 ++ t]) pl pa nl pc w3 l3 HNL.out hR3 (by simp; omega) (by simp at z4; omega))
            go_wp2_with (fail)
            with_reducible refine HQ.out.mono ?_
            rintro e w4 ⟨rfl, l4, m4, o4⟩
            go_wp2
            go_roundw
            case rel => exact ⟨k + 1, by go_num, by omega, Below.trans (Below.trans ((hnr1.trans m2).alloc _) m3) m4, by rw [HN.out, ← List.append_assoc, HXS.out, word3_eq, ← List.append_assoc]; exact l4⟩
            case measure => simp [intOf]; omega
      · obtain rfl : k = n := by omega
        have e : hs.take k = hs := List.take_of_length_le (by rw [HL.out]; exact Nat.le_refl _)
        rw [e] at hls
        obtain ⟨v, hv, hown, _⟩ := hls
        obtain ⟨A1, c1, rfl, hcc, _, hrd⟩ := own_form hown
        have d0 := hv.cell' 0 _ rfl
        have HRO : Hid (RowOut w (textL base (hs.map Hm.d)) (.returned (.slice A1 (baseL base ++ linesL (hs.map Hm.d)).length c1)) wr) := Lib.hid ⟨A1, c1, rfl, hrd, hcc, hnr⟩
        generalize baseL base ++ linesL (hs.map Hm.d) = XS at *
        go_wp2
        go_ret
        exact HRO.out
  · have hz32 : base.size = 32 := by omega
    have hne : base.toList.isEmpty = false := by rw [toList_eq, data_cons (by omega)]; rfl
    have hne2 : (base.toList == ([] : List UInt8)) = false := by rw [toList_eq, data_cons (by omega)]; rfl
    have HX : Hid (baseL base = [S [98, 97, 115, 101, 32] ++ S (hexL base.data.toList)]) := Lib.hid (by rw [baseL, if_neg hz, S_append])
    have HH := Lib.hid (hex_any base W0 hz32)
    have ht : (S (hexL base.data.toList)).size ≤ 64 := by rw [size_S, hexL_length, ← size_eq]; omega
    generalize S (hexL base.data.toList) = t at *
    have k1 : ¬ (9223372036854775807 < 5 + t.size) := by omega
    clear hz hz32
    go_enter Tryz.func61, Tryz.ntmps61
    go_wp2_with (fail)
    rw [HG.out, HW0.out]
    go_wp2_with (fail)
    with_reducible refine HH.out.mono ?_
    rintro e w1 ⟨rfl, hn1⟩
    have HP := Lib.hid (putClos w.heap.size g [] [⟨#[98, 97, 115, 101, 32]⟩ ++ t] (some ⟨w1.heap.size, 0, none⟩) 1 1 (w1.alloc (.cells #[.string (⟨#[98, 97, 115, 101, 32]⟩ ++ t)] 9)) (hs0.new (hn1.alloc _)) rfl (rd_new w1 [.string (⟨#[98, 97, 115, 101, 32]⟩ ++ t)] 9 1 rfl) (by simp) (by have := hn0.size; have := hn1.size; simp; omega))
    go_wp2_with (fail)
    with_reducible refine HP.out.mono ?_
    rintro e W1 ⟨rfl, hs1, hn2, hk2⟩
    replace hs1 : LS W1 w.heap.size g (baseL base) := by rw [HX.out]; exact hs1
    have hn0' : New w W1 := Below.trans ((hn0.trans hn1).alloc _) hn2
    have hA1 : Blk W1 w.heap.size 24 #[.string base, .slice A n c] := ((hA0.new hn1).alloc _).keptB hk2 (by omega) (by decide)
    have b0 := hA1.cell' 0 _ rfl
    have b1 := hA1.cell' 1 _ rfl
    clear hs0 hn0 HX HH HP hA0 a0 a1
    have hs0 := hs1
    have hn0 := hn0'
    clear hs1 hn0'
    go_wp2_with (fail)
    go_loopw [28] (fun v28 wr => ∃ k : Nat, v28 = .int .i64 k ∧ k ≤ n ∧ New w wr ∧ LS wr w.heap.size g (baseL base ++ linesL ((hs.take k).map Hm.d))) (fun v28 _ => n - (intOf v28).toNat)
    case atStart => exact ⟨0, rfl, by omega, hn0, by simpa [linesL] using hs0⟩
    case round =>
      obtain ⟨k, rfl, hk, hnr, hls⟩ := hrel
      by_cases hlt : k < n
      · obtain ⟨bk, o, rfl, hbk, p, hp, hcell⟩ := rd_row (f := hmC) (k := 3) (fun _ => rfl) HL.out (HR.out.new hnr).rd hlt
        have hok := HO.out p (List.mem_of_getElem? hp)
        have hln := ((HR.out.new hnr).ln p (List.mem_of_getElem? hp)).1
        have HN := Lib.hid (linesL_take hp)
        have hbd := HB.out k
        obtain ⟨pk, pn, pl, pa, pc⟩ := p
        have q0 := hcell 0 (.int .i64 pk) (by omega) rfl
        have q1 := hcell 1 (.int .i64 pn) (by omega) rfl
        have q2 := hcell 2 (.slice pa pl.length pc) (by omega) rfl
        simp only [Nat.add_zero] at q0
        rw [← Nat.add_assoc] at q1 q2
        have i0 : (0 : Int) ≤ (k : Int) := by omega
        have i1 : (k : Int) < (n : Int) := by omega
        have k1 : 1 ≤ pk := hok.k1
        have k3 : pk ≤ 3 := hok.k3
        have n1 : 1 ≤ pn := hok.n1
        have n2 : pn ≤ 1024 := hok.n2
        have hpl : pl.length ≤ 1024 := by
          by_cases hk : pk = 3
          · have := hok.l3 hk; simp only [Hm.d] at this; omega
          · have h0 : pl = [] := hok.l0 hk
            rw [h0]; simp
        simp only [Hm.d, head_eq] at HN
        simp only at hln
        have HM := Lib.hid (List.mem_of_getElem? hp)
        clear hcell hp hok
        obtain ⟨nl, hnl⟩ : ∃ nl, pl.length = nl := ⟨_, rfl⟩
        rw [hnl] at hln q2 hpl
        have HNL := Lib.hid hnl
        have hnr1 := hnr.alloc (.cells #[.int .i64 pk, .int .i64 pn, .slice pa nl pc] 55)
        have BH := Blk.made wr 55 #[.int .i64 pk, .int .i64 pn, .slice pa nl pc]
        have hls1 := hls.new ((New.refl wr).alloc (.cells #[.int .i64 pk, .int .i64 pn, .slice pa nl pc] 55))
        have hln1 := hln.below ((New.refl wr).alloc (.cells #[.int .i64 pk, .int .i64 pn, .slice pa nl pc] 55))
        have hts := itoa_size pn n1 n2
        have HI := Lib.hid (fun W (hN : New w W) => itoa_any pn W (by omega) (by omega) (hE.new hN))
        have hgr : g < wr.heap.size := by obtain ⟨v, h, _⟩ := hls; exact h.lt
        clear hnl
        generalize S (Lib.itoa pn) = t at *
        generalize hXS : baseL base ++ linesL ((hs.take k).map Hm.d) = XS at *
        have hxs : XS.length ≤ 4100001 := by rw [← hXS, List.length_append]; omega
        have HXS := Lib.hid hXS
        have s1 : ¬ (9223372036854775807 < 5 + t.size) := by omega
        have s2 : ¬ (9223372036854775807 < 4 + t.size) := by omega
        clear hXS
        by_cases e1 : pk = 1
        · subst e1
          go_wp2_with (fail)
          with_reducible refine (HI.out _ hnr1).mono ?_
          rintro e w2 ⟨rfl, m2⟩
          have B2 := BH.new m2
          have e1 := B2.cell' 1 _ rfl
          have e2 := B2.cell' 2 _ rfl
          have z2 := hnr1.size
          have z3 := m2.size
          have HP := Lib.hid (putClos w.heap.size g XS [word1 ++ t] (some ⟨w2.heap.size, 0, none⟩) 1 1 (w2.alloc (.cells #[.string (word1 ++ t)] 9)) (hls1.new (m2.alloc _)) rfl (rd_new w2 [.string (word1 ++ t)] 9 1 rfl) (by omega) (by simp; omega))
          go_wp2_with (fail)
          with_reducible refine HP.out.mono ?_
          rintro e w3 ⟨rfl, l3, m3, o3⟩
          have B3 := (B2.alloc (.cells #[.string (word1 ++ t)] 9)).keptB o3 (by omega) (by decide)
          have e3 := B3.cell' 2 _ rfl
          have z4 := m3.size
          have hR3 : Rd w3 1 pa nl (sCells pl) := ((HR.out.new (Below.trans ((hnr1.trans m2).alloc _) m3)).ln _ (HM.out)).1 |> fun q => by simp only [HNL.out] at q; exact q
          have HQ := Lib.hid (putClos w.heap.size g (XS ++ [word1 ++ t]) pl pa nl pc w3 l3 HNL.out hR3 (by simp; omega) (by simp at z4; omega))
          go_wp2_with (fail)
          with_reducible refine HQ.out.mono ?_
          rintro e w4 ⟨rfl, l4, m4, o4⟩
          go_wp2
          go_roundw
          case rel => exact ⟨k + 1, by go_num, by omega, Below.trans (Below.trans ((hnr1.trans m2).alloc _) m3) m4, by rw [HN.out, ← List.append_assoc, HXS.out, word1_eq, ← List.append_assoc]; exact l4⟩
          case measure => simp [intOf]; omega
        · by_cases e2 : pk = 2
          · subst e2
            go_wp2_with (fail)
            with_reducible refine (HI.out _ hnr1).mono ?_
            rintro e w2 ⟨rfl, m2⟩
            have B2 := BH.new m2
            have e1 := B2.cell' 1 _ rfl
            have e2 := B2.cell' 2 _ rfl
            have z2 := hnr1.size
            have z3 := m2.size
            have HP := Lib.hid (putClos w.heap.size g XS [word2 ++ t] (some ⟨w2.heap.size, 0, none⟩) 1 1 (w2.alloc (.cells #[.string (word2 ++ t)] 9)) (hls1.new (m2.alloc _)) rfl (rd_new w2 [.string (word2 ++ t)] 9 1 rfl) (by omega) (by simp; omega))
            go_wp2_with (fail)
            with_reducible refine HP.out.mono ?_
            rintro e w3 ⟨rfl, l3, m3, o3⟩
            have B3 := (B2.alloc (.cells #[.string (word2 ++ t)] 9)).keptB o3 (by omega) (by decide)
            have e3 := B3.cell' 2 _ rfl
            have z4 := m3.size
            have hR3 : Rd w3 1 pa nl (sCells pl) := ((HR.out.new (Below.trans ((hnr1.trans m2).alloc _) m3)).ln _ (HM.out)).1 |> fun q => by simp only [HNL.out] at q; exact q
            have HQ := Lib.hid (putClos w.heap.size g (XS ++ [word2 ++ t]) pl pa nl pc w3 l3 HNL.out hR3 (by simp; omega) (by simp at z4; omega))
            go_wp2_with (fail)
            with_reducible refine HQ.out.mono ?_
            rintro e w4 ⟨rfl, l4, m4, o4⟩
            go_wp2
            go_roundw
            case rel => exact ⟨k + 1, by go_num, by omega, Below.trans (Below.trans ((hnr1.trans m2).alloc _) m3) m4, by rw [HN.out, ← List.append_assoc, HXS.out, word2_eq, ← List.append_assoc]; exact l4⟩
            case measure => simp [intOf]; omega
          · obtain rfl : pk = 3 := by omega
            go_wp2_with (fail)
            with_reducible refine (HI.out _ hnr1).mono ?_
            rintro e w2 ⟨rfl, m2⟩
            have B2 := BH.new m2
            have e1 := B2.cell' 1 _ rfl
            have e2 := B2.cell' 2 _ rfl
            have z2 := hnr1.size
            have z3 := m2.size
            have HP := Lib.hid (putClos w.heap.size g XS [word3 ++ t] (some ⟨w2.heap.size, 0, none⟩) 1 1 (w2.alloc (.cells #[.string (word3 ++ t)] 9)) (hls1.new (m2.alloc _)) rfl (rd_new w2 [.string (word3 ++ t)] 9 1 rfl) (by omega) (by simp; omega))
            go_wp2_with (fail)
            with_reducible refine HP.out.mono ?_
            rintro e w3 ⟨rfl, l3, m3, o3⟩
            have B3 := (B2.alloc (.cells #[.string (word3 ++ t)] 9)).keptB o3 (by omega) (by decide)
            have e3 := B3.cell' 2 _ rfl
            have z4 := m3.size
            have hR3 : Rd w3 1 pa nl (sCells pl) := ((HR.out.new (Below.trans ((hnr1.trans m2).alloc _) m3)).ln _ (HM.out)).1 |> fun q => by simp only [HNL.out] at q; exact q
            have HQ := Lib.hid (putClos w.heap.size g (XS ++ [word3 ++ t]) pl pa nl pc w3 l3 HNL.out hR3 (by simp; omega) (by simp at z4; omega))
            go_wp2_with (fail)
            with_reducible refine HQ.out.mono ?_
            rintro e w4 ⟨rfl, l4, m4, o4⟩
            go_wp2
            go_roundw
            case rel => exact ⟨k + 1, by go_num, by omega, Below.trans (Below.trans ((hnr1.trans m2).alloc _) m3) m4, by rw [HN.out, ← List.append_assoc, HXS.out, word3_eq, ← List.append_assoc]; exact l4⟩
            case measure => simp [intOf]; omega
      · obtain rfl : k = n := by omega
        have e : hs.take k = hs := List.take_of_length_le (by rw [HL.out]; exact Nat.le_refl _)
        rw [e] at hls
        obtain ⟨v, hv, hown, _⟩ := hls
        obtain ⟨A1, c1, rfl, hcc, _, hrd⟩ := own_form hown
        have d0 := hv.cell' 0 _ rfl
        have HRO : Hid (RowOut w (textL base (hs.map Hm.d)) (.returned (.slice A1 (baseL base ++ linesL (hs.map Hm.d)).length c1)) wr) := Lib.hid ⟨A1, c1, rfl, hrd, hcc, hnr⟩
        generalize baseL base ++ linesL (hs.map Hm.d) = XS at *
        go_wp2
        go_ret
        exact HRO.out
end Go.Proofs.YtfeknjpinboknaaGreatDoor

