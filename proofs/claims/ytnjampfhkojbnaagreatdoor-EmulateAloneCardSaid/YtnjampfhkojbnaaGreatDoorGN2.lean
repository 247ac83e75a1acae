/- binary.words: which fixups and imports are right. Conditions: the places are right; sizes. (Printed by mk-n2.py.) -/
import Derived.Test.YtnjampfhkojbnaaGreatDoorGBase
import Derived.Test.YtnjampfhkojbnaaGreatDoorGN
import Derived.Deep.OwnRows

namespace Go.Proofs.YtnjampfhkojbnaaGreatDoor
open Go Go.RowKit Go.Joins
set_option linter.unusedSimpArgs false
set_option linter.unusedVariables false

theorem Tryz.info4' : (Tryz.prog.info? 4).map (fun i => (i.zero, i.size, i.bytes)) = some (some (.bool false), 1, 1) := by kernel_rfl
theorem useV_nil (n : Nat) : madeCells #[.bool false] n = (useV n []).toArray := by
  apply Array.toList_inj.1
  rw [toList_madeCells_one]
  apply List.ext_getElem?
  intro j
  unfold useV
  by_cases h : j < n
  · rw [List.getElem?_replicate, if_pos h, List.getElem?_map, List.getElem?_range h]; rfl
  · rw [List.getElem?_replicate, if_neg h, List.getElem?_eq_none]
    simpa using h
theorem rev_take {α : Type} {l : List α} {i : Nat} {x : α} (h : l[i]? = some x) : (l.take (i + 1)).reverse = x :: (l.take i).reverse := by
  obtain ⟨hi, he⟩ := List.getElem?_eq_some_iff.1 h
  rw [List.take_succ_eq_append_getElem hi, he, List.reverse_append]; rfl
theorem flat_one (l : List Int) (i : Nat) : (l.flatMap fxC)[i]? = l[i]?.map (Value.int .i64) := by
  have : l.flatMap fxC = l.map (Value.int .i64) := by
    induction l with
    | nil => rfl
    | cons a r ih => rw [List.flatMap_cons, ih]; rfl
  rw [this, List.getElem?_map]
def posR (l : List ImD) (i : Nat) : List Int := ((l.take i).map fun x => x.pos).reverse
theorem posR_succ {l : List ImD} {i : Nat} {x : ImD} (h : l[i]? = some x) : posR l (i + 1) = x.pos :: posR l i := by
  obtain ⟨hi, he⟩ := List.getElem?_eq_some_iff.1 h
  unfold posR
  rw [List.take_succ_eq_append_getElem hi, he, List.map_append, List.reverse_append]; rfl
def SzI (l : List ImD) : Prop := ∀ x ∈ l, x.lib.size ≤ 1000000 ∧ x.sym.size ≤ 1000000 ∧ W64 x.pos
structure WSt (w wr : World) (gb gu gB N : Nat) (cs : Array Value) (T : List Int) : Prop where
  new : Below w.heap.size w wr
  b : Blk wr gb 28 cs
  u : Blk wr gu 169 #[.slice (some ⟨gB, 0, none⟩) N N]
  c : Blk wr gB 4 (useV N T).toArray
theorem WSt.step {w wr w2 : World} {gb gu gB N : Nat} {cs : Array Value} {T T' : List Int} (s : WSt w wr gb gu gB N cs T) (hg : wr.grownBy w2 (some gB)) (hc : Blk w2 gB 4 (useV N T').toArray) (h0 : w.heap.size ≤ gB) (h1 : gb ≠ gB) (h2 : gu ≠ gB) :
    WSt w w2 gb gu gB N cs T' :=
  ⟨Below.grown s.new hg s.new.size (fun k hk => by have := Option.some.inj hk; omega), s.b.grown hg (fun e => h1 (Option.some.inj e)), s.u.grown hg (fun e => h2 (Option.some.inj e)), hc⟩
theorem WSt.later {w wr w2 : World} {gb gu gB N : Nat} {cs : Array Value} {T : List Int} (s : WSt w wr gb gu gB N cs T) (hn : New wr w2) : WSt w w2 gb gu gB N cs T :=
  ⟨New.trans s.new hn, s.b.new hn, s.u.new hn, s.c.new hn⟩
set_option maxRecDepth 100000 in
set_option maxHeartbeats 8000000 in
theorem words_any (b : Bn) (h : BH) (w : World) (hP : PlOK b) (hr : BRd w b h) (hl1 : b.fix.length ≤ 1000000) (hl2 : b.imps.length ≤ 1000000) (hz1 : ∀ a ∈ b.fix, W64 a) (hz2 : SzI b.imps) (hE : Env w) :
    Calls Tryz.prog 79 #[.agg (bcells b h)] w fun e w' => e = .returned (.bool (wordsV b)) ∧ New w w' := by
  have HTake := Lib.hid (fun T a gb gu gB N w' h2 h3 h4 h5 h6 h7 h8 => take_any b h T a gb gu gB N w' hP h2 h3 h4 h5 h6 h7 h8)
  have HBd := Lib.hid (fun a (hw : withinV b.places a = true) => within_bd hP hw)
  have HR := Lib.hid hr
  have HE := Lib.hid hE
  have hle := hP.le
  have hlp := hP.len
  obtain ⟨kind, entry, image, places, fix, imps, exps, notes⟩ := b
  obtain ⟨a1, c1, a2, c2, a3, c3, a4, c4, a5, c5⟩ := h
  simp only [bcells] at HTake HBd hle hlp hl1 hl2 hz1 hz2 ⊢
  have HZ1 := Lib.hid hz1
  have HZ2 := Lib.hid hz2
  have hR1 := HR.out.r1
  have hR2 := HR.out.r2
  have hR3 := HR.out.r3
  simp only at hR1 hR2 hR3
  obtain ⟨n1, hn1⟩ : ∃ n, places.length = n := ⟨_, rfl⟩
  obtain ⟨n, hn⟩ : ∃ n, fix.length = n := ⟨_, rfl⟩
  obtain ⟨n3, hn3⟩ : ∃ n, imps.length = n := ⟨_, rfl⟩
  rw [hn1] at hR1 hlp
  rw [hn] at hR2 hl1
  rw [hn3] at hR3 hl2
  have HN1 := Lib.hid hn1
  have HN := Lib.hid hn
  have HN3 := Lib.hid hn3
  have HR1 := Lib.hid hR1
  have HR2 := Lib.hid hR2
  have HR3 := Lib.hid hR3
  rw [hn1, hn, hn3] at HTake ⊢
  generalize exps.length = n4 at *
  generalize notes.length = n5 at *
  obtain ⟨cs, hcs⟩ : ∃ cs : Array Value, #[.int .i64 kind, .int .i64 entry, .string image, .slice a1 n1 c1, .slice a2 n c2, .slice a3 n3 c3, .slice a4 n4 c4, .slice a5 n5 c5] = cs := ⟨_, rfl⟩
  have HCS := Lib.hid hcs
  obtain ⟨N, hNN⟩ : ∃ N, image.size = N := ⟨_, rfl⟩
  have HNN := Lib.hid hNN
  rw [hNN] at HBd hle
  have hmk := fun (w : World) => run_make_row' (P := Tryz.prog) 169 4 (.bool false) 1 Tryz.underlying169 Tryz.info4' rfl .i64 .i64 N (by omega) (by omega) w
  have hv : wordsV ⟨kind, entry, image, places, fix, imps, exps, notes⟩ = (fixGo places image fix [] && impGo places image fix.reverse imps []) := rfl
  rw [hv]
  obtain ⟨R, hR9⟩ : ∃ R, (fixGo places image fix [] && impGo places image fix.reverse imps []) = R := ⟨_, rfl⟩
  rw [hR9]
  have HRR := Lib.hid hR9
  have s0 : WSt w (((w.alloc (.cells cs 28)).alloc (.cells (madeCells #[.bool false] N) 4)).alloc (.cells #[.slice (some ⟨w.heap.size + 1, 0, none⟩) N N] 169)) w.heap.size (w.heap.size + 1 + 1) (w.heap.size + 1) N cs [] := by
    refine ⟨(((New.refl w).alloc _).alloc _).alloc _, ((Blk.made w 28 cs).alloc _).alloc _, ?_, ?_⟩
    · have q := Blk.made ((w.alloc (.cells cs 28)).alloc (.cells (madeCells #[.bool false] N) 4)) 169 #[.slice (some ⟨w.heap.size + 1, 0, none⟩) N N]
      simpa using q
    · have q := Blk.made (w.alloc (.cells cs 28)) 4 (madeCells #[.bool false] N)
      rw [World.size_alloc, useV_nil] at q
      rw [useV_nil]
      exact q.alloc _
  have hne1 : w.heap.size ≠ w.heap.size + 1 := by omega
  have hne2 : w.heap.size + 1 + 1 ≠ w.heap.size + 1 := by omega
  have hne3 : w.heap.size ≤ w.heap.size + 1 := by omega
  rw [← hcs] at s0
  have HS0 := Lib.hid s0
  clear hv hr hz1 hz2 hE hR1 hR2 hR3 hn1 hn hn3 hcs hP hR9 s0 HCS
  go_enter Tryz.func79, Tryz.ntmps79
  go_wp2
  go_loopw [18] (fun v18 wr => ∃ i : Nat, v18 = .int .i64 i ∧ i ≤ n ∧ Hid (WSt w wr w.heap.size (w.heap.size + 1 + 1) (w.heap.size + 1) N #[.int .i64 kind, .int .i64 entry, .string image, .slice a1 n1 c1, .slice a2 n c2, .slice a3 n3 c3, .slice a4 n4 c4, .slice a5 n5 c5] (fix.take i).reverse) ∧ Hid (fixGo places image fix [] = fixGo places image (fix.drop i) (fix.take i).reverse)) (fun v18 _ => n - (intOf v18).toNat)
  case atStart => exact ⟨0, rfl, by omega, HS0, Lib.hid rfl⟩
  case round =>
    clear HS0
    obtain ⟨i, rfl, hi9, HS, HGo⟩ := hrel
    by_cases hlt : i < n
    · have hil : i < fix.length := by rw [HN.out]; exact hlt
      obtain ⟨bk, o, rfl, hbk, hcell⟩ := (HR2.out.below HS.out.new).2 (by omega)
      obtain ⟨a, hx⟩ : ∃ x, fix[i]? = some x := ⟨_, List.getElem?_eq_getElem hil⟩
      have q0 := hcell i (.int .i64 a) (by rw [flat_one, hx]; rfl)
      have HG2 := Lib.hid (fixGo_at (ps := places) (img := image) (T := (fix.take i).reverse) hx)
      have HRV := Lib.hid (rev_take hx)
      have ha := HZ1.out a (List.mem_of_getElem? hx)
      have HK := Lib.hid (HTake.out (fix.take i).reverse a w.heap.size (w.heap.size + 1 + 1) (w.heap.size + 1) N wr (HR.out.new HS.out.new) HS.out.b HS.out.u HS.out.c HNN.out ha hne2)
      have g3 := HS.out.b.cell' 3 _ rfl
      have g4 := HS.out.b.cell' 4 _ rfl
      have g2 := HS.out.b.cell' 2 _ rfl
      have i0 : (0 : Int) ≤ (i : Int) := by omega
      have i1 : (i : Int) < (n : Int) := by omega
      have HBad : Hid (fixOK places image (fix.take i).reverse a = false → R = false) := Lib.hid (fun q => by rw [← HRR.out, HGo.out, HG2.out, q]; rfl)
      have HFX : Hid (fixOK places image (fix.take i).reverse a = (ltHead (fix.take i).reverse a && takeV places (fix.take i).reverse a && startsV places (wordV image a.toNat))) := Lib.hid rfl
      have HTW : Hid (takeV places (fix.take i).reverse a = true → withinV places a = true) := Lib.hid (fun q => by unfold takeV at q; rw [Bool.and_eq_true] at q; exact q.1)
      obtain ⟨tk, htk⟩ : ∃ tk, takeV places (fix.take i).reverse a = tk := ⟨_, rfl⟩
      rw [htk] at HK HFX HTW
      clear hil htk
      by_cases hz : i = 0
      · subst hz
        have HL : Hid (ltHead (fix.take 0).reverse a = true) := Lib.hid rfl
        rw [HL.out, Bool.true_and] at HFX
        simp only [Nat.add_zero] at q0
        clear hx hcell
        cases tk
        · have hRf := HBad.out (by rw [HFX.out]; rfl)
          subst hRf
          go_wp2_with (go_at_call 111; (with_reducible refine HK.out.mono ?_); rintro e w2 ⟨rfl, hg2, hk2⟩)
          go_ret
          exact ⟨rfl, Below.grown HS.out.new hg2 HS.out.new.size (fun k hk => by have := Option.some.inj hk; omega)⟩
        · rw [Bool.true_and] at HFX
          obtain ⟨b1, b2⟩ := HBd.out a (HTW.out rfl)
          obtain ⟨an, rfl⟩ : ∃ an : Nat, a = (an : Int) := ⟨a.toNat, by omega⟩
          rw [Int.toNat_natCast] at HFX
          have HW := Lib.hid (fun W => word_any image an W (by rw [HNN.out]; omega) (by rw [HNN.out]; omega))
          have HH := Lib.hid (fun W g h1 h2 => hasPos_any places (wordV image an) g a1 n1 c1 W HN1.out h1 h2 (by omega))
          have HFX2 : Hid (fixOK places image (fix.take 0).reverse (an : Int) = places.any (posV (wordV image an))) := Lib.hid HFX.out
          clear HFX HTW
          obtain ⟨st, hst⟩ : ∃ st, places.any (posV (wordV image an)) = st := ⟨_, rfl⟩
          rw [hst] at HH HFX2
          clear hst
          generalize wordV image an = wv at *
          cases st
          · have hRf := HBad.out HFX2.out
            subst hRf
            go_wp2_with (first | (go_at_call 115; (with_reducible refine (HH.out _ w3.heap.size (HR1.out.below (New.trans HS2.out.new (New.alloc n3 _))) ((Blk.made w3 3 #[.int .i64 wv]).cell' 0 _ rfl)).mono ?_); rintro e w4 ⟨rfl, n4⟩) | (go_at_call 114; (with_reducible refine (HW.out w2).mono ?_); rintro e w3 ⟨rfl, n3⟩; have f3 := ((HS2.out.b.new n3).alloc (.cells #[.int .i64 wv] 3)).cell' 3 _ rfl) | (go_at_call 111; (with_reducible refine HK.out.mono ?_); rintro e w2 ⟨rfl, hg2, hk2⟩; have HS2 := Lib.hid (HS.out.step hg2 (hk2.out rfl) hne3 hne1 hne2); have f2 := HS2.out.b.cell' 2 _ rfl; have f3' := HS2.out.b.cell' 3 _ rfl))
            go_ret
            exact ⟨rfl, New.trans HS2.out.new (New.trans (New.alloc n3 _) n4)⟩
          · go_wp2_with (first | (go_at_call 115; (with_reducible refine (HH.out _ w3.heap.size (HR1.out.below (New.trans HS2.out.new (New.alloc n3 _))) ((Blk.made w3 3 #[.int .i64 wv]).cell' 0 _ rfl)).mono ?_); rintro e w4 ⟨rfl, n4⟩) | (go_at_call 114; (with_reducible refine (HW.out w2).mono ?_); rintro e w3 ⟨rfl, n3⟩; have f3 := ((HS2.out.b.new n3).alloc (.cells #[.int .i64 wv] 3)).cell' 3 _ rfl) | (go_at_call 111; (with_reducible refine HK.out.mono ?_); rintro e w2 ⟨rfl, hg2, hk2⟩; have HS2 := Lib.hid (HS.out.step hg2 (hk2.out rfl) hne3 hne1 hne2); have f2 := HS2.out.b.cell' 2 _ rfl; have f3' := HS2.out.b.cell' 3 _ rfl))
            go_roundw
            case rel => exact ⟨0 + 1, by go_num, by omega, Lib.hid (by rw [HRV.out]; exact HS2.out.later (New.trans (New.alloc n3 _) n4)), Lib.hid (by rw [HRV.out, HGo.out, HG2.out, HFX2.out, Bool.true_and])⟩
            case measure => simp [intOf]; omega
      · obtain ⟨m, rfl⟩ : ∃ m, i = m + 1 := ⟨i - 1, by omega⟩
        obtain ⟨y, hy⟩ : ∃ x, fix[m]? = some x := ⟨_, List.getElem?_eq_getElem (by rw [HN.out]; omega)⟩
        have y0 := hcell m (.int .i64 y) (by rw [flat_one, hy]; rfl)
        have HL : Hid (ltHead (fix.take (m + 1)).reverse a = decide (y < a)) := Lib.hid (by rw [rev_take hy]; rfl)
        rw [HL.out] at HFX
        have k7 : IntKind.i64.wrap ((m : Int) + 1 - 1) = (m : Int) := by rw [IntWalk.i64_in _ (by omega)]; omega
        have k10 : (0 : Int) < (m : Int) + 1 := by omega
        have k11 : (0 : Int) ≤ (m : Int) := by omega
        have k12 : (m : Int) < (n : Int) := by omega
        have k13 : (m : Int).toNat = m := by omega
        have k14 : m < n := by omega
        have k16 : (m : Int) + 1 < (n : Int) := by omega
        clear hx hcell hy
        by_cases hlt2 : y < a
        · rw [decide_eq_true hlt2, Bool.true_and] at HFX
          have t3 : ¬ a ≤ y := by omega
          cases tk
          · have hRf := HBad.out (by rw [HFX.out]; rfl)
            subst hRf
            go_wp2_with (go_at_call 111; (with_reducible refine HK.out.mono ?_); rintro e w2 ⟨rfl, hg2, hk2⟩)
            go_ret
            exact ⟨rfl, Below.grown HS.out.new hg2 HS.out.new.size (fun k hk => by have := Option.some.inj hk; omega)⟩
          · rw [Bool.true_and] at HFX
            obtain ⟨b1, b2⟩ := HBd.out a (HTW.out rfl)
            obtain ⟨an, rfl⟩ : ∃ an : Nat, a = (an : Int) := ⟨a.toNat, by omega⟩
            rw [Int.toNat_natCast] at HFX
            have HW := Lib.hid (fun W => word_any image an W (by rw [HNN.out]; omega) (by rw [HNN.out]; omega))
            have HH := Lib.hid (fun W g h1 h2 => hasPos_any places (wordV image an) g a1 n1 c1 W HN1.out h1 h2 (by omega))
            have HFX2 : Hid (fixOK places image (fix.take (m + 1)).reverse (an : Int) = places.any (posV (wordV image an))) := Lib.hid HFX.out
            clear HFX HTW
            obtain ⟨st, hst⟩ : ∃ st, places.any (posV (wordV image an)) = st := ⟨_, rfl⟩
            rw [hst] at HH HFX2
            clear hst
            generalize wordV image an = wv at *
            cases st
            · have hRf := HBad.out HFX2.out
              subst hRf
              go_wp2_with (first | (go_at_call 115; (with_reducible refine (HH.out _ w3.heap.size (HR1.out.below (New.trans HS2.out.new (New.alloc n3 _))) ((Blk.made w3 3 #[.int .i64 wv]).cell' 0 _ rfl)).mono ?_); rintro e w4 ⟨rfl, n4⟩) | (go_at_call 114; (with_reducible refine (HW.out w2).mono ?_); rintro e w3 ⟨rfl, n3⟩; have f3 := ((HS2.out.b.new n3).alloc (.cells #[.int .i64 wv] 3)).cell' 3 _ rfl) | (go_at_call 111; (with_reducible refine HK.out.mono ?_); rintro e w2 ⟨rfl, hg2, hk2⟩; have HS2 := Lib.hid (HS.out.step hg2 (hk2.out rfl) hne3 hne1 hne2); have f2 := HS2.out.b.cell' 2 _ rfl; have f3' := HS2.out.b.cell' 3 _ rfl))
              go_ret
              exact ⟨rfl, New.trans HS2.out.new (New.trans (New.alloc n3 _) n4)⟩
            · go_wp2_with (first | (go_at_call 115; (with_reducible refine (HH.out _ w3.heap.size (HR1.out.below (New.trans HS2.out.new (New.alloc n3 _))) ((Blk.made w3 3 #[.int .i64 wv]).cell' 0 _ rfl)).mono ?_); rintro e w4 ⟨rfl, n4⟩) | (go_at_call 114; (with_reducible refine (HW.out w2).mono ?_); rintro e w3 ⟨rfl, n3⟩; have f3 := ((HS2.out.b.new n3).alloc (.cells #[.int .i64 wv] 3)).cell' 3 _ rfl) | (go_at_call 111; (with_reducible refine HK.out.mono ?_); rintro e w2 ⟨rfl, hg2, hk2⟩; have HS2 := Lib.hid (HS.out.step hg2 (hk2.out rfl) hne3 hne1 hne2); have f2 := HS2.out.b.cell' 2 _ rfl; have f3' := HS2.out.b.cell' 3 _ rfl))
              go_roundw
              case rel => exact ⟨m + 1 + 1, by go_num, by omega, Lib.hid (by rw [HRV.out]; exact HS2.out.later (New.trans (New.alloc n3 _) n4)), Lib.hid (by rw [HRV.out, HGo.out, HG2.out, HFX2.out, Bool.true_and])⟩
              case measure => simp [intOf]; omega
        · rw [decide_eq_false hlt2, Bool.false_and, Bool.false_and] at HFX
          have t3 : a ≤ y := by omega
          have hRf := HBad.out HFX.out
          subst hRf
          go_wp2
          go_ret
          exact ⟨rfl, HS.out.new⟩
    · obtain rfl : n = i := by omega
      have HG3 : Hid (fixGo places image fix [] = true) := Lib.hid (by rw [HGo.out, List.drop_of_length_le (by rw [HN.out]; exact Nat.le_refl _), fixGo])
      have HS1 : Hid (WSt w wr w.heap.size (w.heap.size + 1 + 1) (w.heap.size + 1) N #[.int .i64 kind, .int .i64 entry, .string image, .slice a1 n1 c1, .slice a2 n c2, .slice a3 n3 c3, .slice a4 n4 c4, .slice a5 n5 c5] fix.reverse) := Lib.hid (by have := HS.out; rwa [List.take_of_length_le (by rw [HN.out]; exact Nat.le_refl _)] at this)
      clear HS HGo
      obtain ⟨wo, rfl⟩ : ∃ wo : World, wo = wr := ⟨_, rfl⟩
      have HRR2 : Hid (impGo places image fix.reverse imps [] = R) := Lib.hid (by have := HRR.out; rwa [HG3.out, Bool.true_and] at this)
      have g5 := HS1.out.b.cell' 5 _ rfl
      clear HRR HG3 hi9 hlt
      go_wp2
      go_loopw [54] (fun v54 wr => ∃ i : Nat, v54 = .int .i64 i ∧ i ≤ n3 ∧ Hid (WSt w wr w.heap.size (w.heap.size + 1 + 1) (w.heap.size + 1) N #[.int .i64 kind, .int .i64 entry, .string image, .slice a1 n1 c1, .slice a2 n c2, .slice a3 n3 c3, .slice a4 n4 c4, .slice a5 n5 c5] (posR imps i ++ fix.reverse)) ∧ Hid (impGo places image fix.reverse imps [] = impGo places image fix.reverse (imps.drop i) (posR imps i))) (fun v54 _ => n3 - (intOf v54).toNat)
      case atStart => exact ⟨0, rfl, by omega, HS1, Lib.hid rfl⟩
      case round =>
        clear HS1 g5
        obtain ⟨i, rfl, hi9, HS, HGo⟩ := hrel
        by_cases hlt : i < n3
        · obtain ⟨bk, o, rfl, hbk, x, hx, hcell⟩ := rd_row (f := imC) (k := 3) (fun _ => rfl) HN3.out (HR3.out.below HS.out.new) hlt
          obtain ⟨z1, z2, z3⟩ := HZ2.out x (List.mem_of_getElem? hx)
          have HG2 := Lib.hid (impGo_at (ps := places) (img := image) (F := fix.reverse) (P := posR imps i) hx)
          have HRV := Lib.hid (posR_succ hx)
          obtain ⟨xl, xs, xp⟩ := x
          simp only at z1 z2 z3 HRV
          have q0 := hcell 0 (.string xl) (by omega) rfl
          have q1 := hcell 1 (.string xs) (by omega) rfl
          have q2 := hcell 2 (.int .i64 xp) (by omega) rfl
          simp only [Nat.add_zero] at q0
          rw [← Nat.add_assoc] at q1 q2
          have BX := Blk.made wr 85 #[.string xl, .string xs, .int .i64 xp]
          have HX := Lib.hid (HS.out.later ((New.refl wr).alloc (.cells #[.string xl, .string xs, .int .i64 xp] 85)))
          have HK := Lib.hid (fun W (hn : New (wr.alloc (.cells #[.string xl, .string xs, .int .i64 xp] 85)) W) => HTake.out (posR imps i ++ fix.reverse) xp w.heap.size (w.heap.size + 1 + 1) (w.heap.size + 1) N W (HR.out.new (New.trans HX.out.new hn)) (HX.out.later hn).b (HX.out.later hn).u (HX.out.later hn).c HNN.out z3 hne2)
          have hgB := HS.out.c.lt
          have neX : some wr.heap.size ≠ some (w.heap.size + 1) := fun e => by have := Option.some.inj e; omega
          have neb : some w.heap.size ≠ some (w.heap.size + 1) := fun e => hne1 (Option.some.inj e)
          have g5 := HX.out.b.cell' 5 _ rfl
          have g2 := HX.out.b.cell' 2 _ rfl
          have i0 : (0 : Int) ≤ (i : Int) := by omega
          have i1 : (i : Int) < (n3 : Int) := by omega
          have HBad : Hid (impOK places image (posR imps i) fix.reverse ⟨xl, xs, xp⟩ = false → R = false) := Lib.hid (fun q => by rw [← HRR2.out, HGo.out, HG2.out, q]; rfl)
          have HFX : Hid (impOK places image (posR imps i) fix.reverse ⟨xl, xs, xp⟩ = (ltHead (posR imps i) xp && takeV places (posR imps i ++ fix.reverse) xp && decide (wordV image xp.toNat = 0) && pathOK xl && nameV xs)) := Lib.hid rfl
          have HTW : Hid (takeV places (posR imps i ++ fix.reverse) xp = true → withinV places xp = true) := Lib.hid (fun q => by unfold takeV at q; rw [Bool.and_eq_true] at q; exact q.1)
          have HPa := Lib.hid (fun w h => path_b xl w (by omega) h)
          have HNa := Lib.hid (fun w => name_any xs w (by omega))
          obtain ⟨tk, htk⟩ : ∃ tk, takeV places (posR imps i ++ fix.reverse) xp = tk := ⟨_, rfl⟩
          rw [htk] at HK HFX HTW
          obtain ⟨pk, hpk⟩ : ∃ pk, pathOK xl = pk := ⟨_, rfl⟩
          rw [hpk] at HPa HFX
          obtain ⟨nk, hnk⟩ : ∃ nk, nameV xs = nk := ⟨_, rfl⟩
          rw [hnk] at HNa HFX
          clear htk hpk hnk
          by_cases hz : i = 0
          · subst hz
            have HL : Hid (ltHead (posR imps 0) xp = true) := Lib.hid rfl
            rw [HL.out, Bool.true_and] at HFX
            simp only [Nat.zero_mul, Nat.add_zero] at q0 q1 q2
            clear hx hcell
            cases tk
            · have hRf := HBad.out (by rw [HFX.out]; rfl)
              subst hRf
              go_wp2_with (fail)
              refine wp_region_held_drew (S := (fun W => (wr.alloc (.cells #[.string xl, .string xs, .int .i64 xp] 85)).grownBy W (some (w.heap.size + 1)))) (by kernel_rfl) (new_grown (New.refl _).drew _) (fun hS => ?_)
              refine tkQ (i := 0) (oi := ?o1) (v := ?v1) ?h1 ?q1 ?y1 hS ?_; (case h1 => (simp only [gqA, gqB, gqC]; rfl)); (case q1 => exact fun _ _ _ h => h); (case y1 => (refine Or.inl ⟨by kernel_rfl, ?_⟩; intro wq hSq; clear hSq; go_simp; (try with_reducible rfl))); simp only [Act.put, List.setIfInBounds_toArray, List.set_cons_zero, List.set_cons_succ]
              refine tkQ (i := 1) (oi := ?o2) (v := ?v2) ?h2 ?q2 ?y2 hS ?_; (case h2 => (simp only [gqA, gqB, gqC]; rfl)); (case q2 => exact fun _ _ _ h => h); (case y2 => (refine Or.inl ⟨by kernel_rfl, ?_⟩; intro wq hSq; clear hSq; go_simp; (try with_reducible rfl))); simp only [Act.put, List.setIfInBounds_toArray, List.set_cons_zero, List.set_cons_succ]
              refine tkQ (i := 2) (oi := ?o3) (v := ?v3) ?h3 ?q3 ?y3 hS ?_; (case h3 => (simp only [gqA, gqB, gqC]; rfl)); (case q3 => exact fun _ _ _ h => h); (case y3 => (refine Or.inl ⟨by kernel_rfl, ?_⟩; intro wq hSq; clear hSq; go_simp; (try with_reducible rfl))); simp only [Act.put, List.setIfInBounds_toArray, List.set_cons_zero, List.set_cons_succ]
              refine tkQ (i := 3) (oi := ?o4) (v := undef) ?h4 ?q4 ?y4 hS ?_; (case h4 => (simp only [gqA, gqB, gqC]; rfl)); (case q4 => exact fun _ _ _ h => h); (case y4 => (exact Or.inr ⟨by kernel_rfl, rfl⟩)); simp only [Act.put, List.setIfInBounds_toArray, List.set_cons_zero, List.set_cons_succ]
              refine tkQ (i := 4) (oi := ?o5) (v := undef) ?h5 ?q5 ?y5 hS ?_; (case h5 => (simp only [gqA, gqB, gqC]; rfl)); (case q5 => exact fun _ _ _ h => h); (case y5 => (exact Or.inr ⟨by kernel_rfl, rfl⟩)); simp only [Act.put, List.setIfInBounds_toArray, List.set_cons_zero, List.set_cons_succ]
              refine tkQ (i := 5) (oi := ?o6) (v := undef) ?h6 ?q6 ?y6 hS ?_; (case h6 => (simp only [gqA, gqB, gqC]; rfl)); (case q6 => exact fun _ _ _ h => h); (case y6 => (exact Or.inr ⟨by kernel_rfl, rfl⟩)); simp only [Act.put, List.setIfInBounds_toArray, List.set_cons_zero, List.set_cons_succ]
              refine tkQ (i := 6) (oi := ?o7) (v := undef) ?h7 ?q7 ?y7 hS ?_; (case h7 => (simp only [gqA, gqB, gqC]; rfl)); (case q7 => exact fun _ _ _ h => h); (case y7 => (exact Or.inr ⟨by kernel_rfl, rfl⟩)); simp only [Act.put, List.setIfInBounds_toArray, List.set_cons_zero, List.set_cons_succ]
              refine tkQ (i := 7) (oi := ?o8) (v := undef) ?h8 ?q8 ?y8 hS ?_; (case h8 => (simp only [gqA, gqB, gqC]; rfl)); (case q8 => exact fun _ _ _ h => h); (case y8 => (exact Or.inr ⟨by kernel_rfl, rfl⟩)); simp only [Act.put, List.setIfInBounds_toArray, List.set_cons_zero, List.set_cons_succ]
              refine tkQ (i := 8) (oi := ?o9) (v := undef) ?h9 ?q9 ?y9 hS ?_; (case h9 => (simp only [gqA, gqB, gqC]; rfl)); (case q9 => exact fun _ _ _ h => h); (case y9 => (exact Or.inr ⟨by kernel_rfl, rfl⟩)); simp only [Act.put, List.setIfInBounds_toArray, List.set_cons_zero, List.set_cons_succ]
              refine tkQ (i := 9) (oi := ?o10) (v := undef) ?h10 ?q10 ?y10 hS ?_; (case h10 => (simp only [gqA, gqB, gqC]; rfl)); (case q10 => exact fun _ _ _ h => h); (case y10 => (exact Or.inr ⟨by kernel_rfl, rfl⟩)); simp only [Act.put, List.setIfInBounds_toArray, List.set_cons_zero, List.set_cons_succ]
              refine tkQ (i := 10) (oi := ?o11) (v := undef) ?h11 ?q11 ?y11 hS ?_; (case h11 => (simp only [gqA, gqB, gqC]; rfl)); (case q11 => exact fun _ _ _ h => h); (case y11 => (exact Or.inr ⟨by kernel_rfl, rfl⟩)); simp only [Act.put, List.setIfInBounds_toArray, List.set_cons_zero, List.set_cons_succ]
              refine tkQ (i := 11) (oi := ?o12) (v := undef) ?h12 ?q12 ?y12 hS ?_; (case h12 => (simp only [gqA, gqB, gqC]; rfl)); (case q12 => exact fun _ _ _ h => h); (case y12 => (exact Or.inr ⟨by kernel_rfl, rfl⟩)); simp only [Act.put, List.setIfInBounds_toArray, List.set_cons_zero, List.set_cons_succ]
              refine tkQ (i := 12) (oi := ?o13) (v := undef) ?h13 ?q13 ?y13 hS ?_; (case h13 => (simp only [gqA, gqB, gqC]; rfl)); (case q13 => exact fun _ _ _ h => h); (case y13 => (exact Or.inr ⟨by kernel_rfl, rfl⟩)); simp only [Act.put, List.setIfInBounds_toArray, List.set_cons_zero, List.set_cons_succ]
              refine tkQ (i := 13) (oi := ?o14) (v := ?v14) ?h14 ?q14 ?y14 hS ?_; (case h14 => (simp only [gqA, gqB, gqC]; rfl)); (case q14 => exact fun _ _ _ h => h); (case y14 => (refine Or.inl ⟨by kernel_rfl, ?_⟩; intro wq hSq; clear hSq; go_simp; (try with_reducible rfl))); simp only [Act.put, List.setIfInBounds_toArray, List.set_cons_zero, List.set_cons_succ]
              refine tkQ (i := 14) (oi := ?o15) (v := ?v15) ?h15 ?q15 ?y15 hS ?_; (case h15 => (simp only [gqA, gqB, gqC]; rfl)); (case q15 => exact fun _ _ _ h => h); (case y15 => (refine Or.inl ⟨by kernel_rfl, ?_⟩; intro wq hSq; clear hSq; go_simp; (try with_reducible rfl))); simp only [Act.put, List.setIfInBounds_toArray, List.set_cons_zero, List.set_cons_succ]
              refine tkQ (i := 15) (oi := ?o16) (v := ?v16) ?h16 ?q16 ?y16 hS ?_; (case h16 => (simp only [gqA, gqB, gqC]; rfl)); (case q16 => exact fun _ _ _ h => h); (case y16 => (refine Or.inl ⟨by kernel_rfl, ?_⟩; intro wq hSq; clear hSq; go_simp; (try with_reducible rfl))); simp only [Act.put, List.setIfInBounds_toArray, List.set_cons_zero, List.set_cons_succ]
              refine tkQ (i := 16) (oi := ?o17) (v := ?v17) ?h17 ?q17 ?y17 hS ?_; (case h17 => (simp only [gqA, gqB, gqC]; rfl)); (case q17 => exact fun _ _ _ h => h); (case y17 => (refine Or.inl ⟨by kernel_rfl, ?_⟩; intro wq hSq; clear hSq; go_simp; (try with_reducible rfl))); simp only [Act.put, List.setIfInBounds_toArray, List.set_cons_zero, List.set_cons_succ]
              refine tkQ (i := 17) (oi := ?o18) (v := ?v18) ?h18 ?q18 ?y18 hS ?_; (case h18 => (simp only [gqA, gqB, gqC]; rfl)); (case q18 => exact fun _ _ _ h => h); (case y18 => (refine Or.inl ⟨by kernel_rfl, ?_⟩; intro wq hSq; have hf0 := hSq.cell g5 neb; have hf1 := hSq.cell g2 neb; have hf2 := hSq.cell (BX.cell' 0 _ rfl) neX; have hf3 := hSq.cell (BX.cell' 1 _ rfl) neX; have hf4 := hSq.cell (BX.cell' 2 _ rfl) neX; clear hSq; go_simp; (try with_reducible rfl))); simp only [Act.put, List.setIfInBounds_toArray, List.set_cons_zero, List.set_cons_succ]
              refine wpAnyH_ready (rs := [18]) (by kernel_rfl) (by simp) ?_
              refine AllReadyH.cons (o := ?oi19) ?hi19 (fun K hK => ?_) AllReadyH.nil
              case hi19 => (simp only [gqA, gqB, gqC]; rfl)
              go_simp
              refine (HK.out _ (New.refl _).drew).mono ?_
              rintro e w2 ⟨rfl, hg2, hk2⟩
              refine hK.out _ _ (World.grownBy.trans hS hg2) (fun hS => ?_)
              clear hK K
              refine tkQ (i := 19) (oi := ?o20) (v := ?v20) ?h20 ?q20 ?y20 hS ?_; (case h20 => (simp only [gqA, gqB, gqC]; rfl)); (case q20 => exact fun _ _ _ h => h); (case y20 => (refine Or.inl ⟨by kernel_rfl, ?_⟩; intro wq hSq; clear hSq; go_simp; (try with_reducible rfl))); simp only [Act.put, List.setIfInBounds_toArray, List.set_cons_zero, List.set_cons_succ]
              refine tkQ (i := 20) (oi := ?o21) (v := ?v21) ?h21 ?q21 ?y21 hS ?_; (case h21 => (simp only [gqA, gqB, gqC]; rfl)); (case q21 => exact fun _ _ _ h => h); (case y21 => (refine Or.inl ⟨by kernel_rfl, ?_⟩; intro wq hSq; clear hSq; go_simp; (try with_reducible rfl))); simp only [Act.put, List.setIfInBounds_toArray, List.set_cons_zero, List.set_cons_succ]
              refine tkQ (i := 21) (oi := ?o22) (v := ?v22) ?h22 ?q22 ?y22 hS ?_; (case h22 => (simp only [gqA, gqB, gqC]; rfl)); (case q22 => exact fun _ _ _ h => h); (case y22 => (refine Or.inl ⟨by kernel_rfl, ?_⟩; intro wq hSq; clear hSq; go_simp; (try with_reducible rfl))); simp only [Act.put, List.setIfInBounds_toArray, List.set_cons_zero, List.set_cons_succ]
              refine tkQ (i := 22) (oi := ?o23) (v := undef) ?h23 ?q23 ?y23 hS ?_; (case h23 => (simp only [gqA, gqB, gqC]; rfl)); (case q23 => exact fun _ _ _ h => h); (case y23 => (exact Or.inr ⟨by kernel_rfl, rfl⟩)); simp only [Act.put, List.setIfInBounds_toArray, List.set_cons_zero, List.set_cons_succ]
              refine tkQ (i := 23) (oi := ?o24) (v := undef) ?h24 ?q24 ?y24 hS ?_; (case h24 => (simp only [gqA, gqB, gqC]; rfl)); (case q24 => exact fun _ _ _ h => h); (case y24 => (exact Or.inr ⟨by kernel_rfl, rfl⟩)); simp only [Act.put, List.setIfInBounds_toArray, List.set_cons_zero, List.set_cons_succ]
              refine tkQ (i := 24) (oi := ?o25) (v := undef) ?h25 ?q25 ?y25 hS ?_; (case h25 => (simp only [gqA, gqB, gqC]; rfl)); (case q25 => exact fun _ _ _ h => h); (case y25 => (exact Or.inr ⟨by kernel_rfl, rfl⟩)); simp only [Act.put, List.setIfInBounds_toArray, List.set_cons_zero, List.set_cons_succ]
              refine tkQ (i := 25) (oi := ?o26) (v := undef) ?h26 ?q26 ?y26 hS ?_; (case h26 => (simp only [gqA, gqB, gqC]; rfl)); (case q26 => exact fun _ _ _ h => h); (case y26 => (exact Or.inr ⟨by kernel_rfl, rfl⟩)); simp only [Act.put, List.setIfInBounds_toArray, List.set_cons_zero, List.set_cons_succ]
              refine tkQ (i := 26) (oi := ?o27) (v := undef) ?h27 ?q27 ?y27 hS ?_; (case h27 => (simp only [gqA, gqB, gqC]; rfl)); (case q27 => exact fun _ _ _ h => h); (case y27 => (exact Or.inr ⟨by kernel_rfl, rfl⟩)); simp only [Act.put, List.setIfInBounds_toArray, List.set_cons_zero, List.set_cons_succ]
              refine tkQ (i := 27) (oi := ?o28) (v := undef) ?h28 ?q28 ?y28 hS ?_; (case h28 => (simp only [gqA, gqB, gqC]; rfl)); (case q28 => exact fun _ _ _ h => h); (case y28 => (exact Or.inr ⟨by kernel_rfl, rfl⟩)); simp only [Act.put, List.setIfInBounds_toArray, List.set_cons_zero, List.set_cons_succ]
              refine tkQ (i := 28) (oi := ?o29) (v := ?v29) ?h29 ?q29 ?y29 hS ?_; (case h29 => (simp only [gqA, gqB, gqC]; rfl)); (case q29 => exact fun _ _ _ h => h); (case y29 => (refine Or.inl ⟨by kernel_rfl, ?_⟩; intro wq hSq; clear hSq; go_simp; (try with_reducible rfl))); simp only [Act.put, List.setIfInBounds_toArray, List.set_cons_zero, List.set_cons_succ]
              refine tkQ (i := 29) (oi := ?o30) (v := ?v30) ?h30 ?q30 ?y30 hS ?_; (case h30 => (simp only [gqA, gqB, gqC]; rfl)); (case q30 => exact fun _ _ _ h => h); (case y30 => (refine Or.inl ⟨by kernel_rfl, ?_⟩; intro wq hSq; clear hSq; go_simp; (try with_reducible rfl))); simp only [Act.put, List.setIfInBounds_toArray, List.set_cons_zero, List.set_cons_succ]
              refine tkQ (i := 30) (oi := ?o31) (v := undef) ?h31 ?q31 ?y31 hS ?_; (case h31 => (simp only [gqA, gqB, gqC]; rfl)); (case q31 => exact fun _ _ _ h => h); (case y31 => (exact Or.inr ⟨by kernel_rfl, rfl⟩)); simp only [Act.put, List.setIfInBounds_toArray, List.set_cons_zero, List.set_cons_succ]
              refine tkQ (i := 31) (oi := ?o32) (v := undef) ?h32 ?q32 ?y32 hS ?_; (case h32 => (simp only [gqA, gqB, gqC]; rfl)); (case q32 => exact fun _ _ _ h => h); (case y32 => (exact Or.inr ⟨by kernel_rfl, rfl⟩)); simp only [Act.put, List.setIfInBounds_toArray, List.set_cons_zero, List.set_cons_succ]
              refine tkQ (i := 32) (oi := ?o33) (v := undef) ?h33 ?q33 ?y33 hS ?_; (case h33 => (simp only [gqA, gqB, gqC]; rfl)); (case q33 => exact fun _ _ _ h => h); (case y33 => (exact Or.inr ⟨by kernel_rfl, rfl⟩)); simp only [Act.put, List.setIfInBounds_toArray, List.set_cons_zero, List.set_cons_succ]
              refine tkQ (i := 33) (oi := ?o34) (v := undef) ?h34 ?q34 ?y34 hS ?_; (case h34 => (simp only [gqA, gqB, gqC]; rfl)); (case q34 => exact fun _ _ _ h => h); (case y34 => (exact Or.inr ⟨by kernel_rfl, rfl⟩)); simp only [Act.put, List.setIfInBounds_toArray, List.set_cons_zero, List.set_cons_succ]
              refine tkQ (i := 34) (oi := ?o35) (v := ?v35) ?h35 ?q35 ?y35 hS ?_; (case h35 => (simp only [gqA, gqB, gqC]; rfl)); (case q35 => exact fun _ _ _ h => h); (case y35 => (refine Or.inl ⟨by kernel_rfl, ?_⟩; intro wq hSq; clear hSq; go_simp; (try with_reducible rfl))); simp only [Act.put, List.setIfInBounds_toArray, List.set_cons_zero, List.set_cons_succ]
              refine tkQ (i := 35) (oi := ?o36) (v := ?v36) ?h36 ?q36 ?y36 hS ?_; (case h36 => (simp only [gqA, gqB, gqC]; rfl)); (case q36 => exact fun _ _ _ h => h); (case y36 => (refine Or.inl ⟨by kernel_rfl, ?_⟩; intro wq hSq; clear hSq; go_simp; (try with_reducible rfl))); simp only [Act.put, List.setIfInBounds_toArray, List.set_cons_zero, List.set_cons_succ]
              refine tkQ (i := 36) (oi := ?o37) (v := undef) ?h37 ?q37 ?y37 hS ?_; (case h37 => (simp only [gqA, gqB, gqC]; rfl)); (case q37 => exact fun _ _ _ h => h); (case y37 => (exact Or.inr ⟨by kernel_rfl, rfl⟩)); simp only [Act.put, List.setIfInBounds_toArray, List.set_cons_zero, List.set_cons_succ]
              refine tkQ (i := 37) (oi := ?o38) (v := undef) ?h38 ?q38 ?y38 hS ?_; (case h38 => (simp only [gqA, gqB, gqC]; rfl)); (case q38 => exact fun _ _ _ h => h); (case y38 => (exact Or.inr ⟨by kernel_rfl, rfl⟩)); simp only [Act.put, List.setIfInBounds_toArray, List.set_cons_zero, List.set_cons_succ]
              refine tkQ (i := 38) (oi := ?o39) (v := undef) ?h39 ?q39 ?y39 hS ?_; (case h39 => (simp only [gqA, gqB, gqC]; rfl)); (case q39 => exact fun _ _ _ h => h); (case y39 => (exact Or.inr ⟨by kernel_rfl, rfl⟩)); simp only [Act.put, List.setIfInBounds_toArray, List.set_cons_zero, List.set_cons_succ]
              refine tkQ (i := 39) (oi := ?o40) (v := undef) ?h40 ?q40 ?y40 hS ?_; (case h40 => (simp only [gqA, gqB, gqC]; rfl)); (case q40 => exact fun _ _ _ h => h); (case y40 => (exact Or.inr ⟨by kernel_rfl, rfl⟩)); simp only [Act.put, List.setIfInBounds_toArray, List.set_cons_zero, List.set_cons_succ]
              refine tkQ (i := 40) (oi := ?o41) (v := ?v41) ?h41 ?q41 ?y41 hS ?_; (case h41 => (simp only [gqA, gqB, gqC]; rfl)); (case q41 => exact fun _ _ _ h => h); (case y41 => (refine Or.inl ⟨by kernel_rfl, ?_⟩; intro wq hSq; clear hSq; go_simp; (try with_reducible rfl))); simp only [Act.put, List.setIfInBounds_toArray, List.set_cons_zero, List.set_cons_succ]
              refine wpAnyH_done (by kernel_rfl) ?_ _
              go_wp2
              go_ret
              exact ⟨rfl, Below.grown (New.trans HX.out.new (New.refl _).drew) hg2 (by have := HX.out.new.size; simp; omega) (fun k hk => by have := Option.some.inj hk; omega)⟩
            · rw [Bool.true_and] at HFX
              obtain ⟨b1, b2⟩ := HBd.out xp (HTW.out rfl)
              obtain ⟨xn, rfl⟩ : ∃ xn : Nat, xp = (xn : Int) := ⟨xp.toNat, by omega⟩
              rw [Int.toNat_natCast] at HFX
              have HW := Lib.hid (fun W => word_any image xn W (by rw [HNN.out]; omega) (by rw [HNN.out]; omega))
              clear HTW
              generalize wordV image xn = wv at *
              by_cases hw0 : wv = 0
              · subst hw0
                rw [decide_eq_true rfl, Bool.true_and] at HFX
                cases pk
                · have hRf := HBad.out (by rw [HFX.out]; rfl)
                  subst hRf
                  go_wp2_with (fail)
                  refine wp_region_held_drew (S := (fun W => (wr.alloc (.cells #[.string xl, .string xs, .int .i64 (xn : Int)] 85)).grownBy W (some (w.heap.size + 1)))) (by kernel_rfl) (new_grown (New.refl _).drew _) (fun hS => ?_)
                  refine tkQ (i := 0) (oi := ?o42) (v := ?v42) ?h42 ?q42 ?y42 hS ?_; (case h42 => (simp only [gqA, gqB, gqC]; rfl)); (case q42 => exact fun _ _ _ h => h); (case y42 => (refine Or.inl ⟨by kernel_rfl, ?_⟩; intro wq hSq; clear hSq; go_simp; (try with_reducible rfl))); simp only [Act.put, List.setIfInBounds_toArray, List.set_cons_zero, List.set_cons_succ]
                  refine tkQ (i := 1) (oi := ?o43) (v := ?v43) ?h43 ?q43 ?y43 hS ?_; (case h43 => (simp only [gqA, gqB, gqC]; rfl)); (case q43 => exact fun _ _ _ h => h); (case y43 => (refine Or.inl ⟨by kernel_rfl, ?_⟩; intro wq hSq; clear hSq; go_simp; (try with_reducible rfl))); simp only [Act.put, List.setIfInBounds_toArray, List.set_cons_zero, List.set_cons_succ]
                  refine tkQ (i := 2) (oi := ?o44) (v := ?v44) ?h44 ?q44 ?y44 hS ?_; (case h44 => (simp only [gqA, gqB, gqC]; rfl)); (case q44 => exact fun _ _ _ h => h); (case y44 => (refine Or.inl ⟨by kernel_rfl, ?_⟩; intro wq hSq; clear hSq; go_simp; (try with_reducible rfl))); simp only [Act.put, List.setIfInBounds_toArray, List.set_cons_zero, List.set_cons_succ]
                  refine tkQ (i := 3) (oi := ?o45) (v := undef) ?h45 ?q45 ?y45 hS ?_; (case h45 => (simp only [gqA, gqB, gqC]; rfl)); (case q45 => exact fun _ _ _ h => h); (case y45 => (exact Or.inr ⟨by kernel_rfl, rfl⟩)); simp only [Act.put, List.setIfInBounds_toArray, List.set_cons_zero, List.set_cons_succ]
                  refine tkQ (i := 4) (oi := ?o46) (v := undef) ?h46 ?q46 ?y46 hS ?_; (case h46 => (simp only [gqA, gqB, gqC]; rfl)); (case q46 => exact fun _ _ _ h => h); (case y46 => (exact Or.inr ⟨by kernel_rfl, rfl⟩)); simp only [Act.put, List.setIfInBounds_toArray, List.set_cons_zero, List.set_cons_succ]
                  refine tkQ (i := 5) (oi := ?o47) (v := undef) ?h47 ?q47 ?y47 hS ?_; (case h47 => (simp only [gqA, gqB, gqC]; rfl)); (case q47 => exact fun _ _ _ h => h); (case y47 => (exact Or.inr ⟨by kernel_rfl, rfl⟩)); simp only [Act.put, List.setIfInBounds_toArray, List.set_cons_zero, List.set_cons_succ]
                  refine tkQ (i := 6) (oi := ?o48) (v := undef) ?h48 ?q48 ?y48 hS ?_; (case h48 => (simp only [gqA, gqB, gqC]; rfl)); (case q48 => exact fun _ _ _ h => h); (case y48 => (exact Or.inr ⟨by kernel_rfl, rfl⟩)); simp only [Act.put, List.setIfInBounds_toArray, List.set_cons_zero, List.set_cons_succ]
                  refine tkQ (i := 7) (oi := ?o49) (v := undef) ?h49 ?q49 ?y49 hS ?_; (case h49 => (simp only [gqA, gqB, gqC]; rfl)); (case q49 => exact fun _ _ _ h => h); (case y49 => (exact Or.inr ⟨by kernel_rfl, rfl⟩)); simp only [Act.put, List.setIfInBounds_toArray, List.set_cons_zero, List.set_cons_succ]
                  refine tkQ (i := 8) (oi := ?o50) (v := undef) ?h50 ?q50 ?y50 hS ?_; (case h50 => (simp only [gqA, gqB, gqC]; rfl)); (case q50 => exact fun _ _ _ h => h); (case y50 => (exact Or.inr ⟨by kernel_rfl, rfl⟩)); simp only [Act.put, List.setIfInBounds_toArray, List.set_cons_zero, List.set_cons_succ]
                  refine tkQ (i := 9) (oi := ?o51) (v := undef) ?h51 ?q51 ?y51 hS ?_; (case h51 => (simp only [gqA, gqB, gqC]; rfl)); (case q51 => exact fun _ _ _ h => h); (case y51 => (exact Or.inr ⟨by kernel_rfl, rfl⟩)); simp only [Act.put, List.setIfInBounds_toArray, List.set_cons_zero, List.set_cons_succ]
                  refine tkQ (i := 10) (oi := ?o52) (v := undef) ?h52 ?q52 ?y52 hS ?_; (case h52 => (simp only [gqA, gqB, gqC]; rfl)); (case q52 => exact fun _ _ _ h => h); (case y52 => (exact Or.inr ⟨by kernel_rfl, rfl⟩)); simp only [Act.put, List.setIfInBounds_toArray, List.set_cons_zero, List.set_cons_succ]
                  refine tkQ (i := 11) (oi := ?o53) (v := undef) ?h53 ?q53 ?y53 hS ?_; (case h53 => (simp only [gqA, gqB, gqC]; rfl)); (case q53 => exact fun _ _ _ h => h); (case y53 => (exact Or.inr ⟨by kernel_rfl, rfl⟩)); simp only [Act.put, List.setIfInBounds_toArray, List.set_cons_zero, List.set_cons_succ]
                  refine tkQ (i := 12) (oi := ?o54) (v := undef) ?h54 ?q54 ?y54 hS ?_; (case h54 => (simp only [gqA, gqB, gqC]; rfl)); (case q54 => exact fun _ _ _ h => h); (case y54 => (exact Or.inr ⟨by kernel_rfl, rfl⟩)); simp only [Act.put, List.setIfInBounds_toArray, List.set_cons_zero, List.set_cons_succ]
                  refine tkQ (i := 13) (oi := ?o55) (v := ?v55) ?h55 ?q55 ?y55 hS ?_; (case h55 => (simp only [gqA, gqB, gqC]; rfl)); (case q55 => exact fun _ _ _ h => h); (case y55 => (refine Or.inl ⟨by kernel_rfl, ?_⟩; intro wq hSq; clear hSq; go_simp; (try with_reducible rfl))); simp only [Act.put, List.setIfInBounds_toArray, List.set_cons_zero, List.set_cons_succ]
                  refine tkQ (i := 14) (oi := ?o56) (v := ?v56) ?h56 ?q56 ?y56 hS ?_; (case h56 => (simp only [gqA, gqB, gqC]; rfl)); (case q56 => exact fun _ _ _ h => h); (case y56 => (refine Or.inl ⟨by kernel_rfl, ?_⟩; intro wq hSq; clear hSq; go_simp; (try with_reducible rfl))); simp only [Act.put, List.setIfInBounds_toArray, List.set_cons_zero, List.set_cons_succ]
                  refine tkQ (i := 15) (oi := ?o57) (v := ?v57) ?h57 ?q57 ?y57 hS ?_; (case h57 => (simp only [gqA, gqB, gqC]; rfl)); (case q57 => exact fun _ _ _ h => h); (case y57 => (refine Or.inl ⟨by kernel_rfl, ?_⟩; intro wq hSq; clear hSq; go_simp; (try with_reducible rfl))); simp only [Act.put, List.setIfInBounds_toArray, List.set_cons_zero, List.set_cons_succ]
                  refine tkQ (i := 16) (oi := ?o58) (v := ?v58) ?h58 ?q58 ?y58 hS ?_; (case h58 => (simp only [gqA, gqB, gqC]; rfl)); (case q58 => exact fun _ _ _ h => h); (case y58 => (refine Or.inl ⟨by kernel_rfl, ?_⟩; intro wq hSq; clear hSq; go_simp; (try with_reducible rfl))); simp only [Act.put, List.setIfInBounds_toArray, List.set_cons_zero, List.set_cons_succ]
                  refine tkQ (i := 17) (oi := ?o59) (v := ?v59) ?h59 ?q59 ?y59 hS ?_; (case h59 => (simp only [gqA, gqB, gqC]; rfl)); (case q59 => exact fun _ _ _ h => h); (case y59 => (refine Or.inl ⟨by kernel_rfl, ?_⟩; intro wq hSq; have hf0 := hSq.cell g5 neb; have hf1 := hSq.cell g2 neb; have hf2 := hSq.cell (BX.cell' 0 _ rfl) neX; have hf3 := hSq.cell (BX.cell' 1 _ rfl) neX; have hf4 := hSq.cell (BX.cell' 2 _ rfl) neX; clear hSq; go_simp; (try with_reducible rfl))); simp only [Act.put, List.setIfInBounds_toArray, List.set_cons_zero, List.set_cons_succ]
                  refine wpAnyH_ready (rs := [18]) (by kernel_rfl) (by simp) ?_
                  refine AllReadyH.cons (o := ?oi60) ?hi60 (fun K hK => ?_) AllReadyH.nil
                  case hi60 => (simp only [gqA, gqB, gqC]; rfl)
                  go_simp
                  refine (HK.out _ (New.refl _).drew).mono ?_
                  rintro e w2 ⟨rfl, hg2, hk2⟩
                  have HS2 := Lib.hid ((HX.out.later (New.refl _).drew).step hg2 (hk2.out trivial) hne3 hne1 hne2)
                  refine hK.out _ _ (World.grownBy.trans hS hg2) (fun hS => ?_)
                  clear hK K
                  refine tkQ (i := 19) (oi := ?o61) (v := ?v61) ?h61 ?q61 ?y61 hS ?_; (case h61 => (simp only [gqA, gqB, gqC]; rfl)); (case q61 => exact fun _ _ _ h => h); (case y61 => (refine Or.inl ⟨by kernel_rfl, ?_⟩; intro wq hSq; clear hSq; go_simp; (try with_reducible rfl))); simp only [Act.put, List.setIfInBounds_toArray, List.set_cons_zero, List.set_cons_succ]
                  refine tkQ (i := 20) (oi := ?o62) (v := ?v62) ?h62 ?q62 ?y62 hS ?_; (case h62 => (simp only [gqA, gqB, gqC]; rfl)); (case q62 => exact fun _ _ _ h => h); (case y62 => (refine Or.inl ⟨by kernel_rfl, ?_⟩; intro wq hSq; clear hSq; go_simp; (try with_reducible rfl))); simp only [Act.put, List.setIfInBounds_toArray, List.set_cons_zero, List.set_cons_succ]
                  refine tkQ (i := 21) (oi := ?o63) (v := ?v63) ?h63 ?q63 ?y63 hS ?_; (case h63 => (simp only [gqA, gqB, gqC]; rfl)); (case q63 => exact fun _ _ _ h => h); (case y63 => (refine Or.inl ⟨by kernel_rfl, ?_⟩; intro wq hSq; clear hSq; go_simp; (try with_reducible rfl))); simp only [Act.put, List.setIfInBounds_toArray, List.set_cons_zero, List.set_cons_succ]
                  refine tkQ (i := 22) (oi := ?o64) (v := ?v64) ?h64 ?q64 ?y64 hS ?_; (case h64 => (simp only [gqA, gqB, gqC]; rfl)); (case q64 => exact fun _ _ _ h => h); (case y64 => (refine Or.inl ⟨by kernel_rfl, ?_⟩; intro wq hSq; clear hSq; go_simp; (try with_reducible rfl))); simp only [Act.put, List.setIfInBounds_toArray, List.set_cons_zero, List.set_cons_succ]
                  refine tkQ (i := 23) (oi := ?o65) (v := ?v65) ?h65 ?q65 ?y65 hS ?_; (case h65 => (simp only [gqA, gqB, gqC]; rfl)); (case q65 => exact fun _ _ _ h => h); (case y65 => (refine Or.inl ⟨by kernel_rfl, ?_⟩; intro wq hSq; have hf0 := hSq.cell g5 neb; have hf1 := hSq.cell g2 neb; have hf2 := hSq.cell (BX.cell' 0 _ rfl) neX; have hf3 := hSq.cell (BX.cell' 1 _ rfl) neX; have hf4 := hSq.cell (BX.cell' 2 _ rfl) neX; clear hSq; go_simp; (try with_reducible rfl))); simp only [Act.put, List.setIfInBounds_toArray, List.set_cons_zero, List.set_cons_succ]
                  refine tkQ (i := 24) (oi := ?o66) (v := ?v66) ?h66 ?q66 ?y66 hS ?_; (case h66 => (simp only [gqA, gqB, gqC]; rfl)); (case q66 => exact fun _ _ _ h => h); (case y66 => (refine Or.inl ⟨by kernel_rfl, ?_⟩; intro wq hSq; clear hSq; go_simp; (try with_reducible rfl))); simp only [Act.put, List.setIfInBounds_toArray, List.set_cons_zero, List.set_cons_succ]
                  refine tkQ (i := 25) (oi := ?o67) (v := ?v67) ?h67 ?q67 ?y67 hS ?_; (case h67 => (simp only [gqA, gqB, gqC]; rfl)); (case q67 => exact fun _ _ _ h => h); (case y67 => (refine Or.inl ⟨by kernel_rfl, ?_⟩; intro wq hSq; have hf0 := hSq.cell g5 neb; have hf1 := hSq.cell g2 neb; have hf2 := hSq.cell (BX.cell' 0 _ rfl) neX; have hf3 := hSq.cell (BX.cell' 1 _ rfl) neX; have hf4 := hSq.cell (BX.cell' 2 _ rfl) neX; clear hSq; go_simp; (try with_reducible rfl))); simp only [Act.put, List.setIfInBounds_toArray, List.set_cons_zero, List.set_cons_succ]
                  refine wpAnyH_ready (rs := [26]) (by kernel_rfl) (by simp) ?_
                  refine AllReadyH.cons (o := ?oi68) ?hi68 (fun K hK => ?_) AllReadyH.nil
                  case hi68 => (simp only [gqA, gqB, gqC]; rfl)
                  go_simp
                  refine (HW.out _).mono ?_
                  rintro e w3 ⟨rfl, hn3⟩
                  refine hK.out _ _ (grown_new hS hn3) (fun hS => ?_)
                  clear hK K
                  refine tkQ (i := 27) (oi := ?o69) (v := ?v69) ?h69 ?q69 ?y69 hS ?_; (case h69 => (simp only [gqA, gqB, gqC]; rfl)); (case q69 => exact fun _ _ _ h => h); (case y69 => (refine Or.inl ⟨by kernel_rfl, ?_⟩; intro wq hSq; clear hSq; go_simp; (try with_reducible rfl))); simp only [Act.put, List.setIfInBounds_toArray, List.set_cons_zero, List.set_cons_succ]
                  refine tkQ (i := 28) (oi := ?o70) (v := ?v70) ?h70 ?q70 ?y70 hS ?_; (case h70 => (simp only [gqA, gqB, gqC]; rfl)); (case q70 => exact fun _ _ _ h => h); (case y70 => (refine Or.inl ⟨by kernel_rfl, ?_⟩; intro wq hSq; clear hSq; go_simp; (try with_reducible rfl))); simp only [Act.put, List.setIfInBounds_toArray, List.set_cons_zero, List.set_cons_succ]
                  refine tkQ (i := 29) (oi := ?o71) (v := ?v71) ?h71 ?q71 ?y71 hS ?_; (case h71 => (simp only [gqA, gqB, gqC]; rfl)); (case q71 => exact fun _ _ _ h => h); (case y71 => (refine Or.inl ⟨by kernel_rfl, ?_⟩; intro wq hSq; clear hSq; go_simp; (try with_reducible rfl))); simp only [Act.put, List.setIfInBounds_toArray, List.set_cons_zero, List.set_cons_succ]
                  refine tkQ (i := 30) (oi := ?o72) (v := ?v72) ?h72 ?q72 ?y72 hS ?_; (case h72 => (simp only [gqA, gqB, gqC]; rfl)); (case q72 => exact fun _ _ _ h => h); (case y72 => (refine Or.inl ⟨by kernel_rfl, ?_⟩; intro wq hSq; clear hSq; go_simp; (try with_reducible rfl))); simp only [Act.put, List.setIfInBounds_toArray, List.set_cons_zero, List.set_cons_succ]
                  refine tkQ (i := 31) (oi := ?o73) (v := ?v73) ?h73 ?q73 ?y73 hS ?_; (case h73 => (simp only [gqA, gqB, gqC]; rfl)); (case q73 => exact fun _ _ _ h => h); (case y73 => (refine Or.inl ⟨by kernel_rfl, ?_⟩; intro wq hSq; have hf0 := hSq.cell g5 neb; have hf1 := hSq.cell g2 neb; have hf2 := hSq.cell (BX.cell' 0 _ rfl) neX; have hf3 := hSq.cell (BX.cell' 1 _ rfl) neX; have hf4 := hSq.cell (BX.cell' 2 _ rfl) neX; clear hSq; go_simp; (try with_reducible rfl))); simp only [Act.put, List.setIfInBounds_toArray, List.set_cons_zero, List.set_cons_succ]
                  refine wpAnyH_ready (rs := [32]) (by kernel_rfl) (by simp) ?_
                  refine AllReadyH.cons (o := ?oi74) ?hi74 (fun K hK => ?_) AllReadyH.nil
                  case hi74 => (simp only [gqA, gqB, gqC]; rfl)
                  go_simp
                  refine (HPa.out _ (HE.out.new (New.trans HS2.out.new hn3))).mono ?_
                  rintro e w4 ⟨rfl, hn4⟩
                  refine hK.out _ _ (grown_new hS hn4) (fun hS => ?_)
                  clear hK K
                  refine tkQ (i := 33) (oi := ?o75) (v := ?v75) ?h75 ?q75 ?y75 hS ?_; (case h75 => (simp only [gqA, gqB, gqC]; rfl)); (case q75 => exact fun _ _ _ h => h); (case y75 => (refine Or.inl ⟨by kernel_rfl, ?_⟩; intro wq hSq; clear hSq; go_simp; (try with_reducible rfl))); simp only [Act.put, List.setIfInBounds_toArray, List.set_cons_zero, List.set_cons_succ]
                  refine tkQ (i := 34) (oi := ?o76) (v := ?v76) ?h76 ?q76 ?y76 hS ?_; (case h76 => (simp only [gqA, gqB, gqC]; rfl)); (case q76 => exact fun _ _ _ h => h); (case y76 => (refine Or.inl ⟨by kernel_rfl, ?_⟩; intro wq hSq; clear hSq; go_simp; (try with_reducible rfl))); simp only [Act.put, List.setIfInBounds_toArray, List.set_cons_zero, List.set_cons_succ]
                  refine tkQ (i := 35) (oi := ?o77) (v := ?v77) ?h77 ?q77 ?y77 hS ?_; (case h77 => (simp only [gqA, gqB, gqC]; rfl)); (case q77 => exact fun _ _ _ h => h); (case y77 => (refine Or.inl ⟨by kernel_rfl, ?_⟩; intro wq hSq; clear hSq; go_simp; (try with_reducible rfl))); simp only [Act.put, List.setIfInBounds_toArray, List.set_cons_zero, List.set_cons_succ]
                  refine tkQ (i := 36) (oi := ?o78) (v := undef) ?h78 ?q78 ?y78 hS ?_; (case h78 => (simp only [gqA, gqB, gqC]; rfl)); (case q78 => exact fun _ _ _ h => h); (case y78 => (exact Or.inr ⟨by kernel_rfl, rfl⟩)); simp only [Act.put, List.setIfInBounds_toArray, List.set_cons_zero, List.set_cons_succ]
                  refine tkQ (i := 37) (oi := ?o79) (v := undef) ?h79 ?q79 ?y79 hS ?_; (case h79 => (simp only [gqA, gqB, gqC]; rfl)); (case q79 => exact fun _ _ _ h => h); (case y79 => (exact Or.inr ⟨by kernel_rfl, rfl⟩)); simp only [Act.put, List.setIfInBounds_toArray, List.set_cons_zero, List.set_cons_succ]
                  refine tkQ (i := 38) (oi := ?o80) (v := undef) ?h80 ?q80 ?y80 hS ?_; (case h80 => (simp only [gqA, gqB, gqC]; rfl)); (case q80 => exact fun _ _ _ h => h); (case y80 => (exact Or.inr ⟨by kernel_rfl, rfl⟩)); simp only [Act.put, List.setIfInBounds_toArray, List.set_cons_zero, List.set_cons_succ]
                  refine tkQ (i := 39) (oi := ?o81) (v := undef) ?h81 ?q81 ?y81 hS ?_; (case h81 => (simp only [gqA, gqB, gqC]; rfl)); (case q81 => exact fun _ _ _ h => h); (case y81 => (exact Or.inr ⟨by kernel_rfl, rfl⟩)); simp only [Act.put, List.setIfInBounds_toArray, List.set_cons_zero, List.set_cons_succ]
                  refine tkQ (i := 40) (oi := ?o82) (v := ?v82) ?h82 ?q82 ?y82 hS ?_; (case h82 => (simp only [gqA, gqB, gqC]; rfl)); (case q82 => exact fun _ _ _ h => h); (case y82 => (refine Or.inl ⟨by kernel_rfl, ?_⟩; intro wq hSq; clear hSq; go_simp; (try with_reducible rfl))); simp only [Act.put, List.setIfInBounds_toArray, List.set_cons_zero, List.set_cons_succ]
                  refine wpAnyH_done (by kernel_rfl) ?_ _
                  go_wp2
                  go_ret
                  exact ⟨rfl, New.trans HS2.out.new (New.trans hn3 hn4)⟩
                · rw [Bool.true_and] at HFX
                  cases nk
                  · have hRf := HBad.out HFX.out
                    subst hRf
                    go_wp2_with (fail)
                    refine wp_region_held_drew (S := (fun W => (wr.alloc (.cells #[.string xl, .string xs, .int .i64 (xn : Int)] 85)).grownBy W (some (w.heap.size + 1)))) (by kernel_rfl) (new_grown (New.refl _).drew _) (fun hS => ?_)
                    refine tkQ (i := 0) (oi := ?o83) (v := ?v83) ?h83 ?q83 ?y83 hS ?_; (case h83 => (simp only [gqA, gqB, gqC]; rfl)); (case q83 => exact fun _ _ _ h => h); (case y83 => (refine Or.inl ⟨by kernel_rfl, ?_⟩; intro wq hSq; clear hSq; go_simp; (try with_reducible rfl))); simp only [Act.put, List.setIfInBounds_toArray, List.set_cons_zero, List.set_cons_succ]
                    refine tkQ (i := 1) (oi := ?o84) (v := ?v84) ?h84 ?q84 ?y84 hS ?_; (case h84 => (simp only [gqA, gqB, gqC]; rfl)); (case q84 => exact fun _ _ _ h => h); (case y84 => (refine Or.inl ⟨by kernel_rfl, ?_⟩; intro wq hSq; clear hSq; go_simp; (try with_reducible rfl))); simp only [Act.put, List.setIfInBounds_toArray, List.set_cons_zero, List.set_cons_succ]
                    refine tkQ (i := 2) (oi := ?o85) (v := ?v85) ?h85 ?q85 ?y85 hS ?_; (case h85 => (simp only [gqA, gqB, gqC]; rfl)); (case q85 => exact fun _ _ _ h => h); (case y85 => (refine Or.inl ⟨by kernel_rfl, ?_⟩; intro wq hSq; clear hSq; go_simp; (try with_reducible rfl))); simp only [Act.put, List.setIfInBounds_toArray, List.set_cons_zero, List.set_cons_succ]
                    refine tkQ (i := 3) (oi := ?o86) (v := undef) ?h86 ?q86 ?y86 hS ?_; (case h86 => (simp only [gqA, gqB, gqC]; rfl)); (case q86 => exact fun _ _ _ h => h); (case y86 => (exact Or.inr ⟨by kernel_rfl, rfl⟩)); simp only [Act.put, List.setIfInBounds_toArray, List.set_cons_zero, List.set_cons_succ]
                    refine tkQ (i := 4) (oi := ?o87) (v := undef) ?h87 ?q87 ?y87 hS ?_; (case h87 => (simp only [gqA, gqB, gqC]; rfl)); (case q87 => exact fun _ _ _ h => h); (case y87 => (exact Or.inr ⟨by kernel_rfl, rfl⟩)); simp only [Act.put, List.setIfInBounds_toArray, List.set_cons_zero, List.set_cons_succ]
                    refine tkQ (i := 5) (oi := ?o88) (v := undef) ?h88 ?q88 ?y88 hS ?_; (case h88 => (simp only [gqA, gqB, gqC]; rfl)); (case q88 => exact fun _ _ _ h => h); (case y88 => (exact Or.inr ⟨by kernel_rfl, rfl⟩)); simp only [Act.put, List.setIfInBounds_toArray, List.set_cons_zero, List.set_cons_succ]
                    refine tkQ (i := 6) (oi := ?o89) (v := undef) ?h89 ?q89 ?y89 hS ?_; (case h89 => (simp only [gqA, gqB, gqC]; rfl)); (case q89 => exact fun _ _ _ h => h); (case y89 => (exact Or.inr ⟨by kernel_rfl, rfl⟩)); simp only [Act.put, List.setIfInBounds_toArray, List.set_cons_zero, List.set_cons_succ]
                    refine tkQ (i := 7) (oi := ?o90) (v := undef) ?h90 ?q90 ?y90 hS ?_; (case h90 => (simp only [gqA, gqB, gqC]; rfl)); (case q90 => exact fun _ _ _ h => h); (case y90 => (exact Or.inr ⟨by kernel_rfl, rfl⟩)); simp only [Act.put, List.setIfInBounds_toArray, List.set_cons_zero, List.set_cons_succ]
                    refine tkQ (i := 8) (oi := ?o91) (v := undef) ?h91 ?q91 ?y91 hS ?_; (case h91 => (simp only [gqA, gqB, gqC]; rfl)); (case q91 => exact fun _ _ _ h => h); (case y91 => (exact Or.inr ⟨by kernel_rfl, rfl⟩)); simp only [Act.put, List.setIfInBounds_toArray, List.set_cons_zero, List.set_cons_succ]
                    refine tkQ (i := 9) (oi := ?o92) (v := undef) ?h92 ?q92 ?y92 hS ?_; (case h92 => (simp only [gqA, gqB, gqC]; rfl)); (case q92 => exact fun _ _ _ h => h); (case y92 => (exact Or.inr ⟨by kernel_rfl, rfl⟩)); simp only [Act.put, List.setIfInBounds_toArray, List.set_cons_zero, List.set_cons_succ]
                    refine tkQ (i := 10) (oi := ?o93) (v := undef) ?h93 ?q93 ?y93 hS ?_; (case h93 => (simp only [gqA, gqB, gqC]; rfl)); (case q93 => exact fun _ _ _ h => h); (case y93 => (exact Or.inr ⟨by kernel_rfl, rfl⟩)); simp only [Act.put, List.setIfInBounds_toArray, List.set_cons_zero, List.set_cons_succ]
                    refine tkQ (i := 11) (oi := ?o94) (v := undef) ?h94 ?q94 ?y94 hS ?_; (case h94 => (simp only [gqA, gqB, gqC]; rfl)); (case q94 => exact fun _ _ _ h => h); (case y94 => (exact Or.inr ⟨by kernel_rfl, rfl⟩)); simp only [Act.put, List.setIfInBounds_toArray, List.set_cons_zero, List.set_cons_succ]
                    refine tkQ (i := 12) (oi := ?o95) (v := undef) ?h95 ?q95 ?y95 hS ?_; (case h95 => (simp only [gqA, gqB, gqC]; rfl)); (case q95 => exact fun _ _ _ h => h); (case y95 => (exact Or.inr ⟨by kernel_rfl, rfl⟩)); simp only [Act.put, List.setIfInBounds_toArray, List.set_cons_zero, List.set_cons_succ]
                    refine tkQ (i := 13) (oi := ?o96) (v := ?v96) ?h96 ?q96 ?y96 hS ?_; (case h96 => (simp only [gqA, gqB, gqC]; rfl)); (case q96 => exact fun _ _ _ h => h); (case y96 => (refine Or.inl ⟨by kernel_rfl, ?_⟩; intro wq hSq; clear hSq; go_simp; (try with_reducible rfl))); simp only [Act.put, List.setIfInBounds_toArray, List.set_cons_zero, List.set_cons_succ]
                    refine tkQ (i := 14) (oi := ?o97) (v := ?v97) ?h97 ?q97 ?y97 hS ?_; (case h97 => (simp only [gqA, gqB, gqC]; rfl)); (case q97 => exact fun _ _ _ h => h); (case y97 => (refine Or.inl ⟨by kernel_rfl, ?_⟩; intro wq hSq; clear hSq; go_simp; (try with_reducible rfl))); simp only [Act.put, List.setIfInBounds_toArray, List.set_cons_zero, List.set_cons_succ]
                    refine tkQ (i := 15) (oi := ?o98) (v := ?v98) ?h98 ?q98 ?y98 hS ?_; (case h98 => (simp only [gqA, gqB, gqC]; rfl)); (case q98 => exact fun _ _ _ h => h); (case y98 => (refine Or.inl ⟨by kernel_rfl, ?_⟩; intro wq hSq; clear hSq; go_simp; (try with_reducible rfl))); simp only [Act.put, List.setIfInBounds_toArray, List.set_cons_zero, List.set_cons_succ]
                    refine tkQ (i := 16) (oi := ?o99) (v := ?v99) ?h99 ?q99 ?y99 hS ?_; (case h99 => (simp only [gqA, gqB, gqC]; rfl)); (case q99 => exact fun _ _ _ h => h); (case y99 => (refine Or.inl ⟨by kernel_rfl, ?_⟩; intro wq hSq; clear hSq; go_simp; (try with_reducible rfl))); simp only [Act.put, List.setIfInBounds_toArray, List.set_cons_zero, List.set_cons_succ]
                    refine tkQ (i := 17) (oi := ?o100) (v := ?v100) ?h100 ?q100 ?y100 hS ?_; (case h100 => (simp only [gqA, gqB, gqC]; rfl)); (case q100 => exact fun _ _ _ h => h); (case y100 => (refine Or.inl ⟨by kernel_rfl, ?_⟩; intro wq hSq; have hf0 := hSq.cell g5 neb; have hf1 := hSq.cell g2 neb; have hf2 := hSq.cell (BX.cell' 0 _ rfl) neX; have hf3 := hSq.cell (BX.cell' 1 _ rfl) neX; have hf4 := hSq.cell (BX.cell' 2 _ rfl) neX; clear hSq; go_simp; (try with_reducible rfl))); simp only [Act.put, List.setIfInBounds_toArray, List.set_cons_zero, List.set_cons_succ]
                    refine wpAnyH_ready (rs := [18]) (by kernel_rfl) (by simp) ?_
                    refine AllReadyH.cons (o := ?oi101) ?hi101 (fun K hK => ?_) AllReadyH.nil
                    case hi101 => (simp only [gqA, gqB, gqC]; rfl)
                    go_simp
                    refine (HK.out _ (New.refl _).drew).mono ?_
                    rintro e w2 ⟨rfl, hg2, hk2⟩
                    have HS2 := Lib.hid ((HX.out.later (New.refl _).drew).step hg2 (hk2.out trivial) hne3 hne1 hne2)
                    refine hK.out _ _ (World.grownBy.trans hS hg2) (fun hS => ?_)
                    clear hK K
                    refine tkQ (i := 19) (oi := ?o102) (v := ?v102) ?h102 ?q102 ?y102 hS ?_; (case h102 => (simp only [gqA, gqB, gqC]; rfl)); (case q102 => exact fun _ _ _ h => h); (case y102 => (refine Or.inl ⟨by kernel_rfl, ?_⟩; intro wq hSq; clear hSq; go_simp; (try with_reducible rfl))); simp only [Act.put, List.setIfInBounds_toArray, List.set_cons_zero, List.set_cons_succ]
                    refine tkQ (i := 20) (oi := ?o103) (v := ?v103) ?h103 ?q103 ?y103 hS ?_; (case h103 => (simp only [gqA, gqB, gqC]; rfl)); (case q103 => exact fun _ _ _ h => h); (case y103 => (refine Or.inl ⟨by kernel_rfl, ?_⟩; intro wq hSq; clear hSq; go_simp; (try with_reducible rfl))); simp only [Act.put, List.setIfInBounds_toArray, List.set_cons_zero, List.set_cons_succ]
                    refine tkQ (i := 21) (oi := ?o104) (v := ?v104) ?h104 ?q104 ?y104 hS ?_; (case h104 => (simp only [gqA, gqB, gqC]; rfl)); (case q104 => exact fun _ _ _ h => h); (case y104 => (refine Or.inl ⟨by kernel_rfl, ?_⟩; intro wq hSq; clear hSq; go_simp; (try with_reducible rfl))); simp only [Act.put, List.setIfInBounds_toArray, List.set_cons_zero, List.set_cons_succ]
                    refine tkQ (i := 22) (oi := ?o105) (v := ?v105) ?h105 ?q105 ?y105 hS ?_; (case h105 => (simp only [gqA, gqB, gqC]; rfl)); (case q105 => exact fun _ _ _ h => h); (case y105 => (refine Or.inl ⟨by kernel_rfl, ?_⟩; intro wq hSq; clear hSq; go_simp; (try with_reducible rfl))); simp only [Act.put, List.setIfInBounds_toArray, List.set_cons_zero, List.set_cons_succ]
                    refine tkQ (i := 23) (oi := ?o106) (v := ?v106) ?h106 ?q106 ?y106 hS ?_; (case h106 => (simp only [gqA, gqB, gqC]; rfl)); (case q106 => exact fun _ _ _ h => h); (case y106 => (refine Or.inl ⟨by kernel_rfl, ?_⟩; intro wq hSq; have hf0 := hSq.cell g5 neb; have hf1 := hSq.cell g2 neb; have hf2 := hSq.cell (BX.cell' 0 _ rfl) neX; have hf3 := hSq.cell (BX.cell' 1 _ rfl) neX; have hf4 := hSq.cell (BX.cell' 2 _ rfl) neX; clear hSq; go_simp; (try with_reducible rfl))); simp only [Act.put, List.setIfInBounds_toArray, List.set_cons_zero, List.set_cons_succ]
                    refine tkQ (i := 24) (oi := ?o107) (v := ?v107) ?h107 ?q107 ?y107 hS ?_; (case h107 => (simp only [gqA, gqB, gqC]; rfl)); (case q107 => exact fun _ _ _ h => h); (case y107 => (refine Or.inl ⟨by kernel_rfl, ?_⟩; intro wq hSq; clear hSq; go_simp; (try with_reducible rfl))); simp only [Act.put, List.setIfInBounds_toArray, List.set_cons_zero, List.set_cons_succ]
                    refine tkQ (i := 25) (oi := ?o108) (v := ?v108) ?h108 ?q108 ?y108 hS ?_; (case h108 => (simp only [gqA, gqB, gqC]; rfl)); (case q108 => exact fun _ _ _ h => h); (case y108 => (refine Or.inl ⟨by kernel_rfl, ?_⟩; intro wq hSq; have hf0 := hSq.cell g5 neb; have hf1 := hSq.cell g2 neb; have hf2 := hSq.cell (BX.cell' 0 _ rfl) neX; have hf3 := hSq.cell (BX.cell' 1 _ rfl) neX; have hf4 := hSq.cell (BX.cell' 2 _ rfl) neX; clear hSq; go_simp; (try with_reducible rfl))); simp only [Act.put, List.setIfInBounds_toArray, List.set_cons_zero, List.set_cons_succ]
                    refine wpAnyH_ready (rs := [26]) (by kernel_rfl) (by simp) ?_
                    refine AllReadyH.cons (o := ?oi109) ?hi109 (fun K hK => ?_) AllReadyH.nil
                    case hi109 => (simp only [gqA, gqB, gqC]; rfl)
                    go_simp
                    refine (HW.out _).mono ?_
                    rintro e w3 ⟨rfl, hn3⟩
                    refine hK.out _ _ (grown_new hS hn3) (fun hS => ?_)
                    clear hK K
                    refine tkQ (i := 27) (oi := ?o110) (v := ?v110) ?h110 ?q110 ?y110 hS ?_; (case h110 => (simp only [gqA, gqB, gqC]; rfl)); (case q110 => exact fun _ _ _ h => h); (case y110 => (refine Or.inl ⟨by kernel_rfl, ?_⟩; intro wq hSq; clear hSq; go_simp; (try with_reducible rfl))); simp only [Act.put, List.setIfInBounds_toArray, List.set_cons_zero, List.set_cons_succ]
                    refine tkQ (i := 28) (oi := ?o111) (v := ?v111) ?h111 ?q111 ?y111 hS ?_; (case h111 => (simp only [gqA, gqB, gqC]; rfl)); (case q111 => exact fun _ _ _ h => h); (case y111 => (refine Or.inl ⟨by kernel_rfl, ?_⟩; intro wq hSq; clear hSq; go_simp; (try with_reducible rfl))); simp only [Act.put, List.setIfInBounds_toArray, List.set_cons_zero, List.set_cons_succ]
                    refine tkQ (i := 29) (oi := ?o112) (v := ?v112) ?h112 ?q112 ?y112 hS ?_; (case h112 => (simp only [gqA, gqB, gqC]; rfl)); (case q112 => exact fun _ _ _ h => h); (case y112 => (refine Or.inl ⟨by kernel_rfl, ?_⟩; intro wq hSq; clear hSq; go_simp; (try with_reducible rfl))); simp only [Act.put, List.setIfInBounds_toArray, List.set_cons_zero, List.set_cons_succ]
                    refine tkQ (i := 30) (oi := ?o113) (v := ?v113) ?h113 ?q113 ?y113 hS ?_; (case h113 => (simp only [gqA, gqB, gqC]; rfl)); (case q113 => exact fun _ _ _ h => h); (case y113 => (refine Or.inl ⟨by kernel_rfl, ?_⟩; intro wq hSq; clear hSq; go_simp; (try with_reducible rfl))); simp only [Act.put, List.setIfInBounds_toArray, List.set_cons_zero, List.set_cons_succ]
                    refine tkQ (i := 31) (oi := ?o114) (v := ?v114) ?h114 ?q114 ?y114 hS ?_; (case h114 => (simp only [gqA, gqB, gqC]; rfl)); (case q114 => exact fun _ _ _ h => h); (case y114 => (refine Or.inl ⟨by kernel_rfl, ?_⟩; intro wq hSq; have hf0 := hSq.cell g5 neb; have hf1 := hSq.cell g2 neb; have hf2 := hSq.cell (BX.cell' 0 _ rfl) neX; have hf3 := hSq.cell (BX.cell' 1 _ rfl) neX; have hf4 := hSq.cell (BX.cell' 2 _ rfl) neX; clear hSq; go_simp; (try with_reducible rfl))); simp only [Act.put, List.setIfInBounds_toArray, List.set_cons_zero, List.set_cons_succ]
                    refine wpAnyH_ready (rs := [32]) (by kernel_rfl) (by simp) ?_
                    refine AllReadyH.cons (o := ?oi115) ?hi115 (fun K hK => ?_) AllReadyH.nil
                    case hi115 => (simp only [gqA, gqB, gqC]; rfl)
                    go_simp
                    refine (HPa.out _ (HE.out.new (New.trans HS2.out.new hn3))).mono ?_
                    rintro e w4 ⟨rfl, hn4⟩
                    refine hK.out _ _ (grown_new hS hn4) (fun hS => ?_)
                    clear hK K
                    refine tkQ (i := 33) (oi := ?o116) (v := ?v116) ?h116 ?q116 ?y116 hS ?_; (case h116 => (simp only [gqA, gqB, gqC]; rfl)); (case q116 => exact fun _ _ _ h => h); (case y116 => (refine Or.inl ⟨by kernel_rfl, ?_⟩; intro wq hSq; clear hSq; go_simp; (try with_reducible rfl))); simp only [Act.put, List.setIfInBounds_toArray, List.set_cons_zero, List.set_cons_succ]
                    refine tkQ (i := 34) (oi := ?o117) (v := ?v117) ?h117 ?q117 ?y117 hS ?_; (case h117 => (simp only [gqA, gqB, gqC]; rfl)); (case q117 => exact fun _ _ _ h => h); (case y117 => (refine Or.inl ⟨by kernel_rfl, ?_⟩; intro wq hSq; clear hSq; go_simp; (try with_reducible rfl))); simp only [Act.put, List.setIfInBounds_toArray, List.set_cons_zero, List.set_cons_succ]
                    refine tkQ (i := 35) (oi := ?o118) (v := ?v118) ?h118 ?q118 ?y118 hS ?_; (case h118 => (simp only [gqA, gqB, gqC]; rfl)); (case q118 => exact fun _ _ _ h => h); (case y118 => (refine Or.inl ⟨by kernel_rfl, ?_⟩; intro wq hSq; clear hSq; go_simp; (try with_reducible rfl))); simp only [Act.put, List.setIfInBounds_toArray, List.set_cons_zero, List.set_cons_succ]
                    refine tkQ (i := 36) (oi := ?o119) (v := ?v119) ?h119 ?q119 ?y119 hS ?_; (case h119 => (simp only [gqA, gqB, gqC]; rfl)); (case q119 => exact fun _ _ _ h => h); (case y119 => (refine Or.inl ⟨by kernel_rfl, ?_⟩; intro wq hSq; clear hSq; go_simp; (try with_reducible rfl))); simp only [Act.put, List.setIfInBounds_toArray, List.set_cons_zero, List.set_cons_succ]
                    refine tkQ (i := 37) (oi := ?o120) (v := ?v120) ?h120 ?q120 ?y120 hS ?_; (case h120 => (simp only [gqA, gqB, gqC]; rfl)); (case q120 => exact fun _ _ _ h => h); (case y120 => (refine Or.inl ⟨by kernel_rfl, ?_⟩; intro wq hSq; have hf0 := hSq.cell g5 neb; have hf1 := hSq.cell g2 neb; have hf2 := hSq.cell (BX.cell' 0 _ rfl) neX; have hf3 := hSq.cell (BX.cell' 1 _ rfl) neX; have hf4 := hSq.cell (BX.cell' 2 _ rfl) neX; clear hSq; go_simp; (try with_reducible rfl))); simp only [Act.put, List.setIfInBounds_toArray, List.set_cons_zero, List.set_cons_succ]
                    refine wpAnyH_ready (rs := [38]) (by kernel_rfl) (by simp) ?_
                    refine AllReadyH.cons (o := ?oi121) ?hi121 (fun K hK => ?_) AllReadyH.nil
                    case hi121 => (simp only [gqA, gqB, gqC]; rfl)
                    go_simp
                    refine (HNa.out _).mono ?_
                    rintro e w5 ⟨rfl, hn5⟩
                    refine hK.out _ _ (grown_new hS hn5) (fun hS => ?_)
                    clear hK K
                    refine tkQ (i := 39) (oi := ?o122) (v := ?v122) ?h122 ?q122 ?y122 hS ?_; (case h122 => (simp only [gqA, gqB, gqC]; rfl)); (case q122 => exact fun _ _ _ h => h); (case y122 => (refine Or.inl ⟨by kernel_rfl, ?_⟩; intro wq hSq; clear hSq; go_simp; (try with_reducible rfl))); simp only [Act.put, List.setIfInBounds_toArray, List.set_cons_zero, List.set_cons_succ]
                    refine tkQ (i := 40) (oi := ?o123) (v := ?v123) ?h123 ?q123 ?y123 hS ?_; (case h123 => (simp only [gqA, gqB, gqC]; rfl)); (case q123 => exact fun _ _ _ h => h); (case y123 => (refine Or.inl ⟨by kernel_rfl, ?_⟩; intro wq hSq; clear hSq; go_simp; (try with_reducible rfl))); simp only [Act.put, List.setIfInBounds_toArray, List.set_cons_zero, List.set_cons_succ]
                    refine wpAnyH_done (by kernel_rfl) ?_ _
                    go_wp2
                    go_ret
                    exact ⟨rfl, New.trans HS2.out.new (New.trans (New.trans hn3 hn4) hn5)⟩
                  · go_wp2_with (fail)
                    refine wp_region_held_drew (S := (fun W => (wr.alloc (.cells #[.string xl, .string xs, .int .i64 (xn : Int)] 85)).grownBy W (some (w.heap.size + 1)))) (by kernel_rfl) (new_grown (New.refl _).drew _) (fun hS => ?_)
                    refine tkQ (i := 0) (oi := ?o124) (v := ?v124) ?h124 ?q124 ?y124 hS ?_; (case h124 => (simp only [gqA, gqB, gqC]; rfl)); (case q124 => exact fun _ _ _ h => h); (case y124 => (refine Or.inl ⟨by kernel_rfl, ?_⟩; intro wq hSq; clear hSq; go_simp; (try with_reducible rfl))); simp only [Act.put, List.setIfInBounds_toArray, List.set_cons_zero, List.set_cons_succ]
                    refine tkQ (i := 1) (oi := ?o125) (v := ?v125) ?h125 ?q125 ?y125 hS ?_; (case h125 => (simp only [gqA, gqB, gqC]; rfl)); (case q125 => exact fun _ _ _ h => h); (case y125 => (refine Or.inl ⟨by kernel_rfl, ?_⟩; intro wq hSq; clear hSq; go_simp; (try with_reducible rfl))); simp only [Act.put, List.setIfInBounds_toArray, List.set_cons_zero, List.set_cons_succ]
                    refine tkQ (i := 2) (oi := ?o126) (v := ?v126) ?h126 ?q126 ?y126 hS ?_; (case h126 => (simp only [gqA, gqB, gqC]; rfl)); (case q126 => exact fun _ _ _ h => h); (case y126 => (refine Or.inl ⟨by kernel_rfl, ?_⟩; intro wq hSq; clear hSq; go_simp; (try with_reducible rfl))); simp only [Act.put, List.setIfInBounds_toArray, List.set_cons_zero, List.set_cons_succ]
                    refine tkQ (i := 3) (oi := ?o127) (v := undef) ?h127 ?q127 ?y127 hS ?_; (case h127 => (simp only [gqA, gqB, gqC]; rfl)); (case q127 => exact fun _ _ _ h => h); (case y127 => (exact Or.inr ⟨by kernel_rfl, rfl⟩)); simp only [Act.put, List.setIfInBounds_toArray, List.set_cons_zero, List.set_cons_succ]
                    refine tkQ (i := 4) (oi := ?o128) (v := undef) ?h128 ?q128 ?y128 hS ?_; (case h128 => (simp only [gqA, gqB, gqC]; rfl)); (case q128 => exact fun _ _ _ h => h); (case y128 => (exact Or.inr ⟨by kernel_rfl, rfl⟩)); simp only [Act.put, List.setIfInBounds_toArray, List.set_cons_zero, List.set_cons_succ]
                    refine tkQ (i := 5) (oi := ?o129) (v := undef) ?h129 ?q129 ?y129 hS ?_; (case h129 => (simp only [gqA, gqB, gqC]; rfl)); (case q129 => exact fun _ _ _ h => h); (case y129 => (exact Or.inr ⟨by kernel_rfl, rfl⟩)); simp only [Act.put, List.setIfInBounds_toArray, List.set_cons_zero, List.set_cons_succ]
                    refine tkQ (i := 6) (oi := ?o130) (v := undef) ?h130 ?q130 ?y130 hS ?_; (case h130 => (simp only [gqA, gqB, gqC]; rfl)); (case q130 => exact fun _ _ _ h => h); (case y130 => (exact Or.inr ⟨by kernel_rfl, rfl⟩)); simp only [Act.put, List.setIfInBounds_toArray, List.set_cons_zero, List.set_cons_succ]
                    refine tkQ (i := 7) (oi := ?o131) (v := undef) ?h131 ?q131 ?y131 hS ?_; (case h131 => (simp only [gqA, gqB, gqC]; rfl)); (case q131 => exact fun _ _ _ h => h); (case y131 => (exact Or.inr ⟨by kernel_rfl, rfl⟩)); simp only [Act.put, List.setIfInBounds_toArray, List.set_cons_zero, List.set_cons_succ]
                    refine tkQ (i := 8) (oi := ?o132) (v := undef) ?h132 ?q132 ?y132 hS ?_; (case h132 => (simp only [gqA, gqB, gqC]; rfl)); (case q132 => exact fun _ _ _ h => h); (case y132 => (exact Or.inr ⟨by kernel_rfl, rfl⟩)); simp only [Act.put, List.setIfInBounds_toArray, List.set_cons_zero, List.set_cons_succ]
                    refine tkQ (i := 9) (oi := ?o133) (v := undef) ?h133 ?q133 ?y133 hS ?_; (case h133 => (simp only [gqA, gqB, gqC]; rfl)); (case q133 => exact fun _ _ _ h => h); (case y133 => (exact Or.inr ⟨by kernel_rfl, rfl⟩)); simp only [Act.put, List.setIfInBounds_toArray, List.set_cons_zero, List.set_cons_succ]
                    refine tkQ (i := 10) (oi := ?o134) (v := undef) ?h134 ?q134 ?y134 hS ?_; (case h134 => (simp only [gqA, gqB, gqC]; rfl)); (case q134 => exact fun _ _ _ h => h); (case y134 => (exact Or.inr ⟨by kernel_rfl, rfl⟩)); simp only [Act.put, List.setIfInBounds_toArray, List.set_cons_zero, List.set_cons_succ]
                    refine tkQ (i := 11) (oi := ?o135) (v := undef) ?h135 ?q135 ?y135 hS ?_; (case h135 => (simp only [gqA, gqB, gqC]; rfl)); (case q135 => exact fun _ _ _ h => h); (case y135 => (exact Or.inr ⟨by kernel_rfl, rfl⟩)); simp only [Act.put, List.setIfInBounds_toArray, List.set_cons_zero, List.set_cons_succ]
                    refine tkQ (i := 12) (oi := ?o136) (v := undef) ?h136 ?q136 ?y136 hS ?_; (case h136 => (simp only [gqA, gqB, gqC]; rfl)); (case q136 => exact fun _ _ _ h => h); (case y136 => (exact Or.inr ⟨by kernel_rfl, rfl⟩)); simp only [Act.put, List.setIfInBounds_toArray, List.set_cons_zero, List.set_cons_succ]
                    refine tkQ (i := 13) (oi := ?o137) (v := ?v137) ?h137 ?q137 ?y137 hS ?_; (case h137 => (simp only [gqA, gqB, gqC]; rfl)); (case q137 => exact fun _ _ _ h => h); (case y137 => (refine Or.inl ⟨by kernel_rfl, ?_⟩; intro wq hSq; clear hSq; go_simp; (try with_reducible rfl))); simp only [Act.put, List.setIfInBounds_toArray, List.set_cons_zero, List.set_cons_succ]
                    refine tkQ (i := 14) (oi := ?o138) (v := ?v138) ?h138 ?q138 ?y138 hS ?_; (case h138 => (simp only [gqA, gqB, gqC]; rfl)); (case q138 => exact fun _ _ _ h => h); (case y138 => (refine Or.inl ⟨by kernel_rfl, ?_⟩; intro wq hSq; clear hSq; go_simp; (try with_reducible rfl))); simp only [Act.put, List.setIfInBounds_toArray, List.set_cons_zero, List.set_cons_succ]
                    refine tkQ (i := 15) (oi := ?o139) (v := ?v139) ?h139 ?q139 ?y139 hS ?_; (case h139 => (simp only [gqA, gqB, gqC]; rfl)); (case q139 => exact fun _ _ _ h => h); (case y139 => (refine Or.inl ⟨by kernel_rfl, ?_⟩; intro wq hSq; clear hSq; go_simp; (try with_reducible rfl))); simp only [Act.put, List.setIfInBounds_toArray, List.set_cons_zero, List.set_cons_succ]
                    refine tkQ (i := 16) (oi := ?o140) (v := ?v140) ?h140 ?q140 ?y140 hS ?_; (case h140 => (simp only [gqA, gqB, gqC]; rfl)); (case q140 => exact fun _ _ _ h => h); (case y140 => (refine Or.inl ⟨by kernel_rfl, ?_⟩; intro wq hSq; clear hSq; go_simp; (try with_reducible rfl))); simp only [Act.put, List.setIfInBounds_toArray, List.set_cons_zero, List.set_cons_succ]
                    refine tkQ (i := 17) (oi := ?o141) (v := ?v141) ?h141 ?q141 ?y141 hS ?_; (case h141 => (simp only [gqA, gqB, gqC]; rfl)); (case q141 => exact fun _ _ _ h => h); (case y141 => (refine Or.inl ⟨by kernel_rfl, ?_⟩; intro wq hSq; have hf0 := hSq.cell g5 neb; have hf1 := hSq.cell g2 neb; have hf2 := hSq.cell (BX.cell' 0 _ rfl) neX; have hf3 := hSq.cell (BX.cell' 1 _ rfl) neX; have hf4 := hSq.cell (BX.cell' 2 _ rfl) neX; clear hSq; go_simp; (try with_reducible rfl))); simp only [Act.put, List.setIfInBounds_toArray, List.set_cons_zero, List.set_cons_succ]
                    refine wpAnyH_ready (rs := [18]) (by kernel_rfl) (by simp) ?_
                    refine AllReadyH.cons (o := ?oi142) ?hi142 (fun K hK => ?_) AllReadyH.nil
                    case hi142 => (simp only [gqA, gqB, gqC]; rfl)
                    go_simp
                    refine (HK.out _ (New.refl _).drew).mono ?_
                    rintro e w2 ⟨rfl, hg2, hk2⟩
                    have HS2 := Lib.hid ((HX.out.later (New.refl _).drew).step hg2 (hk2.out trivial) hne3 hne1 hne2)
                    refine hK.out _ _ (World.grownBy.trans hS hg2) (fun hS => ?_)
                    clear hK K
                    refine tkQ (i := 19) (oi := ?o143) (v := ?v143) ?h143 ?q143 ?y143 hS ?_; (case h143 => (simp only [gqA, gqB, gqC]; rfl)); (case q143 => exact fun _ _ _ h => h); (case y143 => (refine Or.inl ⟨by kernel_rfl, ?_⟩; intro wq hSq; clear hSq; go_simp; (try with_reducible rfl))); simp only [Act.put, List.setIfInBounds_toArray, List.set_cons_zero, List.set_cons_succ]
                    refine tkQ (i := 20) (oi := ?o144) (v := ?v144) ?h144 ?q144 ?y144 hS ?_; (case h144 => (simp only [gqA, gqB, gqC]; rfl)); (case q144 => exact fun _ _ _ h => h); (case y144 => (refine Or.inl ⟨by kernel_rfl, ?_⟩; intro wq hSq; clear hSq; go_simp; (try with_reducible rfl))); simp only [Act.put, List.setIfInBounds_toArray, List.set_cons_zero, List.set_cons_succ]
                    refine tkQ (i := 21) (oi := ?o145) (v := ?v145) ?h145 ?q145 ?y145 hS ?_; (case h145 => (simp only [gqA, gqB, gqC]; rfl)); (case q145 => exact fun _ _ _ h => h); (case y145 => (refine Or.inl ⟨by kernel_rfl, ?_⟩; intro wq hSq; clear hSq; go_simp; (try with_reducible rfl))); simp only [Act.put, List.setIfInBounds_toArray, List.set_cons_zero, List.set_cons_succ]
                    refine tkQ (i := 22) (oi := ?o146) (v := ?v146) ?h146 ?q146 ?y146 hS ?_; (case h146 => (simp only [gqA, gqB, gqC]; rfl)); (case q146 => exact fun _ _ _ h => h); (case y146 => (refine Or.inl ⟨by kernel_rfl, ?_⟩; intro wq hSq; clear hSq; go_simp; (try with_reducible rfl))); simp only [Act.put, List.setIfInBounds_toArray, List.set_cons_zero, List.set_cons_succ]
                    refine tkQ (i := 23) (oi := ?o147) (v := ?v147) ?h147 ?q147 ?y147 hS ?_; (case h147 => (simp only [gqA, gqB, gqC]; rfl)); (case q147 => exact fun _ _ _ h => h); (case y147 => (refine Or.inl ⟨by kernel_rfl, ?_⟩; intro wq hSq; have hf0 := hSq.cell g5 neb; have hf1 := hSq.cell g2 neb; have hf2 := hSq.cell (BX.cell' 0 _ rfl) neX; have hf3 := hSq.cell (BX.cell' 1 _ rfl) neX; have hf4 := hSq.cell (BX.cell' 2 _ rfl) neX; clear hSq; go_simp; (try with_reducible rfl))); simp only [Act.put, List.setIfInBounds_toArray, List.set_cons_zero, List.set_cons_succ]
                    refine tkQ (i := 24) (oi := ?o148) (v := ?v148) ?h148 ?q148 ?y148 hS ?_; (case h148 => (simp only [gqA, gqB, gqC]; rfl)); (case q148 => exact fun _ _ _ h => h); (case y148 => (refine Or.inl ⟨by kernel_rfl, ?_⟩; intro wq hSq; clear hSq; go_simp; (try with_reducible rfl))); simp only [Act.put, List.setIfInBounds_toArray, List.set_cons_zero, List.set_cons_succ]
                    refine tkQ (i := 25) (oi := ?o149) (v := ?v149) ?h149 ?q149 ?y149 hS ?_; (case h149 => (simp only [gqA, gqB, gqC]; rfl)); (case q149 => exact fun _ _ _ h => h); (case y149 => (refine Or.inl ⟨by kernel_rfl, ?_⟩; intro wq hSq; have hf0 := hSq.cell g5 neb; have hf1 := hSq.cell g2 neb; have hf2 := hSq.cell (BX.cell' 0 _ rfl) neX; have hf3 := hSq.cell (BX.cell' 1 _ rfl) neX; have hf4 := hSq.cell (BX.cell' 2 _ rfl) neX; clear hSq; go_simp; (try with_reducible rfl))); simp only [Act.put, List.setIfInBounds_toArray, List.set_cons_zero, List.set_cons_succ]
                    refine wpAnyH_ready (rs := [26]) (by kernel_rfl) (by simp) ?_
                    refine AllReadyH.cons (o := ?oi150) ?hi150 (fun K hK => ?_) AllReadyH.nil
                    case hi150 => (simp only [gqA, gqB, gqC]; rfl)
                    go_simp
                    refine (HW.out _).mono ?_
                    rintro e w3 ⟨rfl, hn3⟩
                    refine hK.out _ _ (grown_new hS hn3) (fun hS => ?_)
                    clear hK K
                    refine tkQ (i := 27) (oi := ?o151) (v := ?v151) ?h151 ?q151 ?y151 hS ?_; (case h151 => (simp only [gqA, gqB, gqC]; rfl)); (case q151 => exact fun _ _ _ h => h); (case y151 => (refine Or.inl ⟨by kernel_rfl, ?_⟩; intro wq hSq; clear hSq; go_simp; (try with_reducible rfl))); simp only [Act.put, List.setIfInBounds_toArray, List.set_cons_zero, List.set_cons_succ]
                    refine tkQ (i := 28) (oi := ?o152) (v := ?v152) ?h152 ?q152 ?y152 hS ?_; (case h152 => (simp only [gqA, gqB, gqC]; rfl)); (case q152 => exact fun _ _ _ h => h); (case y152 => (refine Or.inl ⟨by kernel_rfl, ?_⟩; intro wq hSq; clear hSq; go_simp; (try with_reducible rfl))); simp only [Act.put, List.setIfInBounds_toArray, List.set_cons_zero, List.set_cons_succ]
                    refine tkQ (i := 29) (oi := ?o153) (v := ?v153) ?h153 ?q153 ?y153 hS ?_; (case h153 => (simp only [gqA, gqB, gqC]; rfl)); (case q153 => exact fun _ _ _ h => h); (case y153 => (refine Or.inl ⟨by kernel_rfl, ?_⟩; intro wq hSq; clear hSq; go_simp; (try with_reducible rfl))); simp only [Act.put, List.setIfInBounds_toArray, List.set_cons_zero, List.set_cons_succ]
                    refine tkQ (i := 30) (oi := ?o154) (v := ?v154) ?h154 ?q154 ?y154 hS ?_; (case h154 => (simp only [gqA, gqB, gqC]; rfl)); (case q154 => exact fun _ _ _ h => h); (case y154 => (refine Or.inl ⟨by kernel_rfl, ?_⟩; intro wq hSq; clear hSq; go_simp; (try with_reducible rfl))); simp only [Act.put, List.setIfInBounds_toArray, List.set_cons_zero, List.set_cons_succ]
                    refine tkQ (i := 31) (oi := ?o155) (v := ?v155) ?h155 ?q155 ?y155 hS ?_; (case h155 => (simp only [gqA, gqB, gqC]; rfl)); (case q155 => exact fun _ _ _ h => h); (case y155 => (refine Or.inl ⟨by kernel_rfl, ?_⟩; intro wq hSq; have hf0 := hSq.cell g5 neb; have hf1 := hSq.cell g2 neb; have hf2 := hSq.cell (BX.cell' 0 _ rfl) neX; have hf3 := hSq.cell (BX.cell' 1 _ rfl) neX; have hf4 := hSq.cell (BX.cell' 2 _ rfl) neX; clear hSq; go_simp; (try with_reducible rfl))); simp only [Act.put, List.setIfInBounds_toArray, List.set_cons_zero, List.set_cons_succ]
                    refine wpAnyH_ready (rs := [32]) (by kernel_rfl) (by simp) ?_
                    refine AllReadyH.cons (o := ?oi156) ?hi156 (fun K hK => ?_) AllReadyH.nil
                    case hi156 => (simp only [gqA, gqB, gqC]; rfl)
                    go_simp
                    refine (HPa.out _ (HE.out.new (New.trans HS2.out.new hn3))).mono ?_
                    rintro e w4 ⟨rfl, hn4⟩
                    refine hK.out _ _ (grown_new hS hn4) (fun hS => ?_)
                    clear hK K
                    refine tkQ (i := 33) (oi := ?o157) (v := ?v157) ?h157 ?q157 ?y157 hS ?_; (case h157 => (simp only [gqA, gqB, gqC]; rfl)); (case q157 => exact fun _ _ _ h => h); (case y157 => (refine Or.inl ⟨by kernel_rfl, ?_⟩; intro wq hSq; clear hSq; go_simp; (try with_reducible rfl))); simp only [Act.put, List.setIfInBounds_toArray, List.set_cons_zero, List.set_cons_succ]
                    refine tkQ (i := 34) (oi := ?o158) (v := ?v158) ?h158 ?q158 ?y158 hS ?_; (case h158 => (simp only [gqA, gqB, gqC]; rfl)); (case q158 => exact fun _ _ _ h => h); (case y158 => (refine Or.inl ⟨by kernel_rfl, ?_⟩; intro wq hSq; clear hSq; go_simp; (try with_reducible rfl))); simp only [Act.put, List.setIfInBounds_toArray, List.set_cons_zero, List.set_cons_succ]
                    refine tkQ (i := 35) (oi := ?o159) (v := ?v159) ?h159 ?q159 ?y159 hS ?_; (case h159 => (simp only [gqA, gqB, gqC]; rfl)); (case q159 => exact fun _ _ _ h => h); (case y159 => (refine Or.inl ⟨by kernel_rfl, ?_⟩; intro wq hSq; clear hSq; go_simp; (try with_reducible rfl))); simp only [Act.put, List.setIfInBounds_toArray, List.set_cons_zero, List.set_cons_succ]
                    refine tkQ (i := 36) (oi := ?o160) (v := ?v160) ?h160 ?q160 ?y160 hS ?_; (case h160 => (simp only [gqA, gqB, gqC]; rfl)); (case q160 => exact fun _ _ _ h => h); (case y160 => (refine Or.inl ⟨by kernel_rfl, ?_⟩; intro wq hSq; clear hSq; go_simp; (try with_reducible rfl))); simp only [Act.put, List.setIfInBounds_toArray, List.set_cons_zero, List.set_cons_succ]
                    refine tkQ (i := 37) (oi := ?o161) (v := ?v161) ?h161 ?q161 ?y161 hS ?_; (case h161 => (simp only [gqA, gqB, gqC]; rfl)); (case q161 => exact fun _ _ _ h => h); (case y161 => (refine Or.inl ⟨by kernel_rfl, ?_⟩; intro wq hSq; have hf0 := hSq.cell g5 neb; have hf1 := hSq.cell g2 neb; have hf2 := hSq.cell (BX.cell' 0 _ rfl) neX; have hf3 := hSq.cell (BX.cell' 1 _ rfl) neX; have hf4 := hSq.cell (BX.cell' 2 _ rfl) neX; clear hSq; go_simp; (try with_reducible rfl))); simp only [Act.put, List.setIfInBounds_toArray, List.set_cons_zero, List.set_cons_succ]
                    refine wpAnyH_ready (rs := [38]) (by kernel_rfl) (by simp) ?_
                    refine AllReadyH.cons (o := ?oi162) ?hi162 (fun K hK => ?_) AllReadyH.nil
                    case hi162 => (simp only [gqA, gqB, gqC]; rfl)
                    go_simp
                    refine (HNa.out _).mono ?_
                    rintro e w5 ⟨rfl, hn5⟩
                    refine hK.out _ _ (grown_new hS hn5) (fun hS => ?_)
                    clear hK K
                    refine tkQ (i := 39) (oi := ?o163) (v := ?v163) ?h163 ?q163 ?y163 hS ?_; (case h163 => (simp only [gqA, gqB, gqC]; rfl)); (case q163 => exact fun _ _ _ h => h); (case y163 => (refine Or.inl ⟨by kernel_rfl, ?_⟩; intro wq hSq; clear hSq; go_simp; (try with_reducible rfl))); simp only [Act.put, List.setIfInBounds_toArray, List.set_cons_zero, List.set_cons_succ]
                    refine tkQ (i := 40) (oi := ?o164) (v := ?v164) ?h164 ?q164 ?y164 hS ?_; (case h164 => (simp only [gqA, gqB, gqC]; rfl)); (case q164 => exact fun _ _ _ h => h); (case y164 => (refine Or.inl ⟨by kernel_rfl, ?_⟩; intro wq hSq; clear hSq; go_simp; (try with_reducible rfl))); simp only [Act.put, List.setIfInBounds_toArray, List.set_cons_zero, List.set_cons_succ]
                    refine wpAnyH_done (by kernel_rfl) ?_ _
                    go_wp2
                    go_roundw
                    case rel => exact ⟨0 + 1, by go_num, by omega, Lib.hid (by rw [HRV.out]; exact HS2.out.later (New.trans (New.trans hn3 hn4) hn5)), Lib.hid (by rw [HRV.out, HGo.out, HG2.out, HFX.out, Bool.true_and])⟩
                    case measure => simp [intOf]; omega
              · have hw1 : (wv == 0) = false := beq_eq_false_iff_ne.2 hw0
                have hw2 : (wv != 0) = true := by rw [bne, hw1]; rfl
                have hRf := HBad.out (by rw [HFX.out, decide_eq_false hw0]; rfl)
                subst hRf
                go_wp2_with (fail)
                refine wp_region_held_drew (S := (fun W => (wr.alloc (.cells #[.string xl, .string xs, .int .i64 (xn : Int)] 85)).grownBy W (some (w.heap.size + 1)))) (by kernel_rfl) (new_grown (New.refl _).drew _) (fun hS => ?_)
                refine tkQ (i := 0) (oi := ?o165) (v := ?v165) ?h165 ?q165 ?y165 hS ?_; (case h165 => (simp only [gqA, gqB, gqC]; rfl)); (case q165 => exact fun _ _ _ h => h); (case y165 => (refine Or.inl ⟨by kernel_rfl, ?_⟩; intro wq hSq; clear hSq; go_simp; (try with_reducible rfl))); simp only [Act.put, List.setIfInBounds_toArray, List.set_cons_zero, List.set_cons_succ]
                refine tkQ (i := 1) (oi := ?o166) (v := ?v166) ?h166 ?q166 ?y166 hS ?_; (case h166 => (simp only [gqA, gqB, gqC]; rfl)); (case q166 => exact fun _ _ _ h => h); (case y166 => (refine Or.inl ⟨by kernel_rfl, ?_⟩; intro wq hSq; clear hSq; go_simp; (try with_reducible rfl))); simp only [Act.put, List.setIfInBounds_toArray, List.set_cons_zero, List.set_cons_succ]
                refine tkQ (i := 2) (oi := ?o167) (v := ?v167) ?h167 ?q167 ?y167 hS ?_; (case h167 => (simp only [gqA, gqB, gqC]; rfl)); (case q167 => exact fun _ _ _ h => h); (case y167 => (refine Or.inl ⟨by kernel_rfl, ?_⟩; intro wq hSq; clear hSq; go_simp; (try with_reducible rfl))); simp only [Act.put, List.setIfInBounds_toArray, List.set_cons_zero, List.set_cons_succ]
                refine tkQ (i := 3) (oi := ?o168) (v := undef) ?h168 ?q168 ?y168 hS ?_; (case h168 => (simp only [gqA, gqB, gqC]; rfl)); (case q168 => exact fun _ _ _ h => h); (case y168 => (exact Or.inr ⟨by kernel_rfl, rfl⟩)); simp only [Act.put, List.setIfInBounds_toArray, List.set_cons_zero, List.set_cons_succ]
                refine tkQ (i := 4) (oi := ?o169) (v := undef) ?h169 ?q169 ?y169 hS ?_; (case h169 => (simp only [gqA, gqB, gqC]; rfl)); (case q169 => exact fun _ _ _ h => h); (case y169 => (exact Or.inr ⟨by kernel_rfl, rfl⟩)); simp only [Act.put, List.setIfInBounds_toArray, List.set_cons_zero, List.set_cons_succ]
                refine tkQ (i := 5) (oi := ?o170) (v := undef) ?h170 ?q170 ?y170 hS ?_; (case h170 => (simp only [gqA, gqB, gqC]; rfl)); (case q170 => exact fun _ _ _ h => h); (case y170 => (exact Or.inr ⟨by kernel_rfl, rfl⟩)); simp only [Act.put, List.setIfInBounds_toArray, List.set_cons_zero, List.set_cons_succ]
                refine tkQ (i := 6) (oi := ?o171) (v := undef) ?h171 ?q171 ?y171 hS ?_; (case h171 => (simp only [gqA, gqB, gqC]; rfl)); (case q171 => exact fun _ _ _ h => h); (case y171 => (exact Or.inr ⟨by kernel_rfl, rfl⟩)); simp only [Act.put, List.setIfInBounds_toArray, List.set_cons_zero, List.set_cons_succ]
                refine tkQ (i := 7) (oi := ?o172) (v := undef) ?h172 ?q172 ?y172 hS ?_; (case h172 => (simp only [gqA, gqB, gqC]; rfl)); (case q172 => exact fun _ _ _ h => h); (case y172 => (exact Or.inr ⟨by kernel_rfl, rfl⟩)); simp only [Act.put, List.setIfInBounds_toArray, List.set_cons_zero, List.set_cons_succ]
                refine tkQ (i := 8) (oi := ?o173) (v := undef) ?h173 ?q173 ?y173 hS ?_; (case h173 => (simp only [gqA, gqB, gqC]; rfl)); (case q173 => exact fun _ _ _ h => h); (case y173 => (exact Or.inr ⟨by kernel_rfl, rfl⟩)); simp only [Act.put, List.setIfInBounds_toArray, List.set_cons_zero, List.set_cons_succ]
                refine tkQ (i := 9) (oi := ?o174) (v := undef) ?h174 ?q174 ?y174 hS ?_; (case h174 => (simp only [gqA, gqB, gqC]; rfl)); (case q174 => exact fun _ _ _ h => h); (case y174 => (exact Or.inr ⟨by kernel_rfl, rfl⟩)); simp only [Act.put, List.setIfInBounds_toArray, List.set_cons_zero, List.set_cons_succ]
                refine tkQ (i := 10) (oi := ?o175) (v := undef) ?h175 ?q175 ?y175 hS ?_; (case h175 => (simp only [gqA, gqB, gqC]; rfl)); (case q175 => exact fun _ _ _ h => h); (case y175 => (exact Or.inr ⟨by kernel_rfl, rfl⟩)); simp only [Act.put, List.setIfInBounds_toArray, List.set_cons_zero, List.set_cons_succ]
                refine tkQ (i := 11) (oi := ?o176) (v := undef) ?h176 ?q176 ?y176 hS ?_; (case h176 => (simp only [gqA, gqB, gqC]; rfl)); (case q176 => exact fun _ _ _ h => h); (case y176 => (exact Or.inr ⟨by kernel_rfl, rfl⟩)); simp only [Act.put, List.setIfInBounds_toArray, List.set_cons_zero, List.set_cons_succ]
                refine tkQ (i := 12) (oi := ?o177) (v := undef) ?h177 ?q177 ?y177 hS ?_; (case h177 => (simp only [gqA, gqB, gqC]; rfl)); (case q177 => exact fun _ _ _ h => h); (case y177 => (exact Or.inr ⟨by kernel_rfl, rfl⟩)); simp only [Act.put, List.setIfInBounds_toArray, List.set_cons_zero, List.set_cons_succ]
                refine tkQ (i := 13) (oi := ?o178) (v := ?v178) ?h178 ?q178 ?y178 hS ?_; (case h178 => (simp only [gqA, gqB, gqC]; rfl)); (case q178 => exact fun _ _ _ h => h); (case y178 => (refine Or.inl ⟨by kernel_rfl, ?_⟩; intro wq hSq; clear hSq; go_simp; (try with_reducible rfl))); simp only [Act.put, List.setIfInBounds_toArray, List.set_cons_zero, List.set_cons_succ]
                refine tkQ (i := 14) (oi := ?o179) (v := ?v179) ?h179 ?q179 ?y179 hS ?_; (case h179 => (simp only [gqA, gqB, gqC]; rfl)); (case q179 => exact fun _ _ _ h => h); (case y179 => (refine Or.inl ⟨by kernel_rfl, ?_⟩; intro wq hSq; clear hSq; go_simp; (try with_reducible rfl))); simp only [Act.put, List.setIfInBounds_toArray, List.set_cons_zero, List.set_cons_succ]
                refine tkQ (i := 15) (oi := ?o180) (v := ?v180) ?h180 ?q180 ?y180 hS ?_; (case h180 => (simp only [gqA, gqB, gqC]; rfl)); (case q180 => exact fun _ _ _ h => h); (case y180 => (refine Or.inl ⟨by kernel_rfl, ?_⟩; intro wq hSq; clear hSq; go_simp; (try with_reducible rfl))); simp only [Act.put, List.setIfInBounds_toArray, List.set_cons_zero, List.set_cons_succ]
                refine tkQ (i := 16) (oi := ?o181) (v := ?v181) ?h181 ?q181 ?y181 hS ?_; (case h181 => (simp only [gqA, gqB, gqC]; rfl)); (case q181 => exact fun _ _ _ h => h); (case y181 => (refine Or.inl ⟨by kernel_rfl, ?_⟩; intro wq hSq; clear hSq; go_simp; (try with_reducible rfl))); simp only [Act.put, List.setIfInBounds_toArray, List.set_cons_zero, List.set_cons_succ]
                refine tkQ (i := 17) (oi := ?o182) (v := ?v182) ?h182 ?q182 ?y182 hS ?_; (case h182 => (simp only [gqA, gqB, gqC]; rfl)); (case q182 => exact fun _ _ _ h => h); (case y182 => (refine Or.inl ⟨by kernel_rfl, ?_⟩; intro wq hSq; have hf0 := hSq.cell g5 neb; have hf1 := hSq.cell g2 neb; have hf2 := hSq.cell (BX.cell' 0 _ rfl) neX; have hf3 := hSq.cell (BX.cell' 1 _ rfl) neX; have hf4 := hSq.cell (BX.cell' 2 _ rfl) neX; clear hSq; go_simp; (try with_reducible rfl))); simp only [Act.put, List.setIfInBounds_toArray, List.set_cons_zero, List.set_cons_succ]
                refine wpAnyH_ready (rs := [18]) (by kernel_rfl) (by simp) ?_
                refine AllReadyH.cons (o := ?oi183) ?hi183 (fun K hK => ?_) AllReadyH.nil
                case hi183 => (simp only [gqA, gqB, gqC]; rfl)
                go_simp
                refine (HK.out _ (New.refl _).drew).mono ?_
                rintro e w2 ⟨rfl, hg2, hk2⟩
                have HS2 := Lib.hid ((HX.out.later (New.refl _).drew).step hg2 (hk2.out trivial) hne3 hne1 hne2)
                refine hK.out _ _ (World.grownBy.trans hS hg2) (fun hS => ?_)
                clear hK K
                refine tkQ (i := 19) (oi := ?o184) (v := ?v184) ?h184 ?q184 ?y184 hS ?_; (case h184 => (simp only [gqA, gqB, gqC]; rfl)); (case q184 => exact fun _ _ _ h => h); (case y184 => (refine Or.inl ⟨by kernel_rfl, ?_⟩; intro wq hSq; clear hSq; go_simp; (try with_reducible rfl))); simp only [Act.put, List.setIfInBounds_toArray, List.set_cons_zero, List.set_cons_succ]
                refine tkQ (i := 20) (oi := ?o185) (v := ?v185) ?h185 ?q185 ?y185 hS ?_; (case h185 => (simp only [gqA, gqB, gqC]; rfl)); (case q185 => exact fun _ _ _ h => h); (case y185 => (refine Or.inl ⟨by kernel_rfl, ?_⟩; intro wq hSq; clear hSq; go_simp; (try with_reducible rfl))); simp only [Act.put, List.setIfInBounds_toArray, List.set_cons_zero, List.set_cons_succ]
                refine tkQ (i := 21) (oi := ?o186) (v := ?v186) ?h186 ?q186 ?y186 hS ?_; (case h186 => (simp only [gqA, gqB, gqC]; rfl)); (case q186 => exact fun _ _ _ h => h); (case y186 => (refine Or.inl ⟨by kernel_rfl, ?_⟩; intro wq hSq; clear hSq; go_simp; (try with_reducible rfl))); simp only [Act.put, List.setIfInBounds_toArray, List.set_cons_zero, List.set_cons_succ]
                refine tkQ (i := 22) (oi := ?o187) (v := ?v187) ?h187 ?q187 ?y187 hS ?_; (case h187 => (simp only [gqA, gqB, gqC]; rfl)); (case q187 => exact fun _ _ _ h => h); (case y187 => (refine Or.inl ⟨by kernel_rfl, ?_⟩; intro wq hSq; clear hSq; go_simp; (try with_reducible rfl))); simp only [Act.put, List.setIfInBounds_toArray, List.set_cons_zero, List.set_cons_succ]
                refine tkQ (i := 23) (oi := ?o188) (v := ?v188) ?h188 ?q188 ?y188 hS ?_; (case h188 => (simp only [gqA, gqB, gqC]; rfl)); (case q188 => exact fun _ _ _ h => h); (case y188 => (refine Or.inl ⟨by kernel_rfl, ?_⟩; intro wq hSq; have hf0 := hSq.cell g5 neb; have hf1 := hSq.cell g2 neb; have hf2 := hSq.cell (BX.cell' 0 _ rfl) neX; have hf3 := hSq.cell (BX.cell' 1 _ rfl) neX; have hf4 := hSq.cell (BX.cell' 2 _ rfl) neX; clear hSq; go_simp; (try with_reducible rfl))); simp only [Act.put, List.setIfInBounds_toArray, List.set_cons_zero, List.set_cons_succ]
                refine tkQ (i := 24) (oi := ?o189) (v := ?v189) ?h189 ?q189 ?y189 hS ?_; (case h189 => (simp only [gqA, gqB, gqC]; rfl)); (case q189 => exact fun _ _ _ h => h); (case y189 => (refine Or.inl ⟨by kernel_rfl, ?_⟩; intro wq hSq; clear hSq; go_simp; (try with_reducible rfl))); simp only [Act.put, List.setIfInBounds_toArray, List.set_cons_zero, List.set_cons_succ]
                refine tkQ (i := 25) (oi := ?o190) (v := ?v190) ?h190 ?q190 ?y190 hS ?_; (case h190 => (simp only [gqA, gqB, gqC]; rfl)); (case q190 => exact fun _ _ _ h => h); (case y190 => (refine Or.inl ⟨by kernel_rfl, ?_⟩; intro wq hSq; have hf0 := hSq.cell g5 neb; have hf1 := hSq.cell g2 neb; have hf2 := hSq.cell (BX.cell' 0 _ rfl) neX; have hf3 := hSq.cell (BX.cell' 1 _ rfl) neX; have hf4 := hSq.cell (BX.cell' 2 _ rfl) neX; clear hSq; go_simp; (try with_reducible rfl))); simp only [Act.put, List.setIfInBounds_toArray, List.set_cons_zero, List.set_cons_succ]
                refine wpAnyH_ready (rs := [26]) (by kernel_rfl) (by simp) ?_
                refine AllReadyH.cons (o := ?oi191) ?hi191 (fun K hK => ?_) AllReadyH.nil
                case hi191 => (simp only [gqA, gqB, gqC]; rfl)
                go_simp
                refine (HW.out _).mono ?_
                rintro e w3 ⟨rfl, hn3⟩
                refine hK.out _ _ (grown_new hS hn3) (fun hS => ?_)
                clear hK K
                refine tkQ (i := 27) (oi := ?o192) (v := ?v192) ?h192 ?q192 ?y192 hS ?_; (case h192 => (simp only [gqA, gqB, gqC]; rfl)); (case q192 => exact fun _ _ _ h => h); (case y192 => (refine Or.inl ⟨by kernel_rfl, ?_⟩; intro wq hSq; clear hSq; go_simp; (try with_reducible rfl))); simp only [Act.put, List.setIfInBounds_toArray, List.set_cons_zero, List.set_cons_succ]
                refine tkQ (i := 28) (oi := ?o193) (v := ?v193) ?h193 ?q193 ?y193 hS ?_; (case h193 => (simp only [gqA, gqB, gqC]; rfl)); (case q193 => exact fun _ _ _ h => h); (case y193 => (refine Or.inl ⟨by kernel_rfl, ?_⟩; intro wq hSq; clear hSq; go_simp; (try with_reducible rfl))); simp only [Act.put, List.setIfInBounds_toArray, List.set_cons_zero, List.set_cons_succ]
                refine tkQ (i := 29) (oi := ?o194) (v := ?v194) ?h194 ?q194 ?y194 hS ?_; (case h194 => (simp only [gqA, gqB, gqC]; rfl)); (case q194 => exact fun _ _ _ h => h); (case y194 => (refine Or.inl ⟨by kernel_rfl, ?_⟩; intro wq hSq; clear hSq; go_simp; (try with_reducible rfl))); simp only [Act.put, List.setIfInBounds_toArray, List.set_cons_zero, List.set_cons_succ]
                refine tkQ (i := 30) (oi := ?o195) (v := undef) ?h195 ?q195 ?y195 hS ?_; (case h195 => (simp only [gqA, gqB, gqC]; rfl)); (case q195 => exact fun _ _ _ h => h); (case y195 => (exact Or.inr ⟨by kernel_rfl, rfl⟩)); simp only [Act.put, List.setIfInBounds_toArray, List.set_cons_zero, List.set_cons_succ]
                refine tkQ (i := 31) (oi := ?o196) (v := undef) ?h196 ?q196 ?y196 hS ?_; (case h196 => (simp only [gqA, gqB, gqC]; rfl)); (case q196 => exact fun _ _ _ h => h); (case y196 => (exact Or.inr ⟨by kernel_rfl, rfl⟩)); simp only [Act.put, List.setIfInBounds_toArray, List.set_cons_zero, List.set_cons_succ]
                refine tkQ (i := 32) (oi := ?o197) (v := undef) ?h197 ?q197 ?y197 hS ?_; (case h197 => (simp only [gqA, gqB, gqC]; rfl)); (case q197 => exact fun _ _ _ h => h); (case y197 => (exact Or.inr ⟨by kernel_rfl, rfl⟩)); simp only [Act.put, List.setIfInBounds_toArray, List.set_cons_zero, List.set_cons_succ]
                refine tkQ (i := 33) (oi := ?o198) (v := undef) ?h198 ?q198 ?y198 hS ?_; (case h198 => (simp only [gqA, gqB, gqC]; rfl)); (case q198 => exact fun _ _ _ h => h); (case y198 => (exact Or.inr ⟨by kernel_rfl, rfl⟩)); simp only [Act.put, List.setIfInBounds_toArray, List.set_cons_zero, List.set_cons_succ]
                refine tkQ (i := 34) (oi := ?o199) (v := ?v199) ?h199 ?q199 ?y199 hS ?_; (case h199 => (simp only [gqA, gqB, gqC]; rfl)); (case q199 => exact fun _ _ _ h => h); (case y199 => (refine Or.inl ⟨by kernel_rfl, ?_⟩; intro wq hSq; clear hSq; go_simp; (try with_reducible rfl))); simp only [Act.put, List.setIfInBounds_toArray, List.set_cons_zero, List.set_cons_succ]
                refine tkQ (i := 35) (oi := ?o200) (v := ?v200) ?h200 ?q200 ?y200 hS ?_; (case h200 => (simp only [gqA, gqB, gqC]; rfl)); (case q200 => exact fun _ _ _ h => h); (case y200 => (refine Or.inl ⟨by kernel_rfl, ?_⟩; intro wq hSq; clear hSq; go_simp; (try with_reducible rfl))); simp only [Act.put, List.setIfInBounds_toArray, List.set_cons_zero, List.set_cons_succ]
                refine tkQ (i := 36) (oi := ?o201) (v := undef) ?h201 ?q201 ?y201 hS ?_; (case h201 => (simp only [gqA, gqB, gqC]; rfl)); (case q201 => exact fun _ _ _ h => h); (case y201 => (exact Or.inr ⟨by kernel_rfl, rfl⟩)); simp only [Act.put, List.setIfInBounds_toArray, List.set_cons_zero, List.set_cons_succ]
                refine tkQ (i := 37) (oi := ?o202) (v := undef) ?h202 ?q202 ?y202 hS ?_; (case h202 => (simp only [gqA, gqB, gqC]; rfl)); (case q202 => exact fun _ _ _ h => h); (case y202 => (exact Or.inr ⟨by kernel_rfl, rfl⟩)); simp only [Act.put, List.setIfInBounds_toArray, List.set_cons_zero, List.set_cons_succ]
                refine tkQ (i := 38) (oi := ?o203) (v := undef) ?h203 ?q203 ?y203 hS ?_; (case h203 => (simp only [gqA, gqB, gqC]; rfl)); (case q203 => exact fun _ _ _ h => h); (case y203 => (exact Or.inr ⟨by kernel_rfl, rfl⟩)); simp only [Act.put, List.setIfInBounds_toArray, List.set_cons_zero, List.set_cons_succ]
                refine tkQ (i := 39) (oi := ?o204) (v := undef) ?h204 ?q204 ?y204 hS ?_; (case h204 => (simp only [gqA, gqB, gqC]; rfl)); (case q204 => exact fun _ _ _ h => h); (case y204 => (exact Or.inr ⟨by kernel_rfl, rfl⟩)); simp only [Act.put, List.setIfInBounds_toArray, List.set_cons_zero, List.set_cons_succ]
                refine tkQ (i := 40) (oi := ?o205) (v := ?v205) ?h205 ?q205 ?y205 hS ?_; (case h205 => (simp only [gqA, gqB, gqC]; rfl)); (case q205 => exact fun _ _ _ h => h); (case y205 => (refine Or.inl ⟨by kernel_rfl, ?_⟩; intro wq hSq; clear hSq; go_simp; (try with_reducible rfl))); simp only [Act.put, List.setIfInBounds_toArray, List.set_cons_zero, List.set_cons_succ]
                refine wpAnyH_done (by kernel_rfl) ?_ _
                go_wp2
                go_ret
                exact ⟨rfl, New.trans HS2.out.new hn3⟩
          · obtain ⟨m, rfl⟩ : ∃ m, i = m + 1 := ⟨i - 1, by omega⟩
            obtain ⟨bk', o', hA, _, y, hy, hcy⟩ := rd_row (f := imC) (k := 3) (fun _ => rfl) HN3.out (HR3.out.below HX.out.new) (show m < n3 by omega)
            injection hA with hA
            injection hA with hA1 hA2
            subst hA1 hA2
            have HL : Hid (ltHead (posR imps (m + 1)) xp = decide (y.pos < xp)) := Lib.hid (by rw [posR_succ hy]; rfl)
            obtain ⟨yl, ys, yp⟩ := y
            simp only at HL
            have y2 := hcy 2 (.int .i64 yp) (by omega) rfl
            rw [← Nat.add_assoc] at y2
            have hbk2 := (HR3.out.2 (by omega))
            have neK : some bk ≠ some (w.heap.size + 1) := by
              obtain ⟨b9, o9, e9, l9, _⟩ := hbk2
              injection e9 with e9
              injection e9 with e9 _
              intro e
              have := Option.some.inj e
              omega
            rw [HL.out] at HFX
            have k7 : IntKind.i64.wrap ((m : Int) + 1 - 1) = (m : Int) := by rw [IntWalk.i64_in _ (by omega)]; omega
            have k8 : IntKind.i64.wrap (((m + 1 : Nat) : Int) - 1) = (m : Int) := by rw [IntWalk.i64_in _ (by omega)]; omega
            have k10 : (0 : Int) < (m : Int) + 1 := by omega
            have k11 : (0 : Int) ≤ (m : Int) := by omega
            have k12 : (m : Int) < (n3 : Int) := by omega
            have k13 : (m : Int).toNat = m := by omega
            have k14 : m < n3 := by omega
            have k15 : IntKind.i64.wrap (m : Int) = (m : Int) := IntWalk.i64_in _ (by omega)
            have k16 : (m : Int) + 1 < (n3 : Int) := by omega
            have t1 : decide (0 < m + 1) = true := decide_eq_true (by omega)
            have t2 : decide ((0 : Int) < (m : Int) + 1) = true := decide_eq_true (by omega)
            clear hx hcell hy hcy hbk2
            by_cases hlt2 : yp < xp
            · rw [decide_eq_true hlt2, Bool.true_and] at HFX
              have t3 : decide (xp ≤ yp) = false := decide_eq_false (by omega)
              cases tk
              · have hRf := HBad.out (by rw [HFX.out]; rfl)
                subst hRf
                go_wp2_with (fail)
                refine wp_region_held_drew (S := (fun W => (wr.alloc (.cells #[.string xl, .string xs, .int .i64 xp] 85)).grownBy W (some (w.heap.size + 1)))) (by kernel_rfl) (new_grown (New.refl _).drew _) (fun hS => ?_)
                refine tkQ (i := 0) (oi := ?o206) (v := ?v206) ?h206 ?q206 ?y206 hS ?_; (case h206 => (simp only [gqA, gqB, gqC]; rfl)); (case q206 => exact fun _ _ _ h => h); (case y206 => (refine Or.inl ⟨by kernel_rfl, ?_⟩; intro wq hSq; clear hSq; go_simp; (try with_reducible rfl))); simp only [Act.put, List.setIfInBounds_toArray, List.set_cons_zero, List.set_cons_succ]
                refine tkQ (i := 1) (oi := ?o207) (v := ?v207) ?h207 ?q207 ?y207 hS ?_; (case h207 => (simp only [gqA, gqB, gqC]; rfl)); (case q207 => exact fun _ _ _ h => h); (case y207 => (refine Or.inl ⟨by kernel_rfl, ?_⟩; intro wq hSq; clear hSq; go_simp; (try with_reducible rfl))); simp only [Act.put, List.setIfInBounds_toArray, List.set_cons_zero, List.set_cons_succ]
                refine tkQ (i := 2) (oi := ?o208) (v := ?v208) ?h208 ?q208 ?y208 hS ?_; (case h208 => (simp only [gqA, gqB, gqC]; rfl)); (case q208 => exact fun _ _ _ h => h); (case y208 => (refine Or.inl ⟨by kernel_rfl, ?_⟩; intro wq hSq; clear hSq; go_simp; (try with_reducible rfl))); simp only [Act.put, List.setIfInBounds_toArray, List.set_cons_zero, List.set_cons_succ]
                refine tkQ (i := 3) (oi := ?o209) (v := ?v209) ?h209 ?q209 ?y209 hS ?_; (case h209 => (simp only [gqA, gqB, gqC]; rfl)); (case q209 => exact fun _ _ _ h => h); (case y209 => (refine Or.inl ⟨by kernel_rfl, ?_⟩; intro wq hSq; clear hSq; go_simp; (try with_reducible rfl))); simp only [Act.put, List.setIfInBounds_toArray, List.set_cons_zero, List.set_cons_succ]
                refine tkQ (i := 4) (oi := ?o210) (v := ?v210) ?h210 ?q210 ?y210 hS ?_; (case h210 => (simp only [gqA, gqB, gqC]; rfl)); (case q210 => exact fun _ _ _ h => h); (case y210 => (refine Or.inl ⟨by kernel_rfl, ?_⟩; intro wq hSq; have hf0 := hSq.cell g5 neb; have hf1 := hSq.cell g2 neb; have hf2 := hSq.cell (BX.cell' 0 _ rfl) neX; have hf3 := hSq.cell (BX.cell' 1 _ rfl) neX; have hf4 := hSq.cell (BX.cell' 2 _ rfl) neX; have hf5 := hSq.cell y2 neK; clear hSq; go_simp; (try with_reducible rfl))); simp only [Act.put, List.setIfInBounds_toArray, List.set_cons_zero, List.set_cons_succ]
                refine tkQ (i := 5) (oi := ?o211) (v := ?v211) ?h211 ?q211 ?y211 hS ?_; (case h211 => (simp only [gqA, gqB, gqC]; rfl)); (case q211 => exact fun _ _ _ h => h); (case y211 => (refine Or.inl ⟨by kernel_rfl, ?_⟩; intro wq hSq; clear hSq; go_simp; (try with_reducible rfl))); simp only [Act.put, List.setIfInBounds_toArray, List.set_cons_zero, List.set_cons_succ]
                refine tkQ (i := 6) (oi := ?o212) (v := ?v212) ?h212 ?q212 ?y212 hS ?_; (case h212 => (simp only [gqA, gqB, gqC]; rfl)); (case q212 => exact fun _ _ _ h => h); (case y212 => (refine Or.inl ⟨by kernel_rfl, ?_⟩; intro wq hSq; clear hSq; go_simp; (try with_reducible rfl))); simp only [Act.put, List.setIfInBounds_toArray, List.set_cons_zero, List.set_cons_succ]
                refine tkQ (i := 7) (oi := ?o213) (v := ?v213) ?h213 ?q213 ?y213 hS ?_; (case h213 => (simp only [gqA, gqB, gqC]; rfl)); (case q213 => exact fun _ _ _ h => h); (case y213 => (refine Or.inl ⟨by kernel_rfl, ?_⟩; intro wq hSq; clear hSq; go_simp; (try with_reducible rfl))); simp only [Act.put, List.setIfInBounds_toArray, List.set_cons_zero, List.set_cons_succ]
                refine tkQ (i := 8) (oi := ?o214) (v := ?v214) ?h214 ?q214 ?y214 hS ?_; (case h214 => (simp only [gqA, gqB, gqC]; rfl)); (case q214 => exact fun _ _ _ h => h); (case y214 => (refine Or.inl ⟨by kernel_rfl, ?_⟩; intro wq hSq; clear hSq; go_simp; (try with_reducible rfl))); simp only [Act.put, List.setIfInBounds_toArray, List.set_cons_zero, List.set_cons_succ]
                refine tkQ (i := 9) (oi := ?o215) (v := ?v215) ?h215 ?q215 ?y215 hS ?_; (case h215 => (simp only [gqA, gqB, gqC]; rfl)); (case q215 => exact fun _ _ _ h => h); (case y215 => (refine Or.inl ⟨by kernel_rfl, ?_⟩; intro wq hSq; have hf0 := hSq.cell g5 neb; have hf1 := hSq.cell g2 neb; have hf2 := hSq.cell (BX.cell' 0 _ rfl) neX; have hf3 := hSq.cell (BX.cell' 1 _ rfl) neX; have hf4 := hSq.cell (BX.cell' 2 _ rfl) neX; have hf5 := hSq.cell y2 neK; clear hSq; go_simp; (try with_reducible rfl))); simp only [Act.put, List.setIfInBounds_toArray, List.set_cons_zero, List.set_cons_succ]
                refine tkQ (i := 10) (oi := ?o216) (v := ?v216) ?h216 ?q216 ?y216 hS ?_; (case h216 => (simp only [gqA, gqB, gqC]; rfl)); (case q216 => exact fun _ _ _ h => h); (case y216 => (refine Or.inl ⟨by kernel_rfl, ?_⟩; intro wq hSq; clear hSq; go_simp; (try with_reducible rfl))); simp only [Act.put, List.setIfInBounds_toArray, List.set_cons_zero, List.set_cons_succ]
                refine tkQ (i := 11) (oi := ?o217) (v := ?v217) ?h217 ?q217 ?y217 hS ?_; (case h217 => (simp only [gqA, gqB, gqC]; rfl)); (case q217 => exact fun _ _ _ h => h); (case y217 => (refine Or.inl ⟨by kernel_rfl, ?_⟩; intro wq hSq; have hf0 := hSq.cell g5 neb; have hf1 := hSq.cell g2 neb; have hf2 := hSq.cell (BX.cell' 0 _ rfl) neX; have hf3 := hSq.cell (BX.cell' 1 _ rfl) neX; have hf4 := hSq.cell (BX.cell' 2 _ rfl) neX; have hf5 := hSq.cell y2 neK; clear hSq; go_simp; (try with_reducible rfl))); simp only [Act.put, List.setIfInBounds_toArray, List.set_cons_zero, List.set_cons_succ]
                refine tkQ (i := 12) (oi := ?o218) (v := ?v218) ?h218 ?q218 ?y218 hS ?_; (case h218 => (simp only [gqA, gqB, gqC]; rfl)); (case q218 => exact fun _ _ _ h => h); (case y218 => (refine Or.inl ⟨by kernel_rfl, ?_⟩; intro wq hSq; clear hSq; go_simp; (try with_reducible rfl))); simp only [Act.put, List.setIfInBounds_toArray, List.set_cons_zero, List.set_cons_succ]
                refine tkQ (i := 13) (oi := ?o219) (v := ?v219) ?h219 ?q219 ?y219 hS ?_; (case h219 => (simp only [gqA, gqB, gqC]; rfl)); (case q219 => exact fun _ _ _ h => h); (case y219 => (refine Or.inl ⟨by kernel_rfl, ?_⟩; intro wq hSq; clear hSq; go_simp; (try with_reducible rfl))); simp only [Act.put, List.setIfInBounds_toArray, List.set_cons_zero, List.set_cons_succ]
                refine tkQ (i := 14) (oi := ?o220) (v := ?v220) ?h220 ?q220 ?y220 hS ?_; (case h220 => (simp only [gqA, gqB, gqC]; rfl)); (case q220 => exact fun _ _ _ h => h); (case y220 => (refine Or.inl ⟨by kernel_rfl, ?_⟩; intro wq hSq; clear hSq; go_simp; (try with_reducible rfl))); simp only [Act.put, List.setIfInBounds_toArray, List.set_cons_zero, List.set_cons_succ]
                refine tkQ (i := 15) (oi := ?o221) (v := ?v221) ?h221 ?q221 ?y221 hS ?_; (case h221 => (simp only [gqA, gqB, gqC]; rfl)); (case q221 => exact fun _ _ _ h => h); (case y221 => (refine Or.inl ⟨by kernel_rfl, ?_⟩; intro wq hSq; clear hSq; go_simp; (try with_reducible rfl))); simp only [Act.put, List.setIfInBounds_toArray, List.set_cons_zero, List.set_cons_succ]
                refine tkQ (i := 16) (oi := ?o222) (v := ?v222) ?h222 ?q222 ?y222 hS ?_; (case h222 => (simp only [gqA, gqB, gqC]; rfl)); (case q222 => exact fun _ _ _ h => h); (case y222 => (refine Or.inl ⟨by kernel_rfl, ?_⟩; intro wq hSq; clear hSq; go_simp; (try with_reducible rfl))); simp only [Act.put, List.setIfInBounds_toArray, List.set_cons_zero, List.set_cons_succ]
                refine tkQ (i := 17) (oi := ?o223) (v := ?v223) ?h223 ?q223 ?y223 hS ?_; (case h223 => (simp only [gqA, gqB, gqC]; rfl)); (case q223 => exact fun _ _ _ h => h); (case y223 => (refine Or.inl ⟨by kernel_rfl, ?_⟩; intro wq hSq; have hf0 := hSq.cell g5 neb; have hf1 := hSq.cell g2 neb; have hf2 := hSq.cell (BX.cell' 0 _ rfl) neX; have hf3 := hSq.cell (BX.cell' 1 _ rfl) neX; have hf4 := hSq.cell (BX.cell' 2 _ rfl) neX; have hf5 := hSq.cell y2 neK; clear hSq; go_simp; (try with_reducible rfl))); simp only [Act.put, List.setIfInBounds_toArray, List.set_cons_zero, List.set_cons_succ]
                refine wpAnyH_ready (rs := [18]) (by kernel_rfl) (by simp) ?_
                refine AllReadyH.cons (o := ?oi224) ?hi224 (fun K hK => ?_) AllReadyH.nil
                case hi224 => (simp only [gqA, gqB, gqC]; rfl)
                go_simp
                refine (HK.out _ (New.refl _).drew).mono ?_
                rintro e w2 ⟨rfl, hg2, hk2⟩
                refine hK.out _ _ (World.grownBy.trans hS hg2) (fun hS => ?_)
                clear hK K
                refine tkQ (i := 19) (oi := ?o225) (v := ?v225) ?h225 ?q225 ?y225 hS ?_; (case h225 => (simp only [gqA, gqB, gqC]; rfl)); (case q225 => exact fun _ _ _ h => h); (case y225 => (refine Or.inl ⟨by kernel_rfl, ?_⟩; intro wq hSq; clear hSq; go_simp; (try with_reducible rfl))); simp only [Act.put, List.setIfInBounds_toArray, List.set_cons_zero, List.set_cons_succ]
                refine tkQ (i := 20) (oi := ?o226) (v := ?v226) ?h226 ?q226 ?y226 hS ?_; (case h226 => (simp only [gqA, gqB, gqC]; rfl)); (case q226 => exact fun _ _ _ h => h); (case y226 => (refine Or.inl ⟨by kernel_rfl, ?_⟩; intro wq hSq; clear hSq; go_simp; (try with_reducible rfl))); simp only [Act.put, List.setIfInBounds_toArray, List.set_cons_zero, List.set_cons_succ]
                refine tkQ (i := 21) (oi := ?o227) (v := ?v227) ?h227 ?q227 ?y227 hS ?_; (case h227 => (simp only [gqA, gqB, gqC]; rfl)); (case q227 => exact fun _ _ _ h => h); (case y227 => (refine Or.inl ⟨by kernel_rfl, ?_⟩; intro wq hSq; clear hSq; go_simp; (try with_reducible rfl))); simp only [Act.put, List.setIfInBounds_toArray, List.set_cons_zero, List.set_cons_succ]
                refine tkQ (i := 22) (oi := ?o228) (v := undef) ?h228 ?q228 ?y228 hS ?_; (case h228 => (simp only [gqA, gqB, gqC]; rfl)); (case q228 => exact fun _ _ _ h => h); (case y228 => (exact Or.inr ⟨by kernel_rfl, rfl⟩)); simp only [Act.put, List.setIfInBounds_toArray, List.set_cons_zero, List.set_cons_succ]
                refine tkQ (i := 23) (oi := ?o229) (v := undef) ?h229 ?q229 ?y229 hS ?_; (case h229 => (simp only [gqA, gqB, gqC]; rfl)); (case q229 => exact fun _ _ _ h => h); (case y229 => (exact Or.inr ⟨by kernel_rfl, rfl⟩)); simp only [Act.put, List.setIfInBounds_toArray, List.set_cons_zero, List.set_cons_succ]
                refine tkQ (i := 24) (oi := ?o230) (v := undef) ?h230 ?q230 ?y230 hS ?_; (case h230 => (simp only [gqA, gqB, gqC]; rfl)); (case q230 => exact fun _ _ _ h => h); (case y230 => (exact Or.inr ⟨by kernel_rfl, rfl⟩)); simp only [Act.put, List.setIfInBounds_toArray, List.set_cons_zero, List.set_cons_succ]
                refine tkQ (i := 25) (oi := ?o231) (v := undef) ?h231 ?q231 ?y231 hS ?_; (case h231 => (simp only [gqA, gqB, gqC]; rfl)); (case q231 => exact fun _ _ _ h => h); (case y231 => (exact Or.inr ⟨by kernel_rfl, rfl⟩)); simp only [Act.put, List.setIfInBounds_toArray, List.set_cons_zero, List.set_cons_succ]
                refine tkQ (i := 26) (oi := ?o232) (v := undef) ?h232 ?q232 ?y232 hS ?_; (case h232 => (simp only [gqA, gqB, gqC]; rfl)); (case q232 => exact fun _ _ _ h => h); (case y232 => (exact Or.inr ⟨by kernel_rfl, rfl⟩)); simp only [Act.put, List.setIfInBounds_toArray, List.set_cons_zero, List.set_cons_succ]
                refine tkQ (i := 27) (oi := ?o233) (v := undef) ?h233 ?q233 ?y233 hS ?_; (case h233 => (simp only [gqA, gqB, gqC]; rfl)); (case q233 => exact fun _ _ _ h => h); (case y233 => (exact Or.inr ⟨by kernel_rfl, rfl⟩)); simp only [Act.put, List.setIfInBounds_toArray, List.set_cons_zero, List.set_cons_succ]
                refine tkQ (i := 28) (oi := ?o234) (v := ?v234) ?h234 ?q234 ?y234 hS ?_; (case h234 => (simp only [gqA, gqB, gqC]; rfl)); (case q234 => exact fun _ _ _ h => h); (case y234 => (refine Or.inl ⟨by kernel_rfl, ?_⟩; intro wq hSq; clear hSq; go_simp; (try with_reducible rfl))); simp only [Act.put, List.setIfInBounds_toArray, List.set_cons_zero, List.set_cons_succ]
                refine tkQ (i := 29) (oi := ?o235) (v := ?v235) ?h235 ?q235 ?y235 hS ?_; (case h235 => (simp only [gqA, gqB, gqC]; rfl)); (case q235 => exact fun _ _ _ h => h); (case y235 => (refine Or.inl ⟨by kernel_rfl, ?_⟩; intro wq hSq; clear hSq; go_simp; (try with_reducible rfl))); simp only [Act.put, List.setIfInBounds_toArray, List.set_cons_zero, List.set_cons_succ]
                refine tkQ (i := 30) (oi := ?o236) (v := undef) ?h236 ?q236 ?y236 hS ?_; (case h236 => (simp only [gqA, gqB, gqC]; rfl)); (case q236 => exact fun _ _ _ h => h); (case y236 => (exact Or.inr ⟨by kernel_rfl, rfl⟩)); simp only [Act.put, List.setIfInBounds_toArray, List.set_cons_zero, List.set_cons_succ]
                refine tkQ (i := 31) (oi := ?o237) (v := undef) ?h237 ?q237 ?y237 hS ?_; (case h237 => (simp only [gqA, gqB, gqC]; rfl)); (case q237 => exact fun _ _ _ h => h); (case y237 => (exact Or.inr ⟨by kernel_rfl, rfl⟩)); simp only [Act.put, List.setIfInBounds_toArray, List.set_cons_zero, List.set_cons_succ]
                refine tkQ (i := 32) (oi := ?o238) (v := undef) ?h238 ?q238 ?y238 hS ?_; (case h238 => (simp only [gqA, gqB, gqC]; rfl)); (case q238 => exact fun _ _ _ h => h); (case y238 => (exact Or.inr ⟨by kernel_rfl, rfl⟩)); simp only [Act.put, List.setIfInBounds_toArray, List.set_cons_zero, List.set_cons_succ]
                refine tkQ (i := 33) (oi := ?o239) (v := undef) ?h239 ?q239 ?y239 hS ?_; (case h239 => (simp only [gqA, gqB, gqC]; rfl)); (case q239 => exact fun _ _ _ h => h); (case y239 => (exact Or.inr ⟨by kernel_rfl, rfl⟩)); simp only [Act.put, List.setIfInBounds_toArray, List.set_cons_zero, List.set_cons_succ]
                refine tkQ (i := 34) (oi := ?o240) (v := ?v240) ?h240 ?q240 ?y240 hS ?_; (case h240 => (simp only [gqA, gqB, gqC]; rfl)); (case q240 => exact fun _ _ _ h => h); (case y240 => (refine Or.inl ⟨by kernel_rfl, ?_⟩; intro wq hSq; clear hSq; go_simp; (try with_reducible rfl))); simp only [Act.put, List.setIfInBounds_toArray, List.set_cons_zero, List.set_cons_succ]
                refine tkQ (i := 35) (oi := ?o241) (v := ?v241) ?h241 ?q241 ?y241 hS ?_; (case h241 => (simp only [gqA, gqB, gqC]; rfl)); (case q241 => exact fun _ _ _ h => h); (case y241 => (refine Or.inl ⟨by kernel_rfl, ?_⟩; intro wq hSq; clear hSq; go_simp; (try with_reducible rfl))); simp only [Act.put, List.setIfInBounds_toArray, List.set_cons_zero, List.set_cons_succ]
                refine tkQ (i := 36) (oi := ?o242) (v := undef) ?h242 ?q242 ?y242 hS ?_; (case h242 => (simp only [gqA, gqB, gqC]; rfl)); (case q242 => exact fun _ _ _ h => h); (case y242 => (exact Or.inr ⟨by kernel_rfl, rfl⟩)); simp only [Act.put, List.setIfInBounds_toArray, List.set_cons_zero, List.set_cons_succ]
                refine tkQ (i := 37) (oi := ?o243) (v := undef) ?h243 ?q243 ?y243 hS ?_; (case h243 => (simp only [gqA, gqB, gqC]; rfl)); (case q243 => exact fun _ _ _ h => h); (case y243 => (exact Or.inr ⟨by kernel_rfl, rfl⟩)); simp only [Act.put, List.setIfInBounds_toArray, List.set_cons_zero, List.set_cons_succ]
                refine tkQ (i := 38) (oi := ?o244) (v := undef) ?h244 ?q244 ?y244 hS ?_; (case h244 => (simp only [gqA, gqB, gqC]; rfl)); (case q244 => exact fun _ _ _ h => h); (case y244 => (exact Or.inr ⟨by kernel_rfl, rfl⟩)); simp only [Act.put, List.setIfInBounds_toArray, List.set_cons_zero, List.set_cons_succ]
                refine tkQ (i := 39) (oi := ?o245) (v := undef) ?h245 ?q245 ?y245 hS ?_; (case h245 => (simp only [gqA, gqB, gqC]; rfl)); (case q245 => exact fun _ _ _ h => h); (case y245 => (exact Or.inr ⟨by kernel_rfl, rfl⟩)); simp only [Act.put, List.setIfInBounds_toArray, List.set_cons_zero, List.set_cons_succ]
                refine tkQ (i := 40) (oi := ?o246) (v := ?v246) ?h246 ?q246 ?y246 hS ?_; (case h246 => (simp only [gqA, gqB, gqC]; rfl)); (case q246 => exact fun _ _ _ h => h); (case y246 => (refine Or.inl ⟨by kernel_rfl, ?_⟩; intro wq hSq; clear hSq; go_simp; (try with_reducible rfl))); simp only [Act.put, List.setIfInBounds_toArray, List.set_cons_zero, List.set_cons_succ]
                refine wpAnyH_done (by kernel_rfl) ?_ _
                go_wp2
                go_ret
                exact ⟨rfl, Below.grown (New.trans HX.out.new (New.refl _).drew) hg2 (by have := HX.out.new.size; simp; omega) (fun k hk => by have := Option.some.inj hk; omega)⟩
              · rw [Bool.true_and] at HFX
                obtain ⟨b1, b2⟩ := HBd.out xp (HTW.out rfl)
                obtain ⟨xn, rfl⟩ : ∃ xn : Nat, xp = (xn : Int) := ⟨xp.toNat, by omega⟩
                rw [Int.toNat_natCast] at HFX
                have HW := Lib.hid (fun W => word_any image xn W (by rw [HNN.out]; omega) (by rw [HNN.out]; omega))
                clear HTW
                generalize wordV image xn = wv at *
                by_cases hw0 : wv = 0
                · subst hw0
                  rw [decide_eq_true rfl, Bool.true_and] at HFX
                  cases pk
                  · have hRf := HBad.out (by rw [HFX.out]; rfl)
                    subst hRf
                    go_wp2_with (fail)
                    refine wp_region_held_drew (S := (fun W => (wr.alloc (.cells #[.string xl, .string xs, .int .i64 (xn : Int)] 85)).grownBy W (some (w.heap.size + 1)))) (by kernel_rfl) (new_grown (New.refl _).drew _) (fun hS => ?_)
                    refine tkQ (i := 0) (oi := ?o247) (v := ?v247) ?h247 ?q247 ?y247 hS ?_; (case h247 => (simp only [gqA, gqB, gqC]; rfl)); (case q247 => exact fun _ _ _ h => h); (case y247 => (refine Or.inl ⟨by kernel_rfl, ?_⟩; intro wq hSq; clear hSq; go_simp; (try with_reducible rfl))); simp only [Act.put, List.setIfInBounds_toArray, List.set_cons_zero, List.set_cons_succ]
                    refine tkQ (i := 1) (oi := ?o248) (v := ?v248) ?h248 ?q248 ?y248 hS ?_; (case h248 => (simp only [gqA, gqB, gqC]; rfl)); (case q248 => exact fun _ _ _ h => h); (case y248 => (refine Or.inl ⟨by kernel_rfl, ?_⟩; intro wq hSq; clear hSq; go_simp; (try with_reducible rfl))); simp only [Act.put, List.setIfInBounds_toArray, List.set_cons_zero, List.set_cons_succ]
                    refine tkQ (i := 2) (oi := ?o249) (v := ?v249) ?h249 ?q249 ?y249 hS ?_; (case h249 => (simp only [gqA, gqB, gqC]; rfl)); (case q249 => exact fun _ _ _ h => h); (case y249 => (refine Or.inl ⟨by kernel_rfl, ?_⟩; intro wq hSq; clear hSq; go_simp; (try with_reducible rfl))); simp only [Act.put, List.setIfInBounds_toArray, List.set_cons_zero, List.set_cons_succ]
                    refine tkQ (i := 3) (oi := ?o250) (v := ?v250) ?h250 ?q250 ?y250 hS ?_; (case h250 => (simp only [gqA, gqB, gqC]; rfl)); (case q250 => exact fun _ _ _ h => h); (case y250 => (refine Or.inl ⟨by kernel_rfl, ?_⟩; intro wq hSq; clear hSq; go_simp; (try with_reducible rfl))); simp only [Act.put, List.setIfInBounds_toArray, List.set_cons_zero, List.set_cons_succ]
                    refine tkQ (i := 4) (oi := ?o251) (v := ?v251) ?h251 ?q251 ?y251 hS ?_; (case h251 => (simp only [gqA, gqB, gqC]; rfl)); (case q251 => exact fun _ _ _ h => h); (case y251 => (refine Or.inl ⟨by kernel_rfl, ?_⟩; intro wq hSq; have hf0 := hSq.cell g5 neb; have hf1 := hSq.cell g2 neb; have hf2 := hSq.cell (BX.cell' 0 _ rfl) neX; have hf3 := hSq.cell (BX.cell' 1 _ rfl) neX; have hf4 := hSq.cell (BX.cell' 2 _ rfl) neX; have hf5 := hSq.cell y2 neK; clear hSq; go_simp; (try with_reducible rfl))); simp only [Act.put, List.setIfInBounds_toArray, List.set_cons_zero, List.set_cons_succ]
                    refine tkQ (i := 5) (oi := ?o252) (v := ?v252) ?h252 ?q252 ?y252 hS ?_; (case h252 => (simp only [gqA, gqB, gqC]; rfl)); (case q252 => exact fun _ _ _ h => h); (case y252 => (refine Or.inl ⟨by kernel_rfl, ?_⟩; intro wq hSq; clear hSq; go_simp; (try with_reducible rfl))); simp only [Act.put, List.setIfInBounds_toArray, List.set_cons_zero, List.set_cons_succ]
                    refine tkQ (i := 6) (oi := ?o253) (v := ?v253) ?h253 ?q253 ?y253 hS ?_; (case h253 => (simp only [gqA, gqB, gqC]; rfl)); (case q253 => exact fun _ _ _ h => h); (case y253 => (refine Or.inl ⟨by kernel_rfl, ?_⟩; intro wq hSq; clear hSq; go_simp; (try with_reducible rfl))); simp only [Act.put, List.setIfInBounds_toArray, List.set_cons_zero, List.set_cons_succ]
                    refine tkQ (i := 7) (oi := ?o254) (v := ?v254) ?h254 ?q254 ?y254 hS ?_; (case h254 => (simp only [gqA, gqB, gqC]; rfl)); (case q254 => exact fun _ _ _ h => h); (case y254 => (refine Or.inl ⟨by kernel_rfl, ?_⟩; intro wq hSq; clear hSq; go_simp; (try with_reducible rfl))); simp only [Act.put, List.setIfInBounds_toArray, List.set_cons_zero, List.set_cons_succ]
                    refine tkQ (i := 8) (oi := ?o255) (v := ?v255) ?h255 ?q255 ?y255 hS ?_; (case h255 => (simp only [gqA, gqB, gqC]; rfl)); (case q255 => exact fun _ _ _ h => h); (case y255 => (refine Or.inl ⟨by kernel_rfl, ?_⟩; intro wq hSq; clear hSq; go_simp; (try with_reducible rfl))); simp only [Act.put, List.setIfInBounds_toArray, List.set_cons_zero, List.set_cons_succ]
                    refine tkQ (i := 9) (oi := ?o256) (v := ?v256) ?h256 ?q256 ?y256 hS ?_; (case h256 => (simp only [gqA, gqB, gqC]; rfl)); (case q256 => exact fun _ _ _ h => h); (case y256 => (refine Or.inl ⟨by kernel_rfl, ?_⟩; intro wq hSq; have hf0 := hSq.cell g5 neb; have hf1 := hSq.cell g2 neb; have hf2 := hSq.cell (BX.cell' 0 _ rfl) neX; have hf3 := hSq.cell (BX.cell' 1 _ rfl) neX; have hf4 := hSq.cell (BX.cell' 2 _ rfl) neX; have hf5 := hSq.cell y2 neK; clear hSq; go_simp; (try with_reducible rfl))); simp only [Act.put, List.setIfInBounds_toArray, List.set_cons_zero, List.set_cons_succ]
                    refine tkQ (i := 10) (oi := ?o257) (v := ?v257) ?h257 ?q257 ?y257 hS ?_; (case h257 => (simp only [gqA, gqB, gqC]; rfl)); (case q257 => exact fun _ _ _ h => h); (case y257 => (refine Or.inl ⟨by kernel_rfl, ?_⟩; intro wq hSq; clear hSq; go_simp; (try with_reducible rfl))); simp only [Act.put, List.setIfInBounds_toArray, List.set_cons_zero, List.set_cons_succ]
                    refine tkQ (i := 11) (oi := ?o258) (v := ?v258) ?h258 ?q258 ?y258 hS ?_; (case h258 => (simp only [gqA, gqB, gqC]; rfl)); (case q258 => exact fun _ _ _ h => h); (case y258 => (refine Or.inl ⟨by kernel_rfl, ?_⟩; intro wq hSq; have hf0 := hSq.cell g5 neb; have hf1 := hSq.cell g2 neb; have hf2 := hSq.cell (BX.cell' 0 _ rfl) neX; have hf3 := hSq.cell (BX.cell' 1 _ rfl) neX; have hf4 := hSq.cell (BX.cell' 2 _ rfl) neX; have hf5 := hSq.cell y2 neK; clear hSq; go_simp; (try with_reducible rfl))); simp only [Act.put, List.setIfInBounds_toArray, List.set_cons_zero, List.set_cons_succ]
                    refine tkQ (i := 12) (oi := ?o259) (v := ?v259) ?h259 ?q259 ?y259 hS ?_; (case h259 => (simp only [gqA, gqB, gqC]; rfl)); (case q259 => exact fun _ _ _ h => h); (case y259 => (refine Or.inl ⟨by kernel_rfl, ?_⟩; intro wq hSq; clear hSq; go_simp; (try with_reducible rfl))); simp only [Act.put, List.setIfInBounds_toArray, List.set_cons_zero, List.set_cons_succ]
                    refine tkQ (i := 13) (oi := ?o260) (v := ?v260) ?h260 ?q260 ?y260 hS ?_; (case h260 => (simp only [gqA, gqB, gqC]; rfl)); (case q260 => exact fun _ _ _ h => h); (case y260 => (refine Or.inl ⟨by kernel_rfl, ?_⟩; intro wq hSq; clear hSq; go_simp; (try with_reducible rfl))); simp only [Act.put, List.setIfInBounds_toArray, List.set_cons_zero, List.set_cons_succ]
                    refine tkQ (i := 14) (oi := ?o261) (v := ?v261) ?h261 ?q261 ?y261 hS ?_; (case h261 => (simp only [gqA, gqB, gqC]; rfl)); (case q261 => exact fun _ _ _ h => h); (case y261 => (refine Or.inl ⟨by kernel_rfl, ?_⟩; intro wq hSq; clear hSq; go_simp; (try with_reducible rfl))); simp only [Act.put, List.setIfInBounds_toArray, List.set_cons_zero, List.set_cons_succ]
                    refine tkQ (i := 15) (oi := ?o262) (v := ?v262) ?h262 ?q262 ?y262 hS ?_; (case h262 => (simp only [gqA, gqB, gqC]; rfl)); (case q262 => exact fun _ _ _ h => h); (case y262 => (refine Or.inl ⟨by kernel_rfl, ?_⟩; intro wq hSq; clear hSq; go_simp; (try with_reducible rfl))); simp only [Act.put, List.setIfInBounds_toArray, List.set_cons_zero, List.set_cons_succ]
                    refine tkQ (i := 16) (oi := ?o263) (v := ?v263) ?h263 ?q263 ?y263 hS ?_; (case h263 => (simp only [gqA, gqB, gqC]; rfl)); (case q263 => exact fun _ _ _ h => h); (case y263 => (refine Or.inl ⟨by kernel_rfl, ?_⟩; intro wq hSq; clear hSq; go_simp; (try with_reducible rfl))); simp only [Act.put, List.setIfInBounds_toArray, List.set_cons_zero, List.set_cons_succ]
                    refine tkQ (i := 17) (oi := ?o264) (v := ?v264) ?h264 ?q264 ?y264 hS ?_; (case h264 => (simp only [gqA, gqB, gqC]; rfl)); (case q264 => exact fun _ _ _ h => h); (case y264 => (refine Or.inl ⟨by kernel_rfl, ?_⟩; intro wq hSq; have hf0 := hSq.cell g5 neb; have hf1 := hSq.cell g2 neb; have hf2 := hSq.cell (BX.cell' 0 _ rfl) neX; have hf3 := hSq.cell (BX.cell' 1 _ rfl) neX; have hf4 := hSq.cell (BX.cell' 2 _ rfl) neX; have hf5 := hSq.cell y2 neK; clear hSq; go_simp; (try with_reducible rfl))); simp only [Act.put, List.setIfInBounds_toArray, List.set_cons_zero, List.set_cons_succ]
                    refine wpAnyH_ready (rs := [18]) (by kernel_rfl) (by simp) ?_
                    refine AllReadyH.cons (o := ?oi265) ?hi265 (fun K hK => ?_) AllReadyH.nil
                    case hi265 => (simp only [gqA, gqB, gqC]; rfl)
                    go_simp
                    refine (HK.out _ (New.refl _).drew).mono ?_
                    rintro e w2 ⟨rfl, hg2, hk2⟩
                    have HS2 := Lib.hid ((HX.out.later (New.refl _).drew).step hg2 (hk2.out trivial) hne3 hne1 hne2)
                    refine hK.out _ _ (World.grownBy.trans hS hg2) (fun hS => ?_)
                    clear hK K
                    refine tkQ (i := 19) (oi := ?o266) (v := ?v266) ?h266 ?q266 ?y266 hS ?_; (case h266 => (simp only [gqA, gqB, gqC]; rfl)); (case q266 => exact fun _ _ _ h => h); (case y266 => (refine Or.inl ⟨by kernel_rfl, ?_⟩; intro wq hSq; clear hSq; go_simp; (try with_reducible rfl))); simp only [Act.put, List.setIfInBounds_toArray, List.set_cons_zero, List.set_cons_succ]
                    refine tkQ (i := 20) (oi := ?o267) (v := ?v267) ?h267 ?q267 ?y267 hS ?_; (case h267 => (simp only [gqA, gqB, gqC]; rfl)); (case q267 => exact fun _ _ _ h => h); (case y267 => (refine Or.inl ⟨by kernel_rfl, ?_⟩; intro wq hSq; clear hSq; go_simp; (try with_reducible rfl))); simp only [Act.put, List.setIfInBounds_toArray, List.set_cons_zero, List.set_cons_succ]
                    refine tkQ (i := 21) (oi := ?o268) (v := ?v268) ?h268 ?q268 ?y268 hS ?_; (case h268 => (simp only [gqA, gqB, gqC]; rfl)); (case q268 => exact fun _ _ _ h => h); (case y268 => (refine Or.inl ⟨by kernel_rfl, ?_⟩; intro wq hSq; clear hSq; go_simp; (try with_reducible rfl))); simp only [Act.put, List.setIfInBounds_toArray, List.set_cons_zero, List.set_cons_succ]
                    refine tkQ (i := 22) (oi := ?o269) (v := ?v269) ?h269 ?q269 ?y269 hS ?_; (case h269 => (simp only [gqA, gqB, gqC]; rfl)); (case q269 => exact fun _ _ _ h => h); (case y269 => (refine Or.inl ⟨by kernel_rfl, ?_⟩; intro wq hSq; clear hSq; go_simp; (try with_reducible rfl))); simp only [Act.put, List.setIfInBounds_toArray, List.set_cons_zero, List.set_cons_succ]
                    refine tkQ (i := 23) (oi := ?o270) (v := ?v270) ?h270 ?q270 ?y270 hS ?_; (case h270 => (simp only [gqA, gqB, gqC]; rfl)); (case q270 => exact fun _ _ _ h => h); (case y270 => (refine Or.inl ⟨by kernel_rfl, ?_⟩; intro wq hSq; have hf0 := hSq.cell g5 neb; have hf1 := hSq.cell g2 neb; have hf2 := hSq.cell (BX.cell' 0 _ rfl) neX; have hf3 := hSq.cell (BX.cell' 1 _ rfl) neX; have hf4 := hSq.cell (BX.cell' 2 _ rfl) neX; have hf5 := hSq.cell y2 neK; clear hSq; go_simp; (try with_reducible rfl))); simp only [Act.put, List.setIfInBounds_toArray, List.set_cons_zero, List.set_cons_succ]
                    refine tkQ (i := 24) (oi := ?o271) (v := ?v271) ?h271 ?q271 ?y271 hS ?_; (case h271 => (simp only [gqA, gqB, gqC]; rfl)); (case q271 => exact fun _ _ _ h => h); (case y271 => (refine Or.inl ⟨by kernel_rfl, ?_⟩; intro wq hSq; clear hSq; go_simp; (try with_reducible rfl))); simp only [Act.put, List.setIfInBounds_toArray, List.set_cons_zero, List.set_cons_succ]
                    refine tkQ (i := 25) (oi := ?o272) (v := ?v272) ?h272 ?q272 ?y272 hS ?_; (case h272 => (simp only [gqA, gqB, gqC]; rfl)); (case q272 => exact fun _ _ _ h => h); (case y272 => (refine Or.inl ⟨by kernel_rfl, ?_⟩; intro wq hSq; have hf0 := hSq.cell g5 neb; have hf1 := hSq.cell g2 neb; have hf2 := hSq.cell (BX.cell' 0 _ rfl) neX; have hf3 := hSq.cell (BX.cell' 1 _ rfl) neX; have hf4 := hSq.cell (BX.cell' 2 _ rfl) neX; have hf5 := hSq.cell y2 neK; clear hSq; go_simp; (try with_reducible rfl))); simp only [Act.put, List.setIfInBounds_toArray, List.set_cons_zero, List.set_cons_succ]
                    refine wpAnyH_ready (rs := [26]) (by kernel_rfl) (by simp) ?_
                    refine AllReadyH.cons (o := ?oi273) ?hi273 (fun K hK => ?_) AllReadyH.nil
                    case hi273 => (simp only [gqA, gqB, gqC]; rfl)
                    go_simp
                    refine (HW.out _).mono ?_
                    rintro e w3 ⟨rfl, hn3⟩
                    refine hK.out _ _ (grown_new hS hn3) (fun hS => ?_)
                    clear hK K
                    refine tkQ (i := 27) (oi := ?o274) (v := ?v274) ?h274 ?q274 ?y274 hS ?_; (case h274 => (simp only [gqA, gqB, gqC]; rfl)); (case q274 => exact fun _ _ _ h => h); (case y274 => (refine Or.inl ⟨by kernel_rfl, ?_⟩; intro wq hSq; clear hSq; go_simp; (try with_reducible rfl))); simp only [Act.put, List.setIfInBounds_toArray, List.set_cons_zero, List.set_cons_succ]
                    refine tkQ (i := 28) (oi := ?o275) (v := ?v275) ?h275 ?q275 ?y275 hS ?_; (case h275 => (simp only [gqA, gqB, gqC]; rfl)); (case q275 => exact fun _ _ _ h => h); (case y275 => (refine Or.inl ⟨by kernel_rfl, ?_⟩; intro wq hSq; clear hSq; go_simp; (try with_reducible rfl))); simp only [Act.put, List.setIfInBounds_toArray, List.set_cons_zero, List.set_cons_succ]
                    refine tkQ (i := 29) (oi := ?o276) (v := ?v276) ?h276 ?q276 ?y276 hS ?_; (case h276 => (simp only [gqA, gqB, gqC]; rfl)); (case q276 => exact fun _ _ _ h => h); (case y276 => (refine Or.inl ⟨by kernel_rfl, ?_⟩; intro wq hSq; clear hSq; go_simp; (try with_reducible rfl))); simp only [Act.put, List.setIfInBounds_toArray, List.set_cons_zero, List.set_cons_succ]
                    refine tkQ (i := 30) (oi := ?o277) (v := ?v277) ?h277 ?q277 ?y277 hS ?_; (case h277 => (simp only [gqA, gqB, gqC]; rfl)); (case q277 => exact fun _ _ _ h => h); (case y277 => (refine Or.inl ⟨by kernel_rfl, ?_⟩; intro wq hSq; clear hSq; go_simp; (try with_reducible rfl))); simp only [Act.put, List.setIfInBounds_toArray, List.set_cons_zero, List.set_cons_succ]
                    refine tkQ (i := 31) (oi := ?o278) (v := ?v278) ?h278 ?q278 ?y278 hS ?_; (case h278 => (simp only [gqA, gqB, gqC]; rfl)); (case q278 => exact fun _ _ _ h => h); (case y278 => (refine Or.inl ⟨by kernel_rfl, ?_⟩; intro wq hSq; have hf0 := hSq.cell g5 neb; have hf1 := hSq.cell g2 neb; have hf2 := hSq.cell (BX.cell' 0 _ rfl) neX; have hf3 := hSq.cell (BX.cell' 1 _ rfl) neX; have hf4 := hSq.cell (BX.cell' 2 _ rfl) neX; have hf5 := hSq.cell y2 neK; clear hSq; go_simp; (try with_reducible rfl))); simp only [Act.put, List.setIfInBounds_toArray, List.set_cons_zero, List.set_cons_succ]
                    refine wpAnyH_ready (rs := [32]) (by kernel_rfl) (by simp) ?_
                    refine AllReadyH.cons (o := ?oi279) ?hi279 (fun K hK => ?_) AllReadyH.nil
                    case hi279 => (simp only [gqA, gqB, gqC]; rfl)
                    go_simp
                    refine (HPa.out _ (HE.out.new (New.trans HS2.out.new hn3))).mono ?_
                    rintro e w4 ⟨rfl, hn4⟩
                    refine hK.out _ _ (grown_new hS hn4) (fun hS => ?_)
                    clear hK K
                    refine tkQ (i := 33) (oi := ?o280) (v := ?v280) ?h280 ?q280 ?y280 hS ?_; (case h280 => (simp only [gqA, gqB, gqC]; rfl)); (case q280 => exact fun _ _ _ h => h); (case y280 => (refine Or.inl ⟨by kernel_rfl, ?_⟩; intro wq hSq; clear hSq; go_simp; (try with_reducible rfl))); simp only [Act.put, List.setIfInBounds_toArray, List.set_cons_zero, List.set_cons_succ]
                    refine tkQ (i := 34) (oi := ?o281) (v := ?v281) ?h281 ?q281 ?y281 hS ?_; (case h281 => (simp only [gqA, gqB, gqC]; rfl)); (case q281 => exact fun _ _ _ h => h); (case y281 => (refine Or.inl ⟨by kernel_rfl, ?_⟩; intro wq hSq; clear hSq; go_simp; (try with_reducible rfl))); simp only [Act.put, List.setIfInBounds_toArray, List.set_cons_zero, List.set_cons_succ]
                    refine tkQ (i := 35) (oi := ?o282) (v := ?v282) ?h282 ?q282 ?y282 hS ?_; (case h282 => (simp only [gqA, gqB, gqC]; rfl)); (case q282 => exact fun _ _ _ h => h); (case y282 => (refine Or.inl ⟨by kernel_rfl, ?_⟩; intro wq hSq; clear hSq; go_simp; (try with_reducible rfl))); simp only [Act.put, List.setIfInBounds_toArray, List.set_cons_zero, List.set_cons_succ]
                    refine tkQ (i := 36) (oi := ?o283) (v := undef) ?h283 ?q283 ?y283 hS ?_; (case h283 => (simp only [gqA, gqB, gqC]; rfl)); (case q283 => exact fun _ _ _ h => h); (case y283 => (exact Or.inr ⟨by kernel_rfl, rfl⟩)); simp only [Act.put, List.setIfInBounds_toArray, List.set_cons_zero, List.set_cons_succ]
                    refine tkQ (i := 37) (oi := ?o284) (v := undef) ?h284 ?q284 ?y284 hS ?_; (case h284 => (simp only [gqA, gqB, gqC]; rfl)); (case q284 => exact fun _ _ _ h => h); (case y284 => (exact Or.inr ⟨by kernel_rfl, rfl⟩)); simp only [Act.put, List.setIfInBounds_toArray, List.set_cons_zero, List.set_cons_succ]
                    refine tkQ (i := 38) (oi := ?o285) (v := undef) ?h285 ?q285 ?y285 hS ?_; (case h285 => (simp only [gqA, gqB, gqC]; rfl)); (case q285 => exact fun _ _ _ h => h); (case y285 => (exact Or.inr ⟨by kernel_rfl, rfl⟩)); simp only [Act.put, List.setIfInBounds_toArray, List.set_cons_zero, List.set_cons_succ]
                    refine tkQ (i := 39) (oi := ?o286) (v := undef) ?h286 ?q286 ?y286 hS ?_; (case h286 => (simp only [gqA, gqB, gqC]; rfl)); (case q286 => exact fun _ _ _ h => h); (case y286 => (exact Or.inr ⟨by kernel_rfl, rfl⟩)); simp only [Act.put, List.setIfInBounds_toArray, List.set_cons_zero, List.set_cons_succ]
                    refine tkQ (i := 40) (oi := ?o287) (v := ?v287) ?h287 ?q287 ?y287 hS ?_; (case h287 => (simp only [gqA, gqB, gqC]; rfl)); (case q287 => exact fun _ _ _ h => h); (case y287 => (refine Or.inl ⟨by kernel_rfl, ?_⟩; intro wq hSq; clear hSq; go_simp; (try with_reducible rfl))); simp only [Act.put, List.setIfInBounds_toArray, List.set_cons_zero, List.set_cons_succ]
                    refine wpAnyH_done (by kernel_rfl) ?_ _
                    go_wp2
                    go_ret
                    exact ⟨rfl, New.trans HS2.out.new (New.trans hn3 hn4)⟩
                  · rw [Bool.true_and] at HFX
                    cases nk
                    · have hRf := HBad.out HFX.out
                      subst hRf
                      go_wp2_with (fail)
                      refine wp_region_held_drew (S := (fun W => (wr.alloc (.cells #[.string xl, .string xs, .int .i64 (xn : Int)] 85)).grownBy W (some (w.heap.size + 1)))) (by kernel_rfl) (new_grown (New.refl _).drew _) (fun hS => ?_)
                      refine tkQ (i := 0) (oi := ?o288) (v := ?v288) ?h288 ?q288 ?y288 hS ?_; (case h288 => (simp only [gqA, gqB, gqC]; rfl)); (case q288 => exact fun _ _ _ h => h); (case y288 => (refine Or.inl ⟨by kernel_rfl, ?_⟩; intro wq hSq; clear hSq; go_simp; (try with_reducible rfl))); simp only [Act.put, List.setIfInBounds_toArray, List.set_cons_zero, List.set_cons_succ]
                      refine tkQ (i := 1) (oi := ?o289) (v := ?v289) ?h289 ?q289 ?y289 hS ?_; (case h289 => (simp only [gqA, gqB, gqC]; rfl)); (case q289 => exact fun _ _ _ h => h); (case y289 => (refine Or.inl ⟨by kernel_rfl, ?_⟩; intro wq hSq; clear hSq; go_simp; (try with_reducible rfl))); simp only [Act.put, List.setIfInBounds_toArray, List.set_cons_zero, List.set_cons_succ]
                      refine tkQ (i := 2) (oi := ?o290) (v := ?v290) ?h290 ?q290 ?y290 hS ?_; (case h290 => (simp only [gqA, gqB, gqC]; rfl)); (case q290 => exact fun _ _ _ h => h); (case y290 => (refine Or.inl ⟨by kernel_rfl, ?_⟩; intro wq hSq; clear hSq; go_simp; (try with_reducible rfl))); simp only [Act.put, List.setIfInBounds_toArray, List.set_cons_zero, List.set_cons_succ]
                      refine tkQ (i := 3) (oi := ?o291) (v := ?v291) ?h291 ?q291 ?y291 hS ?_; (case h291 => (simp only [gqA, gqB, gqC]; rfl)); (case q291 => exact fun _ _ _ h => h); (case y291 => (refine Or.inl ⟨by kernel_rfl, ?_⟩; intro wq hSq; clear hSq; go_simp; (try with_reducible rfl))); simp only [Act.put, List.setIfInBounds_toArray, List.set_cons_zero, List.set_cons_succ]
                      refine tkQ (i := 4) (oi := ?o292) (v := ?v292) ?h292 ?q292 ?y292 hS ?_; (case h292 => (simp only [gqA, gqB, gqC]; rfl)); (case q292 => exact fun _ _ _ h => h); (case y292 => (refine Or.inl ⟨by kernel_rfl, ?_⟩; intro wq hSq; have hf0 := hSq.cell g5 neb; have hf1 := hSq.cell g2 neb; have hf2 := hSq.cell (BX.cell' 0 _ rfl) neX; have hf3 := hSq.cell (BX.cell' 1 _ rfl) neX; have hf4 := hSq.cell (BX.cell' 2 _ rfl) neX; have hf5 := hSq.cell y2 neK; clear hSq; go_simp; (try with_reducible rfl))); simp only [Act.put, List.setIfInBounds_toArray, List.set_cons_zero, List.set_cons_succ]
                      refine tkQ (i := 5) (oi := ?o293) (v := ?v293) ?h293 ?q293 ?y293 hS ?_; (case h293 => (simp only [gqA, gqB, gqC]; rfl)); (case q293 => exact fun _ _ _ h => h); (case y293 => (refine Or.inl ⟨by kernel_rfl, ?_⟩; intro wq hSq; clear hSq; go_simp; (try with_reducible rfl))); simp only [Act.put, List.setIfInBounds_toArray, List.set_cons_zero, List.set_cons_succ]
                      refine tkQ (i := 6) (oi := ?o294) (v := ?v294) ?h294 ?q294 ?y294 hS ?_; (case h294 => (simp only [gqA, gqB, gqC]; rfl)); (case q294 => exact fun _ _ _ h => h); (case y294 => (refine Or.inl ⟨by kernel_rfl, ?_⟩; intro wq hSq; clear hSq; go_simp; (try with_reducible rfl))); simp only [Act.put, List.setIfInBounds_toArray, List.set_cons_zero, List.set_cons_succ]
                      refine tkQ (i := 7) (oi := ?o295) (v := ?v295) ?h295 ?q295 ?y295 hS ?_; (case h295 => (simp only [gqA, gqB, gqC]; rfl)); (case q295 => exact fun _ _ _ h => h); (case y295 => (refine Or.inl ⟨by kernel_rfl, ?_⟩; intro wq hSq; clear hSq; go_simp; (try with_reducible rfl))); simp only [Act.put, List.setIfInBounds_toArray, List.set_cons_zero, List.set_cons_succ]
                      refine tkQ (i := 8) (oi := ?o296) (v := ?v296) ?h296 ?q296 ?y296 hS ?_; (case h296 => (simp only [gqA, gqB, gqC]; rfl)); (case q296 => exact fun _ _ _ h => h); (case y296 => (refine Or.inl ⟨by kernel_rfl, ?_⟩; intro wq hSq; clear hSq; go_simp; (try with_reducible rfl))); simp only [Act.put, List.setIfInBounds_toArray, List.set_cons_zero, List.set_cons_succ]
                      refine tkQ (i := 9) (oi := ?o297) (v := ?v297) ?h297 ?q297 ?y297 hS ?_; (case h297 => (simp only [gqA, gqB, gqC]; rfl)); (case q297 => exact fun _ _ _ h => h); (case y297 => (refine Or.inl ⟨by kernel_rfl, ?_⟩; intro wq hSq; have hf0 := hSq.cell g5 neb; have hf1 := hSq.cell g2 neb; have hf2 := hSq.cell (BX.cell' 0 _ rfl) neX; have hf3 := hSq.cell (BX.cell' 1 _ rfl) neX; have hf4 := hSq.cell (BX.cell' 2 _ rfl) neX; have hf5 := hSq.cell y2 neK; clear hSq; go_simp; (try with_reducible rfl))); simp only [Act.put, List.setIfInBounds_toArray, List.set_cons_zero, List.set_cons_succ]
                      refine tkQ (i := 10) (oi := ?o298) (v := ?v298) ?h298 ?q298 ?y298 hS ?_; (case h298 => (simp only [gqA, gqB, gqC]; rfl)); (case q298 => exact fun _ _ _ h => h); (case y298 => (refine Or.inl ⟨by kernel_rfl, ?_⟩; intro wq hSq; clear hSq; go_simp; (try with_reducible rfl))); simp only [Act.put, List.setIfInBounds_toArray, List.set_cons_zero, List.set_cons_succ]
                      refine tkQ (i := 11) (oi := ?o299) (v := ?v299) ?h299 ?q299 ?y299 hS ?_; (case h299 => (simp only [gqA, gqB, gqC]; rfl)); (case q299 => exact fun _ _ _ h => h); (case y299 => (refine Or.inl ⟨by kernel_rfl, ?_⟩; intro wq hSq; have hf0 := hSq.cell g5 neb; have hf1 := hSq.cell g2 neb; have hf2 := hSq.cell (BX.cell' 0 _ rfl) neX; have hf3 := hSq.cell (BX.cell' 1 _ rfl) neX; have hf4 := hSq.cell (BX.cell' 2 _ rfl) neX; have hf5 := hSq.cell y2 neK; clear hSq; go_simp; (try with_reducible rfl))); simp only [Act.put, List.setIfInBounds_toArray, List.set_cons_zero, List.set_cons_succ]
                      refine tkQ (i := 12) (oi := ?o300) (v := ?v300) ?h300 ?q300 ?y300 hS ?_; (case h300 => (simp only [gqA, gqB, gqC]; rfl)); (case q300 => exact fun _ _ _ h => h); (case y300 => (refine Or.inl ⟨by kernel_rfl, ?_⟩; intro wq hSq; clear hSq; go_simp; (try with_reducible rfl))); simp only [Act.put, List.setIfInBounds_toArray, List.set_cons_zero, List.set_cons_succ]
                      refine tkQ (i := 13) (oi := ?o301) (v := ?v301) ?h301 ?q301 ?y301 hS ?_; (case h301 => (simp only [gqA, gqB, gqC]; rfl)); (case q301 => exact fun _ _ _ h => h); (case y301 => (refine Or.inl ⟨by kernel_rfl, ?_⟩; intro wq hSq; clear hSq; go_simp; (try with_reducible rfl))); simp only [Act.put, List.setIfInBounds_toArray, List.set_cons_zero, List.set_cons_succ]
                      refine tkQ (i := 14) (oi := ?o302) (v := ?v302) ?h302 ?q302 ?y302 hS ?_; (case h302 => (simp only [gqA, gqB, gqC]; rfl)); (case q302 => exact fun _ _ _ h => h); (case y302 => (refine Or.inl ⟨by kernel_rfl, ?_⟩; intro wq hSq; clear hSq; go_simp; (try with_reducible rfl))); simp only [Act.put, List.setIfInBounds_toArray, List.set_cons_zero, List.set_cons_succ]
                      refine tkQ (i := 15) (oi := ?o303) (v := ?v303) ?h303 ?q303 ?y303 hS ?_; (case h303 => (simp only [gqA, gqB, gqC]; rfl)); (case q303 => exact fun _ _ _ h => h); (case y303 => (refine Or.inl ⟨by kernel_rfl, ?_⟩; intro wq hSq; clear hSq; go_simp; (try with_reducible rfl))); simp only [Act.put, List.setIfInBounds_toArray, List.set_cons_zero, List.set_cons_succ]
                      refine tkQ (i := 16) (oi := ?o304) (v := ?v304) ?h304 ?q304 ?y304 hS ?_; (case h304 => (simp only [gqA, gqB, gqC]; rfl)); (case q304 => exact fun _ _ _ h => h); (case y304 => (refine Or.inl ⟨by kernel_rfl, ?_⟩; intro wq hSq; clear hSq; go_simp; (try with_reducible rfl))); simp only [Act.put, List.setIfInBounds_toArray, List.set_cons_zero, List.set_cons_succ]
                      refine tkQ (i := 17) (oi := ?o305) (v := ?v305) ?h305 ?q305 ?y305 hS ?_; (case h305 => (simp only [gqA, gqB, gqC]; rfl)); (case q305 => exact fun _ _ _ h => h); (case y305 => (refine Or.inl ⟨by kernel_rfl, ?_⟩; intro wq hSq; have hf0 := hSq.cell g5 neb; have hf1 := hSq.cell g2 neb; have hf2 := hSq.cell (BX.cell' 0 _ rfl) neX; have hf3 := hSq.cell (BX.cell' 1 _ rfl) neX; have hf4 := hSq.cell (BX.cell' 2 _ rfl) neX; have hf5 := hSq.cell y2 neK; clear hSq; go_simp; (try with_reducible rfl))); simp only [Act.put, List.setIfInBounds_toArray, List.set_cons_zero, List.set_cons_succ]
                      refine wpAnyH_ready (rs := [18]) (by kernel_rfl) (by simp) ?_
                      refine AllReadyH.cons (o := ?oi306) ?hi306 (fun K hK => ?_) AllReadyH.nil
                      case hi306 => (simp only [gqA, gqB, gqC]; rfl)
                      go_simp
                      refine (HK.out _ (New.refl _).drew).mono ?_
                      rintro e w2 ⟨rfl, hg2, hk2⟩
                      have HS2 := Lib.hid ((HX.out.later (New.refl _).drew).step hg2 (hk2.out trivial) hne3 hne1 hne2)
                      refine hK.out _ _ (World.grownBy.trans hS hg2) (fun hS => ?_)
                      clear hK K
                      refine tkQ (i := 19) (oi := ?o307) (v := ?v307) ?h307 ?q307 ?y307 hS ?_; (case h307 => (simp only [gqA, gqB, gqC]; rfl)); (case q307 => exact fun _ _ _ h => h); (case y307 => (refine Or.inl ⟨by kernel_rfl, ?_⟩; intro wq hSq; clear hSq; go_simp; (try with_reducible rfl))); simp only [Act.put, List.setIfInBounds_toArray, List.set_cons_zero, List.set_cons_succ]
                      refine tkQ (i := 20) (oi := ?o308) (v := ?v308) ?h308 ?q308 ?y308 hS ?_; (case h308 => (simp only [gqA, gqB, gqC]; rfl)); (case q308 => exact fun _ _ _ h => h); (case y308 => (refine Or.inl ⟨by kernel_rfl, ?_⟩; intro wq hSq; clear hSq; go_simp; (try with_reducible rfl))); simp only [Act.put, List.setIfInBounds_toArray, List.set_cons_zero, List.set_cons_succ]
                      refine tkQ (i := 21) (oi := ?o309) (v := ?v309) ?h309 ?q309 ?y309 hS ?_; (case h309 => (simp only [gqA, gqB, gqC]; rfl)); (case q309 => exact fun _ _ _ h => h); (case y309 => (refine Or.inl ⟨by kernel_rfl, ?_⟩; intro wq hSq; clear hSq; go_simp; (try with_reducible rfl))); simp only [Act.put, List.setIfInBounds_toArray, List.set_cons_zero, List.set_cons_succ]
                      refine tkQ (i := 22) (oi := ?o310) (v := ?v310) ?h310 ?q310 ?y310 hS ?_; (case h310 => (simp only [gqA, gqB, gqC]; rfl)); (case q310 => exact fun _ _ _ h => h); (case y310 => (refine Or.inl ⟨by kernel_rfl, ?_⟩; intro wq hSq; clear hSq; go_simp; (try with_reducible rfl))); simp only [Act.put, List.setIfInBounds_toArray, List.set_cons_zero, List.set_cons_succ]
                      refine tkQ (i := 23) (oi := ?o311) (v := ?v311) ?h311 ?q311 ?y311 hS ?_; (case h311 => (simp only [gqA, gqB, gqC]; rfl)); (case q311 => exact fun _ _ _ h => h); (case y311 => (refine Or.inl ⟨by kernel_rfl, ?_⟩; intro wq hSq; have hf0 := hSq.cell g5 neb; have hf1 := hSq.cell g2 neb; have hf2 := hSq.cell (BX.cell' 0 _ rfl) neX; have hf3 := hSq.cell (BX.cell' 1 _ rfl) neX; have hf4 := hSq.cell (BX.cell' 2 _ rfl) neX; have hf5 := hSq.cell y2 neK; clear hSq; go_simp; (try with_reducible rfl))); simp only [Act.put, List.setIfInBounds_toArray, List.set_cons_zero, List.set_cons_succ]
                      refine tkQ (i := 24) (oi := ?o312) (v := ?v312) ?h312 ?q312 ?y312 hS ?_; (case h312 => (simp only [gqA, gqB, gqC]; rfl)); (case q312 => exact fun _ _ _ h => h); (case y312 => (refine Or.inl ⟨by kernel_rfl, ?_⟩; intro wq hSq; clear hSq; go_simp; (try with_reducible rfl))); simp only [Act.put, List.setIfInBounds_toArray, List.set_cons_zero, List.set_cons_succ]
                      refine tkQ (i := 25) (oi := ?o313) (v := ?v313) ?h313 ?q313 ?y313 hS ?_; (case h313 => (simp only [gqA, gqB, gqC]; rfl)); (case q313 => exact fun _ _ _ h => h); (case y313 => (refine Or.inl ⟨by kernel_rfl, ?_⟩; intro wq hSq; have hf0 := hSq.cell g5 neb; have hf1 := hSq.cell g2 neb; have hf2 := hSq.cell (BX.cell' 0 _ rfl) neX; have hf3 := hSq.cell (BX.cell' 1 _ rfl) neX; have hf4 := hSq.cell (BX.cell' 2 _ rfl) neX; have hf5 := hSq.cell y2 neK; clear hSq; go_simp; (try with_reducible rfl))); simp only [Act.put, List.setIfInBounds_toArray, List.set_cons_zero, List.set_cons_succ]
                      refine wpAnyH_ready (rs := [26]) (by kernel_rfl) (by simp) ?_
                      refine AllReadyH.cons (o := ?oi314) ?hi314 (fun K hK => ?_) AllReadyH.nil
                      case hi314 => (simp only [gqA, gqB, gqC]; rfl)
                      go_simp
                      refine (HW.out _).mono ?_
                      rintro e w3 ⟨rfl, hn3⟩
                      refine hK.out _ _ (grown_new hS hn3) (fun hS => ?_)
                      clear hK K
                      refine tkQ (i := 27) (oi := ?o315) (v := ?v315) ?h315 ?q315 ?y315 hS ?_; (case h315 => (simp only [gqA, gqB, gqC]; rfl)); (case q315 => exact fun _ _ _ h => h); (case y315 => (refine Or.inl ⟨by kernel_rfl, ?_⟩; intro wq hSq; clear hSq; go_simp; (try with_reducible rfl))); simp only [Act.put, List.setIfInBounds_toArray, List.set_cons_zero, List.set_cons_succ]
                      refine tkQ (i := 28) (oi := ?o316) (v := ?v316) ?h316 ?q316 ?y316 hS ?_; (case h316 => (simp only [gqA, gqB, gqC]; rfl)); (case q316 => exact fun _ _ _ h => h); (case y316 => (refine Or.inl ⟨by kernel_rfl, ?_⟩; intro wq hSq; clear hSq; go_simp; (try with_reducible rfl))); simp only [Act.put, List.setIfInBounds_toArray, List.set_cons_zero, List.set_cons_succ]
                      refine tkQ (i := 29) (oi := ?o317) (v := ?v317) ?h317 ?q317 ?y317 hS ?_; (case h317 => (simp only [gqA, gqB, gqC]; rfl)); (case q317 => exact fun _ _ _ h => h); (case y317 => (refine Or.inl ⟨by kernel_rfl, ?_⟩; intro wq hSq; clear hSq; go_simp; (try with_reducible rfl))); simp only [Act.put, List.setIfInBounds_toArray, List.set_cons_zero, List.set_cons_succ]
                      refine tkQ (i := 30) (oi := ?o318) (v := ?v318) ?h318 ?q318 ?y318 hS ?_; (case h318 => (simp only [gqA, gqB, gqC]; rfl)); (case q318 => exact fun _ _ _ h => h); (case y318 => (refine Or.inl ⟨by kernel_rfl, ?_⟩; intro wq hSq; clear hSq; go_simp; (try with_reducible rfl))); simp only [Act.put, List.setIfInBounds_toArray, List.set_cons_zero, List.set_cons_succ]
                      refine tkQ (i := 31) (oi := ?o319) (v := ?v319) ?h319 ?q319 ?y319 hS ?_; (case h319 => (simp only [gqA, gqB, gqC]; rfl)); (case q319 => exact fun _ _ _ h => h); (case y319 => (refine Or.inl ⟨by kernel_rfl, ?_⟩; intro wq hSq; have hf0 := hSq.cell g5 neb; have hf1 := hSq.cell g2 neb; have hf2 := hSq.cell (BX.cell' 0 _ rfl) neX; have hf3 := hSq.cell (BX.cell' 1 _ rfl) neX; have hf4 := hSq.cell (BX.cell' 2 _ rfl) neX; have hf5 := hSq.cell y2 neK; clear hSq; go_simp; (try with_reducible rfl))); simp only [Act.put, List.setIfInBounds_toArray, List.set_cons_zero, List.set_cons_succ]
                      refine wpAnyH_ready (rs := [32]) (by kernel_rfl) (by simp) ?_
                      refine AllReadyH.cons (o := ?oi320) ?hi320 (fun K hK => ?_) AllReadyH.nil
                      case hi320 => (simp only [gqA, gqB, gqC]; rfl)
                      go_simp
                      refine (HPa.out _ (HE.out.new (New.trans HS2.out.new hn3))).mono ?_
                      rintro e w4 ⟨rfl, hn4⟩
                      refine hK.out _ _ (grown_new hS hn4) (fun hS => ?_)
                      clear hK K
                      refine tkQ (i := 33) (oi := ?o321) (v := ?v321) ?h321 ?q321 ?y321 hS ?_; (case h321 => (simp only [gqA, gqB, gqC]; rfl)); (case q321 => exact fun _ _ _ h => h); (case y321 => (refine Or.inl ⟨by kernel_rfl, ?_⟩; intro wq hSq; clear hSq; go_simp; (try with_reducible rfl))); simp only [Act.put, List.setIfInBounds_toArray, List.set_cons_zero, List.set_cons_succ]
                      refine tkQ (i := 34) (oi := ?o322) (v := ?v322) ?h322 ?q322 ?y322 hS ?_; (case h322 => (simp only [gqA, gqB, gqC]; rfl)); (case q322 => exact fun _ _ _ h => h); (case y322 => (refine Or.inl ⟨by kernel_rfl, ?_⟩; intro wq hSq; clear hSq; go_simp; (try with_reducible rfl))); simp only [Act.put, List.setIfInBounds_toArray, List.set_cons_zero, List.set_cons_succ]
                      refine tkQ (i := 35) (oi := ?o323) (v := ?v323) ?h323 ?q323 ?y323 hS ?_; (case h323 => (simp only [gqA, gqB, gqC]; rfl)); (case q323 => exact fun _ _ _ h => h); (case y323 => (refine Or.inl ⟨by kernel_rfl, ?_⟩; intro wq hSq; clear hSq; go_simp; (try with_reducible rfl))); simp only [Act.put, List.setIfInBounds_toArray, List.set_cons_zero, List.set_cons_succ]
                      refine tkQ (i := 36) (oi := ?o324) (v := ?v324) ?h324 ?q324 ?y324 hS ?_; (case h324 => (simp only [gqA, gqB, gqC]; rfl)); (case q324 => exact fun _ _ _ h => h); (case y324 => (refine Or.inl ⟨by kernel_rfl, ?_⟩; intro wq hSq; clear hSq; go_simp; (try with_reducible rfl))); simp only [Act.put, List.setIfInBounds_toArray, List.set_cons_zero, List.set_cons_succ]
                      refine tkQ (i := 37) (oi := ?o325) (v := ?v325) ?h325 ?q325 ?y325 hS ?_; (case h325 => (simp only [gqA, gqB, gqC]; rfl)); (case q325 => exact fun _ _ _ h => h); (case y325 => (refine Or.inl ⟨by kernel_rfl, ?_⟩; intro wq hSq; have hf0 := hSq.cell g5 neb; have hf1 := hSq.cell g2 neb; have hf2 := hSq.cell (BX.cell' 0 _ rfl) neX; have hf3 := hSq.cell (BX.cell' 1 _ rfl) neX; have hf4 := hSq.cell (BX.cell' 2 _ rfl) neX; have hf5 := hSq.cell y2 neK; clear hSq; go_simp; (try with_reducible rfl))); simp only [Act.put, List.setIfInBounds_toArray, List.set_cons_zero, List.set_cons_succ]
                      refine wpAnyH_ready (rs := [38]) (by kernel_rfl) (by simp) ?_
                      refine AllReadyH.cons (o := ?oi326) ?hi326 (fun K hK => ?_) AllReadyH.nil
                      case hi326 => (simp only [gqA, gqB, gqC]; rfl)
                      go_simp
                      refine (HNa.out _).mono ?_
                      rintro e w5 ⟨rfl, hn5⟩
                      refine hK.out _ _ (grown_new hS hn5) (fun hS => ?_)
                      clear hK K
                      refine tkQ (i := 39) (oi := ?o327) (v := ?v327) ?h327 ?q327 ?y327 hS ?_; (case h327 => (simp only [gqA, gqB, gqC]; rfl)); (case q327 => exact fun _ _ _ h => h); (case y327 => (refine Or.inl ⟨by kernel_rfl, ?_⟩; intro wq hSq; clear hSq; go_simp; (try with_reducible rfl))); simp only [Act.put, List.setIfInBounds_toArray, List.set_cons_zero, List.set_cons_succ]
                      refine tkQ (i := 40) (oi := ?o328) (v := ?v328) ?h328 ?q328 ?y328 hS ?_; (case h328 => (simp only [gqA, gqB, gqC]; rfl)); (case q328 => exact fun _ _ _ h => h); (case y328 => (refine Or.inl ⟨by kernel_rfl, ?_⟩; intro wq hSq; clear hSq; go_simp; (try with_reducible rfl))); simp only [Act.put, List.setIfInBounds_toArray, List.set_cons_zero, List.set_cons_succ]
                      refine wpAnyH_done (by kernel_rfl) ?_ _
                      go_wp2
                      go_ret
                      exact ⟨rfl, New.trans HS2.out.new (New.trans (New.trans hn3 hn4) hn5)⟩
                    · go_wp2_with (fail)
                      refine wp_region_held_drew (S := (fun W => (wr.alloc (.cells #[.string xl, .string xs, .int .i64 (xn : Int)] 85)).grownBy W (some (w.heap.size + 1)))) (by kernel_rfl) (new_grown (New.refl _).drew _) (fun hS => ?_)
                      refine tkQ (i := 0) (oi := ?o329) (v := ?v329) ?h329 ?q329 ?y329 hS ?_; (case h329 => (simp only [gqA, gqB, gqC]; rfl)); (case q329 => exact fun _ _ _ h => h); (case y329 => (refine Or.inl ⟨by kernel_rfl, ?_⟩; intro wq hSq; clear hSq; go_simp; (try with_reducible rfl))); simp only [Act.put, List.setIfInBounds_toArray, List.set_cons_zero, List.set_cons_succ]
                      refine tkQ (i := 1) (oi := ?o330) (v := ?v330) ?h330 ?q330 ?y330 hS ?_; (case h330 => (simp only [gqA, gqB, gqC]; rfl)); (case q330 => exact fun _ _ _ h => h); (case y330 => (refine Or.inl ⟨by kernel_rfl, ?_⟩; intro wq hSq; clear hSq; go_simp; (try with_reducible rfl))); simp only [Act.put, List.setIfInBounds_toArray, List.set_cons_zero, List.set_cons_succ]
                      refine tkQ (i := 2) (oi := ?o331) (v := ?v331) ?h331 ?q331 ?y331 hS ?_; (case h331 => (simp only [gqA, gqB, gqC]; rfl)); (case q331 => exact fun _ _ _ h => h); (case y331 => (refine Or.inl ⟨by kernel_rfl, ?_⟩; intro wq hSq; clear hSq; go_simp; (try with_reducible rfl))); simp only [Act.put, List.setIfInBounds_toArray, List.set_cons_zero, List.set_cons_succ]
                      refine tkQ (i := 3) (oi := ?o332) (v := ?v332) ?h332 ?q332 ?y332 hS ?_; (case h332 => (simp only [gqA, gqB, gqC]; rfl)); (case q332 => exact fun _ _ _ h => h); (case y332 => (refine Or.inl ⟨by kernel_rfl, ?_⟩; intro wq hSq; clear hSq; go_simp; (try with_reducible rfl))); simp only [Act.put, List.setIfInBounds_toArray, List.set_cons_zero, List.set_cons_succ]
                      refine tkQ (i := 4) (oi := ?o333) (v := ?v333) ?h333 ?q333 ?y333 hS ?_; (case h333 => (simp only [gqA, gqB, gqC]; rfl)); (case q333 => exact fun _ _ _ h => h); (case y333 => (refine Or.inl ⟨by kernel_rfl, ?_⟩; intro wq hSq; have hf0 := hSq.cell g5 neb; have hf1 := hSq.cell g2 neb; have hf2 := hSq.cell (BX.cell' 0 _ rfl) neX; have hf3 := hSq.cell (BX.cell' 1 _ rfl) neX; have hf4 := hSq.cell (BX.cell' 2 _ rfl) neX; have hf5 := hSq.cell y2 neK; clear hSq; go_simp; (try with_reducible rfl))); simp only [Act.put, List.setIfInBounds_toArray, List.set_cons_zero, List.set_cons_succ]
                      refine tkQ (i := 5) (oi := ?o334) (v := ?v334) ?h334 ?q334 ?y334 hS ?_; (case h334 => (simp only [gqA, gqB, gqC]; rfl)); (case q334 => exact fun _ _ _ h => h); (case y334 => (refine Or.inl ⟨by kernel_rfl, ?_⟩; intro wq hSq; clear hSq; go_simp; (try with_reducible rfl))); simp only [Act.put, List.setIfInBounds_toArray, List.set_cons_zero, List.set_cons_succ]
                      refine tkQ (i := 6) (oi := ?o335) (v := ?v335) ?h335 ?q335 ?y335 hS ?_; (case h335 => (simp only [gqA, gqB, gqC]; rfl)); (case q335 => exact fun _ _ _ h => h); (case y335 => (refine Or.inl ⟨by kernel_rfl, ?_⟩; intro wq hSq; clear hSq; go_simp; (try with_reducible rfl))); simp only [Act.put, List.setIfInBounds_toArray, List.set_cons_zero, List.set_cons_succ]
                      refine tkQ (i := 7) (oi := ?o336) (v := ?v336) ?h336 ?q336 ?y336 hS ?_; (case h336 => (simp only [gqA, gqB, gqC]; rfl)); (case q336 => exact fun _ _ _ h => h); (case y336 => (refine Or.inl ⟨by kernel_rfl, ?_⟩; intro wq hSq; clear hSq; go_simp; (try with_reducible rfl))); simp only [Act.put, List.setIfInBounds_toArray, List.set_cons_zero, List.set_cons_succ]
                      refine tkQ (i := 8) (oi := ?o337) (v := ?v337) ?h337 ?q337 ?y337 hS ?_; (case h337 => (simp only [gqA, gqB, gqC]; rfl)); (case q337 => exact fun _ _ _ h => h); (case y337 => (refine Or.inl ⟨by kernel_rfl, ?_⟩; intro wq hSq; clear hSq; go_simp; (try with_reducible rfl))); simp only [Act.put, List.setIfInBounds_toArray, List.set_cons_zero, List.set_cons_succ]
                      refine tkQ (i := 9) (oi := ?o338) (v := ?v338) ?h338 ?q338 ?y338 hS ?_; (case h338 => (simp only [gqA, gqB, gqC]; rfl)); (case q338 => exact fun _ _ _ h => h); (case y338 => (refine Or.inl ⟨by kernel_rfl, ?_⟩; intro wq hSq; have hf0 := hSq.cell g5 neb; have hf1 := hSq.cell g2 neb; have hf2 := hSq.cell (BX.cell' 0 _ rfl) neX; have hf3 := hSq.cell (BX.cell' 1 _ rfl) neX; have hf4 := hSq.cell (BX.cell' 2 _ rfl) neX; have hf5 := hSq.cell y2 neK; clear hSq; go_simp; (try with_reducible rfl))); simp only [Act.put, List.setIfInBounds_toArray, List.set_cons_zero, List.set_cons_succ]
                      refine tkQ (i := 10) (oi := ?o339) (v := ?v339) ?h339 ?q339 ?y339 hS ?_; (case h339 => (simp only [gqA, gqB, gqC]; rfl)); (case q339 => exact fun _ _ _ h => h); (case y339 => (refine Or.inl ⟨by kernel_rfl, ?_⟩; intro wq hSq; clear hSq; go_simp; (try with_reducible rfl))); simp only [Act.put, List.setIfInBounds_toArray, List.set_cons_zero, List.set_cons_succ]
                      refine tkQ (i := 11) (oi := ?o340) (v := ?v340) ?h340 ?q340 ?y340 hS ?_; (case h340 => (simp only [gqA, gqB, gqC]; rfl)); (case q340 => exact fun _ _ _ h => h); (case y340 => (refine Or.inl ⟨by kernel_rfl, ?_⟩; intro wq hSq; have hf0 := hSq.cell g5 neb; have hf1 := hSq.cell g2 neb; have hf2 := hSq.cell (BX.cell' 0 _ rfl) neX; have hf3 := hSq.cell (BX.cell' 1 _ rfl) neX; have hf4 := hSq.cell (BX.cell' 2 _ rfl) neX; have hf5 := hSq.cell y2 neK; clear hSq; go_simp; (try with_reducible rfl))); simp only [Act.put, List.setIfInBounds_toArray, List.set_cons_zero, List.set_cons_succ]
                      refine tkQ (i := 12) (oi := ?o341) (v := ?v341) ?h341 ?q341 ?y341 hS ?_; (case h341 => (simp only [gqA, gqB, gqC]; rfl)); (case q341 => exact fun _ _ _ h => h); (case y341 => (refine Or.inl ⟨by kernel_rfl, ?_⟩; intro wq hSq; clear hSq; go_simp; (try with_reducible rfl))); simp only [Act.put, List.setIfInBounds_toArray, List.set_cons_zero, List.set_cons_succ]
                      refine tkQ (i := 13) (oi := ?o342) (v := ?v342) ?h342 ?q342 ?y342 hS ?_; (case h342 => (simp only [gqA, gqB, gqC]; rfl)); (case q342 => exact fun _ _ _ h => h); (case y342 => (refine Or.inl ⟨by kernel_rfl, ?_⟩; intro wq hSq; clear hSq; go_simp; (try with_reducible rfl))); simp only [Act.put, List.setIfInBounds_toArray, List.set_cons_zero, List.set_cons_succ]
                      refine tkQ (i := 14) (oi := ?o343) (v := ?v343) ?h343 ?q343 ?y343 hS ?_; (case h343 => (simp only [gqA, gqB, gqC]; rfl)); (case q343 => exact fun _ _ _ h => h); (case y343 => (refine Or.inl ⟨by kernel_rfl, ?_⟩; intro wq hSq; clear hSq; go_simp; (try with_reducible rfl))); simp only [Act.put, List.setIfInBounds_toArray, List.set_cons_zero, List.set_cons_succ]
                      refine tkQ (i := 15) (oi := ?o344) (v := ?v344) ?h344 ?q344 ?y344 hS ?_; (case h344 => (simp only [gqA, gqB, gqC]; rfl)); (case q344 => exact fun _ _ _ h => h); (case y344 => (refine Or.inl ⟨by kernel_rfl, ?_⟩; intro wq hSq; clear hSq; go_simp; (try with_reducible rfl))); simp only [Act.put, List.setIfInBounds_toArray, List.set_cons_zero, List.set_cons_succ]
                      refine tkQ (i := 16) (oi := ?o345) (v := ?v345) ?h345 ?q345 ?y345 hS ?_; (case h345 => (simp only [gqA, gqB, gqC]; rfl)); (case q345 => exact fun _ _ _ h => h); (case y345 => (refine Or.inl ⟨by kernel_rfl, ?_⟩; intro wq hSq; clear hSq; go_simp; (try with_reducible rfl))); simp only [Act.put, List.setIfInBounds_toArray, List.set_cons_zero, List.set_cons_succ]
                      refine tkQ (i := 17) (oi := ?o346) (v := ?v346) ?h346 ?q346 ?y346 hS ?_; (case h346 => (simp only [gqA, gqB, gqC]; rfl)); (case q346 => exact fun _ _ _ h => h); (case y346 => (refine Or.inl ⟨by kernel_rfl, ?_⟩; intro wq hSq; have hf0 := hSq.cell g5 neb; have hf1 := hSq.cell g2 neb; have hf2 := hSq.cell (BX.cell' 0 _ rfl) neX; have hf3 := hSq.cell (BX.cell' 1 _ rfl) neX; have hf4 := hSq.cell (BX.cell' 2 _ rfl) neX; have hf5 := hSq.cell y2 neK; clear hSq; go_simp; (try with_reducible rfl))); simp only [Act.put, List.setIfInBounds_toArray, List.set_cons_zero, List.set_cons_succ]
                      refine wpAnyH_ready (rs := [18]) (by kernel_rfl) (by simp) ?_
                      refine AllReadyH.cons (o := ?oi347) ?hi347 (fun K hK => ?_) AllReadyH.nil
                      case hi347 => (simp only [gqA, gqB, gqC]; rfl)
                      go_simp
                      refine (HK.out _ (New.refl _).drew).mono ?_
                      rintro e w2 ⟨rfl, hg2, hk2⟩
                      have HS2 := Lib.hid ((HX.out.later (New.refl _).drew).step hg2 (hk2.out trivial) hne3 hne1 hne2)
                      refine hK.out _ _ (World.grownBy.trans hS hg2) (fun hS => ?_)
                      clear hK K
                      refine tkQ (i := 19) (oi := ?o348) (v := ?v348) ?h348 ?q348 ?y348 hS ?_; (case h348 => (simp only [gqA, gqB, gqC]; rfl)); (case q348 => exact fun _ _ _ h => h); (case y348 => (refine Or.inl ⟨by kernel_rfl, ?_⟩; intro wq hSq; clear hSq; go_simp; (try with_reducible rfl))); simp only [Act.put, List.setIfInBounds_toArray, List.set_cons_zero, List.set_cons_succ]
                      refine tkQ (i := 20) (oi := ?o349) (v := ?v349) ?h349 ?q349 ?y349 hS ?_; (case h349 => (simp only [gqA, gqB, gqC]; rfl)); (case q349 => exact fun _ _ _ h => h); (case y349 => (refine Or.inl ⟨by kernel_rfl, ?_⟩; intro wq hSq; clear hSq; go_simp; (try with_reducible rfl))); simp only [Act.put, List.setIfInBounds_toArray, List.set_cons_zero, List.set_cons_succ]
                      refine tkQ (i := 21) (oi := ?o350) (v := ?v350) ?h350 ?q350 ?y350 hS ?_; (case h350 => (simp only [gqA, gqB, gqC]; rfl)); (case q350 => exact fun _ _ _ h => h); (case y350 => (refine Or.inl ⟨by kernel_rfl, ?_⟩; intro wq hSq; clear hSq; go_simp; (try with_reducible rfl))); simp only [Act.put, List.setIfInBounds_toArray, List.set_cons_zero, List.set_cons_succ]
                      refine tkQ (i := 22) (oi := ?o351) (v := ?v351) ?h351 ?q351 ?y351 hS ?_; (case h351 => (simp only [gqA, gqB, gqC]; rfl)); (case q351 => exact fun _ _ _ h => h); (case y351 => (refine Or.inl ⟨by kernel_rfl, ?_⟩; intro wq hSq; clear hSq; go_simp; (try with_reducible rfl))); simp only [Act.put, List.setIfInBounds_toArray, List.set_cons_zero, List.set_cons_succ]
                      refine tkQ (i := 23) (oi := ?o352) (v := ?v352) ?h352 ?q352 ?y352 hS ?_; (case h352 => (simp only [gqA, gqB, gqC]; rfl)); (case q352 => exact fun _ _ _ h => h); (case y352 => (refine Or.inl ⟨by kernel_rfl, ?_⟩; intro wq hSq; have hf0 := hSq.cell g5 neb; have hf1 := hSq.cell g2 neb; have hf2 := hSq.cell (BX.cell' 0 _ rfl) neX; have hf3 := hSq.cell (BX.cell' 1 _ rfl) neX; have hf4 := hSq.cell (BX.cell' 2 _ rfl) neX; have hf5 := hSq.cell y2 neK; clear hSq; go_simp; (try with_reducible rfl))); simp only [Act.put, List.setIfInBounds_toArray, List.set_cons_zero, List.set_cons_succ]
                      refine tkQ (i := 24) (oi := ?o353) (v := ?v353) ?h353 ?q353 ?y353 hS ?_; (case h353 => (simp only [gqA, gqB, gqC]; rfl)); (case q353 => exact fun _ _ _ h => h); (case y353 => (refine Or.inl ⟨by kernel_rfl, ?_⟩; intro wq hSq; clear hSq; go_simp; (try with_reducible rfl))); simp only [Act.put, List.setIfInBounds_toArray, List.set_cons_zero, List.set_cons_succ]
                      refine tkQ (i := 25) (oi := ?o354) (v := ?v354) ?h354 ?q354 ?y354 hS ?_; (case h354 => (simp only [gqA, gqB, gqC]; rfl)); (case q354 => exact fun _ _ _ h => h); (case y354 => (refine Or.inl ⟨by kernel_rfl, ?_⟩; intro wq hSq; have hf0 := hSq.cell g5 neb; have hf1 := hSq.cell g2 neb; have hf2 := hSq.cell (BX.cell' 0 _ rfl) neX; have hf3 := hSq.cell (BX.cell' 1 _ rfl) neX; have hf4 := hSq.cell (BX.cell' 2 _ rfl) neX; have hf5 := hSq.cell y2 neK; clear hSq; go_simp; (try with_reducible rfl))); simp only [Act.put, List.setIfInBounds_toArray, List.set_cons_zero, List.set_cons_succ]
                      refine wpAnyH_ready (rs := [26]) (by kernel_rfl) (by simp) ?_
                      refine AllReadyH.cons (o := ?oi355) ?hi355 (fun K hK => ?_) AllReadyH.nil
                      case hi355 => (simp only [gqA, gqB, gqC]; rfl)
                      go_simp
                      refine (HW.out _).mono ?_
                      rintro e w3 ⟨rfl, hn3⟩
                      refine hK.out _ _ (grown_new hS hn3) (fun hS => ?_)
                      clear hK K
                      refine tkQ (i := 27) (oi := ?o356) (v := ?v356) ?h356 ?q356 ?y356 hS ?_; (case h356 => (simp only [gqA, gqB, gqC]; rfl)); (case q356 => exact fun _ _ _ h => h); (case y356 => (refine Or.inl ⟨by kernel_rfl, ?_⟩; intro wq hSq; clear hSq; go_simp; (try with_reducible rfl))); simp only [Act.put, List.setIfInBounds_toArray, List.set_cons_zero, List.set_cons_succ]
                      refine tkQ (i := 28) (oi := ?o357) (v := ?v357) ?h357 ?q357 ?y357 hS ?_; (case h357 => (simp only [gqA, gqB, gqC]; rfl)); (case q357 => exact fun _ _ _ h => h); (case y357 => (refine Or.inl ⟨by kernel_rfl, ?_⟩; intro wq hSq; clear hSq; go_simp; (try with_reducible rfl))); simp only [Act.put, List.setIfInBounds_toArray, List.set_cons_zero, List.set_cons_succ]
                      refine tkQ (i := 29) (oi := ?o358) (v := ?v358) ?h358 ?q358 ?y358 hS ?_; (case h358 => (simp only [gqA, gqB, gqC]; rfl)); (case q358 => exact fun _ _ _ h => h); (case y358 => (refine Or.inl ⟨by kernel_rfl, ?_⟩; intro wq hSq; clear hSq; go_simp; (try with_reducible rfl))); simp only [Act.put, List.setIfInBounds_toArray, List.set_cons_zero, List.set_cons_succ]
                      refine tkQ (i := 30) (oi := ?o359) (v := ?v359) ?h359 ?q359 ?y359 hS ?_; (case h359 => (simp only [gqA, gqB, gqC]; rfl)); (case q359 => exact fun _ _ _ h => h); (case y359 => (refine Or.inl ⟨by kernel_rfl, ?_⟩; intro wq hSq; clear hSq; go_simp; (try with_reducible rfl))); simp only [Act.put, List.setIfInBounds_toArray, List.set_cons_zero, List.set_cons_succ]
                      refine tkQ (i := 31) (oi := ?o360) (v := ?v360) ?h360 ?q360 ?y360 hS ?_; (case h360 => (simp only [gqA, gqB, gqC]; rfl)); (case q360 => exact fun _ _ _ h => h); (case y360 => (refine Or.inl ⟨by kernel_rfl, ?_⟩; intro wq hSq; have hf0 := hSq.cell g5 neb; have hf1 := hSq.cell g2 neb; have hf2 := hSq.cell (BX.cell' 0 _ rfl) neX; have hf3 := hSq.cell (BX.cell' 1 _ rfl) neX; have hf4 := hSq.cell (BX.cell' 2 _ rfl) neX; have hf5 := hSq.cell y2 neK; clear hSq; go_simp; (try with_reducible rfl))); simp only [Act.put, List.setIfInBounds_toArray, List.set_cons_zero, List.set_cons_succ]
                      refine wpAnyH_ready (rs := [32]) (by kernel_rfl) (by simp) ?_
                      refine AllReadyH.cons (o := ?oi361) ?hi361 (fun K hK => ?_) AllReadyH.nil
                      case hi361 => (simp only [gqA, gqB, gqC]; rfl)
                      go_simp
                      refine (HPa.out _ (HE.out.new (New.trans HS2.out.new hn3))).mono ?_
                      rintro e w4 ⟨rfl, hn4⟩
                      refine hK.out _ _ (grown_new hS hn4) (fun hS => ?_)
                      clear hK K
                      refine tkQ (i := 33) (oi := ?o362) (v := ?v362) ?h362 ?q362 ?y362 hS ?_; (case h362 => (simp only [gqA, gqB, gqC]; rfl)); (case q362 => exact fun _ _ _ h => h); (case y362 => (refine Or.inl ⟨by kernel_rfl, ?_⟩; intro wq hSq; clear hSq; go_simp; (try with_reducible rfl))); simp only [Act.put, List.setIfInBounds_toArray, List.set_cons_zero, List.set_cons_succ]
                      refine tkQ (i := 34) (oi := ?o363) (v := ?v363) ?h363 ?q363 ?y363 hS ?_; (case h363 => (simp only [gqA, gqB, gqC]; rfl)); (case q363 => exact fun _ _ _ h => h); (case y363 => (refine Or.inl ⟨by kernel_rfl, ?_⟩; intro wq hSq; clear hSq; go_simp; (try with_reducible rfl))); simp only [Act.put, List.setIfInBounds_toArray, List.set_cons_zero, List.set_cons_succ]
                      refine tkQ (i := 35) (oi := ?o364) (v := ?v364) ?h364 ?q364 ?y364 hS ?_; (case h364 => (simp only [gqA, gqB, gqC]; rfl)); (case q364 => exact fun _ _ _ h => h); (case y364 => (refine Or.inl ⟨by kernel_rfl, ?_⟩; intro wq hSq; clear hSq; go_simp; (try with_reducible rfl))); simp only [Act.put, List.setIfInBounds_toArray, List.set_cons_zero, List.set_cons_succ]
                      refine tkQ (i := 36) (oi := ?o365) (v := ?v365) ?h365 ?q365 ?y365 hS ?_; (case h365 => (simp only [gqA, gqB, gqC]; rfl)); (case q365 => exact fun _ _ _ h => h); (case y365 => (refine Or.inl ⟨by kernel_rfl, ?_⟩; intro wq hSq; clear hSq; go_simp; (try with_reducible rfl))); simp only [Act.put, List.setIfInBounds_toArray, List.set_cons_zero, List.set_cons_succ]
                      refine tkQ (i := 37) (oi := ?o366) (v := ?v366) ?h366 ?q366 ?y366 hS ?_; (case h366 => (simp only [gqA, gqB, gqC]; rfl)); (case q366 => exact fun _ _ _ h => h); (case y366 => (refine Or.inl ⟨by kernel_rfl, ?_⟩; intro wq hSq; have hf0 := hSq.cell g5 neb; have hf1 := hSq.cell g2 neb; have hf2 := hSq.cell (BX.cell' 0 _ rfl) neX; have hf3 := hSq.cell (BX.cell' 1 _ rfl) neX; have hf4 := hSq.cell (BX.cell' 2 _ rfl) neX; have hf5 := hSq.cell y2 neK; clear hSq; go_simp; (try with_reducible rfl))); simp only [Act.put, List.setIfInBounds_toArray, List.set_cons_zero, List.set_cons_succ]
                      refine wpAnyH_ready (rs := [38]) (by kernel_rfl) (by simp) ?_
                      refine AllReadyH.cons (o := ?oi367) ?hi367 (fun K hK => ?_) AllReadyH.nil
                      case hi367 => (simp only [gqA, gqB, gqC]; rfl)
                      go_simp
                      refine (HNa.out _).mono ?_
                      rintro e w5 ⟨rfl, hn5⟩
                      refine hK.out _ _ (grown_new hS hn5) (fun hS => ?_)
                      clear hK K
                      refine tkQ (i := 39) (oi := ?o368) (v := ?v368) ?h368 ?q368 ?y368 hS ?_; (case h368 => (simp only [gqA, gqB, gqC]; rfl)); (case q368 => exact fun _ _ _ h => h); (case y368 => (refine Or.inl ⟨by kernel_rfl, ?_⟩; intro wq hSq; clear hSq; go_simp; (try with_reducible rfl))); simp only [Act.put, List.setIfInBounds_toArray, List.set_cons_zero, List.set_cons_succ]
                      refine tkQ (i := 40) (oi := ?o369) (v := ?v369) ?h369 ?q369 ?y369 hS ?_; (case h369 => (simp only [gqA, gqB, gqC]; rfl)); (case q369 => exact fun _ _ _ h => h); (case y369 => (refine Or.inl ⟨by kernel_rfl, ?_⟩; intro wq hSq; clear hSq; go_simp; (try with_reducible rfl))); simp only [Act.put, List.setIfInBounds_toArray, List.set_cons_zero, List.set_cons_succ]
                      refine wpAnyH_done (by kernel_rfl) ?_ _
                      go_wp2
                      go_roundw
                      case rel => exact ⟨m + 1 + 1, by go_num, by omega, Lib.hid (by rw [HRV.out]; exact HS2.out.later (New.trans (New.trans hn3 hn4) hn5)), Lib.hid (by rw [HRV.out, HGo.out, HG2.out, HFX.out, Bool.true_and])⟩
                      case measure => simp [intOf]; omega
                · have hw1 : (wv == 0) = false := beq_eq_false_iff_ne.2 hw0
                  have hw2 : (wv != 0) = true := by rw [bne, hw1]; rfl
                  have hRf := HBad.out (by rw [HFX.out, decide_eq_false hw0]; rfl)
                  subst hRf
                  go_wp2_with (fail)
                  refine wp_region_held_drew (S := (fun W => (wr.alloc (.cells #[.string xl, .string xs, .int .i64 (xn : Int)] 85)).grownBy W (some (w.heap.size + 1)))) (by kernel_rfl) (new_grown (New.refl _).drew _) (fun hS => ?_)
                  refine tkQ (i := 0) (oi := ?o370) (v := ?v370) ?h370 ?q370 ?y370 hS ?_; (case h370 => (simp only [gqA, gqB, gqC]; rfl)); (case q370 => exact fun _ _ _ h => h); (case y370 => (refine Or.inl ⟨by kernel_rfl, ?_⟩; intro wq hSq; clear hSq; go_simp; (try with_reducible rfl))); simp only [Act.put, List.setIfInBounds_toArray, List.set_cons_zero, List.set_cons_succ]
                  refine tkQ (i := 1) (oi := ?o371) (v := ?v371) ?h371 ?q371 ?y371 hS ?_; (case h371 => (simp only [gqA, gqB, gqC]; rfl)); (case q371 => exact fun _ _ _ h => h); (case y371 => (refine Or.inl ⟨by kernel_rfl, ?_⟩; intro wq hSq; clear hSq; go_simp; (try with_reducible rfl))); simp only [Act.put, List.setIfInBounds_toArray, List.set_cons_zero, List.set_cons_succ]
                  refine tkQ (i := 2) (oi := ?o372) (v := ?v372) ?h372 ?q372 ?y372 hS ?_; (case h372 => (simp only [gqA, gqB, gqC]; rfl)); (case q372 => exact fun _ _ _ h => h); (case y372 => (refine Or.inl ⟨by kernel_rfl, ?_⟩; intro wq hSq; clear hSq; go_simp; (try with_reducible rfl))); simp only [Act.put, List.setIfInBounds_toArray, List.set_cons_zero, List.set_cons_succ]
                  refine tkQ (i := 3) (oi := ?o373) (v := ?v373) ?h373 ?q373 ?y373 hS ?_; (case h373 => (simp only [gqA, gqB, gqC]; rfl)); (case q373 => exact fun _ _ _ h => h); (case y373 => (refine Or.inl ⟨by kernel_rfl, ?_⟩; intro wq hSq; clear hSq; go_simp; (try with_reducible rfl))); simp only [Act.put, List.setIfInBounds_toArray, List.set_cons_zero, List.set_cons_succ]
                  refine tkQ (i := 4) (oi := ?o374) (v := ?v374) ?h374 ?q374 ?y374 hS ?_; (case h374 => (simp only [gqA, gqB, gqC]; rfl)); (case q374 => exact fun _ _ _ h => h); (case y374 => (refine Or.inl ⟨by kernel_rfl, ?_⟩; intro wq hSq; have hf0 := hSq.cell g5 neb; have hf1 := hSq.cell g2 neb; have hf2 := hSq.cell (BX.cell' 0 _ rfl) neX; have hf3 := hSq.cell (BX.cell' 1 _ rfl) neX; have hf4 := hSq.cell (BX.cell' 2 _ rfl) neX; have hf5 := hSq.cell y2 neK; clear hSq; go_simp; (try with_reducible rfl))); simp only [Act.put, List.setIfInBounds_toArray, List.set_cons_zero, List.set_cons_succ]
                  refine tkQ (i := 5) (oi := ?o375) (v := ?v375) ?h375 ?q375 ?y375 hS ?_; (case h375 => (simp only [gqA, gqB, gqC]; rfl)); (case q375 => exact fun _ _ _ h => h); (case y375 => (refine Or.inl ⟨by kernel_rfl, ?_⟩; intro wq hSq; clear hSq; go_simp; (try with_reducible rfl))); simp only [Act.put, List.setIfInBounds_toArray, List.set_cons_zero, List.set_cons_succ]
                  refine tkQ (i := 6) (oi := ?o376) (v := ?v376) ?h376 ?q376 ?y376 hS ?_; (case h376 => (simp only [gqA, gqB, gqC]; rfl)); (case q376 => exact fun _ _ _ h => h); (case y376 => (refine Or.inl ⟨by kernel_rfl, ?_⟩; intro wq hSq; clear hSq; go_simp; (try with_reducible rfl))); simp only [Act.put, List.setIfInBounds_toArray, List.set_cons_zero, List.set_cons_succ]
                  refine tkQ (i := 7) (oi := ?o377) (v := ?v377) ?h377 ?q377 ?y377 hS ?_; (case h377 => (simp only [gqA, gqB, gqC]; rfl)); (case q377 => exact fun _ _ _ h => h); (case y377 => (refine Or.inl ⟨by kernel_rfl, ?_⟩; intro wq hSq; clear hSq; go_simp; (try with_reducible rfl))); simp only [Act.put, List.setIfInBounds_toArray, List.set_cons_zero, List.set_cons_succ]
                  refine tkQ (i := 8) (oi := ?o378) (v := ?v378) ?h378 ?q378 ?y378 hS ?_; (case h378 => (simp only [gqA, gqB, gqC]; rfl)); (case q378 => exact fun _ _ _ h => h); (case y378 => (refine Or.inl ⟨by kernel_rfl, ?_⟩; intro wq hSq; clear hSq; go_simp; (try with_reducible rfl))); simp only [Act.put, List.setIfInBounds_toArray, List.set_cons_zero, List.set_cons_succ]
                  refine tkQ (i := 9) (oi := ?o379) (v := ?v379) ?h379 ?q379 ?y379 hS ?_; (case h379 => (simp only [gqA, gqB, gqC]; rfl)); (case q379 => exact fun _ _ _ h => h); (case y379 => (refine Or.inl ⟨by kernel_rfl, ?_⟩; intro wq hSq; have hf0 := hSq.cell g5 neb; have hf1 := hSq.cell g2 neb; have hf2 := hSq.cell (BX.cell' 0 _ rfl) neX; have hf3 := hSq.cell (BX.cell' 1 _ rfl) neX; have hf4 := hSq.cell (BX.cell' 2 _ rfl) neX; have hf5 := hSq.cell y2 neK; clear hSq; go_simp; (try with_reducible rfl))); simp only [Act.put, List.setIfInBounds_toArray, List.set_cons_zero, List.set_cons_succ]
                  refine tkQ (i := 10) (oi := ?o380) (v := ?v380) ?h380 ?q380 ?y380 hS ?_; (case h380 => (simp only [gqA, gqB, gqC]; rfl)); (case q380 => exact fun _ _ _ h => h); (case y380 => (refine Or.inl ⟨by kernel_rfl, ?_⟩; intro wq hSq; clear hSq; go_simp; (try with_reducible rfl))); simp only [Act.put, List.setIfInBounds_toArray, List.set_cons_zero, List.set_cons_succ]
                  refine tkQ (i := 11) (oi := ?o381) (v := ?v381) ?h381 ?q381 ?y381 hS ?_; (case h381 => (simp only [gqA, gqB, gqC]; rfl)); (case q381 => exact fun _ _ _ h => h); (case y381 => (refine Or.inl ⟨by kernel_rfl, ?_⟩; intro wq hSq; have hf0 := hSq.cell g5 neb; have hf1 := hSq.cell g2 neb; have hf2 := hSq.cell (BX.cell' 0 _ rfl) neX; have hf3 := hSq.cell (BX.cell' 1 _ rfl) neX; have hf4 := hSq.cell (BX.cell' 2 _ rfl) neX; have hf5 := hSq.cell y2 neK; clear hSq; go_simp; (try with_reducible rfl))); simp only [Act.put, List.setIfInBounds_toArray, List.set_cons_zero, List.set_cons_succ]
                  refine tkQ (i := 12) (oi := ?o382) (v := ?v382) ?h382 ?q382 ?y382 hS ?_; (case h382 => (simp only [gqA, gqB, gqC]; rfl)); (case q382 => exact fun _ _ _ h => h); (case y382 => (refine Or.inl ⟨by kernel_rfl, ?_⟩; intro wq hSq; clear hSq; go_simp; (try with_reducible rfl))); simp only [Act.put, List.setIfInBounds_toArray, List.set_cons_zero, List.set_cons_succ]
                  refine tkQ (i := 13) (oi := ?o383) (v := ?v383) ?h383 ?q383 ?y383 hS ?_; (case h383 => (simp only [gqA, gqB, gqC]; rfl)); (case q383 => exact fun _ _ _ h => h); (case y383 => (refine Or.inl ⟨by kernel_rfl, ?_⟩; intro wq hSq; clear hSq; go_simp; (try with_reducible rfl))); simp only [Act.put, List.setIfInBounds_toArray, List.set_cons_zero, List.set_cons_succ]
                  refine tkQ (i := 14) (oi := ?o384) (v := ?v384) ?h384 ?q384 ?y384 hS ?_; (case h384 => (simp only [gqA, gqB, gqC]; rfl)); (case q384 => exact fun _ _ _ h => h); (case y384 => (refine Or.inl ⟨by kernel_rfl, ?_⟩; intro wq hSq; clear hSq; go_simp; (try with_reducible rfl))); simp only [Act.put, List.setIfInBounds_toArray, List.set_cons_zero, List.set_cons_succ]
                  refine tkQ (i := 15) (oi := ?o385) (v := ?v385) ?h385 ?q385 ?y385 hS ?_; (case h385 => (simp only [gqA, gqB, gqC]; rfl)); (case q385 => exact fun _ _ _ h => h); (case y385 => (refine Or.inl ⟨by kernel_rfl, ?_⟩; intro wq hSq; clear hSq; go_simp; (try with_reducible rfl))); simp only [Act.put, List.setIfInBounds_toArray, List.set_cons_zero, List.set_cons_succ]
                  refine tkQ (i := 16) (oi := ?o386) (v := ?v386) ?h386 ?q386 ?y386 hS ?_; (case h386 => (simp only [gqA, gqB, gqC]; rfl)); (case q386 => exact fun _ _ _ h => h); (case y386 => (refine Or.inl ⟨by kernel_rfl, ?_⟩; intro wq hSq; clear hSq; go_simp; (try with_reducible rfl))); simp only [Act.put, List.setIfInBounds_toArray, List.set_cons_zero, List.set_cons_succ]
                  refine tkQ (i := 17) (oi := ?o387) (v := ?v387) ?h387 ?q387 ?y387 hS ?_; (case h387 => (simp only [gqA, gqB, gqC]; rfl)); (case q387 => exact fun _ _ _ h => h); (case y387 => (refine Or.inl ⟨by kernel_rfl, ?_⟩; intro wq hSq; have hf0 := hSq.cell g5 neb; have hf1 := hSq.cell g2 neb; have hf2 := hSq.cell (BX.cell' 0 _ rfl) neX; have hf3 := hSq.cell (BX.cell' 1 _ rfl) neX; have hf4 := hSq.cell (BX.cell' 2 _ rfl) neX; have hf5 := hSq.cell y2 neK; clear hSq; go_simp; (try with_reducible rfl))); simp only [Act.put, List.setIfInBounds_toArray, List.set_cons_zero, List.set_cons_succ]
                  refine wpAnyH_ready (rs := [18]) (by kernel_rfl) (by simp) ?_
                  refine AllReadyH.cons (o := ?oi388) ?hi388 (fun K hK => ?_) AllReadyH.nil
                  case hi388 => (simp only [gqA, gqB, gqC]; rfl)
                  go_simp
                  refine (HK.out _ (New.refl _).drew).mono ?_
                  rintro e w2 ⟨rfl, hg2, hk2⟩
                  have HS2 := Lib.hid ((HX.out.later (New.refl _).drew).step hg2 (hk2.out trivial) hne3 hne1 hne2)
                  refine hK.out _ _ (World.grownBy.trans hS hg2) (fun hS => ?_)
                  clear hK K
                  refine tkQ (i := 19) (oi := ?o389) (v := ?v389) ?h389 ?q389 ?y389 hS ?_; (case h389 => (simp only [gqA, gqB, gqC]; rfl)); (case q389 => exact fun _ _ _ h => h); (case y389 => (refine Or.inl ⟨by kernel_rfl, ?_⟩; intro wq hSq; clear hSq; go_simp; (try with_reducible rfl))); simp only [Act.put, List.setIfInBounds_toArray, List.set_cons_zero, List.set_cons_succ]
                  refine tkQ (i := 20) (oi := ?o390) (v := ?v390) ?h390 ?q390 ?y390 hS ?_; (case h390 => (simp only [gqA, gqB, gqC]; rfl)); (case q390 => exact fun _ _ _ h => h); (case y390 => (refine Or.inl ⟨by kernel_rfl, ?_⟩; intro wq hSq; clear hSq; go_simp; (try with_reducible rfl))); simp only [Act.put, List.setIfInBounds_toArray, List.set_cons_zero, List.set_cons_succ]
                  refine tkQ (i := 21) (oi := ?o391) (v := ?v391) ?h391 ?q391 ?y391 hS ?_; (case h391 => (simp only [gqA, gqB, gqC]; rfl)); (case q391 => exact fun _ _ _ h => h); (case y391 => (refine Or.inl ⟨by kernel_rfl, ?_⟩; intro wq hSq; clear hSq; go_simp; (try with_reducible rfl))); simp only [Act.put, List.setIfInBounds_toArray, List.set_cons_zero, List.set_cons_succ]
                  refine tkQ (i := 22) (oi := ?o392) (v := ?v392) ?h392 ?q392 ?y392 hS ?_; (case h392 => (simp only [gqA, gqB, gqC]; rfl)); (case q392 => exact fun _ _ _ h => h); (case y392 => (refine Or.inl ⟨by kernel_rfl, ?_⟩; intro wq hSq; clear hSq; go_simp; (try with_reducible rfl))); simp only [Act.put, List.setIfInBounds_toArray, List.set_cons_zero, List.set_cons_succ]
                  refine tkQ (i := 23) (oi := ?o393) (v := ?v393) ?h393 ?q393 ?y393 hS ?_; (case h393 => (simp only [gqA, gqB, gqC]; rfl)); (case q393 => exact fun _ _ _ h => h); (case y393 => (refine Or.inl ⟨by kernel_rfl, ?_⟩; intro wq hSq; have hf0 := hSq.cell g5 neb; have hf1 := hSq.cell g2 neb; have hf2 := hSq.cell (BX.cell' 0 _ rfl) neX; have hf3 := hSq.cell (BX.cell' 1 _ rfl) neX; have hf4 := hSq.cell (BX.cell' 2 _ rfl) neX; have hf5 := hSq.cell y2 neK; clear hSq; go_simp; (try with_reducible rfl))); simp only [Act.put, List.setIfInBounds_toArray, List.set_cons_zero, List.set_cons_succ]
                  refine tkQ (i := 24) (oi := ?o394) (v := ?v394) ?h394 ?q394 ?y394 hS ?_; (case h394 => (simp only [gqA, gqB, gqC]; rfl)); (case q394 => exact fun _ _ _ h => h); (case y394 => (refine Or.inl ⟨by kernel_rfl, ?_⟩; intro wq hSq; clear hSq; go_simp; (try with_reducible rfl))); simp only [Act.put, List.setIfInBounds_toArray, List.set_cons_zero, List.set_cons_succ]
                  refine tkQ (i := 25) (oi := ?o395) (v := ?v395) ?h395 ?q395 ?y395 hS ?_; (case h395 => (simp only [gqA, gqB, gqC]; rfl)); (case q395 => exact fun _ _ _ h => h); (case y395 => (refine Or.inl ⟨by kernel_rfl, ?_⟩; intro wq hSq; have hf0 := hSq.cell g5 neb; have hf1 := hSq.cell g2 neb; have hf2 := hSq.cell (BX.cell' 0 _ rfl) neX; have hf3 := hSq.cell (BX.cell' 1 _ rfl) neX; have hf4 := hSq.cell (BX.cell' 2 _ rfl) neX; have hf5 := hSq.cell y2 neK; clear hSq; go_simp; (try with_reducible rfl))); simp only [Act.put, List.setIfInBounds_toArray, List.set_cons_zero, List.set_cons_succ]
                  refine wpAnyH_ready (rs := [26]) (by kernel_rfl) (by simp) ?_
                  refine AllReadyH.cons (o := ?oi396) ?hi396 (fun K hK => ?_) AllReadyH.nil
                  case hi396 => (simp only [gqA, gqB, gqC]; rfl)
                  go_simp
                  refine (HW.out _).mono ?_
                  rintro e w3 ⟨rfl, hn3⟩
                  refine hK.out _ _ (grown_new hS hn3) (fun hS => ?_)
                  clear hK K
                  refine tkQ (i := 27) (oi := ?o397) (v := ?v397) ?h397 ?q397 ?y397 hS ?_; (case h397 => (simp only [gqA, gqB, gqC]; rfl)); (case q397 => exact fun _ _ _ h => h); (case y397 => (refine Or.inl ⟨by kernel_rfl, ?_⟩; intro wq hSq; clear hSq; go_simp; (try with_reducible rfl))); simp only [Act.put, List.setIfInBounds_toArray, List.set_cons_zero, List.set_cons_succ]
                  refine tkQ (i := 28) (oi := ?o398) (v := ?v398) ?h398 ?q398 ?y398 hS ?_; (case h398 => (simp only [gqA, gqB, gqC]; rfl)); (case q398 => exact fun _ _ _ h => h); (case y398 => (refine Or.inl ⟨by kernel_rfl, ?_⟩; intro wq hSq; clear hSq; go_simp; (try with_reducible rfl))); simp only [Act.put, List.setIfInBounds_toArray, List.set_cons_zero, List.set_cons_succ]
                  refine tkQ (i := 29) (oi := ?o399) (v := ?v399) ?h399 ?q399 ?y399 hS ?_; (case h399 => (simp only [gqA, gqB, gqC]; rfl)); (case q399 => exact fun _ _ _ h => h); (case y399 => (refine Or.inl ⟨by kernel_rfl, ?_⟩; intro wq hSq; clear hSq; go_simp; (try with_reducible rfl))); simp only [Act.put, List.setIfInBounds_toArray, List.set_cons_zero, List.set_cons_succ]
                  refine tkQ (i := 30) (oi := ?o400) (v := undef) ?h400 ?q400 ?y400 hS ?_; (case h400 => (simp only [gqA, gqB, gqC]; rfl)); (case q400 => exact fun _ _ _ h => h); (case y400 => (exact Or.inr ⟨by kernel_rfl, rfl⟩)); simp only [Act.put, List.setIfInBounds_toArray, List.set_cons_zero, List.set_cons_succ]
                  refine tkQ (i := 31) (oi := ?o401) (v := undef) ?h401 ?q401 ?y401 hS ?_; (case h401 => (simp only [gqA, gqB, gqC]; rfl)); (case q401 => exact fun _ _ _ h => h); (case y401 => (exact Or.inr ⟨by kernel_rfl, rfl⟩)); simp only [Act.put, List.setIfInBounds_toArray, List.set_cons_zero, List.set_cons_succ]
                  refine tkQ (i := 32) (oi := ?o402) (v := undef) ?h402 ?q402 ?y402 hS ?_; (case h402 => (simp only [gqA, gqB, gqC]; rfl)); (case q402 => exact fun _ _ _ h => h); (case y402 => (exact Or.inr ⟨by kernel_rfl, rfl⟩)); simp only [Act.put, List.setIfInBounds_toArray, List.set_cons_zero, List.set_cons_succ]
                  refine tkQ (i := 33) (oi := ?o403) (v := undef) ?h403 ?q403 ?y403 hS ?_; (case h403 => (simp only [gqA, gqB, gqC]; rfl)); (case q403 => exact fun _ _ _ h => h); (case y403 => (exact Or.inr ⟨by kernel_rfl, rfl⟩)); simp only [Act.put, List.setIfInBounds_toArray, List.set_cons_zero, List.set_cons_succ]
                  refine tkQ (i := 34) (oi := ?o404) (v := ?v404) ?h404 ?q404 ?y404 hS ?_; (case h404 => (simp only [gqA, gqB, gqC]; rfl)); (case q404 => exact fun _ _ _ h => h); (case y404 => (refine Or.inl ⟨by kernel_rfl, ?_⟩; intro wq hSq; clear hSq; go_simp; (try with_reducible rfl))); simp only [Act.put, List.setIfInBounds_toArray, List.set_cons_zero, List.set_cons_succ]
                  refine tkQ (i := 35) (oi := ?o405) (v := ?v405) ?h405 ?q405 ?y405 hS ?_; (case h405 => (simp only [gqA, gqB, gqC]; rfl)); (case q405 => exact fun _ _ _ h => h); (case y405 => (refine Or.inl ⟨by kernel_rfl, ?_⟩; intro wq hSq; clear hSq; go_simp; (try with_reducible rfl))); simp only [Act.put, List.setIfInBounds_toArray, List.set_cons_zero, List.set_cons_succ]
                  refine tkQ (i := 36) (oi := ?o406) (v := undef) ?h406 ?q406 ?y406 hS ?_; (case h406 => (simp only [gqA, gqB, gqC]; rfl)); (case q406 => exact fun _ _ _ h => h); (case y406 => (exact Or.inr ⟨by kernel_rfl, rfl⟩)); simp only [Act.put, List.setIfInBounds_toArray, List.set_cons_zero, List.set_cons_succ]
                  refine tkQ (i := 37) (oi := ?o407) (v := undef) ?h407 ?q407 ?y407 hS ?_; (case h407 => (simp only [gqA, gqB, gqC]; rfl)); (case q407 => exact fun _ _ _ h => h); (case y407 => (exact Or.inr ⟨by kernel_rfl, rfl⟩)); simp only [Act.put, List.setIfInBounds_toArray, List.set_cons_zero, List.set_cons_succ]
                  refine tkQ (i := 38) (oi := ?o408) (v := undef) ?h408 ?q408 ?y408 hS ?_; (case h408 => (simp only [gqA, gqB, gqC]; rfl)); (case q408 => exact fun _ _ _ h => h); (case y408 => (exact Or.inr ⟨by kernel_rfl, rfl⟩)); simp only [Act.put, List.setIfInBounds_toArray, List.set_cons_zero, List.set_cons_succ]
                  refine tkQ (i := 39) (oi := ?o409) (v := undef) ?h409 ?q409 ?y409 hS ?_; (case h409 => (simp only [gqA, gqB, gqC]; rfl)); (case q409 => exact fun _ _ _ h => h); (case y409 => (exact Or.inr ⟨by kernel_rfl, rfl⟩)); simp only [Act.put, List.setIfInBounds_toArray, List.set_cons_zero, List.set_cons_succ]
                  refine tkQ (i := 40) (oi := ?o410) (v := ?v410) ?h410 ?q410 ?y410 hS ?_; (case h410 => (simp only [gqA, gqB, gqC]; rfl)); (case q410 => exact fun _ _ _ h => h); (case y410 => (refine Or.inl ⟨by kernel_rfl, ?_⟩; intro wq hSq; clear hSq; go_simp; (try with_reducible rfl))); simp only [Act.put, List.setIfInBounds_toArray, List.set_cons_zero, List.set_cons_succ]
                  refine wpAnyH_done (by kernel_rfl) ?_ _
                  go_wp2
                  go_ret
                  exact ⟨rfl, New.trans HS2.out.new hn3⟩
            · rw [decide_eq_false hlt2, Bool.false_and, Bool.false_and, Bool.false_and, Bool.false_and] at HFX
              have t3 : decide (xp ≤ yp) = true := decide_eq_true (by omega)
              have hRf := HBad.out HFX.out
              subst hRf
              go_wp2_with (fail)
              refine wp_region_held_drew (S := (fun W => (wr.alloc (.cells #[.string xl, .string xs, .int .i64 xp] 85)).grownBy W (some (w.heap.size + 1)))) (by kernel_rfl) (new_grown (New.refl _).drew _) (fun hS => ?_)
              refine tkQ (i := 0) (oi := ?o411) (v := ?v411) ?h411 ?q411 ?y411 hS ?_; (case h411 => (simp only [gqA, gqB, gqC]; rfl)); (case q411 => exact fun _ _ _ h => h); (case y411 => (refine Or.inl ⟨by kernel_rfl, ?_⟩; intro wq hSq; clear hSq; go_simp; (try with_reducible rfl))); simp only [Act.put, List.setIfInBounds_toArray, List.set_cons_zero, List.set_cons_succ]
              refine tkQ (i := 1) (oi := ?o412) (v := ?v412) ?h412 ?q412 ?y412 hS ?_; (case h412 => (simp only [gqA, gqB, gqC]; rfl)); (case q412 => exact fun _ _ _ h => h); (case y412 => (refine Or.inl ⟨by kernel_rfl, ?_⟩; intro wq hSq; clear hSq; go_simp; (try with_reducible rfl))); simp only [Act.put, List.setIfInBounds_toArray, List.set_cons_zero, List.set_cons_succ]
              refine tkQ (i := 2) (oi := ?o413) (v := ?v413) ?h413 ?q413 ?y413 hS ?_; (case h413 => (simp only [gqA, gqB, gqC]; rfl)); (case q413 => exact fun _ _ _ h => h); (case y413 => (refine Or.inl ⟨by kernel_rfl, ?_⟩; intro wq hSq; clear hSq; go_simp; (try with_reducible rfl))); simp only [Act.put, List.setIfInBounds_toArray, List.set_cons_zero, List.set_cons_succ]
              refine tkQ (i := 3) (oi := ?o414) (v := ?v414) ?h414 ?q414 ?y414 hS ?_; (case h414 => (simp only [gqA, gqB, gqC]; rfl)); (case q414 => exact fun _ _ _ h => h); (case y414 => (refine Or.inl ⟨by kernel_rfl, ?_⟩; intro wq hSq; clear hSq; go_simp; (try with_reducible rfl))); simp only [Act.put, List.setIfInBounds_toArray, List.set_cons_zero, List.set_cons_succ]
              refine tkQ (i := 4) (oi := ?o415) (v := ?v415) ?h415 ?q415 ?y415 hS ?_; (case h415 => (simp only [gqA, gqB, gqC]; rfl)); (case q415 => exact fun _ _ _ h => h); (case y415 => (refine Or.inl ⟨by kernel_rfl, ?_⟩; intro wq hSq; have hf0 := hSq.cell g5 neb; have hf1 := hSq.cell g2 neb; have hf2 := hSq.cell (BX.cell' 0 _ rfl) neX; have hf3 := hSq.cell (BX.cell' 1 _ rfl) neX; have hf4 := hSq.cell (BX.cell' 2 _ rfl) neX; have hf5 := hSq.cell y2 neK; clear hSq; go_simp; (try with_reducible rfl))); simp only [Act.put, List.setIfInBounds_toArray, List.set_cons_zero, List.set_cons_succ]
              refine tkQ (i := 5) (oi := ?o416) (v := ?v416) ?h416 ?q416 ?y416 hS ?_; (case h416 => (simp only [gqA, gqB, gqC]; rfl)); (case q416 => exact fun _ _ _ h => h); (case y416 => (refine Or.inl ⟨by kernel_rfl, ?_⟩; intro wq hSq; clear hSq; go_simp; (try with_reducible rfl))); simp only [Act.put, List.setIfInBounds_toArray, List.set_cons_zero, List.set_cons_succ]
              refine tkQ (i := 6) (oi := ?o417) (v := ?v417) ?h417 ?q417 ?y417 hS ?_; (case h417 => (simp only [gqA, gqB, gqC]; rfl)); (case q417 => exact fun _ _ _ h => h); (case y417 => (refine Or.inl ⟨by kernel_rfl, ?_⟩; intro wq hSq; clear hSq; go_simp; (try with_reducible rfl))); simp only [Act.put, List.setIfInBounds_toArray, List.set_cons_zero, List.set_cons_succ]
              refine tkQ (i := 7) (oi := ?o418) (v := ?v418) ?h418 ?q418 ?y418 hS ?_; (case h418 => (simp only [gqA, gqB, gqC]; rfl)); (case q418 => exact fun _ _ _ h => h); (case y418 => (refine Or.inl ⟨by kernel_rfl, ?_⟩; intro wq hSq; clear hSq; go_simp; (try with_reducible rfl))); simp only [Act.put, List.setIfInBounds_toArray, List.set_cons_zero, List.set_cons_succ]
              refine tkQ (i := 8) (oi := ?o419) (v := ?v419) ?h419 ?q419 ?y419 hS ?_; (case h419 => (simp only [gqA, gqB, gqC]; rfl)); (case q419 => exact fun _ _ _ h => h); (case y419 => (refine Or.inl ⟨by kernel_rfl, ?_⟩; intro wq hSq; clear hSq; go_simp; (try with_reducible rfl))); simp only [Act.put, List.setIfInBounds_toArray, List.set_cons_zero, List.set_cons_succ]
              refine tkQ (i := 9) (oi := ?o420) (v := ?v420) ?h420 ?q420 ?y420 hS ?_; (case h420 => (simp only [gqA, gqB, gqC]; rfl)); (case q420 => exact fun _ _ _ h => h); (case y420 => (refine Or.inl ⟨by kernel_rfl, ?_⟩; intro wq hSq; have hf0 := hSq.cell g5 neb; have hf1 := hSq.cell g2 neb; have hf2 := hSq.cell (BX.cell' 0 _ rfl) neX; have hf3 := hSq.cell (BX.cell' 1 _ rfl) neX; have hf4 := hSq.cell (BX.cell' 2 _ rfl) neX; have hf5 := hSq.cell y2 neK; clear hSq; go_simp; (try with_reducible rfl))); simp only [Act.put, List.setIfInBounds_toArray, List.set_cons_zero, List.set_cons_succ]
              refine tkQ (i := 10) (oi := ?o421) (v := ?v421) ?h421 ?q421 ?y421 hS ?_; (case h421 => (simp only [gqA, gqB, gqC]; rfl)); (case q421 => exact fun _ _ _ h => h); (case y421 => (refine Or.inl ⟨by kernel_rfl, ?_⟩; intro wq hSq; clear hSq; go_simp; (try with_reducible rfl))); simp only [Act.put, List.setIfInBounds_toArray, List.set_cons_zero, List.set_cons_succ]
              refine tkQ (i := 11) (oi := ?o422) (v := ?v422) ?h422 ?q422 ?y422 hS ?_; (case h422 => (simp only [gqA, gqB, gqC]; rfl)); (case q422 => exact fun _ _ _ h => h); (case y422 => (refine Or.inl ⟨by kernel_rfl, ?_⟩; intro wq hSq; have hf0 := hSq.cell g5 neb; have hf1 := hSq.cell g2 neb; have hf2 := hSq.cell (BX.cell' 0 _ rfl) neX; have hf3 := hSq.cell (BX.cell' 1 _ rfl) neX; have hf4 := hSq.cell (BX.cell' 2 _ rfl) neX; have hf5 := hSq.cell y2 neK; clear hSq; go_simp; (try with_reducible rfl))); simp only [Act.put, List.setIfInBounds_toArray, List.set_cons_zero, List.set_cons_succ]
              refine tkQ (i := 12) (oi := ?o423) (v := ?v423) ?h423 ?q423 ?y423 hS ?_; (case h423 => (simp only [gqA, gqB, gqC]; rfl)); (case q423 => exact fun _ _ _ h => h); (case y423 => (refine Or.inl ⟨by kernel_rfl, ?_⟩; intro wq hSq; clear hSq; go_simp; (try with_reducible rfl))); simp only [Act.put, List.setIfInBounds_toArray, List.set_cons_zero, List.set_cons_succ]
              refine tkQ (i := 13) (oi := ?o424) (v := ?v424) ?h424 ?q424 ?y424 hS ?_; (case h424 => (simp only [gqA, gqB, gqC]; rfl)); (case q424 => exact fun _ _ _ h => h); (case y424 => (refine Or.inl ⟨by kernel_rfl, ?_⟩; intro wq hSq; clear hSq; go_simp; (try with_reducible rfl))); simp only [Act.put, List.setIfInBounds_toArray, List.set_cons_zero, List.set_cons_succ]
              refine tkQ (i := 14) (oi := ?o425) (v := ?v425) ?h425 ?q425 ?y425 hS ?_; (case h425 => (simp only [gqA, gqB, gqC]; rfl)); (case q425 => exact fun _ _ _ h => h); (case y425 => (refine Or.inl ⟨by kernel_rfl, ?_⟩; intro wq hSq; clear hSq; go_simp; (try with_reducible rfl))); simp only [Act.put, List.setIfInBounds_toArray, List.set_cons_zero, List.set_cons_succ]
              refine tkQ (i := 15) (oi := ?o426) (v := undef) ?h426 ?q426 ?y426 hS ?_; (case h426 => (simp only [gqA, gqB, gqC]; rfl)); (case q426 => exact fun _ _ _ h => h); (case y426 => (exact Or.inr ⟨by kernel_rfl, rfl⟩)); simp only [Act.put, List.setIfInBounds_toArray, List.set_cons_zero, List.set_cons_succ]
              refine tkQ (i := 16) (oi := ?o427) (v := undef) ?h427 ?q427 ?y427 hS ?_; (case h427 => (simp only [gqA, gqB, gqC]; rfl)); (case q427 => exact fun _ _ _ h => h); (case y427 => (exact Or.inr ⟨by kernel_rfl, rfl⟩)); simp only [Act.put, List.setIfInBounds_toArray, List.set_cons_zero, List.set_cons_succ]
              refine tkQ (i := 17) (oi := ?o428) (v := undef) ?h428 ?q428 ?y428 hS ?_; (case h428 => (simp only [gqA, gqB, gqC]; rfl)); (case q428 => exact fun _ _ _ h => h); (case y428 => (exact Or.inr ⟨by kernel_rfl, rfl⟩)); simp only [Act.put, List.setIfInBounds_toArray, List.set_cons_zero, List.set_cons_succ]
              refine tkQ (i := 18) (oi := ?o429) (v := undef) ?h429 ?q429 ?y429 hS ?_; (case h429 => (simp only [gqA, gqB, gqC]; rfl)); (case q429 => exact fun _ _ _ h => h); (case y429 => (exact Or.inr ⟨by kernel_rfl, rfl⟩)); simp only [Act.put, List.setIfInBounds_toArray, List.set_cons_zero, List.set_cons_succ]
              refine tkQ (i := 19) (oi := ?o430) (v := undef) ?h430 ?q430 ?y430 hS ?_; (case h430 => (simp only [gqA, gqB, gqC]; rfl)); (case q430 => exact fun _ _ _ h => h); (case y430 => (exact Or.inr ⟨by kernel_rfl, rfl⟩)); simp only [Act.put, List.setIfInBounds_toArray, List.set_cons_zero, List.set_cons_succ]
              refine tkQ (i := 20) (oi := ?o431) (v := ?v431) ?h431 ?q431 ?y431 hS ?_; (case h431 => (simp only [gqA, gqB, gqC]; rfl)); (case q431 => exact fun _ _ _ h => h); (case y431 => (refine Or.inl ⟨by kernel_rfl, ?_⟩; intro wq hSq; clear hSq; go_simp; (try with_reducible rfl))); simp only [Act.put, List.setIfInBounds_toArray, List.set_cons_zero, List.set_cons_succ]
              refine tkQ (i := 21) (oi := ?o432) (v := ?v432) ?h432 ?q432 ?y432 hS ?_; (case h432 => (simp only [gqA, gqB, gqC]; rfl)); (case q432 => exact fun _ _ _ h => h); (case y432 => (refine Or.inl ⟨by kernel_rfl, ?_⟩; intro wq hSq; clear hSq; go_simp; (try with_reducible rfl))); simp only [Act.put, List.setIfInBounds_toArray, List.set_cons_zero, List.set_cons_succ]
              refine tkQ (i := 22) (oi := ?o433) (v := undef) ?h433 ?q433 ?y433 hS ?_; (case h433 => (simp only [gqA, gqB, gqC]; rfl)); (case q433 => exact fun _ _ _ h => h); (case y433 => (exact Or.inr ⟨by kernel_rfl, rfl⟩)); simp only [Act.put, List.setIfInBounds_toArray, List.set_cons_zero, List.set_cons_succ]
              refine tkQ (i := 23) (oi := ?o434) (v := undef) ?h434 ?q434 ?y434 hS ?_; (case h434 => (simp only [gqA, gqB, gqC]; rfl)); (case q434 => exact fun _ _ _ h => h); (case y434 => (exact Or.inr ⟨by kernel_rfl, rfl⟩)); simp only [Act.put, List.setIfInBounds_toArray, List.set_cons_zero, List.set_cons_succ]
              refine tkQ (i := 24) (oi := ?o435) (v := undef) ?h435 ?q435 ?y435 hS ?_; (case h435 => (simp only [gqA, gqB, gqC]; rfl)); (case q435 => exact fun _ _ _ h => h); (case y435 => (exact Or.inr ⟨by kernel_rfl, rfl⟩)); simp only [Act.put, List.setIfInBounds_toArray, List.set_cons_zero, List.set_cons_succ]
              refine tkQ (i := 25) (oi := ?o436) (v := undef) ?h436 ?q436 ?y436 hS ?_; (case h436 => (simp only [gqA, gqB, gqC]; rfl)); (case q436 => exact fun _ _ _ h => h); (case y436 => (exact Or.inr ⟨by kernel_rfl, rfl⟩)); simp only [Act.put, List.setIfInBounds_toArray, List.set_cons_zero, List.set_cons_succ]
              refine tkQ (i := 26) (oi := ?o437) (v := undef) ?h437 ?q437 ?y437 hS ?_; (case h437 => (simp only [gqA, gqB, gqC]; rfl)); (case q437 => exact fun _ _ _ h => h); (case y437 => (exact Or.inr ⟨by kernel_rfl, rfl⟩)); simp only [Act.put, List.setIfInBounds_toArray, List.set_cons_zero, List.set_cons_succ]
              refine tkQ (i := 27) (oi := ?o438) (v := undef) ?h438 ?q438 ?y438 hS ?_; (case h438 => (simp only [gqA, gqB, gqC]; rfl)); (case q438 => exact fun _ _ _ h => h); (case y438 => (exact Or.inr ⟨by kernel_rfl, rfl⟩)); simp only [Act.put, List.setIfInBounds_toArray, List.set_cons_zero, List.set_cons_succ]
              refine tkQ (i := 28) (oi := ?o439) (v := ?v439) ?h439 ?q439 ?y439 hS ?_; (case h439 => (simp only [gqA, gqB, gqC]; rfl)); (case q439 => exact fun _ _ _ h => h); (case y439 => (refine Or.inl ⟨by kernel_rfl, ?_⟩; intro wq hSq; clear hSq; go_simp; (try with_reducible rfl))); simp only [Act.put, List.setIfInBounds_toArray, List.set_cons_zero, List.set_cons_succ]
              refine tkQ (i := 29) (oi := ?o440) (v := ?v440) ?h440 ?q440 ?y440 hS ?_; (case h440 => (simp only [gqA, gqB, gqC]; rfl)); (case q440 => exact fun _ _ _ h => h); (case y440 => (refine Or.inl ⟨by kernel_rfl, ?_⟩; intro wq hSq; clear hSq; go_simp; (try with_reducible rfl))); simp only [Act.put, List.setIfInBounds_toArray, List.set_cons_zero, List.set_cons_succ]
              refine tkQ (i := 30) (oi := ?o441) (v := undef) ?h441 ?q441 ?y441 hS ?_; (case h441 => (simp only [gqA, gqB, gqC]; rfl)); (case q441 => exact fun _ _ _ h => h); (case y441 => (exact Or.inr ⟨by kernel_rfl, rfl⟩)); simp only [Act.put, List.setIfInBounds_toArray, List.set_cons_zero, List.set_cons_succ]
              refine tkQ (i := 31) (oi := ?o442) (v := undef) ?h442 ?q442 ?y442 hS ?_; (case h442 => (simp only [gqA, gqB, gqC]; rfl)); (case q442 => exact fun _ _ _ h => h); (case y442 => (exact Or.inr ⟨by kernel_rfl, rfl⟩)); simp only [Act.put, List.setIfInBounds_toArray, List.set_cons_zero, List.set_cons_succ]
              refine tkQ (i := 32) (oi := ?o443) (v := undef) ?h443 ?q443 ?y443 hS ?_; (case h443 => (simp only [gqA, gqB, gqC]; rfl)); (case q443 => exact fun _ _ _ h => h); (case y443 => (exact Or.inr ⟨by kernel_rfl, rfl⟩)); simp only [Act.put, List.setIfInBounds_toArray, List.set_cons_zero, List.set_cons_succ]
              refine tkQ (i := 33) (oi := ?o444) (v := undef) ?h444 ?q444 ?y444 hS ?_; (case h444 => (simp only [gqA, gqB, gqC]; rfl)); (case q444 => exact fun _ _ _ h => h); (case y444 => (exact Or.inr ⟨by kernel_rfl, rfl⟩)); simp only [Act.put, List.setIfInBounds_toArray, List.set_cons_zero, List.set_cons_succ]
              refine tkQ (i := 34) (oi := ?o445) (v := ?v445) ?h445 ?q445 ?y445 hS ?_; (case h445 => (simp only [gqA, gqB, gqC]; rfl)); (case q445 => exact fun _ _ _ h => h); (case y445 => (refine Or.inl ⟨by kernel_rfl, ?_⟩; intro wq hSq; clear hSq; go_simp; (try with_reducible rfl))); simp only [Act.put, List.setIfInBounds_toArray, List.set_cons_zero, List.set_cons_succ]
              refine tkQ (i := 35) (oi := ?o446) (v := ?v446) ?h446 ?q446 ?y446 hS ?_; (case h446 => (simp only [gqA, gqB, gqC]; rfl)); (case q446 => exact fun _ _ _ h => h); (case y446 => (refine Or.inl ⟨by kernel_rfl, ?_⟩; intro wq hSq; clear hSq; go_simp; (try with_reducible rfl))); simp only [Act.put, List.setIfInBounds_toArray, List.set_cons_zero, List.set_cons_succ]
              refine tkQ (i := 36) (oi := ?o447) (v := undef) ?h447 ?q447 ?y447 hS ?_; (case h447 => (simp only [gqA, gqB, gqC]; rfl)); (case q447 => exact fun _ _ _ h => h); (case y447 => (exact Or.inr ⟨by kernel_rfl, rfl⟩)); simp only [Act.put, List.setIfInBounds_toArray, List.set_cons_zero, List.set_cons_succ]
              refine tkQ (i := 37) (oi := ?o448) (v := undef) ?h448 ?q448 ?y448 hS ?_; (case h448 => (simp only [gqA, gqB, gqC]; rfl)); (case q448 => exact fun _ _ _ h => h); (case y448 => (exact Or.inr ⟨by kernel_rfl, rfl⟩)); simp only [Act.put, List.setIfInBounds_toArray, List.set_cons_zero, List.set_cons_succ]
              refine tkQ (i := 38) (oi := ?o449) (v := undef) ?h449 ?q449 ?y449 hS ?_; (case h449 => (simp only [gqA, gqB, gqC]; rfl)); (case q449 => exact fun _ _ _ h => h); (case y449 => (exact Or.inr ⟨by kernel_rfl, rfl⟩)); simp only [Act.put, List.setIfInBounds_toArray, List.set_cons_zero, List.set_cons_succ]
              refine tkQ (i := 39) (oi := ?o450) (v := undef) ?h450 ?q450 ?y450 hS ?_; (case h450 => (simp only [gqA, gqB, gqC]; rfl)); (case q450 => exact fun _ _ _ h => h); (case y450 => (exact Or.inr ⟨by kernel_rfl, rfl⟩)); simp only [Act.put, List.setIfInBounds_toArray, List.set_cons_zero, List.set_cons_succ]
              refine tkQ (i := 40) (oi := ?o451) (v := ?v451) ?h451 ?q451 ?y451 hS ?_; (case h451 => (simp only [gqA, gqB, gqC]; rfl)); (case q451 => exact fun _ _ _ h => h); (case y451 => (refine Or.inl ⟨by kernel_rfl, ?_⟩; intro wq hSq; clear hSq; go_simp; (try with_reducible rfl))); simp only [Act.put, List.setIfInBounds_toArray, List.set_cons_zero, List.set_cons_succ]
              refine wpAnyH_done (by kernel_rfl) ?_ _
              go_wp2
              go_ret
              exact ⟨rfl, New.trans HX.out.new (New.refl _).drew⟩
        · obtain rfl : n3 = i := by omega
          have HG3 : Hid (R = true) := Lib.hid (by rw [← HRR2.out, HGo.out, List.drop_of_length_le (by rw [HN3.out]; exact Nat.le_refl _), impGo])
          have hRt := HG3.out
          subst hRt
          go_wp2
          go_ret
          exact ⟨rfl, HS.out.new⟩

end Go.Proofs.YtnjampfhkojbnaaGreatDoor

