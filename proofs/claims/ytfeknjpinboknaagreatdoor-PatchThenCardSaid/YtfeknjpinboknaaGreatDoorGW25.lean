/- The program's Make. Conditions: sizes. (Printed by mk-w25.py.) -/
import Derived.Test.YtfeknjpinboknaaGreatDoorGBase
import Derived.Test.YtfeknjpinboknaaGreatDoorGW22
import Derived.Test.YtfeknjpinboknaaGreatDoorGW24

namespace Go.Proofs.YtfeknjpinboknaaGreatDoor
open Go Go.RowKit Go.Joins Go.Shelf
set_option linter.unusedSimpArgs false
set_option linter.unusedVariables false

def mkL (s1 s2 : ByteArray) : List Hk := ofV (parts 10 s2) (parts 10 s1).length (keptL (parts 10 s1) (parts 10 s2) 0 0)
def MkP (s1 s2 : ByteArray) (w : World) (e : Ending) (w' : World) : Prop :=
  if linesE s1 = 0 ∧ linesE s2 = 0 then PatP w ⟨#[]⟩ (mkL s1 s2) e w' else New w w' ∧ e = .returned (.tuple #[.agg #[.string ⟨#[]⟩, .slice none 0 0], .int .i64 10])
theorem lines_len {s : ByteArray} (h : linesE s = 0) : (parts 10 s).length ≤ 1024 := by unfold linesE at h; split at h <;> omega
theorem made_rd (w : World) (ws : List ByteArray) (n : Nat) (h : ws.length = n) : LnOK (w.alloc (.cells (sCells ws).toArray 9)) [rowH ws (some ⟨w.heap.size, 0, none⟩) n] := fun y hy => by
  rw [List.mem_singleton] at hy
  subst hy
  simp only [rowH]
  exact ⟨by omega, by subst h; exact rd_new w (sCells ws) 9 _ (by simp [sCells]), fun _ => ⟨_, 0, _, _, rfl, Blk.made w 9 (sCells ws).toArray⟩⟩
theorem parts_sz {s : ByteArray} (hs : s.size ≤ 1000000) : ∀ x ∈ parts 10 s, x.size ≤ 1000000 := fun x h => by have := parts_size h; omega
theorem make_bound {b : List ByteArray} (hs : ∀ s ∈ b, s.size ≤ 1000000) (hb : b.length ≤ 1024) (m : Nat) (hm : m ≤ 1024) : ∀ (ps : List (Nat × Nat)), (∀ p ∈ ps, p.1 < m) → ps.length ≤ 2000 → BB (3000 + ps.length) ps.length (makeO b ps).1 ∧ ((makeO b ps).2.1 ≤ m) := by
  intro ps
  induction ps using snoc_ind with
  | h0 => intro _ _; exact ⟨⟨NB.nil _, by simp [makeO], by simp [makeO], SzK.nil, (fun s hs => by cases hs), by simp [makeO]⟩, by simp [makeO]⟩
  | h1 ps p ih =>
    intro hp hlp
    rw [List.length_append, List.length_singleton] at hlp
    obtain ⟨i1, i2⟩ := ih (fun q hq => hp q (List.mem_append_left _ hq)) (by omega)
    have hp1 := hp p (by simp)
    have hmk := make_of b ps
    rw [makeO_snoc, makeS, List.length_append, List.length_singleton]
    rw [hmk] at i1 i2 ⊢
    simp only at i1 i2 ⊢
    have hk : BB (3000 + ps.length) ps.length ⟨(ofL b ps).1, 0 + (p.1 - (ofL b ps).2.1), [] ++ (b.drop (ofL b ps).2.2).take (p.2 - (ofL b ps).2.2)⟩ :=
      ⟨i1.nb, by simp only; omega, by simp only [List.nil_append, List.length_take, List.length_drop]; omega, i1.sz, (fun s h => by
        rw [List.nil_append] at h
        exact hs s (List.mem_of_mem_drop (List.mem_of_mem_take h))), i1.len⟩
    have := hk.keep (by omega) (n := 1) (by omega)
    refine ⟨?_, by omega⟩
    have e : ((3000 : Int) + ((ps.length + 1 : Nat) : Int)) = 3000 + (ps.length : Int) + ((1 : Nat) : Int) := by omega
    rw [e]
    exact this
theorem kept_fst {α : Type} [DecidableEq α] : ∀ (a b : List α) (i j : Nat), ∀ p ∈ keptL a b i j, p.1 < i + a.length
  | [], b, i, j, p, h => by cases h
  | x :: a, b, i, j, p, h => by
    rw [keptL] at h
    rw [List.length_cons]
    split at h
    · rcases List.mem_cons.1 h with rfl | h
      · simp only; omega
      · have := kept_fst a _ _ _ p h; omega
    · have := kept_fst a _ _ _ p h; omega
theorem BM.drewN {w0 w : World} {g b1 b2 : Nat} {hs : List Hm} {d : Nat} {a : List ByteArray} {V VA : Value} (h : BM w0 w g b1 b2 hs d a V VA) (n : Nat) : BM w0 (w.drewN n) g b1 b2 hs d a V VA := ⟨h.blk, h.own, h.add, h.ln, h.lt, h.nw.drewN n, h.g0, h.h1, h.h2, h.k1, h.k2⟩
theorem make_head {A B : List ByteArray} {done rest : List (Nat × Nat)} {b : Bs} {i j : Nat} (hk : keptL A B 0 0 = done ++ rest) (hm : makeO B done = (b, i, j)) (hs : ∀ s ∈ B, s.size ≤ 1000000) (hB : B.length ≤ 1024) (hA : A.length ≤ 1024) : BB (3000 + done.length) done.length b ∧ done.length + rest.length ≤ A.length := by
  have h1 := kept_len A B 0 0
  have h2 := (lcs_le A B).1
  rw [hk, List.length_append] at h1
  have := make_bound hs hB A.length hA done (fun p hp => by
    have := kept_fst A B 0 0 p (by rw [hk]; exact List.mem_append_left _ hp)
    omega) (by omega)
  rw [hm] at this
  exact ⟨this.1, by omega⟩
set_option maxRecDepth 100000 in
set_option maxHeartbeats 32000000 in
theorem make_any (s1 s2 : ByteArray) (w : World) (h1 : s1.size ≤ 1000000) (h2 : s2.size ≤ 1000000) (hE : Env w) :
    Calls Tryz.prog 28 #[.string s1, .string s2] w (MkP s1 s2 w) := by
  have R0 := Blk.made w 24 #[.string ⟨#[]⟩, .slice none 0 0]
  have n0 := (New.refl w).alloc (.cells #[.string ⟨#[]⟩, .slice none 0 0] 24)
  have HE := Lib.hid hE
  obtain ⟨r, hr⟩ : ∃ r, w.heap.size = r := ⟨_, rfl⟩
  have HR := Lib.hid hr
  rw [hr] at R0
  have HMP : Hid (∀ e w', MkP s1 s2 w e w' = if linesE s1 = 0 ∧ linesE s2 = 0 then PatP w ⟨#[]⟩ (mkL s1 s2) e w' else New w w' ∧ e = .returned (.tuple #[.agg #[.string ⟨#[]⟩, .slice none 0 0], .int .i64 10])) := Lib.hid (fun _ _ => rfl)
  generalize MkP s1 s2 w = MP at *
  clear hr hE
  by_cases hl1 : linesE s1 = 0
  · by_cases hl2 : linesE s2 = 0
    · have HI2 : Hid (∀ e w', PatP w ⟨#[]⟩ (mkL s1 s2) e w' → MP e w') := Lib.hid (fun e w' h => by rw [HMP.out, if_pos ⟨hl1, hl2⟩]; exact h)
      have HLa := Lib.hid (lines_len hl1)
      have HLb := Lib.hid (lines_len hl2)
      have HSB := Lib.hid (parts_sz h2)
      have C1 := Lib.hid (fun W (hN : Env W) => lines_eq s1 W (by omega) hN hl1)
      have C2 := Lib.hid (fun W (hN : Env W) => lines_eq s2 W (by omega) hN hl2)
      have HMK : Hid (mkL s1 s2 = ofV (parts 10 s2) (parts 10 s1).length (keptL (parts 10 s1) (parts 10 s2) 0 0)) := Lib.hid rfl
      generalize parts 10 s1 = la1 at *
      generalize parts 10 s2 = lb1 at *
      generalize mkL s1 s2 = ML at *
      obtain ⟨la, hla⟩ : ∃ la, la1.length = la := ⟨_, rfl⟩
      obtain ⟨lb, hlb⟩ : ∃ lb, lb1.length = lb := ⟨_, rfl⟩
      rw [hla] at C1 HLa HMK
      rw [hlb] at C2 HLb
      have HA := Lib.hid hla
      have HB := Lib.hid hlb
      have hla2 : la ≤ 1024 := HLa.out
      have hlb2 : lb ≤ 1024 := HLb.out
      clear HMP hl1 hl2 h1 h2 hla hlb HLa HLb
      go_enter Tryz.func28, Tryz.ntmps28
      go_wp2_with (fail)
      rw [HR.out]
      generalize w.alloc (.cells #[.string ⟨#[]⟩, .slice none 0 0] 24) = w1 at *
      have C1' := Lib.hid (C1.out w1 (HE.out.new n0))
      have R1 := R0.alloc (.cells (sCells la1).toArray 9)
      have n1 := n0.alloc (.cells (sCells la1).toArray 9)
      have L1 := made_rd w1 la1 la HA.out
      with_reducible refine C1'.out.mono ?_
      rintro e w2 ⟨rfl, rfl⟩
      obtain ⟨ga, hga⟩ : ∃ ga, w1.heap.size = ga := ⟨_, rfl⟩
      rw [hga] at L1
      rw [hga]
      generalize w1.alloc (.cells (sCells la1).toArray 9) = w2 at *
      have C2' := Lib.hid (C2.out w2 (HE.out.new n1))
      go_wp2_with (fail)
      have R2 := R1.alloc (.cells (sCells lb1).toArray 9)
      have n2 := n1.alloc (.cells (sCells lb1).toArray 9)
      have L2 := made_rd w2 lb1 lb HB.out
      have L1 := L1.new ((New.refl w2).alloc (.cells (sCells lb1).toArray 9))
      with_reducible refine C2'.out.mono ?_
      rintro e w3 ⟨rfl, rfl⟩
      obtain ⟨gb, hgb⟩ : ∃ gb, w2.heap.size = gb := ⟨_, rfl⟩
      rw [hgb] at L2
      rw [hgb]
      generalize w2.alloc (.cells (sCells lb1).toArray 9) = w3 at *
      have r1 := (ln_rd L1).1
      have r2 := (ln_rd L2).1
      rw [HA.out] at r1
      rw [HB.out] at r2
      have C3 := Lib.hid (common_any (some ⟨ga, 0, none⟩) (some ⟨gb, 0, none⟩) la la lb lb la1 lb1 w3 r1 r2 hla2 hlb2)
      obtain ⟨gT, hgT⟩ : ∃ gT, w3.heap.size = gT := ⟨_, rfl⟩
      rw [hgT] at C3
      clear hga hgb hgT C1 C2 C1' C2' r1 r2 R0 n0 R1 n1
      go_wp2_with (fail)
      with_reducible refine C3.out.mono ?_
      rintro e w4 ⟨rfl, n4, T4⟩
      have HW4 := Lib.hid (n2.trans n4)
      have HR4 := Lib.hid (R2.new n4)
      have HT4 := Lib.hid T4
      have HL1 := Lib.hid (L1.new n4)
      have HL2 := Lib.hid (L2.new n4)
      have S4 := Lib.hid (BM.start w4)
      have HT5 := Lib.hid (T4.new ((New.refl w4).alloc (.cells #[.slice none 0 0, .int .i64 0, .slice none 0 0] 77)))
      obtain ⟨g, hg⟩ : ∃ g, w4.heap.size = g := ⟨_, rfl⟩
      have HG := Lib.hid hg
      rw [hg] at S4
      have e0 := HT5.out.row 0 (by omega)
      have e1 : (w4.alloc (.cells #[.slice none 0 0, .int .i64 0, .slice none 0 0] 77)).cell? ⟨gT + 1 + 0, 0, none⟩ = some (.int .i64 (tabM la1 lb1 0 0 : Int)) := HT5.out.cell 0 0 (by omega) (by omega)
      obtain ⟨m0, hm0⟩ : ∃ m0, tabM la1 lb1 0 0 = m0 := ⟨_, rfl⟩
      rw [hm0] at e1
      simp only [Nat.add_zero] at e0 e1
      have HM0 := Lib.hid hm0
      have i0 : (0 : Int) < ((la + 1 : Nat) : Int) := by omega
      have i1 : (0 : Int) < (la : Int) + 1 := by omega
      have i2 : (0 : Int) < (lb : Int) + 1 := by omega
      clear L1 L2 R2 n2 n4 T4 hg hm0 C3
      go_wp2
      rw [HG.out]
      generalize w4.alloc (.cells #[.slice none 0 0, .int .i64 0, .slice none 0 0] 77) = w5 at *
      clear e0 e1
      have HK0 : Hid (keptL la1 lb1 0 0 = [] ++ keptL la1 lb1 0 0 ∧ keptL la1 lb1 0 0 = keptL (la1.drop 0) (lb1.drop 0) 0 0 ∧ (keptL la1 lb1 0 0).length = m0 ∧ makeO lb1 [] = (⟨([] : List Hm).map Hm.d, 0, []⟩, 0, 0)) := Lib.hid ⟨rfl, rfl, by rw [kept_len, ← HM0.out]; rfl, rfl⟩
      go_loopw [11, 12, 13] (fun v11 v12 v13 wr => ∃ (i j l b2 : Nat) (done rest : List (Nat × Nat)) (hs : List Hm) (V : Value), v11 = .int .i64 (i : Int) ∧ v12 = .int .i64 (j : Int) ∧ v13 = .int .i64 (l : Int) ∧ i ≤ la ∧ j ≤ lb ∧ BM w4 wr g g b2 hs 0 [] V (.slice none 0 0) ∧ Hid (keptL la1 lb1 0 0 = done ++ rest ∧ rest = keptL (la1.drop i) (lb1.drop j) i j ∧ rest.length = l ∧ makeO lb1 done = (⟨hs.map Hm.d, 0, []⟩, i, j))) (fun _ _ v13 _ => (intOf v13).toNat)
      case atStart => exact ⟨0, 0, m0, g, [], _, [], _, rfl, rfl, rfl, by omega, by omega, S4.out, HK0⟩
      case round =>
        obtain ⟨i, j, l, b2, done, rest, hs, V, rfl, rfl, rfl, hi, hj, hBM, HK⟩ := hrel
        have HBM := Lib.hid hBM
        clear hBM
        by_cases hlt : 0 < l
        · obtain ⟨⟨px, py⟩, rest', hre⟩ : ∃ p r, rest = p :: r := by
            cases rest with
            | nil => have := HK.out.2.2.1; simp at this; omega
            | cons p r => exact ⟨p, r, rfl⟩
          subst hre
          obtain ⟨k1, k2, k3, k4, k5, k6, k7⟩ := kept_next la1 lb1 _ i j rfl HK.out.2.1.symm
          obtain ⟨l', rfl⟩ : ∃ l', l = l' + 1 := ⟨l - 1, by omega⟩
          have hl' : rest'.length = l' := by have := HK.out.2.2.1; simp at this; omega
          simp only at k1 k2 k3 k4 k5 k6 k7
          rw [HA.out] at k2
          rw [HB.out] at k4
          rw [hl'] at k5 k7
          have K5 := Lib.hid k5
          have K6 := Lib.hid k6
          have K7 := Lib.hid k7
          clear k5 k6 k7 hl'
          obtain ⟨wo, rfl⟩ : ∃ wo : World, wo = wr := ⟨_, rfl⟩
          have k8 : (0 : Int) < ((l' + 1 : Nat) : Int) := by omega
          have k9 : (0 : Int) < (l' : Int) + 1 := by omega
          go_wp2
          go_step3
          go_wp2
          go_step3
          go_wp2
          go_loopw [14, 15] (fun v14 v15 wr2 => ∃ (x : Nat), v14 = .int .i64 (x : Int) ∧ i ≤ x ∧ x ≤ px ∧ BM w4 wr2 g g b2 hs 0 [] V (.slice none 0 0)) (fun v14 _ _ => la - (intOf v14).toNat)
          case atStart => exact ⟨i, rfl, Nat.le_refl _, k1, HBM.out⟩
          case round =>
            obtain ⟨x, rfl, hx1, hx2, hB2⟩ := hrel
            obtain ⟨wp, rfl⟩ : ∃ wp : World, wp = wr := ⟨_, rfl⟩
            have HB2 := Lib.hid hB2
            clear hB2
            go_wp2
            go_loopw [15] (fun v15 wr3 => ∃ (y : Nat), v15 = .int .i64 (y : Int) ∧ j ≤ y ∧ y ≤ lb ∧ (x = px → y ≤ py) ∧ BM w4 wr3 g g b2 hs 0 [] V (.slice none 0 0)) (fun v15 _ => lb - (intOf v15).toNat)
            case atStart => exact ⟨j, rfl, Nat.le_refl _, hj, fun _ => k3, HB2.out⟩
            case round =>
              obtain ⟨y, rfl, hy1, hy2, hy3, hB3⟩ := hrel
              have hn3 := hB3.nw
              have HB3 := Lib.hid hB3
              have HY3 := Lib.hid hy3
              clear hB3 hy3
              by_cases hylt : y < lb
              · have r1 := (ln_rd (HL1.out.new hn3)).1
                have r2 := (ln_rd (HL2.out.new hn3)).1
                rw [HA.out] at r1
                rw [HB.out] at r2
                obtain ⟨bx, ox, u, hbx, hbxl, hux, cx⟩ := sRd_at r1 (show x < la by omega)
                obtain ⟨rfl, rfl⟩ : ga = bx ∧ 0 = ox := by injection hbx with q; injection q with q1 q2; exact ⟨q1, q2⟩
                obtain ⟨by', oy, v, hby, hbyl, hvy, cy⟩ := sRd_at r2 (show y < lb by omega)
                obtain ⟨rfl, rfl⟩ : gb = by' ∧ 0 = oy := by injection hby with q; injection q with q1 q2; exact ⟨q1, q2⟩
                simp only [Nat.zero_add] at cx cy
                have x0 : (0 : Int) ≤ (x : Int) := by omega
                have x1 : (x : Int) < (la : Int) := by omega
                have y0 : (0 : Int) ≤ (y : Int) := by omega
                have y1 : (y : Int) < (lb : Int) := by omega
                have HG5 := Lib.hid (show goodP la1 lb1 (l' + 1) x y ↔ u = v ∧ 1 + tabM la1 lb1 (x + 1) (y + 1) = l' + 1 by
                  have := goodP_iff la1 lb1 (t := l' + 1) (i := x) (k := y) (by rw [HA.out]; omega) (by rw [HB.out]; omega)
                  rw [(List.getElem?_eq_some_iff.1 hux).2, (List.getElem?_eq_some_iff.1 hvy).2] at this
                  exact this)
                clear r1 r2 hux hvy hbx hby
                by_cases huv : u = v
                · have q1 : (u.toList == v.toList) = true := by rw [huv]; simp
                  have q2 : wr.cell? ⟨gT, x + 1, none⟩ = some (.slice (some ⟨gT + 1 + (x + 1), 0, none⟩) (lb + 1) (lb + 1)) := (HT4.out.new hn3).row (x + 1) (by omega)
                  have q3 : wr.cell? ⟨gT + 1 + (x + 1), y + 1, none⟩ = some (.int .i64 (tabM la1 lb1 (x + 1) (y + 1) : Int)) := (HT4.out.new hn3).cell (x + 1) (y + 1) (by omega) (by omega)
                  have q4 := tabM_le la1 lb1 (x + 1) (y + 1)
                  rw [HA.out] at q4
                  generalize tabM la1 lb1 (x + 1) (y + 1) = m3 at *
                  have x2 : IntKind.i64.wrap ((x : Int) + 1) = (x : Int) + 1 := IntWalk.i64_in _ (by omega)
                  have x3 : ((x : Int) + 1).toNat = x + 1 := by omega
                  have x4 : (0 : Int) ≤ (x : Int) + 1 := by omega
                  have x5 : (x : Int) + 1 < (la : Int) + 1 := by omega
                  have x6 : (x : Int) + 1 < ((la + 1 : Nat) : Int) := by omega
                  have y2 : IntKind.i64.wrap ((y : Int) + 1) = (y : Int) + 1 := IntWalk.i64_in _ (by omega)
                  have y3 : ((y : Int) + 1).toNat = y + 1 := by omega
                  have y4 : (0 : Int) ≤ (y : Int) + 1 := by omega
                  have y5 : (y : Int) + 1 < (lb : Int) + 1 := by omega
                  have y6 : (y : Int) + 1 < ((lb + 1 : Nat) : Int) := by omega
                  have m4 : IntKind.i64.wrap (1 + (m3 : Int)) = 1 + (m3 : Int) := IntWalk.i64_in _ (by omega)
                  by_cases hm : m3 = l'
                  · have m5 : (1 + (m3 : Int) == ((l' + 1 : Nat) : Int)) = true := by simp; omega
                    have m6 : (1 + (m3 : Int) == (l' : Int) + 1) = true := by simp; omega
                    have hgood := HG5.out.2 ⟨huv, by omega⟩
                    have hnl : ¬ (x < px ∨ x = px ∧ y < py) := fun q => K7.out x y hx1 hy1 q hgood
                    obtain rfl : x = px := by omega
                    obtain rfl : y = py := by have := HY3.out rfl; omega
                    clear hgood hnl
                    go_wp2
                    go_quiet (fail)
                    have HBW := Lib.hid (HB3.out.drewN nq)
                    generalize wr.drewN nq = W at *
                    have f1 := HBW.out.blk.cell' 1 _ rfl
                    have z1 := HBW.out.blk.free 1
                    have v0 : IntKind.i64.wrap ((x : Int) - (i : Int)) = ((x - i : Nat) : Int) := by rw [IntWalk.i64_in _ (by omega)]; omega
                    have v1 : IntKind.i64.wrap ((0 : Int) + ((x - i : Nat) : Int)) = ((x - i : Nat) : Int) := by rw [IntWalk.i64_in _ (by omega)]; omega
                    have v2 : IntKind.i64.wrap (((0 : Nat) : Int) + ((x - i : Nat) : Int)) = ((x - i : Nat) : Int) := by rw [IntWalk.i64_in _ (by omega)]; omega
                    go_upto_region 20 with (fail)
                    have HBD := Lib.hid (HBW.out.setDrop (x - i))
                    generalize W.setCell ⟨g, 1, none⟩ (.int .i64 ((x - i : Nat) : Int)) = W1 at *
                    have hn1 := HBD.out.nw
                    have hL2 := HL2.out.new hn1
                    have j1 : ¬ lb = j := by omega
                    have j2 : (0 : Int) ≤ (j : Int) := by omega
                    have j3 : (j : Int) ≤ (y : Int) := by omega
                    have j4 : (y : Int) ≤ (lb : Int) := by omega
                    have hRD : Rd W1 1 (some ⟨gb, j, none⟩) (y - j) (sCells ((lb1.drop j).take (y - j))) := by
                      have := (hL2.cut j (by rw [HB.out]; omega)).take (y - j) (by rw [List.length_drop, HB.out]; omega)
                      have ea : (⟨gb, 0, none⟩ : Addr).add j = ⟨gb, j, none⟩ := by rw [add_none rfl]; simp
                      rw [if_neg j1, Option.map_some, ea] at this
                      exact this
                    have HRD := Lib.hid hRD
                    have f2 := HBD.out.blk.cell' 2 _ rfl
                    have hk2 := HBD.out.k2
                    obtain ⟨HD1, HD2⟩ := make_head HK.out.1 HK.out.2.2.2 HSB.out (by rw [HB.out]; omega) (by rw [HA.out]; omega)
                    rw [HA.out] at HD2
                    have HH := Lib.hid HD1
                    clear hRD hL2 hn1 f1 z1 v0 v1 v2 q1 q2 q3 HD1
                    refine wp_region_held_drew (S := (fun _ : World => True)) (by kernel_rfl) (trivial) (fun hS => ?_)
                    refine tkT 0 (v := ?v9) hS (fun wq hSq => ?y9) ?_; (case y9 => clear hSq; go_simp; (try with_reducible rfl)); simp only [Act.put, gqD, gqE, gqF]
                    refine tkT 2 (v := ?v10) hS (fun wq hSq => ?y10) ?_; (case y10 => clear hSq; go_simp; (try with_reducible rfl)); simp only [Act.put, gqD, gqE, gqF]
                    refine tkT 3 (v := ?v11) hS (fun wq hSq => ?y11) ?_; (case y11 => clear hSq; go_simp; (try with_reducible rfl)); simp only [Act.put, gqD, gqE, gqF]
                    refine tkT 4 (v := ?v12) hS (fun wq hSq => ?y12) ?_; (case y12 => clear hSq; go_simp; (try with_reducible rfl)); simp only [Act.put, gqD, gqE, gqF]
                    refine tkT 5 (v := ?v13) hS (fun wq hSq => ?y13) ?_; (case y13 => clear hSq; go_simp; (try with_reducible rfl)); simp only [Act.put, gqD, gqE, gqF]
                    refine wpAnyH_ready (rs := [1]) (by kernel_rfl) (by simp) ?_
                    refine AllReadyH.cons (o := ?oi14) ?hi14 (fun K hK => ?_) AllReadyH.nil
                    case hi14 => (simp only [gqA, gqB, gqC]; rfl)
                    go_simp
                    refine hK.out _ _ (trivial) (fun hS => ?_)
                    clear hK K
                    refine wpAnyH_ready (rs := [6]) (by kernel_rfl) (by simp) ?_
                    refine AllReadyH.cons (o := ?oi15) ?hi15 (fun K hK => ?_) AllReadyH.nil
                    case hi15 => (simp only [gqA, gqB, gqC]; rfl)
                    refine step_append_rd (by rfl) _ _ (by rfl) b2 (.slice none 0 0) 0 (sCells []) (by rfl) HBD.out.add.drew (some ⟨gb, j, none⟩) (y - j) (lb - j) ((lb1.drop j).take (y - j)) (by rfl) HRD.out.drew (by omega) (by simp; omega) ?_
                    intro v5 w5 hown5 hg5 h5
                    rw [Nat.zero_add] at hown5
                    have BG := HBD.out.drew.blk.grown hg5 (by simp [Value.ownBlock])
                    have p0 := BG.cell' 2 _ rfl
                    have p1 := BG.free 2
                    obtain ⟨A5, c5, rfl, _, _, _⟩ := own_form hown5
                    simp only [Act.put, gqD, gqE, gqF]
                    refine hK.out _ _ (trivial) (fun hS => ?_)
                    clear hK K
                    refine tkT 7 (v := ?v16) hS (fun wq hSq => ?y16) ?_; (case y16 => clear hSq; go_simp; (try with_reducible rfl)); simp only [Act.put, gqD, gqE, gqF]
                    refine wpAnyH_ready (rs := [8]) (by kernel_rfl) (by simp) ?_
                    refine AllReadyH.cons (o := ?oi17) ?hi17 (fun K hK => ?_) AllReadyH.nil
                    case hi17 => (simp only [gqA, gqB, gqC]; rfl)
                    go_simp
                    refine hK.out _ _ (trivial) (fun hS => ?_)
                    clear hK K
                    refine wpAnyH_done (by kernel_rfl) ?_ _
                    have HBA := Lib.hid (HBD.out.drew.addMore hg5 (a' := [] ++ (lb1.drop j).take (y - j)) (by simpa [sCells] using hown5))
                    have HSA : Hid (∀ s ∈ (lb1.drop j).take (y - j), s.size ≤ 1000000) := Lib.hid (fun s h => HSB.out s (List.mem_of_mem_drop (List.mem_of_mem_take h)))
                    have hln : (([] : List ByteArray) ++ (lb1.drop j).take (y - j)).length ≤ 1024 := by have := HB.out; simp only [List.nil_append, List.length_take, List.length_drop]; omega
                    have HKP := Lib.hid (show Calls Tryz.prog 52 #[.pointer (some ⟨g, 0, none⟩), .int .i64 1] _ _ from keep_any (n := 1) (3000 + done.length) HBA.out (by have := HH.out.len; simp only [List.length_map] at this; omega) (by omega) (by omega) HH.out.nb (by omega) (Nat.le_refl 1) (by decide))
                    have HKN : Hid (keptL la1 lb1 0 0 = (done ++ [(x, y)]) ++ rest' ∧ rest' = keptL (la1.drop (x + 1)) (lb1.drop (y + 1)) (x + 1) (y + 1) ∧ rest'.length = l' ∧ makeO lb1 (done ++ [(x, y)]) = (⟨bump (Bs.flush ⟨hs.map Hm.d, x - i, [] ++ (lb1.drop j).take (y - j)⟩).l 1, 0, []⟩, x + 1, y + 1)) := Lib.hid ⟨by rw [HK.out.1]; simp, K6.out, by have := HK.out.2.2.1; simp at this; omega, by
                      rw [makeO_snoc, HK.out.2.2.2, makeS]
                      simp only [Nat.zero_add]
                      rw [Bs.keep, if_neg (by decide)]⟩
                    clear hg5 hown5 BG p0 p1
                    go_wp2_with (go_at_call 52; (with_reducible refine HKP.out.mono ?_); rintro e w6 ⟨rfl, V6, hs6, b6, h6, fr6, hm6, hl6⟩)
                    have HR6 : Hid (keptL la1 lb1 0 0 = (done ++ [(x, y)]) ++ rest' ∧ rest' = keptL (la1.drop (x + 1)) (lb1.drop (y + 1)) (x + 1) (y + 1) ∧ rest'.length = l' ∧ makeO lb1 (done ++ [(x, y)]) = (⟨hs6.map Hm.d, 0, []⟩, x + 1, y + 1)) := Lib.hid (by rw [hm6]; exact HKN.out)
                    have l1 : IntKind.i64.wrap ((l' : Int) + 1 - 1) = (l' : Int) := by rw [show (l' : Int) + 1 - 1 = l' by omega]; exact IntWalk.i64_in _ (by omega)
                    rw [Exit.noGoto_normal]
                    go_wp2
                    go_roundw
                    case rel => exact ⟨x + 1, y + 1, l', b6, done ++ [(x, y)], rest', hs6, _, by go_num, by go_num, rfl, by omega, by omega, h6, HR6⟩
                    case measure => simp [intOf]
                  · have m5 : (1 + (m3 : Int) == ((l' + 1 : Nat) : Int)) = false := by simp; omega
                    have m6 : (1 + (m3 : Int) == (l' : Int) + 1) = false := by simp; omega
                    have hng : x = px → y + 1 ≤ py := fun q => by
                      have h3 := HY3.out q
                      by_cases q2 : y = py
                      · subst q q2
                        have := (HG5.out.1 K5.out).2
                        omega
                      · omega
                    have HNG := Lib.hid hng
                    clear hng
                    go_wp2
                    go_quiet (fail)
                    go_wp2
                    go_roundw
                    case rel => exact ⟨y + 1, by go_num, by omega, by omega, HNG.out, HB3.out.drewN _⟩
                    case measure => simp [intOf]; omega
                · have q1 : (u.toList == v.toList) = false := by rw [beq_bytes]; exact decide_eq_false huv
                  have hng : x = px → y + 1 ≤ py := fun q => by
                    have h3 := HY3.out q
                    by_cases q2 : y = py
                    · subst q q2
                      exact absurd (HG5.out.1 K5.out).1 huv
                    · omega
                  have HNG := Lib.hid hng
                  clear hng
                  go_wp2
                  go_quiet (fail)
                  go_wp2
                  go_roundw
                  case rel => exact ⟨y + 1, by go_num, by omega, by omega, HNG.out, HB3.out.drewN _⟩
                  case measure => simp [intOf]; omega
              · obtain rfl : y = lb := by omega
                have hxp : x < px := by
                  by_cases q : x = px
                  · have := HY3.out q; omega
                  · omega
                have x7 : IntKind.i64.wrap ((x : Int) + 1) = (x : Int) + 1 := IntWalk.i64_in _ (by omega)
                go_wp2
                go_roundw
                case rel => exact ⟨x + 1, by go_num, by omega, by omega, HB3.out⟩
                case measure => simp [intOf]; omega
        · obtain rfl : l = 0 := by omega
          obtain rfl : rest = [] := List.eq_nil_of_length_eq_zero HK.out.2.2.1
          obtain ⟨HD1, HD2⟩ := make_head HK.out.1 HK.out.2.2.2 HSB.out (by rw [HB.out]; omega) (by rw [HA.out]; omega)
          rw [HA.out] at HD2
          have HH := Lib.hid HD1
          have f1 := HBM.out.blk.cell' 1 _ rfl
          have z1 := HBM.out.blk.free 1
          have v0 : IntKind.i64.wrap ((la : Int) - (i : Int)) = ((la - i : Nat) : Int) := by rw [IntWalk.i64_in _ (by omega)]; omega
          have v1 : IntKind.i64.wrap ((0 : Int) + ((la - i : Nat) : Int)) = ((la - i : Nat) : Int) := by rw [IntWalk.i64_in _ (by omega)]; omega
          have v2 : IntKind.i64.wrap (((0 : Nat) : Int) + ((la - i : Nat) : Int)) = ((la - i : Nat) : Int) := by rw [IntWalk.i64_in _ (by omega)]; omega
          have v3 : ¬ (0 : Int) < ((0 : Nat) : Int) := by decide
          clear HD1
          go_upto_region 24 with (fail)
          have HBD := Lib.hid (HBM.out.setDrop (la - i))
          generalize wr.setCell ⟨g, 1, none⟩ (.int .i64 ((la - i : Nat) : Int)) = W1 at *
          have hn1 := HBD.out.nw
          have hL2 := HL2.out.new hn1
          obtain ⟨A', hA'⟩ : ∃ A', (if lb = j then some (⟨gb, 0, none⟩ : Addr) else some ⟨gb, j, none⟩) = A' := ⟨_, rfl⟩
          have j2 : (0 : Int) ≤ (j : Int) := by omega
          have j4 : (j : Int) ≤ (lb : Int) := by omega
          have hRD : Rd W1 1 A' (lb - j) (sCells (lb1.drop j)) := by
            have := (ln_rd (hL2.cut j (by rw [HB.out]; omega))).1
            have ea : (⟨gb, 0, none⟩ : Addr).add j = ⟨gb, j, none⟩ := by rw [add_none rfl]; simp
            rw [Option.map_some, ea, List.length_drop, HB.out] at this
            rw [← hA']
            exact this
          have HRD := Lib.hid hRD
          have f2 := HBD.out.blk.cell' 2 _ rfl
          have hk2 := HBD.out.k2
          clear hRD hL2 hn1 f1 z1 v0 v1 v2 v3
          refine wp_region_held_drew (S := (fun _ : World => True)) (by kernel_rfl) (trivial) (fun hS => ?_)
          refine tkT 0 (v := ?v1) hS (fun wq hSq => ?y1) ?_; (case y1 => clear hSq; go_simp; (try with_reducible rfl)); simp only [Act.put, gqD, gqE, gqF]
          refine tkT 2 (v := ?v2) hS (fun wq hSq => ?y2) ?_; (case y2 => clear hSq; go_simp; (try with_reducible rfl)); simp only [Act.put, gqD, gqE, gqF]
          refine tkT 3 (v := ?v3) hS (fun wq hSq => ?y3) ?_; (case y3 => clear hSq; go_simp; (try with_reducible rfl)); simp only [Act.put, gqD, gqE, gqF]
          refine tkT 4 (v := ?v4) hS (fun wq hSq => ?y4) ?_; (case y4 => clear hSq; go_simp; (try with_reducible rfl)); simp only [Act.put, gqD, gqE, gqF]
          refine wpAnyH_ready (rs := [1]) (by kernel_rfl) (by simp) ?_
          refine AllReadyH.cons (o := ?oi5) ?hi5 (fun K hK => ?_) AllReadyH.nil
          case hi5 => (simp only [gqA, gqB, gqC]; rfl)
          go_simp
          refine hK.out _ _ (trivial) (fun hS => ?_)
          clear hK K
          refine wpAnyH_ready (rs := [5]) (by kernel_rfl) (by simp) ?_
          refine AllReadyH.cons (o := ?oi6) ?hi6 (fun K hK => ?_) AllReadyH.nil
          case hi6 => (simp only [gqA, gqB, gqC]; rfl)
          refine step_append_rd (by rfl) _ _ (by rfl) b2 (.slice none 0 0) 0 (sCells []) (by rfl) HBD.out.add.drew A' (lb - j) (lb - j) (lb1.drop j) (by rfl) HRD.out.drew (by omega) (by simp; omega) ?_
          intro v5 w5 hown5 hg5 h5
          rw [Nat.zero_add] at hown5
          have BG := HBD.out.drew.blk.grown hg5 (by simp [Value.ownBlock])
          have p0 := BG.cell' 2 _ rfl
          have p1 := BG.free 2
          obtain ⟨A5, c5, rfl, _, _, _⟩ := own_form hown5
          simp only [Act.put, gqD, gqE, gqF]
          refine hK.out _ _ (trivial) (fun hS => ?_)
          clear hK K
          refine tkT 6 (v := ?v7) hS (fun wq hSq => ?y7) ?_; (case y7 => clear hSq; go_simp; (try with_reducible rfl)); simp only [Act.put, gqD, gqE, gqF]
          refine wpAnyH_ready (rs := [7]) (by kernel_rfl) (by simp) ?_
          refine AllReadyH.cons (o := ?oi8) ?hi8 (fun K hK => ?_) AllReadyH.nil
          case hi8 => (simp only [gqA, gqB, gqC]; rfl)
          go_simp
          refine hK.out _ _ (trivial) (fun hS => ?_)
          clear hK K
          refine wpAnyH_done (by kernel_rfl) ?_ _
          have HBA := Lib.hid (HBD.out.drew.addMore hg5 (a' := [] ++ lb1.drop j) (by simpa [sCells] using hown5))
          have HSA : ∀ s ∈ [] ++ lb1.drop j, s.size ≤ 1000000 := fun s h => HSB.out s (List.mem_of_mem_drop (by simpa using h))
          have hln : (([] : List ByteArray) ++ lb1.drop j).length ≤ 1024 := by have := HB.out; simp only [List.nil_append, List.length_drop]; omega
          have HSK := Lib.hid (SzK.flush (b := ⟨hs.map Hm.d, la - i, [] ++ lb1.drop j⟩) HH.out.sz (by simp only; omega) HSA)
          have HML : Hid ((Bs.flush ⟨hs.map Hm.d, la - i, [] ++ lb1.drop j⟩).l = ML) := Lib.hid (by
            have := make_V lb1 done la
            rw [HK.out.2.2.2] at this
            rw [HMK.out, HK.out.1, List.append_nil, ← this]
            simp only [Nat.zero_add, HB.out]
            rw [List.take_of_length_le (by rw [List.length_drop, HB.out]; exact Nat.le_refl _)])
          have HPA := Lib.hid (patch_any ⟨#[]⟩ HBA.out (by have := HH.out.len; simp only [List.length_map] at this; omega) (by omega) (by omega) HSK.out (by decide) (HE.out.new HW4.out))
          rw [HML.out] at HPA
          clear hg5 hown5 BG p0 p1 hA'
          go_wp2_with (fail)
          with_reducible refine HPA.out.mono ?_
          rintro e w9 hpb
          have RB := HR4.out.new hpb.1
          rcases hpb.out HW4.out RB (by rw [HR.out]; exact Nat.le_refl _) with ⟨AF, nF, cF, hF, hnF, rfl, hk⟩ | ⟨rfl, hk⟩
          · have HK2 := Lib.hid hk
            have t0 := RB.cell' 0 _ rfl
            have t1 := RB.cell' 1 _ rfl
            have s0 := RB.free 0
            have s1' := RB.free 1
            have BE := put2 RB (.string ⟨#[]⟩) (.slice AF nF cF)
            have e0 := BE.cell' 0 _ rfl
            have e1 := BE.cell' 1 _ rfl
            clear hk hpb hnF
            go_wp2
            exact bodyPost_ret (v := .tuple #[.agg #[.string ⟨#[]⟩, .slice AF nF cF], .int .i64 0]) (by simp [results, Tryz.results28, go_sem, e0, e1]) rfl (HI2.out _ _ (HK2.out _ rfl))
          · have HK2 := Lib.hid hk
            have t0 := RB.cell' 0 _ rfl
            have t1 := RB.cell' 1 _ rfl
            have s0 := RB.free 0
            have s1' := RB.free 1
            have BE := put2 RB (.string ⟨#[]⟩) (.slice none 0 0)
            have e0 := BE.cell' 0 _ rfl
            have e1 := BE.cell' 1 _ rfl
            clear hk hpb
            go_wp2
            exact bodyPost_ret (v := .tuple #[.agg #[.string ⟨#[]⟩, .slice none 0 0], .int .i64 10]) (by simp [results, Tryz.results28, go_sem, e0, e1]) rfl (HI2.out _ _ (HK2.out _ rfl))
    · have HN : Hid (∀ e w', New w w' → e = .returned (.tuple #[.agg #[.string ⟨#[]⟩, .slice none 0 0], .int .i64 10]) → MP e w') := Lib.hid (fun e w' hn he => by rw [HMP.out, if_neg (fun q => hl2 q.2)]; exact ⟨hn, he⟩)
      have C1 := Lib.hid (fun W (hN : Env W) => lines_eq s1 W (by omega) hN hl1)
      have C2 := Lib.hid (fun W (hN : Env W) => lines_bad s2 W (by omega) hN hl2)
      generalize parts 10 s1 = la1 at *
      clear HMP hl1 hl2
      go_enter Tryz.func28, Tryz.ntmps28
      go_wp2_with (fail)
      rw [HR.out]
      generalize w.alloc (.cells #[.string ⟨#[]⟩, .slice none 0 0] 24) = w1 at *
      have C1' := Lib.hid (C1.out w1 (HE.out.new n0))
      have RB := R0.alloc (.cells (sCells la1).toArray 9)
      have n1 := n0.alloc (.cells (sCells la1).toArray 9)
      with_reducible refine C1'.out.mono ?_
      rintro e w2 ⟨rfl, rfl⟩
      generalize w1.alloc (.cells (sCells la1).toArray 9) = w2 at *
      have C2' := Lib.hid (C2.out w2 (HE.out.new n1))
      have t0 := RB.cell' 0 _ rfl
      have t1 := RB.cell' 1 _ rfl
      have s0 := RB.free 0
      have s1' := RB.free 1
      have NN := (n1.setCell (p := ⟨r, 0, none⟩) (by rw [HR.out]; exact Nat.le_refl _) (.string ⟨#[]⟩)).setCell (p := ⟨r, 1, none⟩) (by rw [HR.out]; exact Nat.le_refl _) (.slice none 0 0)
      go_wp2_with (go_at_call 39; (with_reducible refine C2'.out.mono ?_); rintro e w3 ⟨rfl, rfl⟩)
      have BE := put2 RB (.string ⟨#[]⟩) (.slice none 0 0)
      have e0 := BE.cell' 0 _ rfl
      have e1 := BE.cell' 1 _ rfl
      exact bodyPost_ret (v := .tuple #[.agg #[.string ⟨#[]⟩, .slice none 0 0], .int .i64 10]) (by simp [results, Tryz.results28, go_sem, e0, e1]) rfl (HN.out _ _ NN rfl)
  · have HN : Hid (∀ e w', New w w' → e = .returned (.tuple #[.agg #[.string ⟨#[]⟩, .slice none 0 0], .int .i64 10]) → MP e w') := Lib.hid (fun e w' hn he => by rw [HMP.out, if_neg (fun q => hl1 q.1)]; exact ⟨hn, he⟩)
    have C1 := Lib.hid (fun W (hN : Env W) => lines_bad s1 W (by omega) hN hl1)
    clear HMP hl1
    go_enter Tryz.func28, Tryz.ntmps28
    go_wp2_with (fail)
    rw [HR.out]
    generalize w.alloc (.cells #[.string ⟨#[]⟩, .slice none 0 0] 24) = w1 at *
    have C1' := Lib.hid (C1.out w1 (HE.out.new n0))
    have RB := R0
    have t0 := RB.cell' 0 _ rfl
    have t1 := RB.cell' 1 _ rfl
    have s0 := RB.free 0
    have s1' := RB.free 1
    have NN := (n0.setCell (p := ⟨r, 0, none⟩) (by rw [HR.out]; exact Nat.le_refl _) (.string ⟨#[]⟩)).setCell (p := ⟨r, 1, none⟩) (by rw [HR.out]; exact Nat.le_refl _) (.slice none 0 0)
    with_reducible refine C1'.out.mono ?_
    rintro e w3 ⟨rfl, rfl⟩
    go_wp2
    have BE := put2 RB (.string ⟨#[]⟩) (.slice none 0 0)
    have e0 := BE.cell' 0 _ rfl
    have e1 := BE.cell' 1 _ rfl
    exact bodyPost_ret (v := .tuple #[.agg #[.string ⟨#[]⟩, .slice none 0 0], .int .i64 10]) (by simp [results, Tryz.results28, go_sem, e0, e1]) rfl (HN.out _ _ NN rfl)
end Go.Proofs.YtfeknjpinboknaaGreatDoor

