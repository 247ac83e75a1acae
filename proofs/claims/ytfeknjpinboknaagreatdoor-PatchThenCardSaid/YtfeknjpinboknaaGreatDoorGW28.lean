/- The reference's Of: hunks out of pairs. Conditions: sizes. (Printed by mk-w28.py.) A table of numbers whose rows are made from the last one on. No conditions. -/
import Derived.Test.YtfeknjpinboknaaGreatDoorGBase
import Derived.Test.YtfeknjpinboknaaGreatDoorGW20
import Derived.Test.YtfeknjpinboknaaGreatDoorGBase
import Derived.Deep.DeepCutAuto
import Derived.Maps.AppendAt
import Derived.StillTailTactics
import Derived.BigQuiet
import Derived.Test.YtfeknjpinboknaaGreatDoorGW24

namespace Go.Proofs.YtfeknjpinboknaaGreatDoor
open Go Go.RowKit Go.Joins Go.Shelf
set_option linter.unusedSimpArgs false
set_option linter.unusedVariables false

def prC (p : Nat × Nat) : List Value := [.int .i64 (p.1 : Int), .int .i64 (p.2 : Int)]
section
variable {w0 w w2 : World} {g b1 : Nat} {hs : List Hm} {V : Value}
theorem BP.push {o : Obj} {x : Hm} {V2 : Value} {n : Nat} (h : BP w0 w g b1 hs V) (hg : (w.alloc o).grownBy w2 V.ownBlock) (hn : n = (hs ++ [x]).length) (own2 : w2.ownsRow b1 55 3 V2 n (hs.flatMap hmC ++ hmC x)) (hx : LnOK w [x]) : BP w0 w2 g b1 (hs ++ [x]) V2 := by
  subst hn
  have hsz := hg.size
  rw [World.size_alloc] at hsz
  have kind := own_kind3 (h.own.alloc o)
  have hln : LnOK w2 (hs ++ [x]) := by
    have : LnOK w (hs ++ [x]) := fun y hy => by
      rcases List.mem_append.1 hy with hy | hy
      · exact h.ln y hy
      · exact hx y hy
    exact (this.new ((New.refl w).alloc o)).keep hg (fun q e => by
      obtain ⟨c, fz, hh⟩ := kind q e
      exact ⟨c, 55, fz, hh, by decide⟩)
  refine ⟨?_, hln, Below.grown (h.nw.alloc o) hg (by rw [World.size_alloc]; have := h.nw.size; omega) (fun q e => Nat.le_trans h.h1 (h.own.lt q e).1), h.g0, h.h1, by have := h.k1; omega⟩
  rw [List.flatMap_append]; simpa using own2
theorem BP.drew (h : BP w0 w g b1 hs V) : BP w0 w.drew g b1 hs V := ⟨h.own, h.ln, h.nw.drew, h.g0, h.h1, h.k1⟩
theorem BP.blk {o : Obj} {q t : Nat} {cs : Array Value} (h : BP w0 w g b1 hs V) (hg : (w.alloc o).grownBy w2 V.ownBlock) (B : Blk w q t cs) (ht : t ≠ 55) : Blk w2 q t cs := (B.alloc o).grown hg (Ne.symm (ne_kind (cs := []) (h.own.alloc o) (B.alloc o) ht))
end
theorem BP.last {w0 w : World} {g b1 gg cap n : Nat} {init : List Hm} {y : Hm} (h : BP w0 w g b1 (init ++ [y]) (.slice (some ⟨gg, 0, none⟩) n cap)) (u : Int) (hn : n = init.length + 1) :
    BP w0 (w.setCell ⟨gg, init.length * 3 + 1, none⟩ (.int .i64 u)) g b1 (init ++ [⟨y.kind, u, y.lines, y.adr, y.cap⟩]) (.slice (some ⟨gg, 0, none⟩) n cap) := by
  have hlt : b1 ≤ gg ∧ gg < w.heap.size := h.own.lt gg rfl
  obtain ⟨c, fz, hk⟩ := own_kind3 h.own gg rfl
  subst hn
  have own := own_len h.own (n' := init.length + 1) (by simp) rfl
  have own2 := (own.stored (init.length * 3 + 1) (.int .i64 u)).1
  refine ⟨own_len own2 (by simp) (hmC_set init y u), ?_, h.nw.setCell (p := ⟨gg, _, none⟩) (Nat.le_trans h.h1 hlt.1) _, h.g0, h.h1, by rw [World.size_setCell]; exact h.k1⟩
  have hl : LnOK w (init ++ [⟨y.kind, u, y.lines, y.adr, y.cap⟩]) := fun x hx => by
    rcases List.mem_append.1 hx with q | q
    · exact h.ln x (List.mem_append_left _ q)
    · rw [List.mem_singleton] at q; subst q; exact h.ln y (by simp)
  exact hl.keep (grown_set _ _ _ _) (fun q e => by injection e with e; subst e; exact ⟨c, 55, fz, hk, by decide⟩)
theorem Blk.drewQ {w : World} {g : Nat} {t : TypeId} {cs : Array Value} (h : Blk w g t cs) (n : Nat) : Blk (w.drewN n) g t cs := h
theorem BP.drewQ {w0 w : World} {g b1 : Nat} {hs : List Hm} {V : Value} (h : BP w0 w g b1 hs V) (n : Nat) : BP w0 (w.drewN n) g b1 hs V := ⟨h.own, h.ln, h.nw.drewN n, h.g0, h.h1, h.k1⟩
theorem own_cap {w : World} {B e size n : Nat} {v : Value} {xs : List Value} (h : w.ownsRow B e size v n xs) : ∃ A c, v = .slice A n c := by
  rcases h.2 with ⟨rfl, h0⟩ | ⟨g, cap, cur, rfl, _⟩
  · exact ⟨none, 0, by rw [h0]⟩
  · exact ⟨_, _, rfl⟩
theorem ofL_take {nw : List ByteArray} {ps : List (Nat × Nat)} {k : Nat} {p : Nat × Nat} (h : ps[k]? = some p) : ofL nw (ps.take (k + 1)) = ofS nw (ofL nw (ps.take k)) p := by
  obtain ⟨hk, rfl⟩ := List.getElem?_eq_some_iff.1 h
  rw [List.take_succ_eq_append_getElem hk, ofL_snoc]
theorem ofL_bound {nw : List ByteArray} (hs : ∀ s ∈ nw, s.size ≤ 1000000) (hb : nw.length ≤ 1024) : ∀ (ps : List (Nat × Nat)), (∀ p ∈ ps, p.1 ≤ 1024 ∧ p.2 < nw.length) → ps.length ≤ 2000 → NB (3000 + ps.length) (ofL nw ps).1 ∧ SzK (ofL nw ps).1 ∧ (ofL nw ps).1.length ≤ 3 * ps.length ∧ (ofL nw ps).2.1 ≤ 1025 ∧ (ofL nw ps).2.2 ≤ nw.length := by
  intro ps
  induction ps using snoc_ind with
  | h0 => intro _ _; exact ⟨NB.nil _, SzK.nil, by simp [ofL], by simp [ofL], by simp [ofL]⟩
  | h1 ps p ih =>
    intro hp hlp
    rw [List.length_append, List.length_singleton] at hlp
    obtain ⟨i1, i2, i3, i4, i5⟩ := ih (fun q hq => hp q (List.mem_append_left _ hq)) (by omega)
    have hp1 := hp p (by simp)
    rw [ofL_snoc, ofS, List.length_append, List.length_singleton]
    generalize ofL nw ps = st at *
    obtain ⟨l, o, t⟩ := st
    simp only at i1 i2 i3 i4 i5 ⊢
    have ha : ((nw.drop t).take (p.2 - t)).length ≤ 1024 := by simp only [List.length_take, List.length_drop]; omega
    have hem : NB (3000 + ps.length) (emit nw l o t p.1 p.2) := (i1.app (NB.dropH (by omega))).app (NB.addH (by omega))
    have hse : SzK (emit nw l o t p.1 p.2) := (i2.app (SzK.dropH _)).app (SzK.addH (by omega) (fun s h => hs s (List.mem_of_mem_drop (List.mem_of_mem_take h))))
    have hle : (emit nw l o t p.1 p.2).length ≤ l.length + 2 := by
      have h1 : (dropH (p.1 - o)).length ≤ 1 := by unfold dropH; split <;> simp
      have h2 : (addH ((nw.drop t).take (p.2 - t))).length ≤ 1 := by unfold addH; split <;> simp
      rw [emit]; simp only [List.length_append]; omega
    have hbl := bump_len (emit nw l o t p.1 p.2) 1
    refine ⟨?_, hse.bump, by omega, by omega, by omega⟩
    have := hem.bump (n := 1) (by omega)
    have e : ((3000 : Int) + ((ps.length + 1 : Nat) : Int)) = 3000 + (ps.length : Int) + ((1 : Nat) : Int) := by omega
    rw [e]
    exact this
def OfP (w : World) (base : ByteArray) (l : List Hk) (e : Ending) (w' : World) : Prop := ∃ V b1 hs, e = .returned (.agg #[.string base, V]) ∧ BP w w' w.heap.size b1 hs V ∧ hs.map Hm.d = l ∧ hs.length ≤ 90000
set_option maxRecDepth 100000 in
set_option maxHeartbeats 32000000 in
theorem of_any (base : ByteArray) (m : Nat) (PA LA : Option Addr) (pn pc ln lc : Nat) (ps : List (Nat × Nat)) (nw : List ByteArray) (w : World) (hp : Rd w 2 PA pn (ps.flatMap prC)) (hpl : ps.length = pn) (hl : LnOK w [rowH nw LA lc]) (hnl : nw.length = ln)
    (hm : m ≤ 1024) (hln : ln ≤ 1024) (hpn : pn ≤ 1024) (hb : ∀ p ∈ ps, p.1 ≤ 1024 ∧ p.2 < ln) (hs : ∀ s ∈ nw, s.size ≤ 1000000) :
    Calls Tryz.prog 56 #[.string base, .int .i64 (m : Int), .slice PA pn pc, .slice LA ln lc] w (OfP w base (ofV nw m ps)) := by
  obtain ⟨j0, hinf, hz0, hz1, hz2⟩ := info_parts Tryz.info55'
  have R0 := (Blk.made w 24 #[.string ⟨#[]⟩, .slice none 0 0]).alloc (.cells #[.string base, .slice none 0 0] 24)
  have P0 := Blk.made (w.alloc (.cells #[.string ⟨#[]⟩, .slice none 0 0] 24)) 24 #[.string base, .slice none 0 0]
  rw [World.size_alloc] at P0
  have HOB := Lib.hid (fun k => ofL_bound hs (by omega) (ps.take k) (fun p h => by have := hb p (List.mem_of_mem_take h); exact ⟨this.1, by omega⟩) (by rw [List.length_take]; omega))
  have HPB := Lib.hid hb
  have HP := Lib.hid hp
  have HPL := Lib.hid hpl
  have HLL := Lib.hid hl
  have HNL := Lib.hid hnl
  have HSB := Lib.hid hs
  obtain ⟨g0, hg0⟩ : ∃ g0, w.heap.size = g0 := ⟨_, rfl⟩
  rw [hg0] at R0 P0
  have HG := Lib.hid hg0
  have B0 : BP w ((w.alloc (.cells #[.string ⟨#[]⟩, .slice none 0 0] 24)).alloc (.cells #[.string base, .slice none 0 0] 24)) g0 g0 [] (.slice none 0 0) :=
    ⟨World.ownsRow_nil _ _ _ _, LnOK.nil _, ((New.refl w).alloc _).alloc _, by omega, by omega, by rw [World.size_alloc, World.size_alloc]; omega⟩
  clear hp hpl hl hb hs hg0
  go_enter Tryz.func56, Tryz.ntmps56
  go_wp2
  rw [HG.out]
  generalize (w.alloc (.cells #[.string ⟨#[]⟩, .slice none 0 0] 24)).alloc (.cells #[.string base, .slice none 0 0] 24) = w1 at *
  go_loopw [10, 11, 12] (fun v10 v11 v12 wr => ∃ (k i j : Nat) (hs1 : List Hm) (V : Value), v10 = .int .i64 (i : Int) ∧ v11 = .int .i64 (j : Int) ∧ v12 = .int .i64 (k : Int) ∧ k ≤ pn + 1 ∧ Blk wr g0 24 #[.string ⟨#[]⟩, .slice none 0 0] ∧ Blk wr (g0 + 1) 24 #[.string base, V] ∧ BP w wr g0 g0 hs1 V ∧ Hid ((k ≤ pn → ofL nw (ps.take k) = (hs1.map Hm.d, i, j)) ∧ (k = pn + 1 → hs1.map Hm.d = ofV nw m ps ∧ hs1.length ≤ 90000))) (fun _ _ v12 _ => pn + 1 - (intOf v12).toNat)
  case atStart => exact ⟨0, 0, 0, [], _, rfl, rfl, rfl, by omega, R0, P0, B0, Lib.hid ⟨fun _ => rfl, fun h => absurd h (by omega)⟩⟩
  case round =>
    obtain ⟨k, i, j, hs1, V, rfl, rfl, rfl, hk, hR, hP, hB, HK⟩ := hrel
    by_cases hlt : k ≤ pn
    · have hol := HK.out.1 hlt
      have hbd := HOB.out k
      rw [hol] at hbd
      simp only [List.length_take, HPL.out, List.length_map] at hbd
      obtain ⟨hb1, hb2, hb3, hb4, hb5⟩ := hbd
      rw [HNL.out] at hb5
      have hb3' : hs1.length ≤ 6000 := by omega
      obtain ⟨x0, x1, hX1, hX2, hX3⟩ : ∃ x0 x1 : Nat, x0 ≤ 1024 ∧ x1 ≤ ln ∧ (if h : k < pn then ps[k]? = some (x0, x1) else x0 = m ∧ x1 = ln) := by
        by_cases h : k < pn
        · obtain ⟨⟨pa, pb⟩, hx⟩ : ∃ p, ps[k]? = some p := ⟨_, List.getElem?_eq_getElem (by rw [HPL.out]; exact h)⟩
          have := HPB.out (pa, pb) (List.mem_of_getElem? hx)
          exact ⟨pa, pb, this.1, Nat.le_of_lt this.2, by rw [dif_pos h]; exact hx⟩
        · exact ⟨m, ln, hm, Nat.le_refl _, by rw [dif_neg h]; exact ⟨rfl, rfl⟩⟩
      have HX3 := Lib.hid hX3
      have HOL := Lib.hid hol
      have HB1 := Lib.hid hb1
      have HBB := Lib.hid hB
      have HRR := Lib.hid hR
      have HPP := Lib.hid hP
      have hnr := hB.nw
      clear hX3 hol hb1 hb2 hB hR hP HK
      have X0 := Blk.made wr 81 #[.int .i64 (m : Int), .int .i64 (ln : Int)]
      have nX := (New.refl wr).alloc (.cells #[.int .i64 (m : Int), .int .i64 (ln : Int)] 81)
      obtain ⟨gx, hgx⟩ : ∃ gx, wr.heap.size = gx := ⟨_, rfl⟩
      rw [hgx] at X0
      have HGX := Lib.hid hgx
      have hgr := HRR.out.lt
      have hgp := HPP.out.lt
      have hgx2 : g0 + 1 < gx := by omega
      go_upto_if 30 with (fail)
      (try rw [HGX.out])
      generalize wr.alloc (.cells #[.int .i64 (m : Int), .int .i64 (ln : Int)] 81) = wA at *
      have RA := HRR.out.new nX
      have PA' := HPP.out.new nX
      have BA := HBB.out.new nX
      have HRA := Lib.hid RA
      have HPA := Lib.hid PA'
      have HBA := Lib.hid BA
      clear RA PA' BA
      go_cut [31] (fun v31 wc => Blk wc g0 24 #[.string ⟨#[]⟩, .slice none 0 0] ∧ Blk wc (g0 + 1) 24 #[.string base, V] ∧ BP w wc g0 g0 hs1 V ∧ Blk wc gx 81 #[.int .i64 (x0 : Int), .int .i64 (x1 : Int)])
      case first =>
        by_cases h : k < pn
        · have t1 : decide ((k : Int) < (pn : Int)) = true := decide_eq_true (by omega)
          have t2 : decide (k < pn) = true := decide_eq_true h
          have i0 : (0 : Int) ≤ (k : Int) := by omega
          have i1 : (k : Int) < (pn : Int) := by omega
          have hx := HX3.out
          rw [dif_pos h] at hx
          obtain ⟨bk, o, rfl, hbk, p, hp, hcell⟩ := rd_row (f := prC) (k := 2) (fun _ => rfl) HPL.out (HP.out.below HBA.out.nw) h
          obtain rfl : p = (x0, x1) := Option.some.inj (hp.symm.trans hx)
          have q0 := hcell 0 _ (by omega) rfl
          have q1 := hcell 1 _ (by omega) rfl
          simp only [Nat.add_zero] at q0
          rw [← Nat.add_assoc] at q1
          have u0 := X0.cell' 0 _ rfl
          have u1 := X0.cell' 1 _ rfl
          have z0 := X0.free 0
          have z1 := X0.free 1
          have hne1 : g0 ≠ gx := by omega
          have hne2 : g0 + 1 ≠ gx := by omega
          have X2 := Lib.hid (((X0.put 0 (.int .i64 (x0 : Int))).put 1 (.int .i64 (x1 : Int))).same (cs' := #[.int .i64 (x0 : Int), .int .i64 (x1 : Int)]) (by simp))
          have B2 := Lib.hid ((HBA.out.far (i := 0) X0 (by decide) (by decide) (by rw [HG.out]; omega) (.int .i64 (x0 : Int))).far (i := 1) (X0.put 0 (.int .i64 (x0 : Int))) (by decide) (by decide) (by rw [HG.out]; omega) (.int .i64 (x1 : Int)))
          clear hcell hp hx
          go_wp2
          go_meet
          case rel => exact ⟨(HRA.out.far (p := ⟨gx, 0, none⟩) hne1 _).far (p := ⟨gx, 1, none⟩) hne1 _, (HPA.out.far (p := ⟨gx, 0, none⟩) hne2 _).far (p := ⟨gx, 1, none⟩) hne2 _, B2.out, X2.out⟩
        · have t1 : decide ((k : Int) < (pn : Int)) = false := decide_eq_false (by omega)
          have t2 : decide (k < pn) = false := decide_eq_false h
          have hx := HX3.out
          rw [dif_neg h] at hx
          obtain ⟨rfl, rfl⟩ := hx
          go_wp2
          go_meet
          case rel => exact ⟨HRA.out, HPA.out, HBA.out, X0⟩
      case rest =>
        obtain ⟨cR, cP, cB, cX⟩ := hcut
        clear HRA HPA HBA nX X0 HRR HPP HBB hnr hgr hgp
        have x00 := cX.cell' 0 _ rfl
        have CR := Lib.hid cR
        have CP := Lib.hid cP
        have CB := Lib.hid cB
        have CX := Lib.hid cX
        clear cR cP cB cX
        obtain ⟨wb, rfl⟩ : ∃ wb : World, wb = wc := ⟨_, rfl⟩
        go_upto_if 38 with (fail)
        clear x00
        go_cut [39] (fun v39 wc => ∃ hs2 V2, Blk wc g0 24 #[.string ⟨#[]⟩, .slice none 0 0] ∧ Blk wc (g0 + 1) 24 #[.string base, V2] ∧ BP w wc g0 g0 hs2 V2 ∧ Blk wc gx 81 #[.int .i64 (x0 : Int), .int .i64 (x1 : Int)] ∧ hs2.map Hm.d = hs1.map Hm.d ++ dropH (x0 - i) ∧ hs2.length ≤ hs1.length + 1)
        case first =>
          by_cases h : i < x0
          · have t1 : decide ((i : Int) < (x0 : Int)) = true := decide_eq_true (by omega)
            have t2 : decide (i < x0) = true := decide_eq_true h
            have v0 : IntKind.i64.wrap ((x0 : Int) - (i : Int)) = ((x0 - i : Nat) : Int) := by rw [IntWalk.i64_in _ (by omega)]; omega
            obtain ⟨AV, cV, rfl⟩ := own_cap CB.out.own
            have f1 := CP.out.cell' 1 _ rfl
            have x00 := CX.out.cell' 0 _ rfl
            have hk1 := CB.out.k1
            go_wp2_with (at_builtin; refine wpList_append_own_at _ rfl _ _ 22 rfl g0 55 j0 (.agg #[.int .i64 0, .int .i64 0, .slice none 0 0]) 3 40 Tryz.underlying22 hinf hz0 hz1 hz2 rfl (by decide) _ hs1.length _ rfl (CB.out.own.alloc _) ⟨wb.heap.size, 0, none⟩ 1 1 [.int .i64 2, .int .i64 ((x0 - i : Nat) : Int), .slice none 0 0] rfl rfl ?c1 ?c2 ?c3 ?c4 ?c5 ?_)
            case c1 => exact World.news_of_block (cs := #[.int .i64 2, .int .i64 ((x0 - i : Nat) : Int), .slice none 0 0]) (t := 55) (fr := (0, 0)) (heap_alloc_new _ _)
            case c2 => simp [Value.oneCell']
            case c3 => unfold maxLen; omega
            case c4 => omega
            case c5 => simp; omega
            intro v5 w5 hown5 hg5 _ h5
            obtain ⟨g5, c5, rfl, hx5, hy5⟩ := hown5.form (by omega)
            have P5 := CB.out.push hg5 (x := ⟨2, ((x0 - i : Nat) : Int), [], none, 0⟩) (by simp) hown5 (fun y hy => by rw [List.mem_singleton] at hy; subst hy; exact ⟨Nat.le_refl _, Rd.none_ _, fun h0 => absurd h0 (by simp)⟩)
            have R5 := CB.out.blk hg5 CR.out (by decide)
            have Q5 := CB.out.blk hg5 CP.out (by decide)
            have X5 := CB.out.blk hg5 CX.out (by decide)
            have p0 := Q5.cell' 1 _ rfl
            have p1 := Q5.free 1
            have hgp := CP.out.lt
            have hgX := CX.out.lt
            have HQ := Lib.hid (show Blk (w5.setCell ⟨g0 + 1, 1, none⟩ (.slice (some ⟨g5, 0, none⟩) (hs1.length + 1) c5)) (g0 + 1) 24 #[.string base, .slice (some ⟨g5, 0, none⟩) (hs1.length + 1) c5] from (Q5.put 1 _).same (by simp))
            have HP5 := Lib.hid (P5.far (i := 1) Q5 (by decide) (by decide) (by rw [HG.out]; omega) (.slice (some ⟨g5, 0, none⟩) (hs1.length + 1) c5))
            have HR5 := Lib.hid (R5.far (p := ⟨g0 + 1, 1, none⟩) (by simp) (.slice (some ⟨g5, 0, none⟩) (hs1.length + 1) c5))
            have HX5 := Lib.hid (X5.far (p := ⟨g0 + 1, 1, none⟩) (by simp only; omega) (.slice (some ⟨g5, 0, none⟩) (hs1.length + 1) c5))
            clear hown5 hg5 P5 R5 Q5 X5 f1 x00
            go_wp2
            go_meet
            case rel => exact ⟨_, _, HR5.out, HQ.out, HP5.out, HX5.out, by rw [dropH_pos (by omega), List.map_append]; rfl, by simp⟩
          · have t1 : decide ((i : Int) < (x0 : Int)) = false := decide_eq_false (by omega)
            have t2 : decide (i < x0) = false := decide_eq_false h
            go_wp2
            go_meet
            case rel => exact ⟨hs1, V, CR.out, CP.out, CB.out, CX.out, by rw [show x0 - i = 0 by omega, dropH_zero, List.append_nil], by omega⟩
        case rest =>
          obtain ⟨hs2, V2, cR, cP, cB, cX, hm2, hl2⟩ := hcut
          have x01 := cX.cell' 1 _ rfl
          clear CR CP CB CX
          have CR := Lib.hid cR
          have CP := Lib.hid cP
          have CB := Lib.hid cB
          have CX := Lib.hid cX
          have HM2 := Lib.hid hm2
          clear cR cP cB cX hm2
          obtain ⟨wd, rfl⟩ : ∃ wd : World, wd = wc := ⟨_, rfl⟩
          go_upto_if 52 with (fail)
          clear x01
          go_cut [53] (fun v53 wc => ∃ hs3 V3, Blk wc g0 24 #[.string ⟨#[]⟩, .slice none 0 0] ∧ Blk wc (g0 + 1) 24 #[.string base, V3] ∧ BP w wc g0 g0 hs3 V3 ∧ Blk wc gx 81 #[.int .i64 (x0 : Int), .int .i64 (x1 : Int)] ∧ hs3.map Hm.d = hs2.map Hm.d ++ addH ((nw.drop j).take (x1 - j)) ∧ hs3.length ≤ hs2.length + 1)
          case first =>
            have hal : ((nw.drop j).take (x1 - j)).length = x1 - j := by rw [List.length_take, List.length_drop, HNL.out]; omega
            by_cases h : j < x1
            · have t1 : decide ((j : Int) < (x1 : Int)) = true := decide_eq_true (by omega)
              have t2 : decide (j < x1) = true := decide_eq_true h
              have v0 : IntKind.i64.wrap ((x1 : Int) - (j : Int)) = ((x1 - j : Nat) : Int) := by rw [IntWalk.i64_in _ (by omega)]; omega
              obtain ⟨AV, cV, rfl⟩ := own_cap CB.out.own
              have hln2 := ln_rd (HLL.out.new CB.out.nw)
              obtain ⟨bA, oA, rfl, -, -⟩ := hln2.1.2 (by rw [HNL.out]; omega)
              have hlc := hln2.2
              rw [HNL.out] at hlc
              have y1 : ¬ lc = j := by omega
              have y2 : (0 : Int) ≤ (j : Int) := by omega
              have y3 : (j : Int) ≤ (x1 : Int) := by omega
              have y4 : (x1 : Int) ≤ (ln : Int) := by omega
              have y5 : (x1 : Int) ≤ (lc : Int) := by omega
              have y6 : (0 : Int) ≤ (x1 : Int) := by omega
              have hRD : Rd wd 1 (some ⟨bA, oA + j, none⟩) (x1 - j) (sCells ((nw.drop j).take (x1 - j))) := by
                have := ((HLL.out.new CB.out.nw).cut j (by rw [HNL.out]; omega)).take (x1 - j) (by rw [List.length_drop, HNL.out]; omega)
                have ea : (⟨bA, oA, none⟩ : Addr).add j = ⟨bA, oA + j, none⟩ := add_none rfl j
                rw [if_neg y1, Option.map_some, ea] at this
                exact this
              have HRD := Lib.hid hRD
              have HAD := Lib.hid hal
              have hal2 := hal
              generalize hnx : (nw.drop j).take (x1 - j) = nx at *
              have hk1 := CB.out.k1
              have hgr := CR.out.lt
              have hgp := CP.out.lt
              have hgX := CX.out.lt
              have f1 := CP.out.cell' 1 _ rfl
              have x11 := CX.out.cell' 1 _ rfl
              go_upto_region 12 with (fail)
              have f1a := (CP.out.alloc (.cells #[] 9)).cell' 1 _ rfl
              have ownE : (wd.drew.alloc (.cells #[] 9)).ownsRow wd.heap.size 9 1 (.slice (some ⟨wd.heap.size, 0, none⟩) 0 0) 0 (sCells []) := World.ownsRow_lit wd.drew #[] 0 (Nat.le_refl _) (by simp [maxLen]) rfl
              clear hRD hal hnx
              refine wp_region_held_drew (S := (fun Y : World => Y.cell? ⟨gx, 1, none⟩ = some (.int .i64 (x1 : Int)))) (by kernel_rfl) (x11) (fun hS => ?_)
              refine tkT 0 (v := ?v1) hS (fun wq hSq => ?y1) ?_; (case y1 => clear hSq; go_simp; (try with_reducible rfl)); simp only [Act.put, gqD, gqE, gqF]
              refine tkT 2 (v := ?v2) hS (fun wq hSq => ?y2) ?_; (case y2 => clear hSq; go_simp; (try with_reducible rfl)); simp only [Act.put, gqD, gqE, gqF]
              refine tkT 3 (v := ?v3) hS (fun wq hSq => ?y3) ?_; (case y3 => have hf0 := hSq; clear hSq; go_simp; (try with_reducible rfl)); simp only [Act.put, gqD, gqE, gqF]
              refine tkT 4 (v := ?v4) hS (fun wq hSq => ?y4) ?_; (case y4 => clear hSq; go_simp; (try with_reducible rfl)); simp only [Act.put, gqD, gqE, gqF]
              refine tkT 5 (v := ?v5) hS (fun wq hSq => ?y5) ?_; (case y5 => clear hSq; go_simp; (try with_reducible rfl)); simp only [Act.put, gqD, gqE, gqF]
              refine tkT 7 (v := ?v6) hS (fun wq hSq => ?y6) ?_; (case y6 => clear hSq; go_simp; (try with_reducible rfl)); simp only [Act.put, gqD, gqE, gqF]
              refine tkT 8 (v := ?v7) hS (fun wq hSq => ?y7) ?_; (case y7 => clear hSq; go_simp; (try with_reducible rfl)); simp only [Act.put, gqD, gqE, gqF]
              refine tkT 9 (v := ?v8) hS (fun wq hSq => ?y8) ?_; (case y8 => clear hSq; go_simp; (try with_reducible rfl)); simp only [Act.put, gqD, gqE, gqF]
              refine tkT 10 (v := ?v9) hS (fun wq hSq => ?y9) ?_; (case y9 => have hf0 := hSq; clear hSq; go_simp; (try with_reducible rfl)); simp only [Act.put, gqD, gqE, gqF]
              refine tkT 11 (v := ?v10) hS (fun wq hSq => ?y10) ?_; (case y10 => clear hSq; go_simp; (try with_reducible rfl)); simp only [Act.put, gqD, gqE, gqF]
              apply cut1
              case h =>
                intro key
                refine wpAnyH_ready (rs := [1, 6]) (by kernel_rfl) (by simp) ?_
                refine AllReadyH.cons (o := ?oiAa) ?hiAa (fun K hK => ?_) (AllReadyH.cons (o := ?oiAb) ?hiAb (fun K hK => ?_) AllReadyH.nil)
                case hiAa => (simp only [gqA, gqB, gqC]; rfl)
                case hiAb => (simp only [gqA, gqB, gqC]; rfl)
                · go_simp
                  refine hK.out _ _ (CX.out.drew.cell' 1 _ rfl) (fun hS => ?_)
                  clear hK K
                  refine wpAnyH_ready (rs := [6]) (by kernel_rfl) (by simp) ?_
                  refine AllReadyH.cons (o := ?oiB) ?hiB (fun K hK => ?_) AllReadyH.nil
                  case hiB => (simp only [gqA, gqB, gqC]; rfl)
                  go_simp
                  refine hK.out _ _ ((CX.out.drew.alloc _).cell' 1 _ rfl) (fun hS => ?_)
                  clear hK K
                  (try simp only [Act.put, gqD, gqE, gqF])
                  exact key
                · go_simp
                  refine hK.out _ _ ((CX.out.drew.alloc _).cell' 1 _ rfl) (fun hS => ?_)
                  clear hK K
                  refine wpAnyH_ready (rs := [1, 12]) (by kernel_rfl) (by simp) ?_
                  refine AllReadyH.cons (o := ?oiCa) ?hiCa (fun K hK => ?_) (AllReadyH.cons (o := ?oiCb) ?hiCb (fun K hK => ?_) AllReadyH.nil)
                  case hiCa => (simp only [gqA, gqB, gqC]; rfl)
                  case hiCb => (simp only [gqA, gqB, gqC]; rfl)
                  · go_simp
                    refine hK.out _ _ ((CX.out.drew.alloc _).cell' 1 _ rfl) (fun hS => ?_)
                    clear hK K
                    (try simp only [Act.put, gqD, gqE, gqF])
                    exact key
                  · refine step_append_rd (by rfl) _ _ (by rfl) wd.heap.size (.slice (some ⟨wd.heap.size, 0, none⟩) 0 0) 0 (sCells []) (by rfl) ownE (some ⟨bA, oA + j, none⟩) (x1 - j) (lc - j) nx (by rfl) (HRD.out.drew.alloc _) (by omega) (by simp) ?_
                    intro v5 w5 hown5 hg5 h5
                    rw [Nat.zero_add] at hown5
                    have hown5 : w5.ownsRow wd.heap.size 9 1 v5 (x1 - j) (sCells nx) := by simpa [sCells] using hown5
                    obtain ⟨A5, c5, rfl, hA5, hL5, hk5⟩ := own_ln3 hown5
                    have n5 : New wd w5 := Below.grown ((New.refl wd).drew.alloc (.cells #[] 9)) hg5 (by simp) (fun q e => (ownE.lt q e).1)
                    have X5 := CX.out.new n5
                    have Q5 := CP.out.new n5
                    have hz5 := n5.size
                    have f1b := Q5.cell' 1 _ rfl
                    have f1c := (Q5.alloc (.cells #[.int .i64 3, .int .i64 ((x1 - j : Nat) : Int), .slice A5 (x1 - j) c5] 55)).cell' 1 _ rfl
                    simp only [Act.put, gqD, gqE, gqF]
                    refine hK.out _ _ (X5.cell' 1 _ rfl) (fun hS => ?_)
                    clear hK K
                    refine tkT 13 (v := ?v11) hS (fun wq hSq => ?y11) ?_; (case y11 => clear hSq; go_simp; (try with_reducible rfl)); simp only [Act.put, gqD, gqE, gqF]
                    refine wpAnyH_ready (rs := [1, 14]) (by kernel_rfl) (by simp) ?_
                    apply cut1
                    case h =>
                      intro key
                      refine AllReadyH.cons (o := ?oi12) ?hi12 (fun K hK => ?_) (AllReadyH.cons (o := ?oi13) ?hi13 (fun K hK => ?_) AllReadyH.nil)
                      case hi12 => (simp only [gqA, gqB, gqC]; rfl)
                      case hi13 => (simp only [gqA, gqB, gqC]; rfl)
                      · go_simp
                        refine hK.out _ _ (X5.cell' 1 _ rfl) (fun hS => ?_)
                        clear hK K
                        refine wpAnyH_ready (rs := [14]) (by kernel_rfl) (by simp) ?_
                        refine AllReadyH.cons (o := ?oi14) ?hi14 (fun K hK => ?_) AllReadyH.nil
                        case hi14 => (simp only [gqA, gqB, gqC]; rfl)
                        go_simp
                        refine hK.out _ _ ((X5.alloc _).cell' 1 _ rfl) (fun hS => ?_)
                        clear hK K
                        (try simp only [Act.put, gqD, gqE, gqF])
                        exact key
                      · go_simp
                        refine hK.out _ _ ((X5.alloc _).cell' 1 _ rfl) (fun hS => ?_)
                        clear hK K
                        refine wpAnyH_ready (rs := [1]) (by kernel_rfl) (by simp) ?_
                        refine AllReadyH.cons (o := ?oi15) ?hi15 (fun K hK => ?_) AllReadyH.nil
                        case hi15 => (simp only [gqA, gqB, gqC]; rfl)
                        go_simp
                        refine hK.out _ _ ((X5.alloc _).cell' 1 _ rfl) (fun hS => ?_)
                        clear hK K
                        (try simp only [Act.put, gqD, gqE, gqF])
                        exact key
                    have hS : (fun Y : World => Y.cell? ⟨gx, 1, none⟩ = some (.int .i64 (x1 : Int))) (w5.alloc (.cells #[.int .i64 3, .int .i64 ((x1 - j : Nat) : Int), .slice A5 (x1 - j) c5] 55)) := (X5.alloc _).cell' 1 _ rfl
                    refine wpAnyH_ready (rs := [15]) (by kernel_rfl) (by simp) ?_
                    refine AllReadyH.cons (o := ?oiDt) ?hiDt (fun K hK => ?_) AllReadyH.nil
                    case hiDt => (simp only [gqA, gqB, gqC]; rfl)
                    refine step_append_lies _ (by rfl) _ _ _ (by rfl) g0 55 j0 (.agg #[.int .i64 0, .int .i64 0, .slice none 0 0]) 3 40 Tryz.underlying22 hinf hz0 hz1 hz2 rfl (by omega) _ hs2.length (hs2.flatMap hmC) (by rfl) ((CB.out.new n5).own.alloc _) ⟨w5.heap.size, 0, none⟩ 1 1 [.int .i64 3, .int .i64 ((x1 - j : Nat) : Int), .slice A5 (x1 - j) c5] (by rfl) (by rfl) (World.news_of_block (cs := #[.int .i64 3, .int .i64 ((x1 - j : Nat) : Int), .slice A5 (x1 - j) c5]) (t := 55) (fr := (0, 0)) (heap_alloc_new _ _)) (by simp [Value.oneCell']) (by omega) (by simp [maxLen]; omega) (by omega) (by simp; omega) (w5.heap.size + 1) (by simp) ?_
                    intro gg cap2 w6 hown6 hg6 hat hlt6
                    have P6 := (CB.out.new n5).push hg6 (x := ⟨3, ((x1 - j : Nat) : Int), nx, A5, c5⟩) (n := hs2.length + 1) (by simp) (by have q := hown6; rw [show hmC ⟨3, ((x1 - j : Nat) : Int), nx, A5, c5⟩ = [.int .i64 3, .int .i64 ((x1 - j : Nat) : Int), .slice A5 (x1 - j) c5] by rw [hmC]; simp only; rw [hal2]]; exact q) (by rw [hal2] at *; exact hL5)
                    have X6 := (CB.out.new n5).blk hg6 X5 (by decide)
                    have Q6 := (CB.out.new n5).blk hg6 Q5 (by decide)
                    have R6 := (CB.out.new n5).blk hg6 (CR.out.new n5) (by decide)
                    have p0 := Q6.cell' 1 _ rfl
                    have p1 := Q6.free 1
                    simp only [Act.put, gqD, gqE, gqF]
                    refine hK.out _ _ (X6.cell' 1 _ rfl) (fun hS => ?_)
                    clear hK K
                    refine tkT 16 (v := ?v16) hS (fun wq hSq => ?y16) ?_; (case y16 => clear hSq; go_simp; (try with_reducible rfl)); simp only [Act.put, gqD, gqE, gqF]
                    refine wpAnyH_ready (rs := [17]) (by kernel_rfl) (by simp) ?_
                    refine AllReadyH.cons (o := ?oiDu) ?hiDu (fun K hK => ?_) AllReadyH.nil
                    case hiDu => (simp only [gqA, gqB, gqC]; rfl)
                    go_simp
                    refine hK.out _ _ ((X6.far (p := ⟨g0 + 1, 1, none⟩) (by simp only; omega) _).cell' 1 _ rfl) (fun hS => ?_)
                    clear hK K
                    refine wpAnyH_done (by kernel_rfl) ?_ _
                    have HQ := Lib.hid (show Blk (w6.setCell ⟨g0 + 1, 1, none⟩ (.slice (some ⟨gg, 0, none⟩) (hs2.length + 1) cap2)) (g0 + 1) 24 #[.string base, .slice (some ⟨gg, 0, none⟩) (hs2.length + 1) cap2] from (Q6.put 1 _).same (by simp))
                    have HP6 := Lib.hid (P6.far (i := 1) Q6 (by decide) (by decide) (by rw [HG.out]; omega) (.slice (some ⟨gg, 0, none⟩) (hs2.length + 1) cap2))
                    have HR6 := Lib.hid (R6.far (p := ⟨g0 + 1, 1, none⟩) (by simp) (.slice (some ⟨gg, 0, none⟩) (hs2.length + 1) cap2))
                    have HX6 := Lib.hid (X6.far (p := ⟨g0 + 1, 1, none⟩) (by simp only; omega) (.slice (some ⟨gg, 0, none⟩) (hs2.length + 1) cap2))
                    clear hown6 hg6 P6 R6 Q6 X6 X5 Q5 f1 f1a f1b f1c x11 hown5 hg5
                    go_wp2
                    go_meet
                    case rel => exact ⟨_, _, HR6.out, HQ.out, HP6.out, HX6.out, by rw [addH_pos (by rw [HAD.out]; omega), HAD.out, List.map_append]; rfl, by simp⟩
              have hS : (fun Y : World => Y.cell? ⟨gx, 1, none⟩ = some (.int .i64 (x1 : Int))) (wd.drew.alloc (.cells #[] 9)) := (CX.out.drew.alloc _).cell' 1 _ rfl
              refine wpAnyH_ready (rs := [12]) (by kernel_rfl) (by simp) ?_
              refine AllReadyH.cons (o := ?oiE) ?hiE (fun K hK => ?_) AllReadyH.nil
              case hiE => (simp only [gqA, gqB, gqC]; rfl)
              refine step_append_rd (by rfl) _ _ (by rfl) wd.heap.size (.slice (some ⟨wd.heap.size, 0, none⟩) 0 0) 0 (sCells []) (by rfl) ownE (some ⟨bA, oA + j, none⟩) (x1 - j) (lc - j) nx (by rfl) (HRD.out.drew.alloc _) (by omega) (by simp) ?_
              intro v5 w5 hown5 hg5 h5
              rw [Nat.zero_add] at hown5
              have hown5 : w5.ownsRow wd.heap.size 9 1 v5 (x1 - j) (sCells nx) := by simpa [sCells] using hown5
              obtain ⟨A5, c5, rfl, hA5, hL5, hk5⟩ := own_ln3 hown5
              have n5 : New wd w5 := Below.grown ((New.refl wd).drew.alloc (.cells #[] 9)) hg5 (by simp) (fun q e => (ownE.lt q e).1)
              have X5 := CX.out.new n5
              have Q5 := CP.out.new n5
              have hz5 := n5.size
              have f1b := Q5.cell' 1 _ rfl
              have f1c := (Q5.alloc (.cells #[.int .i64 3, .int .i64 ((x1 - j : Nat) : Int), .slice A5 (x1 - j) c5] 55)).cell' 1 _ rfl
              simp only [Act.put, gqD, gqE, gqF]
              refine hK.out _ _ (X5.cell' 1 _ rfl) (fun hS => ?_)
              clear hK K
              refine tkT 13 (v := ?v17) hS (fun wq hSq => ?y17) ?_; (case y17 => clear hSq; go_simp; (try with_reducible rfl)); simp only [Act.put, gqD, gqE, gqF]
              refine wpAnyH_ready (rs := [14]) (by kernel_rfl) (by simp) ?_
              refine AllReadyH.cons (o := ?oiF) ?hiF (fun K hK => ?_) AllReadyH.nil
              case hiF => (simp only [gqA, gqB, gqC]; rfl)
              go_simp
              refine hK.out _ _ ((X5.alloc _).cell' 1 _ rfl) (fun hS => ?_)
              clear hK K
              (try simp only [Act.put, gqD, gqE, gqF])
              refine wpAnyH_ready (rs := [15]) (by kernel_rfl) (by simp) ?_
              refine AllReadyH.cons (o := ?oiGt) ?hiGt (fun K hK => ?_) AllReadyH.nil
              case hiGt => (simp only [gqA, gqB, gqC]; rfl)
              refine step_append_lies _ (by rfl) _ _ _ (by rfl) g0 55 j0 (.agg #[.int .i64 0, .int .i64 0, .slice none 0 0]) 3 40 Tryz.underlying22 hinf hz0 hz1 hz2 rfl (by omega) _ hs2.length (hs2.flatMap hmC) (by rfl) ((CB.out.new n5).own.alloc _) ⟨w5.heap.size, 0, none⟩ 1 1 [.int .i64 3, .int .i64 ((x1 - j : Nat) : Int), .slice A5 (x1 - j) c5] (by rfl) (by rfl) (World.news_of_block (cs := #[.int .i64 3, .int .i64 ((x1 - j : Nat) : Int), .slice A5 (x1 - j) c5]) (t := 55) (fr := (0, 0)) (heap_alloc_new _ _)) (by simp [Value.oneCell']) (by omega) (by simp [maxLen]; omega) (by omega) (by simp; omega) (w5.heap.size + 1) (by simp) ?_
              intro gg cap2 w6 hown6 hg6 hat hlt6
              have P6 := (CB.out.new n5).push hg6 (x := ⟨3, ((x1 - j : Nat) : Int), nx, A5, c5⟩) (n := hs2.length + 1) (by simp) (by have q := hown6; rw [show hmC ⟨3, ((x1 - j : Nat) : Int), nx, A5, c5⟩ = [.int .i64 3, .int .i64 ((x1 - j : Nat) : Int), .slice A5 (x1 - j) c5] by rw [hmC]; simp only; rw [hal2]]; exact q) (by rw [hal2] at *; exact hL5)
              have X6 := (CB.out.new n5).blk hg6 X5 (by decide)
              have Q6 := (CB.out.new n5).blk hg6 Q5 (by decide)
              have R6 := (CB.out.new n5).blk hg6 (CR.out.new n5) (by decide)
              have p0 := Q6.cell' 1 _ rfl
              have p1 := Q6.free 1
              simp only [Act.put, gqD, gqE, gqF]
              refine hK.out _ _ (X6.cell' 1 _ rfl) (fun hS => ?_)
              clear hK K
              refine tkT 16 (v := ?v18) hS (fun wq hSq => ?y18) ?_; (case y18 => clear hSq; go_simp; (try with_reducible rfl)); simp only [Act.put, gqD, gqE, gqF]
              refine wpAnyH_ready (rs := [17]) (by kernel_rfl) (by simp) ?_
              refine AllReadyH.cons (o := ?oiGu) ?hiGu (fun K hK => ?_) AllReadyH.nil
              case hiGu => (simp only [gqA, gqB, gqC]; rfl)
              go_simp
              refine hK.out _ _ ((X6.far (p := ⟨g0 + 1, 1, none⟩) (by simp only; omega) _).cell' 1 _ rfl) (fun hS => ?_)
              clear hK K
              refine wpAnyH_done (by kernel_rfl) ?_ _
              have HQ := Lib.hid (show Blk (w6.setCell ⟨g0 + 1, 1, none⟩ (.slice (some ⟨gg, 0, none⟩) (hs2.length + 1) cap2)) (g0 + 1) 24 #[.string base, .slice (some ⟨gg, 0, none⟩) (hs2.length + 1) cap2] from (Q6.put 1 _).same (by simp))
              have HP6 := Lib.hid (P6.far (i := 1) Q6 (by decide) (by decide) (by rw [HG.out]; omega) (.slice (some ⟨gg, 0, none⟩) (hs2.length + 1) cap2))
              have HR6 := Lib.hid (R6.far (p := ⟨g0 + 1, 1, none⟩) (by simp) (.slice (some ⟨gg, 0, none⟩) (hs2.length + 1) cap2))
              have HX6 := Lib.hid (X6.far (p := ⟨g0 + 1, 1, none⟩) (by simp only; omega) (.slice (some ⟨gg, 0, none⟩) (hs2.length + 1) cap2))
              clear hown6 hg6 P6 R6 Q6 X6 X5 Q5 f1 f1a f1b f1c x11 hown5 hg5
              go_wp2
              go_meet
              case rel => exact ⟨_, _, HR6.out, HQ.out, HP6.out, HX6.out, by rw [addH_pos (by rw [HAD.out]; omega), HAD.out, List.map_append]; rfl, by simp⟩
            · have t1 : decide ((j : Int) < (x1 : Int)) = false := decide_eq_false (by omega)
              have t2 : decide (j < x1) = false := decide_eq_false h
              go_wp2
              go_meet
              case rel => exact ⟨hs2, V2, CR.out, CP.out, CB.out, CX.out, by rw [show x1 - j = 0 by omega, List.take_zero, addH_nil, List.append_nil], by omega⟩
          case rest =>
            obtain ⟨hs3, V3, cR, cP, cB, cX, hm3, hl3⟩ := hcut
            clear CR CP CB CX
            have CR := Lib.hid cR
            have CP := Lib.hid cP
            have CB := Lib.hid cB
            have CX := Lib.hid cX
            have HM3 := Lib.hid hm3
            have HE : Hid (hs3.map Hm.d = emit nw (hs1.map Hm.d) i j x0 x1) := Lib.hid (by rw [HM3.out, HM2.out, emit])
            have hl3' : hs3.length ≤ 6003 := by omega
            have HNB : Hid (NB 6000 (hs3.map Hm.d)) := Lib.hid (by
              rw [HE.out, emit]
              have q1 : NB 6000 (hs1.map Hm.d) := HB1.out.mono (by omega)
              exact (q1.app (NB.dropH (by omega))).app (NB.addH (by simp only [List.length_take, List.length_drop]; omega)))
            clear cR cP cB cX hm3 HM3 HM2
            obtain ⟨we, rfl⟩ : ∃ we : World, we = wc := ⟨_, rfl⟩
            go_upto_if 73 with (fail)
            go_cut [14] (fun v14 wc => ∃ hs4 V4, Blk wc g0 24 #[.string ⟨#[]⟩, .slice none 0 0] ∧ Blk wc (g0 + 1) 24 #[.string base, V4] ∧ BP w wc g0 g0 hs4 V4 ∧ Blk wc gx 81 #[.int .i64 (x0 : Int), .int .i64 (x1 : Int)] ∧ hs4.map Hm.d = (if k < pn then bump (hs3.map Hm.d) 1 else hs3.map Hm.d) ∧ hs4.length ≤ 6004)
            case first =>
              by_cases h : k < pn
              · have t1 : decide ((k : Int) < (pn : Int)) = true := decide_eq_true (by omega)
                have t2 : decide (k < pn) = true := decide_eq_true h
                by_cases hp0 : 0 < hs3.length
                · obtain ⟨init, y, rfl⟩ := last_split hp0
                  obtain ⟨yk, yn, yl, ya, yc⟩ := y
                  have own1 := own_len CB.out.own (show (init ++ [(⟨yk, yn, yl, ya, yc⟩ : Hm)]).length = init.length + 1 by simp) rfl
                  obtain ⟨gg, cap, rfl, hg1, hg2⟩ := own1.form (by omega)
                  have hny : 0 ≤ yn ∧ yn ≤ 6000 := HNB.out ⟨yk, yn, yl⟩ (by simp [Hm.d])
                  have ck' : we.cell? ⟨gg, init.length * 3, none⟩ = some (.int .i64 yk) := by
                    have ck := own1.cellAt (init.length * 3) (by omega)
                    rw [show (init.length * 3) = init.length * 3 + 0 from rfl, hmC_at init _ 0 (by omega)] at ck
                    exact ck
                  have cn' : we.cell? ⟨gg, init.length * 3 + 1, none⟩ = some (.int .i64 yn) := by
                    have cn := own1.cellAt (init.length * 3 + 1) (by omega)
                    rw [hmC_at init _ 1 (by omega)] at cn
                    exact cn
                  have fz := own1.frozenAt (init.length * 3 + 1)
                  have k9 : init.length ≤ 6003 := by simp at hl3'; omega
                  have k2 : (0 : Int) ≤ (init.length : Int) := by omega
                  have k4 : (init.length : Int) < ((init.length + 1 : Nat) : Int) := by omega
                  have k5 : (init.length : Int) < (init.length : Int) + 1 := by omega
                  have k0 : decide ((0 : Int) ≤ (init.length : Int)) = true := decide_eq_true k2
                  by_cases hk1' : yk = 1
                  · subst hk1'
                    have k7 : ((1 : Int) == 1) = true := rfl
                    have k8 : IntKind.i64.wrap (yn + 1) = yn + 1 := IntWalk.i64_in _ (by omega)
                    have f1 := CP.out.cell' 1 _ rfl
                    have hbl := CB.out.last (yn + 1) rfl
                    have hgg1 : g0 ≠ gg := fun e => ne_kind (cs := []) CB.out.own CR.out (by decide) (show (Value.slice (some ⟨gg, 0, none⟩) _ cap).ownBlock = some g0 by rw [e]; rfl)
                    have hgg2 : g0 + 1 ≠ gg := fun e => ne_kind (cs := []) CB.out.own CP.out (by decide) (show (Value.slice (some ⟨gg, 0, none⟩) _ cap).ownBlock = some (g0 + 1) by rw [e]; rfl)
                    have hgg3 : gx ≠ gg := fun e => ne_kind (cs := []) CB.out.own CX.out (by decide) (show (Value.slice (some ⟨gg, 0, none⟩) _ cap).ownBlock = some gx by rw [e]; rfl)
                    have HBL := Lib.hid hbl
                    have HR5 := Lib.hid (CR.out.far (p := ⟨gg, init.length * 3 + 1, none⟩) hgg1 (.int .i64 (yn + 1)))
                    have HP5 := Lib.hid (CP.out.far (p := ⟨gg, init.length * 3 + 1, none⟩) hgg2 (.int .i64 (yn + 1)))
                    have HX5 := Lib.hid (CX.out.far (p := ⟨gg, init.length * 3 + 1, none⟩) hgg3 (.int .i64 (yn + 1)))
                    clear hbl own1
                    go_wp2
                    go_still_tail 12, (by kernel_rfl)
                    go_wp2
                    go_meet
                    case rel => exact ⟨_, _, HR5.out.drew, HP5.out.drew, HBL.out.drew, HX5.out.drew, by
                      rw [if_pos h, List.map_append, List.map_append]
                      exact (bump_hit (y := ⟨1, yn, yl⟩) rfl).symm, by simp; omega⟩
                  · have k7 : (yk == 1) = false := by simp [hk1']
                    have HLB : Hid (init.length + 1 ≤ 6004) := Lib.hid (by omega)
                    have f1 := CP.out.cell' 1 _ rfl
                    have hk1 := CB.out.k1
                    have hlb := HLB.out
                    go_wp2_with (at_builtin; refine wpList_append_own_at _ rfl _ _ 22 rfl g0 55 j0 (.agg #[.int .i64 0, .int .i64 0, .slice none 0 0]) 3 40 Tryz.underlying22 hinf hz0 hz1 hz2 rfl (by decide) _ (init.length + 1) _ rfl ((own_len CB.out.own (n' := init.length + 1) (by simp) rfl).alloc _) ⟨we.heap.size, 0, none⟩ 1 1 [.int .i64 1, .int .i64 1, .slice none 0 0] rfl rfl ?c1 ?c2 ?c3 ?c4 ?c5 ?_)
                    case c1 => exact World.news_of_block (cs := #[.int .i64 1, .int .i64 1, .slice none 0 0]) (t := 55) (fr := (0, 0)) (heap_alloc_new _ _)
                    case c2 => simp [Value.oneCell']
                    case c3 => unfold maxLen; omega
                    case c4 => omega
                    case c5 => simp; omega
                    intro v5 w5 hown5 hg5 _ h5
                    obtain ⟨g5, c5, rfl, hx5, hy5⟩ := hown5.form (by omega)
                    have P5 := CB.out.push hg5 (x := ⟨1, 1, [], none, 0⟩) (by simp) (own_len hown5 (n' := init.length + 1 + 1) rfl (by simp [hmC])) (fun y hy => by rw [List.mem_singleton] at hy; subst hy; exact ⟨Nat.le_refl _, Rd.none_ _, fun h0 => absurd h0 (by simp)⟩)
                    have R5 := CB.out.blk hg5 CR.out (by decide)
                    have Q5 := CB.out.blk hg5 CP.out (by decide)
                    have X5 := CB.out.blk hg5 CX.out (by decide)
                    have p0 := Q5.cell' 1 _ rfl
                    have p1 := Q5.free 1
                    have hgp := CP.out.lt
                    have hgX := CX.out.lt
                    have HQ := Lib.hid (show Blk (w5.setCell ⟨g0 + 1, 1, none⟩ (.slice (some ⟨g5, 0, none⟩) (init.length + 1 + 1) c5)) (g0 + 1) 24 #[.string base, .slice (some ⟨g5, 0, none⟩) (init.length + 1 + 1) c5] from (Q5.put 1 _).same (by simp))
                    have HP5 := Lib.hid (P5.far (i := 1) Q5 (by decide) (by decide) (by rw [HG.out]; omega) (.slice (some ⟨g5, 0, none⟩) (init.length + 1 + 1) c5))
                    have HR5 := Lib.hid (R5.far (p := ⟨g0 + 1, 1, none⟩) (by simp) (.slice (some ⟨g5, 0, none⟩) (init.length + 1 + 1) c5))
                    have HX5 := Lib.hid (X5.far (p := ⟨g0 + 1, 1, none⟩) (by simp only; omega) (.slice (some ⟨g5, 0, none⟩) (init.length + 1 + 1) c5))
                    clear hown5 hg5 P5 R5 Q5 X5 f1
                    go_wp2
                    go_meet
                    case rel => exact ⟨_, _, HR5.out, HQ.out, HP5.out, HX5.out, by
                      rw [if_pos h, List.map_append, bump_miss (by intro y hy; simp at hy; subst hy; exact hk1')]
                      rfl, by simp at hl3' ⊢; omega⟩
                · obtain rfl : hs3 = [] := List.eq_nil_of_length_eq_zero (by omega)
                  obtain ⟨A3, c3, rfl⟩ := own_cap CB.out.own
                  have HLB : Hid (0 + 1 ≤ 6004) := Lib.hid (by omega)
                  have k0 : decide ((0 : Int) ≤ -1) = false := by decide
                  have f1 := CP.out.cell' 1 _ rfl
                  have hk1 := CB.out.k1
                  have hlb := HLB.out
                  go_wp2_with (at_builtin; refine wpList_append_own_at _ rfl _ _ 22 rfl g0 55 j0 (.agg #[.int .i64 0, .int .i64 0, .slice none 0 0]) 3 40 Tryz.underlying22 hinf hz0 hz1 hz2 rfl (by decide) _ (0) _ rfl (CB.out.own.alloc _) ⟨we.heap.size, 0, none⟩ 1 1 [.int .i64 1, .int .i64 1, .slice none 0 0] rfl rfl ?c1 ?c2 ?c3 ?c4 ?c5 ?_)
                  case c1 => exact World.news_of_block (cs := #[.int .i64 1, .int .i64 1, .slice none 0 0]) (t := 55) (fr := (0, 0)) (heap_alloc_new _ _)
                  case c2 => simp [Value.oneCell']
                  case c3 => unfold maxLen; omega
                  case c4 => omega
                  case c5 => simp; omega
                  intro v5 w5 hown5 hg5 _ h5
                  obtain ⟨g5, c5, rfl, hx5, hy5⟩ := hown5.form (by omega)
                  have P5 := CB.out.push hg5 (x := ⟨1, 1, [], none, 0⟩) (by simp) hown5 (fun y hy => by rw [List.mem_singleton] at hy; subst hy; exact ⟨Nat.le_refl _, Rd.none_ _, fun h0 => absurd h0 (by simp)⟩)
                  have R5 := CB.out.blk hg5 CR.out (by decide)
                  have Q5 := CB.out.blk hg5 CP.out (by decide)
                  have X5 := CB.out.blk hg5 CX.out (by decide)
                  have p0 := Q5.cell' 1 _ rfl
                  have p1 := Q5.free 1
                  have hgp := CP.out.lt
                  have hgX := CX.out.lt
                  have HQ := Lib.hid (show Blk (w5.setCell ⟨g0 + 1, 1, none⟩ (.slice (some ⟨g5, 0, none⟩) (0 + 1) c5)) (g0 + 1) 24 #[.string base, .slice (some ⟨g5, 0, none⟩) (0 + 1) c5] from (Q5.put 1 _).same (by simp))
                  have HP5 := Lib.hid (P5.far (i := 1) Q5 (by decide) (by decide) (by rw [HG.out]; omega) (.slice (some ⟨g5, 0, none⟩) (0 + 1) c5))
                  have HR5 := Lib.hid (R5.far (p := ⟨g0 + 1, 1, none⟩) (by simp) (.slice (some ⟨g5, 0, none⟩) (0 + 1) c5))
                  have HX5 := Lib.hid (X5.far (p := ⟨g0 + 1, 1, none⟩) (by simp only; omega) (.slice (some ⟨g5, 0, none⟩) (0 + 1) c5))
                  clear hown5 hg5 P5 R5 Q5 X5 f1
                  go_wp2
                  go_meet
                  case rel => exact ⟨_, _, HR5.out, HQ.out, HP5.out, HX5.out, by
                    rw [if_pos h]
                    rfl, by simp⟩
              · have t1 : decide ((k : Int) < (pn : Int)) = false := decide_eq_false (by omega)
                have t2 : decide (k < pn) = false := decide_eq_false h
                go_wp2
                go_meet
                case rel => exact ⟨hs3, V3, CR.out, CP.out, CB.out, CX.out, by rw [if_neg h], by omega⟩
            case rest =>
              obtain ⟨hs4, V4, cR, cP, cB, cX, hm4, hl4⟩ := hcut
              have x00 := cX.cell' 0 _ rfl
              have x01 := cX.cell' 1 _ rfl
              have v1 : IntKind.i64.wrap ((x0 : Int) + 1) = ((x0 + 1 : Nat) : Int) := by rw [IntWalk.i64_in _ (by omega)]; omega
              have v2 : IntKind.i64.wrap ((x1 : Int) + 1) = ((x1 + 1 : Nat) : Int) := by rw [IntWalk.i64_in _ (by omega)]; omega
              have HKN : Hid ((k + 1 ≤ pn → ofL nw (ps.take (k + 1)) = (hs4.map Hm.d, x0 + 1, x1 + 1)) ∧ (k + 1 = pn + 1 → hs4.map Hm.d = ofV nw m ps ∧ hs4.length ≤ 90000)) := Lib.hid (by
                have hx := HX3.out
                refine ⟨fun h => ?_, fun h => ⟨?_, by omega⟩⟩
                · rw [dif_pos (by omega)] at hx
                  rw [ofL_take hx, HOL.out, ofS, hm4, if_pos (by omega), HE.out]
                · rw [dif_neg (by omega)] at hx
                  have hk' : k = pn := by omega
                  have ht : ps.take k = ps := List.take_of_length_le (by rw [HPL.out]; omega)
                  have hol := HOL.out
                  rw [ht] at hol
                  rw [hm4, if_neg (by omega), HE.out, ofV, hol, hx.1, hx.2, HNL.out])
              have CR := Lib.hid cR
              have CP := Lib.hid cP
              have CB := Lib.hid cB
              clear cR cP cB cX hm4
              obtain ⟨wf, rfl⟩ : ∃ wf : World, wf = wc := ⟨_, rfl⟩
              go_wp2
              go_quiet (fail)
              go_wp2
              go_roundw
              case rel => exact ⟨k + 1, x0 + 1, x1 + 1, hs4, V4, by go_num, by go_num, by go_num, by omega, Blk.drewQ CR.out _, Blk.drewQ CP.out _, CB.out.drewQ _, HKN.out⟩
              case measure => simp [intOf]; omega
    · obtain rfl : k = pn + 1 := by omega
      obtain ⟨hm1, hl1⟩ := HK.out.2 rfl
      have f0 := hP.cell' 0 _ rfl
      have f1 := hP.cell' 1 _ rfl
      have u0 := hR.cell' 0 _ rfl
      have u1 := hR.cell' 1 _ rfl
      have z0 := hR.free 0
      have z1 := hR.free 1
      obtain ⟨AV, cV, rfl⟩ := own_cap hB.own
      have BE := put2 hR (.string base) (.slice AV hs1.length cV)
      have e0 := BE.cell' 0 _ rfl
      have e1 := BE.cell' 1 _ rfl
      have P1 := hB.far (i := 0) hR (by decide) (by decide) (by rw [HG.out]; exact Nat.le_refl _) (.string base)
      have P2 := P1.far (i := 1) (hR.put 0 (.string base)) (by decide) (by decide) (by rw [HG.out]; exact Nat.le_refl _) (.slice AV hs1.length cV)
      have HP2 := Lib.hid P2
      have HM1 := Lib.hid hm1
      clear P1 P2 hm1 hB HK
      go_wp2
      exact bodyPost_ret (v := .agg #[.string base, .slice AV hs1.length cV]) (by simp [results, Tryz.results56, go_sem, e0, e1]) rfl ⟨_, g0, hs1, rfl, by rw [HG.out]; exact HP2.out, HM1.out, hl1⟩
end Go.Proofs.YtfeknjpinboknaaGreatDoor

namespace Go.Proofs.YtfeknjpinboknaaGreatDoor
open Go Go.RowKit Go.Joins Go.Shelf
set_option linter.unusedSimpArgs false
set_option linter.unusedVariables false

structure TabR (w : World) (g la lb : Nat) (b : Nat → Nat) (F : Nat → Nat → Nat) (lo : Nat) : Prop where
  glt : g < w.heap.size
  gt : ∃ cs, w.heap[g]? = some (.cells cs 85 (0, 0)) ∧ cs.size = la + 1
  row : ∀ i, lo ≤ i → i ≤ la → w.cell? ⟨g, i, none⟩ = some (.slice (some ⟨b i, 0, none⟩) (lb + 1) (lb + 1))
  cell : ∀ i j, lo ≤ i → i ≤ la → j ≤ lb → w.cell? ⟨b i, j, none⟩ = some (.int .i64 (F i j : Int))
  free : ∀ i j, lo ≤ i → i ≤ la → j ≤ lb → w.frozen? ⟨b i, j, none⟩ = false
  lt : ∀ i, lo ≤ i → i ≤ la → b i < w.heap.size
  kind : ∀ i, lo ≤ i → i ≤ la → ∃ cs fz, w.heap[b i]? = some (.cells cs 3 fz)
  inj : ∀ i j, i ≤ la → j ≤ la → b i = b j → i = j
section
variable {w w' : World} {g la lb lo : Nat} {b : Nat → Nat} {F G : Nat → Nat → Nat}
theorem TabR.tab (h : TabR w g la lb b F 0) : Tab w g la lb b F := by
  obtain ⟨cs, h1, h2⟩ := h.gt
  exact ⟨h.glt, ⟨cs, _, h1⟩, fun i hi => h.row i (Nat.zero_le _) hi, fun i j hi hj => h.cell i j (Nat.zero_le _) hi hj, fun i j hi hj => h.free i j (Nat.zero_le _) hi hj, fun i hi => h.lt i (Nat.zero_le _) hi, fun i hi => h.kind i (Nat.zero_le _) hi, h.inj⟩
theorem TabR.drewN (h : TabR w g la lb b F lo) (n : Nat) : TabR (w.drewN n) g la lb b F lo := ⟨h.glt, h.gt, h.row, h.cell, h.free, h.lt, h.kind, h.inj⟩
theorem TabR.drew (h : TabR w g la lb b F lo) : TabR w.drew g la lb b F lo := ⟨h.glt, h.gt, h.row, h.cell, h.free, h.lt, h.kind, h.inj⟩
theorem TabR.ext (h : TabR w g la lb b F lo) (e : ∀ i j, lo ≤ i → i ≤ la → j ≤ lb → F i j = G i j) : TabR w g la lb b G lo :=
  ⟨h.glt, h.gt, h.row, fun i j h0 hi hj => by rw [← e i j h0 hi hj]; exact h.cell i j h0 hi hj, h.free, h.lt, h.kind, h.inj⟩
theorem TabR.ne (h : TabR w g la lb b F lo) {i : Nat} (h0 : lo ≤ i) (hi : i ≤ la) : g ≠ b i := fun e => by
  obtain ⟨cs, h1, _⟩ := h.gt
  obtain ⟨cs', fz', h2⟩ := h.kind i h0 hi
  rw [e, h2] at h1
  injection h1 with h1
  injection h1 with _ q
  exact absurd q (by decide)
theorem TabR.put (h : TabR w g la lb b F lo) {i j : Nat} (h0 : lo ≤ i) (hi : i ≤ la) (hj : j ≤ lb) (v : Nat) : TabR (w.setCell ⟨b i, j, none⟩ (.int .i64 (v : Int))) g la lb b (upd F i j v) lo := by
  have hg := h.ne h0 hi
  refine ⟨by rw [World.size_setCell]; exact h.glt, ?_, fun x hx0 hx => ?_, fun x y hx0 hx hy => ?_, fun x y hx0 hx hy => ?_, fun x hx0 hx => by rw [World.size_setCell]; exact h.lt x hx0 hx, fun x hx0 hx => setCell_kind (h.kind x hx0 hx), h.inj⟩
  · obtain ⟨cs, h1, h2⟩ := h.gt
    exact ⟨cs, (Below.heap_setCell w _ _ g hg).trans h1, h2⟩
  · rw [World.cell?_setCell_other w _ _ _ (fun e => hg (by simpa using (congrArg Addr.block e).symm))]; exact h.row x hx0 hx
  · by_cases e : x = i ∧ y = j
    · obtain ⟨rfl, rfl⟩ := e
      rw [upd, if_pos ⟨rfl, rfl⟩]
      exact World.cell?_setCell_same w _ _ (h.cell x y hx0 hx hy)
    · rw [upd, if_neg e, World.cell?_setCell_other w _ _ _ (fun q => e ?_)]
      · exact h.cell x y hx0 hx hy
      · have q1 := congrArg Addr.block q
        have q2 := congrArg Addr.off q
        simp only at q1 q2
        exact ⟨h.inj x i hx hi q1.symm, q2.symm⟩
  · rw [World.frozen?_setCell]; exact h.free x y hx0 hx hy
theorem TabR.more {i : Nat} (h : TabR w g la lb b F (i + 1)) (hi : i ≤ la) (hb : b i = w.heap.size) :
    TabR ((w.alloc (.cells (madeCells #[.int .i64 0] (lb + 1)) 3)).setCell ⟨g, i, none⟩ (.slice (some ⟨w.heap.size, 0, none⟩) (lb + 1) (lb + 1))) g la lb b (fun x y => if x = i then 0 else F x y) i := by
  have hgl := h.glt
  obtain ⟨cs, h1, h2⟩ := h.gt
  have hgw : g ≠ w.heap.size := by omega
  have hal : (w.alloc (.cells (madeCells #[.int .i64 0] (lb + 1)) 3)).heap[g]? = some (.cells cs 85 (0, 0)) := (Below.heap_alloc w _ g hgl).trans h1
  have BG : Blk (w.alloc (.cells (madeCells #[.int .i64 0] (lb + 1)) 3)) g 85 cs := hal
  have BN := Blk.made w 3 (madeCells #[.int .i64 0] (lb + 1))
  have hne : ∀ x, i + 1 ≤ x → x ≤ la → b x ≠ g := fun x h0 hx e => h.ne h0 hx e.symm
  have hlt : ∀ x, i + 1 ≤ x → x ≤ la → b x < w.heap.size := h.lt
  refine ⟨by rw [World.size_setCell, World.size_alloc]; omega, ⟨_, BG.put i _, by rw [Array.size_setIfInBounds, h2]⟩, fun x h0 hx => ?_, fun x y h0 hx hy => ?_, fun x y h0 hx hy => ?_, fun x h0 hx => ?_, fun x h0 hx => setCell_kind ?_, h.inj⟩
  · by_cases e : x = i
    · subst e
      rw [hb]
      exact (BG.put x _).cell' x _ (by rw [Array.getElem?_setIfInBounds_self_of_lt (by omega)])
    · rw [World.cell?_setCell_other _ _ _ _ (fun q => e (by have := congrArg Addr.off q; simpa using this.symm)), World.cell?_alloc_lt w _ _ hgl]
      exact h.row x (by omega) hx
  · by_cases e : x = i
    · subst e
      rw [if_pos rfl, hb]
      exact (BN.far (p := ⟨g, x, none⟩) (by simp only; omega) _).cell' y _ (made_at _ _ _ (by omega))
    · rw [if_neg e, World.cell?_setCell_other _ _ _ _ (fun q => hne x (by omega) hx (by have := congrArg Addr.block q; simpa using this.symm)), World.cell?_alloc_lt w _ _ (hlt x (by omega) hx)]
      exact h.cell x y (by omega) hx hy
  · rw [World.frozen?_setCell]
    by_cases e : x = i
    · subst e
      rw [hb]; exact BN.free y
    · rw [World.frozen?_alloc_old w _ _ (by have := hlt x (by omega) hx; simp only; omega)]
      exact h.free x y (by omega) hx hy
  · rw [World.size_setCell, World.size_alloc]
    by_cases e : x = i
    · subst e; omega
    · have := hlt x (by omega) hx; omega
  · by_cases e : x = i
    · subst e
      rw [hb]; exact ⟨_, _, BN⟩
    · obtain ⟨cs', fz', q⟩ := h.kind x (by omega) hx
      exact ⟨cs', fz', (Below.heap_alloc w _ _ (hlt x (by omega) hx)).trans q⟩
theorem TabR.start (w : World) (la lb : Nat) (b : Nat → Nat) (F : Nat → Nat → Nat) (hj : ∀ i j, i ≤ la → j ≤ la → b i = b j → i = j) : TabR (w.alloc (.cells (madeCells #[.slice none 0 0] (la + 1)) 85)) w.heap.size la lb b F (la + 1) :=
  ⟨by simp, ⟨_, Blk.made w 85 _, size_madeCells _ _⟩, fun i h0 hi => by omega, fun i j h0 hi => by omega, fun i j h0 hi => by omega, fun i h0 hi => by omega, fun i h0 hi => by omega, hj⟩
theorem TabR.any (h : TabR w g la lb b F lo) {i : Nat} (hi : i ≤ la) : (∃ u, w.cell? ⟨g, i, none⟩ = some u) ∧ w.frozen? ⟨g, i, none⟩ = false := by
  obtain ⟨cs, h1, h2⟩ := h.gt
  have B : Blk w g 85 cs := h1
  exact ⟨⟨_, B.cell' i _ (Array.getElem?_eq_getElem (by omega))⟩, B.free i⟩
end
end Go.Proofs.YtfeknjpinboknaaGreatDoor

