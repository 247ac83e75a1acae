/- licitref35.Match on data answers as template.Match does. No conditions. licitref35.Match: the walk. Conditions: the lists' lengths; no string is longer than a string can be. licitref35.Find: the walk. Conditions: the lists' lengths; no string is longer than a string can be. slices.Equal at Match; the closures over Few. No conditions but the lists' lengths. -/
import Derived.Test.YtpoelhnceebmkaaGreatDoorGE4

namespace Go.Proofs.YtpoelhnceebmkaaGreatDoor
open Go Go.RowKit Go.Shelf
set_option linter.unusedSimpArgs false
set_option linter.unusedVariables false

def nearV (ends : List Nat) (h a : Nat) : Bool := ends.any fun e => decide (e ≤ a) && decide (a ≤ e + h)
def nextTo (ws words : List ByteArray) (h : Nat) (ends : List Nat) (k : Nat) : List Nat := ((List.range k).filter fun a => nearV ends h a && standsV ws words a).map (· + ws.length)
def endsL (words : List ByteArray) : List Pt → List Nat → List Nat
  | [], E => E
  | p :: r, E => if nextTo p.2 words p.1.toNat E (words.length + 1) = [] then [] else endsL words r (nextTo p.2 words p.1.toNat E (words.length + 1))
def headI (l : List Nat) : Int := match l with
  | [] => -1
  | e :: _ => (e : Int)
theorem nextTo_succ (ws words : List ByteArray) (h : Nat) (ends : List Nat) (k : Nat) : nextTo ws words h ends (k + 1) = nextTo ws words h ends k ++ if nearV ends h k && standsV ws words k then [k + ws.length] else [] := by
  unfold nextTo
  rw [List.range_succ, List.filter_append, List.map_append]
  congr 1
  simp only [List.filter_cons, List.filter_nil]
  split <;> simp
theorem nextTo_mem {ws words : List ByteArray} {h : Nat} {ends : List Nat} {k j : Nat} : j ∈ nextTo ws words h ends k ↔ ∃ a, a < k ∧ nearV ends h a = true ∧ standsV ws words a = true ∧ j = a + ws.length := by
  unfold nextTo
  simp only [List.mem_map, List.mem_filter, List.mem_range, Bool.and_eq_true]
  constructor
  · rintro ⟨a, ⟨h1, h2, h3⟩, h4⟩; exact ⟨a, h1, h2, h3, h4.symm⟩
  · rintro ⟨a, h1, h2, h3, h4⟩; exact ⟨a, ⟨h1, h2, h3⟩, h4.symm⟩
theorem nextTo_sorted (ws words : List ByteArray) (h : Nat) (ends : List Nat) (k : Nat) : (nextTo ws words h ends k).Pairwise (· < ·) := by
  unfold nextTo
  rw [List.pairwise_map]
  refine (List.Pairwise.filter _ List.pairwise_lt_range).imp ?_
  intro a b h; omega
theorem near_iff {ends : List Nat} {h a : Nat} : nearV ends h a = true ↔ ∃ e, e ∈ ends ∧ e ≤ a ∧ a ≤ e + h := by
  unfold nearV
  simp only [List.any_eq_true, Bool.and_eq_true, decide_eq_true_eq]
theorem next_step {ws words : List ByteArray} {h : Nat} {ends : List Nat} {T : Nat → Bool} (hT : ∀ j, T j = true ↔ j ∈ ends) (j : Nat) : stepE ws words h T j = true ↔ j ∈ nextTo ws words h ends (words.length + 1) := by
  rw [nextTo_mem]
  unfold stepE
  simp only [Bool.and_eq_true, decide_eq_true_eq, List.any_eq_true, List.mem_range]
  constructor
  · rintro ⟨⟨h1, h2⟩, d, h3, h4, h5⟩
    have hle := standsV_le h2
    exact ⟨j - ws.length, by omega, near_iff.2 ⟨_, (hT _).1 h5, by omega, by omega⟩, h2, by omega⟩
  · rintro ⟨a, h1, h2, h3, h4⟩
    obtain ⟨e, h5, h6, h7⟩ := near_iff.1 h2
    subst h4
    rw [Nat.add_sub_cancel]
    exact ⟨⟨by omega, h3⟩, a - e, by omega, by omega, by rw [show a - (a - e) = e by omega]; exact (hT e).2 h5⟩
theorem endsV_none {words : List ByteArray} : ∀ (r : List Pt) {T : Nat → Bool}, (∀ j, T j = false) → ∀ j, endsV words r T j = false
  | [], T, h, j => h j
  | p :: r, T, h, j => endsV_none r (fun k => by
      unfold stepE
      simp [h]) j
theorem endsL_spec {words : List ByteArray} : ∀ (r : List Pt) {T : Nat → Bool} {E : List Nat}, (∀ j, T j = true ↔ j ∈ E) → E.Pairwise (· < ·) →
    (∀ j, endsV words r T j = true ↔ j ∈ endsL words r E) ∧ (endsL words r E).Pairwise (· < ·)
  | [], T, E, h, hs => ⟨h, hs⟩
  | p :: r, T, E, h, hs => by
    rw [endsV, endsL]
    have hn := fun j => next_step (ws := p.2) (words := words) (h := p.1.toNat) h j
    split
    · rename_i he
      refine ⟨fun j => ?_, List.Pairwise.nil⟩
      have : ∀ k, stepE p.2 words p.1.toNat T k = false := fun k => by
        cases e : stepE p.2 words p.1.toNat T k with
        | false => rfl
        | true => have := (hn k).1 e; rw [he] at this; cases this
      rw [endsV_none r this j]
      simp
    · exact endsL_spec r hn (nextTo_sorted _ _ _ _ _)
theorem endsL_le {words : List ByteArray} : ∀ (r : List Pt) {E : List Nat}, (∀ j ∈ E, j ≤ words.length) → ∀ j ∈ endsL words r E, j ≤ words.length
  | [], E, h, j, hj => h j hj
  | p :: r, E, h, j, hj => by
    rw [endsL] at hj
    split at hj
    · cases hj
    · refine endsL_le r (fun k hk => ?_) j hj
      obtain ⟨a, h1, h2, h3, h4⟩ := nextTo_mem.1 hk
      have := standsV_le h3
      omega
theorem least_head {T : Nat → Bool} {M : Nat} {E : List Nat} (hT : ∀ j, T j = true ↔ j ∈ E) (hs : E.Pairwise (· < ·)) (hM : ∀ j ∈ E, j ≤ M) : headI E = match leastV T M with
    | some j => (j : Int)
    | none => -1 := by
  unfold leastV
  cases E with
  | nil =>
    have : (List.range (M + 1)).find? T = none := by
      rw [List.find?_eq_none]
      intro x _ hx
      have := (hT x).1 hx
      cases this
    rw [this]; rfl
  | cons e r =>
    have : (List.range (M + 1)).find? T = some e := by
      rw [List.find?_range_eq_some]
      refine ⟨(hT e).2 (by simp), by have := hM e (by simp); simp; omega, fun j hj => ?_⟩
      cases h : T j with
      | false => rfl
      | true =>
        have h1 := (hT j).1 h
        rcases List.mem_cons.1 h1 with rfl | h1
        · omega
        · have := (List.pairwise_cons.1 hs).1 j h1
          omega
    rw [this]; rfl
/-- What the reference's Match hands back. -/
def rmatchV (ps : List Pt) (words : List ByteArray) (a : Int) : Int := match matchT ps words a with
  | some j => (j : Int)
  | none => -1
theorem rmatch_head {p0 : Pt} {r : List Pt} {words : List ByteArray} {a : Nat} (hc : checkV (p0 :: r) = 0) (ha : a < words.length) (hs : standsV p0.2 words a = true) : rmatchV (p0 :: r) words a = headI (endsL words r [a + p0.2.length]) := by
  have hle := standsV_le hs
  have h0 : ∀ j, (fun j => decide (j = a + p0.2.length)) j = true ↔ j ∈ [a + p0.2.length] := fun j => by simp
  obtain ⟨h1, h2⟩ := endsL_spec (words := words) r h0 (List.pairwise_singleton _ _)
  rw [least_head (M := words.length) h1 h2 (endsL_le r (fun j hj => by rw [List.mem_singleton.1 hj]; exact hle))]
  unfold rmatchV matchT
  rw [if_pos ⟨hc, by omega, by omega⟩, Int.toNat_natCast, matchV, if_pos hs]
theorem rmatch_no {ps : List Pt} {words : List ByteArray} {a : Int} (h : ¬ (checkV ps = 0 ∧ 0 ≤ a ∧ a < words.length)) : rmatchV ps words a = -1 := by
  unfold rmatchV
  rw [matchT_no h]
theorem rmatch_stands {p0 : Pt} {r : List Pt} {words : List ByteArray} {a : Nat} (hs : standsV p0.2 words a = false) : rmatchV (p0 :: r) words a = -1 := by
  unfold rmatchV matchT
  split
  · rename_i h
    split at h
    · rw [Int.toNat_natCast, matchV, hs] at h; cases h
    · cases h
  · rfl
end Go.Proofs.YtpoelhnceebmkaaGreatDoor

namespace Go.Proofs.YtpoelhnceebmkaaGreatDoor
open Go Go.RowKit Go.Shelf
set_option linter.unusedSimpArgs false
set_option linter.unusedVariables false

theorem nextTo_len (ws words : List ByteArray) (h : Nat) (ends : List Nat) (k : Nat) : (nextTo ws words h ends k).length ≤ k := by
  unfold nextTo
  rw [List.length_map]
  have := List.length_filter_le (fun a => nearV ends h a && standsV ws words a) (List.range k)
  rwa [List.length_range] at this
theorem near_take {E : List Nat} {h a k e : Nat} (hk : E[k]? = some e) : nearV (E.take (k + 1)) h a = (nearV (E.take k) h a || (decide (e ≤ a) && decide (a ≤ e + h))) := by
  obtain ⟨hi, he⟩ := List.getElem?_eq_some_iff.1 hk
  unfold nearV
  rw [List.take_succ_eq_append_getElem hi, List.any_append, he]; simp
theorem iCells_at {E : List Nat} {k e : Nat} (h : E[k]? = some e) : (iCells E)[k]? = some (.int .i64 (e : Nat)) := by
  rw [iCells, List.getElem?_map, h]; rfl

set_option maxRecDepth 100000 in
set_option maxHeartbeats 8000000 in
theorem rmatch_any (v v' : Value) (nm : ByteArray) (ps : List Pt) (words : List ByteArray) (a : Int) (w : World) (h : TRd w v nm ps) (h' : WRd w v' words) (hs : SmT ps) (hx : ∀ p ∈ ps, SzX p.2) (hm : words.length ≤ 100000) :
    Calls Tryz.prog 26 #[v, v', .int .i64 a] w fun e w' => e = .returned (.int .i64 (rmatchV ps words a)) ∧ New w w' := by
  obtain ⟨j0, hj0, hz0, hz1, hz2⟩ := info_parts Tryz.info3'
  have HC0 := Lib.hid (fun w h => rcheck_any v nm ps w h hs hx)
  have HTR := Lib.hid h
  have HWR := Lib.hid h'
  have HKO := Lib.hid (fun h => check_ok (ps := ps) h)
  obtain ⟨A, c, rfl, hc1, hc2, hr⟩ := h
  obtain ⟨A', c', rfl, hc1', hc2', hr'⟩ := h'
  have hnS : New w (w.alloc (.cells #[.string nm, .slice A ps.length c] 25)) := (New.refl w).alloc _
  have HRN := Lib.hid (fun h => rmatch_no (ps := ps) (words := words) (a := a) h)
  obtain ⟨n, hn0⟩ : ∃ n, ps.length = n := ⟨_, rfl⟩
  obtain ⟨m, hm0⟩ : ∃ m, words.length = m := ⟨_, rfl⟩
  rw [hn0] at hr hc1 hnS HC0 HTR ⊢
  rw [hm0] at hr' hc1' hm HWR HRN ⊢
  have HS2 := Lib.hid hs
  have HN := Lib.hid hn0
  have HM := Lib.hid hm0
  have HTR2 := Lib.hid (HTR.out.new hnS)
  have HWR2 := Lib.hid (HWR.out.new hnS)
  have HR := Lib.hid (hr.new hnS)
  have B0 := Blk.made w 25 #[.string nm, .slice A n c]
  have k0 := B0.cell' 0 _ rfl
  have k1 := B0.cell' 1 _ rfl
  have HX := Lib.hid hx
  obtain ⟨ck, hck⟩ : ∃ t, checkV ps = t := ⟨_, rfl⟩
  rw [hck] at HC0 HRN
  have HCK := Lib.hid hck
  clear hn0 hm0 hr hr' HTR HWR hs hx hck
  by_cases q1 : ck = 0
  · by_cases q2 : a < 0
    · have e1 : (ck != 0) = false := by rw [q1]; rfl
      have e2 : decide (a < 0) = true := decide_eq_true q2
      have HV := Lib.hid (HRN.out (fun h => by omega))
      clear q1
      go_enter Tryz.func26, Tryz.ntmps26
      go_wp2_with (go_at_call 22; refine (HC0.out _ HTR2.out).mono ?_; rintro e w1 ⟨rfl, hn1⟩)
      exact bodyPost_ret (v := .int .i64 (-1)) (by simp [results, Tryz.results26, go_sem]) rfl ⟨by rw [HV.out], hnS.trans hn1⟩
    · by_cases q3 : (m : Int) ≤ a
      · have e1 : (ck != 0) = false := by rw [q1]; rfl
        have e2 : decide (a < 0) = false := decide_eq_false q2
        have e3 : decide ((m : Int) ≤ a) = true := decide_eq_true q3
        have HV := Lib.hid (HRN.out (fun h => by omega))
        clear q1
        go_enter Tryz.func26, Tryz.ntmps26
        go_wp2_with (go_at_call 22; refine (HC0.out _ HTR2.out).mono ?_; rintro e w1 ⟨rfl, hn1⟩)
        exact bodyPost_ret (v := .int .i64 (-1)) (by simp [results, Tryz.results26, go_sem]) rfl ⟨by rw [HV.out], hnS.trans hn1⟩
      · obtain ⟨av, rfl⟩ : ∃ k : Nat, a = (k : Int) := ⟨a.toNat, by omega⟩
        obtain ⟨p0, r, rfl, -, hne0, -, hh, -⟩ := HKO.out (HCK.out.trans q1)
        have hrl : r.length + 1 = n := by have := HN.out; simpa using this
        obtain ⟨b0, o0, v0, p0', rfl, hp0, d1, d2, hw0⟩ := HR.out.at (i := 0) (by omega)
        obtain rfl : p0 = p0' := by simpa using hp0
        obtain ⟨A0, c0, rfl, hq1, hq2, hwr0⟩ := id hw0
        simp only [Nat.zero_mul, Nat.add_zero] at d1 d2
        have hl0 := List.length_pos_iff.2 hne0
        have hp0l := HS2.out.2 p0 (by simp)
        have hn1k : n ≤ 1000 := by have := HS2.out.1; rw [HN.out] at this; exact this
        have e1 : (ck != 0) = false := by rw [q1]; rfl
        have e2 : decide ((av : Int) < 0) = false := decide_eq_false q2
        have e3 : decide ((m : Int) ≤ (av : Int)) = false := decide_eq_false q3
        have e4 : ¬ (av : Int) < 0 := q2
        have hH : standsV p0.2 words av = true → rmatchV (p0 :: r) words av = headI (endsL words r [av + p0.2.length]) := fun h => rmatch_head (HCK.out.trans q1) (by rw [HM.out]; omega) h
        have hNo : standsV p0.2 words av = false → rmatchV (p0 :: r) words av = -1 := fun h => rmatch_stands h
        have HST := Lib.hid (fun w h h' => rstands_any (.slice A0 p0.2.length c0) (.slice A' m c') p0.2 words av w h h' (by omega) (by rw [HM.out]; exact hm) (by omega))
        have hsle : standsV p0.2 words av = true → av + p0.2.length ≤ m := fun h => by rw [← HM.out]; exact standsV_le h
        have HHH := Lib.hid hh
        have HW0 := Lib.hid hw0
        clear q1 hp0 d1 hwr0 hw0 HRN HKO hh
        generalize standsV p0.2 words av = sv at *
        have n0 : (0 : Int) < (n : Int) := by omega
        cases sv
        · have HV := Lib.hid (hNo rfl)
          clear hNo hH hsle
          go_enter Tryz.func26, Tryz.ntmps26
          go_wp2_with (first
            | (go_at_call 56; refine (HST.out _ (HW0.out.new hn1) (HWR2.out.new hn1)).mono ?_; rintro e w2 ⟨rfl, hn2⟩)
            | (go_at_call 22; refine (HC0.out _ HTR2.out).mono ?_; rintro e w1 ⟨rfl, hn1⟩; have k3 := (B0.new hn1).cell' 1 _ rfl; have d3 := cell_new hn1 d2))
          exact bodyPost_ret (v := .int .i64 (-1)) (by simp [results, Tryz.results26, go_sem]) rfl ⟨by rw [HV.out], (hnS.trans hn1).trans hn2⟩
        · obtain ⟨EL, hEL⟩ : ∃ x, endsL words r [av + p0.2.length] = x := ⟨_, rfl⟩
          have hv := hH rfl
          rw [hEL] at hv
          have HV := Lib.hid hv
          have HEL := Lib.hid hEL
          have hsl := hsle rfl
          have u1 : IntKind.i64.wrap ((av : Int) + (p0.2.length : Int)) = ((av + p0.2.length : Nat) : Int) := by rw [IntWalk.i64_in _ (by omega)]; omega
          clear hNo hH hsle hv hEL
          go_enter Tryz.func26, Tryz.ntmps26
          go_wp2_with (first
            | (go_at_call 56; refine (HST.out _ (HW0.out.new hn1) (HWR2.out.new hn1)).mono ?_; rintro e w2 ⟨rfl, hn2⟩; have k5 := ((B0.new hn1).new hn2).cell' 1 _ rfl; have d5 := cell_new hn2 d3)
            | (go_at_call 22; refine (HC0.out _ HTR2.out).mono ?_; rintro e w1 ⟨rfl, hn1⟩; have k3 := (B0.new hn1).cell' 1 _ rfl; have d3 := cell_new hn1 d2))
          have hnA : New w w2 := (hnS.trans hn1).trans hn2
          have own0 : (w2.alloc (.cells #[.int .i64 ((av : Int) + (p0.2.length : Int))] 3)).ownsRow w2.heap.size 3 1 (.slice (some ⟨w2.heap.size, 0, none⟩) 1 1) 1 (iCells [av + p0.2.length]) :=
            ⟨rfl, .inr ⟨w2.heap.size, 1, #[.int .i64 ((av : Int) + (p0.2.length : Int))], rfl, Nat.le_refl _, heap_alloc_new w2 _, Nat.le_refl _, by simp [maxLen], rfl, by simp [iCells]⟩⟩
          go_loopw [7, 8] (fun v7 v8 wr => ∃ (i : Nat) (E : List Nat), v8 = .int .i64 i ∧ 1 ≤ i ∧ i ≤ n ∧ wr.ownsRow w2.heap.size 3 1 v7 E.length (iCells E) ∧ 0 < E.length ∧ E.length ≤ m + 1 ∧ New w2 wr ∧ Hid (∀ e ∈ E, e ≤ m) ∧ Hid (endsL words (r.drop (i - 1)) E = EL)) (fun _ v8 _ => n - (intOf v8).toNat)
          case atStart => exact ⟨1, [av + p0.2.length], rfl, by omega, by omega, own0, by simp, by simp, (New.refl w2).alloc _, Lib.hid (fun e he => by rw [List.mem_singleton.1 he]; exact hsl), Lib.hid HEL.out⟩
          case round =>
            obtain ⟨i, E, rfl, hi1, hin, ownE, hE0, hE1, hnr, HEm, HG⟩ := hrel
            obtain ⟨wo, rfl⟩ : ∃ x, x = wr := ⟨_, rfl⟩
            have k5 := (((B0.new hn1).new hn2).new hnr).cell' 1 _ rfl
            obtain ⟨AE, cE, rfl, hcE1, hcE2, hrE⟩ := own_form ownE
            by_cases hlt : i < n
            · obtain ⟨bq, oq, vq, p, eqA, hp, f1, f2, hwp⟩ := ((((HR.out.new hn1).new hn2).new hnr).at hlt)
              injection eqA with eqA
              injection eqA with eq1 eq2
              subst eq1 eq2
              obtain ⟨Ap, cp, rfl, hcp1, hcp2, hrp⟩ := id hwp
              have hpr : r[i - 1]? = some p := by
                obtain ⟨k, rfl⟩ : ∃ k, i = k + 1 := ⟨i - 1, by omega⟩
                simpa using hp
              obtain ⟨g1, g2, -, -⟩ := HHH.out p (List.mem_of_getElem? hpr)
              have hpl := HS2.out.2 p (List.mem_of_getElem? hp)
              obtain ⟨hN, hhN⟩ : ∃ k : Nat, p.1 = (k : Int) := ⟨p.1.toNat, by omega⟩
              have hgo := HG.out
              obtain ⟨hlr, her⟩ := List.getElem?_eq_some_iff.1 hpr
              rw [List.drop_eq_getElem_cons hlr, her, endsL, show p.1.toNat = hN by omega, HM.out, show i - 1 + 1 = i by omega] at hgo
              rw [hhN] at f1 g1 g2
              have HGO := Lib.hid hgo
              have HWP := Lib.hid hwp
              have i0 : (0 : Int) ≤ (i : Int) := by omega
              have i1 : (i : Int) < (n : Int) := by omega
              have B58 := Blk.made wo 58 #[.int .i64 (hN : Int), .slice Ap p.2.length cp]
              clear hgo hwp hrp hp hpr hhN HG her hlr
              go_wp2
              obtain ⟨wb, hwb⟩ : ∃ x, x = wo.alloc (.cells #[.int .i64 (hN : Int), .slice Ap p.2.length cp] 58) := ⟨_, rfl⟩
              rw [← hwb] at B58 ⊢
              have hob : New wo wb := by rw [hwb]; exact (New.refl _).alloc _
              clear hwb f1 f2
              have HPB := Lib.hid (HWP.out.new hob)
              have HWB := Lib.hid ((((HWR2.out.new hn1).new hn2).new hnr).new hob)
              have HrE := Lib.hid (hrE.below hob)
              have HEM := Lib.hid HEm.out
              clear hrE
              go_loopw [10, 11] (fun v10 v11 wr => ∃ (q : Nat) (N : List Nat), v11 = .int .i64 q ∧ q ≤ m + 1 ∧ wr.ownsRow wb.heap.size 3 1 v10 N.length (iCells N) ∧ N.length ≤ q ∧ New wb wr ∧ Hid (N = nextTo p.2 words hN E q)) (fun _ v11 _ => m + 1 - (intOf v11).toNat)
              case atStart => exact ⟨0, [], rfl, by omega, World.ownsRow_nil _ _ _ _, by simp, New.refl _, Lib.hid (by simp [nextTo])⟩
              case round =>
                obtain ⟨q, N, rfl, hq, ownN, hNl, hn4, HN4⟩ := hrel
                obtain ⟨v10, hv10⟩ : ∃ x, x = u10 := ⟨_, rfl⟩
                subst hv10
                obtain ⟨wi, rfl⟩ : ∃ x, x = wr := ⟨_, rfl⟩
                have g4 := (B58.new hn4).cell' 1 _ rfl
                by_cases hqm : q ≤ m
                · have z1 : (q : Int) ≤ (m : Int) := by omega
                  go_wp2
                  go_loopw [12, 13] (fun v12 v13 wr => ∃ (k : Nat) (b : Bool), v13 = .int .i64 k ∧ k ≤ E.length ∧ v12 = .bool b ∧ New wi wr ∧ Hid (b = nearV (E.take k) hN q)) (fun _ v13 _ => E.length - (intOf v13).toNat)
                  case atStart => exact ⟨0, false, rfl, by omega, rfl, New.refl _, Lib.hid rfl⟩
                  case round =>
                    obtain ⟨k, b, rfl, hk, rfl, hn5, HB⟩ := hrel
                    have g5 := ((B58.new hn4).new hn5).cell' 0 _ rfl
                    have g6 := ((B58.new hn4).new hn5).cell' 1 _ rfl
                    by_cases hlk : k < E.length
                    · obtain ⟨bE, oE, rfl, _, hcE⟩ := ((HrE.out.below hn4).below hn5).2 (by omega)
                      have hek : E[k]? = some E[k] := List.getElem?_eq_getElem hlk
                      have d7 : wr.cell? ⟨bE, oE + k, none⟩ = some (.int .i64 (E[k] : Nat)) := hcE k _ (iCells_at hek)
                      have hnt := near_take (h := hN) (a := q) hek
                      rw [← HB.out] at hnt
                      have hem := HEM.out _ (List.getElem_mem hlk)
                      have HNT := Lib.hid hnt
                      clear hnt hek hcE
                      generalize E[k] = e at *
                      have y0 : (0 : Int) ≤ (k : Int) := by omega
                      have y1 : (k : Int) < (E.length : Int) := by omega
                      have u2 : IntKind.i64.wrap ((e : Int) + (hN : Int)) = (e : Int) + (hN : Int) := IntWalk.i64_in _ (by omega)
                      cases b
                      · by_cases x1 : e ≤ q
                        · have t1 : decide ((e : Int) ≤ (q : Int)) = true := decide_eq_true (by omega)
                          by_cases x2 : q ≤ e + hN
                          · have t2 : decide ((q : Int) ≤ (e : Int) + (hN : Int)) = true := decide_eq_true (by omega)
                            have HR2 : Hid (true = nearV (E.take (k + 1)) hN q) := Lib.hid (by rw [HNT.out, decide_eq_true x1, decide_eq_true x2]; rfl)
                            go_wp2
                            go_quiet (fail)
                            go_wp2
                            go_roundw
                            case rel => exact ⟨k + 1, true, by go_num, by omega, rfl, hn5.drewN nq, HR2⟩
                            case measure => simp [intOf]; omega
                          · have t2 : decide ((q : Int) ≤ (e : Int) + (hN : Int)) = false := decide_eq_false (by omega)
                            have HR2 : Hid (false = nearV (E.take (k + 1)) hN q) := Lib.hid (by rw [HNT.out, decide_eq_true x1, decide_eq_false x2]; rfl)
                            go_wp2
                            go_quiet (fail)
                            go_wp2
                            go_roundw
                            case rel => exact ⟨k + 1, false, by go_num, by omega, rfl, hn5.drewN nq, HR2⟩
                            case measure => simp [intOf]; omega
                        · have t1 : decide ((e : Int) ≤ (q : Int)) = false := decide_eq_false (by omega)
                          have HR2 : Hid (false = nearV (E.take (k + 1)) hN q) := Lib.hid (by rw [HNT.out, decide_eq_false x1]; rfl)
                          go_wp2
                          go_quiet (fail)
                          go_wp2
                          go_roundw
                          case rel => exact ⟨k + 1, false, by go_num, by omega, rfl, hn5.drewN nq, HR2⟩
                          case measure => simp [intOf]; omega
                      · have HR2 : Hid (true = nearV (E.take (k + 1)) hN q) := Lib.hid (by rw [HNT.out]; rfl)
                        go_wp2
                        go_quiet (fail)
                        go_wp2
                        go_roundw
                        case rel => exact ⟨k + 1, true, by go_num, by omega, rfl, hn5.drewN nq, HR2⟩
                        case measure => simp [intOf]; omega
                    · obtain rfl : k = E.length := by omega
                      have hb := HB.out
                      rw [List.take_length] at hb
                      have HSQ := Lib.hid (fun w h h' => rstands_any (.slice Ap p.2.length cp) (.slice A' m c') p.2 words q w h h' (by omega) (by rw [HM.out]; exact hm) (by omega))
                      have hns := nextTo_succ p.2 words hN E q
                      rw [← hb, ← HN4.out] at hns
                      have HPW := Lib.hid ((HPB.out.new hn4).new hn5)
                      have HWW := Lib.hid ((HWB.out.new hn4).new hn5)
                      cases b
                      · rw [Bool.false_and, if_neg (by simp), List.append_nil] at hns
                        have HNS := Lib.hid hns
                        clear hns hb
                        go_wp2
                        go_roundw
                        case rel => exact ⟨q + 1, N, by go_num, by omega, own_new ownN hn5, by omega, hn4.trans hn5, Lib.hid HNS.out.symm⟩
                        case measure => simp [intOf]; omega
                      · rw [Bool.true_and] at hns
                        generalize standsV p.2 words q = sq at *
                        cases sq
                        · rw [if_neg (by simp), List.append_nil] at hns
                          have HNS := Lib.hid hns
                          clear hns hb
                          go_wp2_with (go_at_call 56; refine (HSQ.out _ HPW.out HWW.out).mono ?_; rintro e w9 ⟨rfl, hn9⟩)
                          go_roundw
                          case rel => exact ⟨q + 1, N, by go_num, by omega, own_new ownN (hn5.trans hn9), by omega, (hn4.trans hn5).trans hn9, Lib.hid HNS.out.symm⟩
                          case measure => simp [intOf]; omega
                        · rw [if_pos rfl] at hns
                          have HNS := Lib.hid hns
                          have u3 : IntKind.i64.wrap ((q : Int) + (p.2.length : Int)) = ((q + p.2.length : Nat) : Int) := by rw [IntWalk.i64_in _ (by omega)]; omega
                          have hbz := hn4.size
                          clear hns hb
                          go_wp2_with (first
                            | (at_builtin; refine wpList_append_own _ rfl (.tmp 99) (.tmp 105) 85 rfl wb.heap.size 3 j0 (.int .i64 0) 1 8 Tryz.underlying85 hj0 hz0 hz1 hz2 rfl (by decide) _ _ _ rfl ((own_new ownN (hn5.trans hn9)).alloc _) ⟨w9.heap.size, 0, none⟩ 1 1 [.int .i64 (q + p.2.length : Nat)] rfl rfl ?c1 ?c2 ?c3 ?c4 ?c5 ?_)
                            | (go_at_call 56; refine (HSQ.out _ HPW.out HWW.out).mono ?_; rintro e w9 ⟨rfl, hn9⟩; have g7 := (((B58.new hn4).new hn5).new hn9).cell' 1 _ rfl))
                          case c1 => exact cell_one_new _ _ _
                          case c2 => simp [Value.oneCell']
                          case c3 => simp [maxLen]; omega
                          case c4 => omega
                          case c5 => have := hn5.size; have := hn9.size; simp; omega
                          intro v' w3 hown3 hg3 _
                          go_wp2
                          go_roundw
                          case rel => exact ⟨q + 1, N ++ [q + p.2.length], by go_num, by omega, own_to hown3 (by simp) (by simp [iCells]), by simp; omega, Below.grown (((hn4.trans hn5).trans hn9).alloc _) hg3 (by have := hn5.size; have := hn9.size; simp; omega) (fun g hg => ((own_new ownN (hn5.trans hn9)).lt g hg).1), Lib.hid HNS.out.symm⟩
                          case measure => simp [intOf]; omega
                · obtain rfl : q = m + 1 := by omega
                  have hgo := HGO.out
                  rw [← HN4.out] at hgo
                  have hNm : ∀ e ∈ N, e ≤ m := fun e he => by
                    rw [HN4.out] at he
                    obtain ⟨a', h1, h2, h3, h4⟩ := nextTo_mem.1 he
                    have := standsV_le h3
                    rw [HM.out] at this
                    omega
                  have HNM := Lib.hid hNm
                  have z1 : ¬ ((m + 1 : Nat) : Int) ≤ (m : Int) := by omega
                  have z2 : ¬ (m : Int) + 1 ≤ (m : Int) := by omega
                  have hbz := hn4.size
                  have hboz := hob.size
                  have hwoz := hnr.size
                  clear hNm
                  obtain ⟨AN, cN, rfl, hcN1, hcN2, _⟩ := own_form ownN
                  by_cases hNe : N = []
                  · rw [if_pos hNe] at hgo
                    subst hgo
                    have t1 : ((N.length : Int) == 0) = true := by rw [hNe]; rfl
                    clear hNe
                    go_wp2
                    exact bodyPost_ret (v := .int .i64 (-1)) (by simp [results, Tryz.results26, go_sem]) rfl ⟨by rw [HV.out]; rfl, ((hnA.trans hnr).trans hob).trans hn4⟩
                  · rw [if_neg hNe] at hgo
                    have hNp := List.length_pos_iff.2 hNe
                    have t1 : ((N.length : Int) == 0) = false := beq_eq_false_iff_ne.2 (by omega)
                    have HGO2 := Lib.hid hgo
                    clear hNe hgo
                    go_wp2
                    go_roundw
                    case rel => exact ⟨_, _, .int .i64 ((i + 1 : Nat) : Int), ⟨i + 1, rfl, by omega, by omega, N, own_down ownN (by omega), hNp, hNl, (hnr.trans hob).trans hn4, Lib.hid HNM.out, Lib.hid HGO2.out⟩, rfl, rfl, by go_num⟩
                    case measure => simp [intOf]; omega
            · obtain rfl : i = n := by omega
              have hE := HG.out
              rw [List.drop_of_length_le (by omega), endsL] at hE
              subst hE
              obtain ⟨bE, oE, rfl, _, hcE⟩ := hrE.2 hE0
              have hek : E[0]? = some E[0] := List.getElem?_eq_getElem hE0
              have d7 : wo.cell? ⟨bE, oE, none⟩ = some (.int .i64 (E[0] : Nat)) := hcE 0 _ (iCells_at hek)
              have hh0 : headI E = (E[0] : Nat) := by
                cases E with
                | nil => simp at hE0
                | cons e l => rfl
              rw [hh0] at HV
              clear hek hcE
              generalize E[0] = e at *
              have y1 : (0 : Int) < (E.length : Int) := by omega
              go_wp2
              exact bodyPost_ret (v := .int .i64 (e : Nat)) (by simp [results, Tryz.results26, go_sem]) rfl ⟨by rw [HV.out], hnA.trans hnr⟩
  · have e1 : (ck != 0) = true := bne_iff_ne.2 q1
    have HV := Lib.hid (HRN.out (fun h => q1 h.1))
    clear q1
    go_enter Tryz.func26, Tryz.ntmps26
    go_wp2_with (go_at_call 22; refine (HC0.out _ HTR2.out).mono ?_; rintro e w1 ⟨rfl, hn1⟩)
    exact bodyPost_ret (v := .int .i64 (-1)) (by simp [results, Tryz.results26, go_sem]) rfl ⟨by rw [HV.out], hnS.trans hn1⟩
end Go.Proofs.YtpoelhnceebmkaaGreatDoor

namespace Go.Proofs.YtpoelhnceebmkaaGreatDoor
open Go Go.RowKit Go.Shelf
set_option linter.unusedSimpArgs false
set_option linter.unusedVariables false

theorem goodV_app : ∀ (l : List Tm) (i : Nat) (t : Tm), goodV i (l ++ [t]) = goodV i l ++ if checkV t.2 = 0 then [i + l.length] else []
  | [], i, t => by
    rw [List.nil_append, goodV, goodV]
    split <;> simp [goodV]
  | x :: l, i, t => by
    have ih := goodV_app l (i + 1) t
    rw [List.cons_append, goodV, goodV, ih]
    have e : i + (x :: l).length = i + 1 + l.length := by simp; omega
    rw [e]
    split <;> simp
theorem good_take {l : List Tm} {k : Nat} {t : Tm} (h : l[k]? = some t) : goodV 0 (l.take (k + 1)) = goodV 0 (l.take k) ++ if checkV t.2 = 0 then [k] else [] := by
  obtain ⟨hi, he⟩ := List.getElem?_eq_some_iff.1 h
  rw [List.take_succ_eq_append_getElem hi, goodV_app, he, List.length_take, Nat.min_eq_left (by omega), Nat.zero_add]
theorem best_take {l : List Tm} {words : List ByteArray} {a k : Nat} {t : Tm} (h : l[k]? = some t) : bestV l words a (goodV 0 (l.take (k + 1))) = if checkV t.2 = 0 then betterV l words a (bestV l words a (goodV 0 (l.take k))) k else bestV l words a (goodV 0 (l.take k)) := by
  rw [good_take h]
  unfold bestV
  rw [List.foldl_append]
  split <;> rfl
def tpI (b : Fd) : Int := if b.2.2 = 0 then -1 else (b.1 : Nat)
theorem rmatch_bad {ps : List Pt} {words : List ByteArray} {a : Int} (h : checkV ps ≠ 0) : rmatchV ps words a = -1 := rmatch_no (fun q => h q.1)
theorem rmatch_good {ps : List Pt} {words : List ByteArray} {a : Nat} (h : checkV ps = 0) (ha : a < words.length) : rmatchV ps words a = match matchV ps words a with
    | some j => (j : Int)
    | none => -1 := by
  unfold rmatchV matchT
  cases hq : matchV ps words a with
  | none => rw [if_pos ⟨h, by omega, by omega⟩, Int.toNat_natCast, hq]
  | some j => rw [if_pos ⟨h, by omega, by omega⟩, Int.toNat_natCast, hq]

set_option maxRecDepth 100000 in
set_option maxHeartbeats 8000000 in
theorem rfind_any (A : Option Addr) (c n : Nat) (l : List Tm) (v' : Value) (words : List ByteArray) (w : World) (h : TsRd w A n l) (h' : WRd w v' words) (hs : ∀ t ∈ l, SmT t.2) (hx : ∀ t ∈ l, ∀ p ∈ t.2, SzX p.2) (hz : n ≤ 100000) (hm : words.length ≤ 100000) :
    Calls Tryz.prog 29 #[.slice A n c, v'] w fun e w' => ∃ v, e = .returned v ∧ w'.ownsRow w.heap.size 53 3 v (findV l words (goodV 0 l) words.length 0).length (mCells (findV l words (goodV 0 l) words.length 0)) ∧ New w w' := by
  obtain ⟨j0, hj, hy0, hy1, hy2⟩ := info_parts Tryz.info53
  obtain ⟨A', c', rfl, hc1', hc2', hr'⟩ := h'
  have HW : Hid (WRd w (.slice A' words.length c') words) := Lib.hid ⟨A', c', rfl, hc1', hc2', hr'⟩
  have HTS := Lib.hid h
  have HL := Lib.hid h.1
  obtain ⟨M, hM⟩ : ∃ k, words.length = k := ⟨_, rfl⟩
  obtain ⟨F, hF⟩ : ∃ x, findV l words (goodV 0 l) words.length 0 = x := ⟨_, rfl⟩
  rw [hF]
  rw [hM] at HW hm hc1' ⊢
  rw [hM] at hF
  have HF : Hid ([] ++ findV l words (goodV 0 l) M 0 = F) := Lib.hid hF
  have HMl := Lib.hid hM
  have HS := Lib.hid hs
  have HX := Lib.hid hx
  have HGM := Lib.hid (fun k hk => goodV_mem l 0 k hk)
  have HTK : Hid (goodV 0 (l.take n) = goodV 0 l) := Lib.hid (by rw [List.take_of_length_le (by rw [HL.out]; exact Nat.le_refl _)])
  clear hM hF hs hx h hr'
  go_enter Tryz.func29, Tryz.ntmps29
  go_wp2
  go_loopw [5, 6] (fun v5 v6 wr => ∃ (f a : Nat) (acc : List Fd), v6 = .int .i64 a ∧ a ≤ M ∧ M - a ≤ f ∧ acc.length ≤ a ∧ wr.ownsRow w.heap.size 53 3 v5 acc.length (mCells acc) ∧ New w wr ∧ Hid (acc ++ findV l words (goodV 0 l) f a = F)) (fun _ v6 _ => M - (intOf v6).toNat)
  case atStart => exact ⟨M, 0, [], rfl, by omega, by omega, by simp, World.ownsRow_nil _ _ _ _, New.refl _, HF⟩
  case round =>
    obtain ⟨f, a, acc, rfl, ha, hf, hal, own, hn2, H2⟩ := hrel
    by_cases hlt : a < M
    · obtain ⟨f, rfl⟩ : ∃ f', f = f' + 1 := ⟨f - 1, by omega⟩
      obtain ⟨wi, rfl⟩ : ∃ x, x = wr := ⟨_, rfl⟩
      obtain ⟨v5, hv5⟩ : ∃ x, x = u5 := ⟨_, rfl⟩
      subst hv5
      have B0 := Blk.made wi 53 #[.int .i64 (-1), .int .i64 0, .int .i64 0]
      have hfn : Hid (findV l words (goodV 0 l) (f + 1) a = if (bestV l words a (goodV 0 l)).2.2 = 0 then findV l words (goodV 0 l) f (a + 1) else bestV l words a (goodV 0 l) :: findV l words (goodV 0 l) f (bestV l words a (goodV 0 l)).2.2) := Lib.hid (by rw [findV, if_pos (by rw [HMl.out]; exact hlt)])
      have hbg : Hid ((bestV l words a (goodV 0 l)).2.2 ≠ 0 → a < (bestV l words a (goodV 0 l)).2.2 ∧ (bestV l words a (goodV 0 l)).2.2 ≤ words.length) := Lib.hid (bestV_gt (fun k hk => by obtain ⟨_, t, h1, h2⟩ := HGM.out k hk; exact ⟨t, h1, h2⟩))
      go_wp2
      go_loopw [8] (fun v8 wr => ∃ (k : Nat) (b : Fd), v8 = .int .i64 k ∧ k ≤ n ∧ New wi wr ∧ Blk wr wi.heap.size 53 #[.int .i64 (tpI b), .int .i64 (b.2.1 : Nat), .int .i64 (b.2.2 : Nat)] ∧ Hid (b = bestV l words a (goodV 0 (l.take k))) ∧ Hid (b.2.2 = 0 → b = (0, 0, 0))) (fun v8 _ => n - (intOf v8).toNat)
      case atStart => exact ⟨0, (0, 0, 0), rfl, by omega, (New.refl wi).alloc _, B0, Lib.hid rfl, Lib.hid (fun _ => rfl)⟩
      case round =>
        obtain ⟨k, b, rfl, hk, hn3, BB, H3, HZ⟩ := hrel
        have e0 := BB.cell' 0 _ rfl
        have e1 := BB.cell' 1 _ rfl
        have e2 := BB.cell' 2 _ rfl
        by_cases hkn : k < n
        · obtain ⟨bk, o, vt, t, rfl, ht, d1, d2, htr⟩ := (HTS.out.new (hn2.trans hn3)).at hkn
          obtain ⟨At, ct, rfl⟩ := TRd.form htr
          have htm := List.mem_of_getElem? ht
          have hsz := HS.out t htm
          have hxz := HX.out t htm
          have hbt := best_take (words := words) (a := a) ht
          rw [← H3.out] at hbt
          have hb0 := fun hm => better_none (b := b) (words := words) (a := a) ht hm
          have hb1 := fun e hm => better_some (b := b) (words := words) (a := a) (e := e) ht hm
          have HX2 := Lib.hid (fun w h h2 => rmatch_any (.agg #[.string t.1, .slice At t.2.length ct]) (.slice A' M c') t.1 t.2 words a w h h2 hsz hxz (by rw [HMl.out]; exact hm))
          have HT := Lib.hid htr
          have HWr := Lib.hid (HW.out.new (hn2.trans hn3))
          have hrv : ∀ (x : Int), rmatchV t.2 words a = x → (x = -1 ∧ bestV l words a (goodV 0 (l.take (k + 1))) = b) ∨ ∃ e9 : Nat, x = e9 ∧ bestV l words a (goodV 0 (l.take (k + 1))) = if b.2.2 < e9 then (k, a, e9) else b := by
            intro x hx
            by_cases hc : checkV t.2 = 0
            · rw [if_pos hc] at hbt
              rw [rmatch_good hc (by rw [HMl.out]; exact hlt)] at hx
              cases hmv : matchV t.2 words a with
              | none => rw [hmv] at hx; exact Or.inl ⟨hx.symm, hbt.trans (hb0 hmv)⟩
              | some e9 => rw [hmv] at hx; exact Or.inr ⟨e9, hx.symm, hbt.trans (hb1 e9 hmv)⟩
            · rw [if_neg hc] at hbt
              rw [rmatch_bad hc] at hx
              exact Or.inl ⟨hx.symm, hbt⟩
          obtain ⟨x, hx⟩ : ∃ x, rmatchV t.2 words a = x := ⟨_, rfl⟩
          have hrx := hrv x hx
          rw [hx] at HX2
          obtain ⟨nt, hnt⟩ : ∃ k, t.2.length = k := ⟨_, rfl⟩
          rw [hnt] at d2 HX2 HT
          have i0 : (0 : Int) ≤ (k : Int) := by omega
          have i1 : (k : Int) < (n : Int) := by omega
          clear hrv hx hbt hb0 hb1 htr hsz hxz htm ht
          rcases hrx with ⟨rfl, hbb⟩ | ⟨e9, rfl, hbb⟩
          · have HB := Lib.hid hbb
            have t1 : ¬ (b.2.2 : Int) < -1 := by omega
            clear hbb
            go_wp2_with (go_at_call 26; refine (HX2.out _ HT.out HWr.out).mono ?_; rintro e w9 ⟨rfl, hn9⟩; have e29 := (BB.new hn9).cell' 2 _ rfl)
            go_roundw
            case rel => exact ⟨k + 1, b, by go_num, by omega, hn3.trans hn9, BB.new hn9, Lib.hid HB.out.symm, HZ⟩
            case measure => simp [intOf]; omega
          · by_cases hbe : b.2.2 < e9
            · rw [if_pos hbe] at hbb
              have HB := Lib.hid hbb
              have t1 : (b.2.2 : Int) < (e9 : Int) := by omega
              have hp9 : tpI (k, a, e9) = (k : Int) := if_neg (by show e9 ≠ 0; omega)
              clear hbb
              go_wp2_with (go_at_call 26; refine (HX2.out _ HT.out HWr.out).mono ?_; rintro e w9 ⟨rfl, hn9⟩; have e29 := (BB.new hn9).cell' 2 _ rfl; have e19 := (BB.new hn9).cell' 1 _ rfl; have e09 := (BB.new hn9).cell' 0 _ rfl; have f29 := (BB.new hn9).free 2; have f19 := (BB.new hn9).free 1; have f09 := (BB.new hn9).free 0; have g1 := ((BB.new hn9).put 0 (.int .i64 (k : Nat))).cell' 1 _ rfl; have g2 := ((BB.new hn9).put 0 (.int .i64 (k : Nat))).free 1; have g3 := (((BB.new hn9).put 0 (.int .i64 (k : Nat))).put 1 (.int .i64 (a : Nat))).cell' 2 _ rfl; have g4 := (((BB.new hn9).put 0 (.int .i64 (k : Nat))).put 1 (.int .i64 (a : Nat))).free 2)
              go_roundw
              case rel =>
                refine ⟨k + 1, (k, a, e9), by go_num, by omega, ((((hn3.trans hn9).setCell (Nat.le_refl _) _).setCell (Nat.le_refl _) _).setCell (Nat.le_refl _) _), ?_, Lib.hid HB.out.symm, Lib.hid (fun hq => by have : e9 = 0 := hq; omega)⟩
                exact ((((BB.new hn9).put 0 _).put 1 _).put 2 _).same (by rw [hp9]; simp)
              case measure => simp [intOf]; omega
            · rw [if_neg hbe] at hbb
              have HB := Lib.hid hbb
              have t1 : ¬ (b.2.2 : Int) < (e9 : Int) := by omega
              clear hbb
              go_wp2_with (go_at_call 26; refine (HX2.out _ HT.out HWr.out).mono ?_; rintro e w9 ⟨rfl, hn9⟩; have e29 := (BB.new hn9).cell' 2 _ rfl)
              go_roundw
              case rel => exact ⟨k + 1, b, by go_num, by omega, hn3.trans hn9, BB.new hn9, Lib.hid HB.out.symm, HZ⟩
              case measure => simp [intOf]; omega
        · obtain rfl : k = n := by omega
          have hb := H3.out
          rw [HTK.out] at hb
          rw [← hb] at hfn hbg
          by_cases hb0 : b.2.2 = 0
          · have HN : Hid (acc ++ findV l words (goodV 0 l) f (a + 1) = F) := Lib.hid (by rw [← H2.out, hfn.out, if_pos hb0])
            have htp : tpI b = -1 := if_pos hb0
            rw [htp] at e0
            clear hb0 hb
            go_wp2
            go_roundw
            case rel => exact ⟨f, a + 1, acc, by go_num, by omega, by omega, by omega, own_new own hn3, hn2.trans hn3, HN⟩
            case measure => simp [intOf]; omega
          · obtain ⟨hb1, hb2⟩ := hbg.out hb0
            rw [HMl.out] at hb2
            have HN : Hid ((acc ++ [b]) ++ findV l words (goodV 0 l) f b.2.2 = F) := Lib.hid (by rw [← H2.out, hfn.out, if_neg hb0]; simp)
            have htp : tpI b = (b.1 : Nat) := if_neg hb0
            rw [htp] at e0 BB
            have q1 : ¬ (b.1 : Int) < 0 := by omega
            clear hb0 hb
            go_wp2_with (at_builtin; refine wpList_append_own _ rfl (.tmp 41) (.tmp 43) 51 rfl w.heap.size 53 j0 (.agg #[.int .i64 0, .int .i64 0, .int .i64 0]) 3 24 Tryz.underlying51 hj hy0 hy1 hy2 rfl (by decide) _ _ _ rfl ((own_new own hn3).alloc _) ⟨wr.heap.size, 0, none⟩ 1 1 [.int .i64 (b.1 : Nat), .int .i64 (b.2.1 : Nat), .int .i64 (b.2.2 : Nat)] rfl rfl ?c1 ?c2 ?c3 ?c4 ?c5 ?_)
            case c2 => simp [Value.oneCell']
            case c3 => simp [maxLen]; omega
            case c4 => omega
            case c5 => have := hn2.size; have := hn3.size; simp; omega
            intro v' w2 hown hg _
            have g2 := ((BB.alloc (.cells #[.int .i64 (b.1 : Nat), .int .i64 (b.2.1 : Nat), .int .i64 (b.2.2 : Nat)] 53)).grown hg (fun e => by have := (own.lt _ e.symm).2; omega)).cell' 2 _ rfl
            go_wp2
            go_roundw
            case rel => exact ⟨f, b.2.2, acc ++ [b], rfl, by omega, by omega, by simp; omega, own_to hown (by simp) (by rw [mCells_app]; rfl), Below.grown ((hn2.trans hn3).alloc _) hg (by have := hn2.size; have := hn3.size; simp; omega) (fun q hq => (own.lt q hq).1), HN⟩
            case measure => simp [intOf]; omega
    · obtain rfl : a = M := by omega
      have hacc : acc = F := by
        have := H2.out
        cases f with
        | zero => simpa [findV] using this
        | succ f => rw [findV, if_neg (by rw [HMl.out]; omega)] at this; simpa using this
      subst hacc
      obtain ⟨A9, c9, rfl, _, _, _⟩ := own_form own
      go_wp2
      go_ret
      exact ⟨_, rfl, own, hn2⟩
end Go.Proofs.YtpoelhnceebmkaaGreatDoor

namespace Go.Proofs.YtpoelhnceebmkaaGreatDoor
open Go Go.RowKit Go.Shelf
set_option linter.unusedSimpArgs false
set_option linter.unusedVariables false

theorem mCells_at : ∀ (l : List Fd) (k : Nat) (h : k < l.length), (mCells l)[k * 3]? = some (.int .i64 (l[k].1 : Nat)) ∧ (mCells l)[k * 3 + 1]? = some (.int .i64 (l[k].2.1 : Nat)) ∧ (mCells l)[k * 3 + 2]? = some (.int .i64 (l[k].2.2 : Nat))
  | [], _, h => by simp at h
  | x :: l, 0, _ => ⟨rfl, rfl, rfl⟩
  | x :: l, k + 1, h => by
    have ih := mCells_at l k (by simpa using h)
    have e1 : (k + 1) * 3 = k * 3 + 3 := by omega
    have e2 : mCells (x :: l) = .int .i64 x.1 :: .int .i64 x.2.1 :: .int .i64 x.2.2 :: mCells l := rfl
    rw [e1, e2]
    simpa using ih
set_option maxRecDepth 100000 in
set_option maxHeartbeats 2000000 in
theorem eqMt_same (A A' : Option Addr) (c c' n : Nat) (l : List Fd) (hl : l.length = n) (w : World) (hr : Rd w 3 A n (mCells l)) (hr' : Rd w 3 A' n (mCells l)) (hz : n ≤ 4294967295) :
    Calls Tryz.prog 27 #[.slice A n c, .slice A' n c'] w fun e w' => e = .returned (.bool true) ∧ New w w' := by
  have HL := Lib.hid hl
  clear hl
  go_enter Tryz.func27, Tryz.ntmps27
  go_wp2
  go_loopw [13] (fun v5 wr => ∃ i : Nat, v5 = .int .i64 i ∧ i ≤ n ∧ New w wr) (fun v5 _ => n - (intOf v5).toNat)
  case atStart => exact ⟨0, rfl, by omega, New.refl _⟩
  case round =>
    obtain ⟨i, rfl, hi, hn⟩ := hrel
    by_cases hlt : i < n
    · obtain ⟨bk, o, rfl, _, hc⟩ := (hr.below hn).2 (by omega)
      obtain ⟨bk', o', rfl, _, hc'⟩ := (hr'.below hn).2 (by omega)
      have hlt2 : i < l.length := by rw [HL.out]; exact hlt
      obtain ⟨q1, q2, q3⟩ := mCells_at l i hlt2
      have d1 := hc _ _ q1
      have d2 : wr.cell? ⟨bk, o + i * 3 + 1, none⟩ = some (.int .i64 (l[i].2.1 : Nat)) := hc _ _ q2
      have d3 : wr.cell? ⟨bk, o + i * 3 + 2, none⟩ = some (.int .i64 (l[i].2.2 : Nat)) := hc _ _ q3
      have d4 := hc' _ _ q1
      have d5 : wr.cell? ⟨bk', o' + i * 3 + 1, none⟩ = some (.int .i64 (l[i].2.1 : Nat)) := hc' _ _ q2
      have d6 : wr.cell? ⟨bk', o' + i * 3 + 2, none⟩ = some (.int .i64 (l[i].2.2 : Nat)) := hc' _ _ q3
      have i0 : (0 : Int) ≤ (i : Int) := by omega
      have i1 : (i : Int) < (n : Int) := by omega
      clear q1 q2 q3 hc hc'
      generalize l[i] = x at *
      go_wp2_with (fail)
      go_quiet (fail)
      go_wp2
      go_roundw
      case rel => exact ⟨i + 1, by go_num, by omega, hn.drewN nq⟩
      case measure => simp [intOf]; omega
    · obtain rfl : i = n := by omega
      go_wp2
      go_ret
      exact ⟨rfl, hn⟩

def optI : Option Nat → Int
  | some j => (j : Int)
  | none => -1
theorem rmatch_opt (ps : List Pt) (words : List ByteArray) (a : Int) : rmatchV ps words a = optI (matchT ps words a) := by
  unfold rmatchV
  cases matchT ps words a <;> rfl
def TOk (t : Tm) : Prop := t.2.length ≤ 10 ∧ ∀ p ∈ t.2, p.2.length ≤ 257
theorem TOk.sm {t : Tm} (h : TOk t) : SmT t.2 := ⟨by have := h.1; omega, fun p hp => by have := h.2 p hp; omega⟩
set_option maxRecDepth 100000 in
set_option maxHeartbeats 1000000 in
theorem notFew24 (v : Value) (nm : ByteArray) (ps : List Pt) (w : World) (h : TRd w v nm ps) :
    Calls Tryz.prog 24 #[v] w fun e w' => (∃ b, e = .returned (.bool (!b)) ∧ FewP nm ps b) ∧ New w w' := by
  obtain ⟨A, c, rfl, _⟩ := id h
  have HF := Lib.hid (fun w h => few_any (.agg #[.string nm, .slice A ps.length c]) nm ps w h)
  have hnS : New w (w.alloc (.cells #[.string nm, .slice A ps.length c] 25)) := (New.refl w).alloc _
  have HT2 := Lib.hid (h.new hnS)
  obtain ⟨n, hn⟩ : ∃ k, ps.length = k := ⟨_, rfl⟩
  rw [hn] at HF hnS HT2 ⊢
  clear h hn
  go_enter Tryz.func24, Tryz.ntmps24
  go_wp2_with (go_at_call 13; refine (HF.out _ HT2.out).mono ?_; rintro e w1 ⟨⟨b, rfl, hb⟩, hn1⟩; have HB := Lib.hid hb; clear hb)
  go_ret
  exact ⟨⟨b, rfl, HB.out⟩, hnS.trans hn1⟩

set_option maxRecDepth 100000 in
set_option maxHeartbeats 1000000 in
theorem indexT24 (A : Option Addr) (c n : Nat) (l : List Tm) (w : World) (hr : TsRd w A n l) (hz : n ≤ 4294967295) :
    Calls Tryz.prog 54 #[.slice A n c, .func (.func 24) #[] #[]] w fun e w' => (∃ i : Int, e = .returned (.int .i64 i) ∧ (i < 0 → ∀ t ∈ l, TOk t)) ∧ New w w' := by
  have HL := Lib.hid hr.1
  have HR := Lib.hid hr
  clear hr
  go_enter Tryz.func54, Tryz.ntmps54
  go_wp2
  go_loopw [8] (fun v wr => ∃ k : Nat, k ≤ n ∧ v = .int .i64 k ∧ New w wr ∧ Hid (∀ t ∈ l.take k, TOk t)) (fun v _ => n - (intOf v).toNat)
  case atStart => exact ⟨0, Nat.zero_le _, rfl, New.refl _, Lib.hid (by simp)⟩
  case round =>
    obtain ⟨k, hk, rfl, hn, H⟩ := hrel
    by_cases hlt : k < n
    · obtain ⟨bk, o, vt, t, rfl, ht, d1, d2, htr⟩ := (HR.out.new hn).at hlt
      obtain ⟨At, ct, rfl⟩ := TRd.form htr
      have HF := Lib.hid (fun w h => notFew24 (.agg #[.string t.1, .slice At t.2.length ct]) t.1 t.2 w h)
      have HT := Lib.hid htr
      have i0 : (0 : Int) ≤ (k : Int) := by omega
      have i1 : (k : Int) < (n : Int) := by omega
      have HTK : Hid (∀ q ∈ l.take (k + 1), q ∈ l.take k ∨ q = t) := Lib.hid (fun q hq => by
        obtain ⟨hi, he⟩ := List.getElem?_eq_some_iff.1 ht
        rw [List.take_succ_eq_append_getElem hi, List.mem_append, he] at hq
        simpa using hq)
      obtain ⟨nt, hnt⟩ : ∃ k, t.2.length = k := ⟨_, rfl⟩
      rw [hnt] at d2 HF HT
      clear htr ht
      go_wp2_with (go_at_call 24; refine (HF.out _ HT.out).mono ?_; rintro e w' ⟨⟨b, rfl, hb⟩, hn2⟩; have HB := Lib.hid hb; clear hb)
      · go_ret
        exact ⟨⟨k, rfl, fun h => by omega⟩, hn.trans hn2⟩
      · have hbt : b = true := by simpa using (by assumption : (!b) = false)
        subst hbt
        have HOK := Lib.hid (HB.out.1 rfl)
        go_roundw
        case rel => exact ⟨k + 1, by omega, by go_num, hn.trans hn2, Lib.hid (fun q hq => by
          rcases HTK.out q hq with h | rfl
          · exact H.out q h
          · exact HOK.out)⟩
        case measure => simp [intOf]; omega
    · obtain rfl : k = n := by omega
      go_wp2
      go_ret
      exact ⟨⟨-1, rfl, fun _ t ht => H.out t (by rw [List.take_of_length_le (by rw [HL.out]; exact Nat.le_refl _)]; exact ht)⟩, hn⟩
set_option maxRecDepth 100000 in
theorem containsT24 (A : Option Addr) (c n : Nat) (l : List Tm) (w : World) (hr : TsRd w A n l) (hz : n ≤ 4294967295) :
    Calls Tryz.prog 23 #[.slice A n c, .func (.func 24) #[] #[]] w fun e w' => (∃ b, e = .returned (.bool b) ∧ (b = false → ∀ t ∈ l, TOk t)) ∧ New w w' := by
  have HC := Lib.hid (indexT24 A c n l w hr hz)
  go_enter Tryz.func23, Tryz.ntmps23
  go_wp2_with (go_at_call 54; refine HC.out.mono ?_; rintro e w' ⟨⟨i, rfl, hi⟩, hn⟩; have HI := Lib.hid hi; clear hi)
  go_ret
  exact ⟨⟨_, rfl, fun h => HI.out (by have := of_decide_eq_false h; omega)⟩, hn⟩

theorem findV_len (l : List Tm) (words : List ByteArray) (g : List Nat) : ∀ (f a : Nat), (findV l words g f a).length ≤ f
  | 0, _ => by simp [findV]
  | f + 1, a => by
    rw [findV]
    split
    · split
      · exact Nat.le_succ_of_le (findV_len l words g f _)
      · rw [List.length_cons]; exact Nat.succ_le_succ (findV_len l words g f _)
    · simp
set_option maxRecDepth 100000 in
set_option maxHeartbeats 8000000 in
theorem law_matches (A : Option Addr) (c n : Nat) (l : List Tm) (v' : Value) (words : List ByteArray) (a : Int) (w : World) (h : TsRd w A n l) (h' : WRd w v' words) (hx : ∀ t ∈ l, ∀ p ∈ t.2, SzX p.2) :
    Calls Tryz.prog 5 #[.slice A n c, v', .int .i64 a] w fun e w' => e = .returned (.bool true) ∧ New w w' := by
  have HA := Lib.hid awake_any
  obtain ⟨A', c', rfl, hc1', hc2', hr'⟩ := h'
  have HW : Hid (WRd w (.slice A' words.length c') words) := Lib.hid ⟨A', c', rfl, hc1', hc2', hr'⟩
  have HTS := Lib.hid h
  have HX := Lib.hid hx
  have HL := Lib.hid h.1
  have HSH := Lib.hid (fun w h => short_any (.slice A' words.length c') words 150 w h (by omega))
  obtain ⟨M, hM⟩ : ∃ k, words.length = k := ⟨_, rfl⟩
  rw [hM] at HW hc1' HSH ⊢
  have HM := Lib.hid hM
  clear hM h hr' hx
  by_cases g1 : n ≤ 6
  · have t1 : decide ((6 : Int) < (n : Int)) = false := decide_eq_false (by omega)
    have HCT := Lib.hid (fun w h => containsT24 A c n l w h (by omega))
    go_enter Tryz.func5, Tryz.ntmps5
    go_wp2_with (first
      | (go_at_call 16; refine (HSH.out _ (HW.out.new (h0.trans h1))).mono ?_; rintro e w2 ⟨⟨b2, rfl, hb2, hb3⟩, rfl⟩)
      | (go_at_call 23; refine (HCT.out _ (HTS.out.new h0)).mono ?_; rintro e w1 ⟨⟨b1, rfl, hb1⟩, h1⟩; have HB1 := Lib.hid hb1; clear hb1)
      | (go_at_call 9; refine (HA.out _).mono ?_; rintro e w0 ⟨rfl, h0⟩))
    · exact bodyPost_ret (v := .bool true) (by simp [results, Tryz.results5, go_sem]) rfl ⟨rfl, h0.trans h1⟩
    · exact bodyPost_ret (v := .bool true) (by simp [results, Tryz.results5, go_sem]) rfl ⟨rfl, h0.trans h1⟩
    · have hb1f : b1 = false := by simpa using (by assumption : ¬ b1 = true)
      have hb2t : b2 = true := by simpa using (by assumption : (!b2) = false)
      have HOK := Lib.hid (HB1.out hb1f)
      have hM150 := hb2 hb2t
      subst hb1f hb2t
      have hSM := Lib.hid (fun t ht => (HOK.out t ht).sm)
      clear hb2 hb3 HSH HCT
      go_loopw [28] (fun v28 wr => ∃ k : Nat, v28 = .int .i64 k ∧ k ≤ n ∧ New w2 wr) (fun v28 _ => n - (intOf v28).toNat)
      case atStart => exact ⟨0, rfl, by omega, New.refl _⟩
      case round =>
        obtain ⟨k, rfl, hk, hn⟩ := hrel
        have hwn : New w wr := (h0.trans h1).trans hn
        by_cases hlt : k < n
        · obtain ⟨bk, o, vt, t, rfl, ht, d1, d2, htr⟩ := (HTS.out.new hwn).at hlt
          obtain ⟨At, ct, rfl⟩ := TRd.form htr
          have htm := List.mem_of_getElem? ht
          have HMT := Lib.hid (fun w h h2 => matchT_any (.agg #[.string t.1, .slice At t.2.length ct]) (.slice A' M c') t.1 t.2 words a w h h2 (hSM.out t htm) (by rw [HM.out]; omega))
          have HRM := Lib.hid (fun w h h2 => rmatch_any (.agg #[.string t.1, .slice At t.2.length ct]) (.slice A' M c') t.1 t.2 words a w h h2 (hSM.out t htm) (HX.out t htm) (by rw [HM.out]; omega))
          have HT := Lib.hid htr
          have HWr := Lib.hid (HW.out.new hwn)
          have i0 : (0 : Int) ≤ (k : Int) := by omega
          have i1 : (k : Int) < (n : Int) := by omega
          obtain ⟨mt, hmt⟩ : ∃ x, matchT t.2 words a = x := ⟨_, rfl⟩
          have hrv := rmatch_opt t.2 words a
          rw [hmt] at hrv
          rw [hmt] at HMT
          obtain ⟨nt, hnt⟩ : ∃ k, t.2.length = k := ⟨_, rfl⟩
          rw [hnt] at d2 HMT HRM HT
          have B25 := Blk.made wr 25 #[.string t.1, .slice At nt ct]
          have hnb : New wr (wr.alloc (.cells #[.string t.1, .slice At nt ct] 25)) := (New.refl wr).alloc _
          clear htr ht htm hmt hnt
          cases mt with
          | none =>
            simp only [optI] at hrv
            rw [hrv] at HRM
            clear hrv
            go_wp2_with (first
              | (go_at_call 26; refine (HRM.out _ ((HT.out.new hnb).new h3) ((HWr.out.new hnb).new h3)).mono ?_; rintro e w4 ⟨rfl, h4⟩)
              | (go_at_call 25; refine (HMT.out _ (HT.out.new hnb) (HWr.out.new hnb)).mono ?_; rintro e w3 ⟨rfl, h3⟩; have q0 := (B25.new h3).cell' 0 _ rfl; have q1 := (B25.new h3).cell' 1 _ rfl))
            go_roundw
            case rel =>
              (repeat apply Exists.intro)
              refine ⟨⟨k + 1, ?_, by omega, ((hn.trans hnb).trans h3).trans h4⟩, rfl⟩
              go_num
            case measure => simp [intOf]; omega
          | some j =>
            simp only [optI] at hrv
            rw [hrv] at HRM
            clear hrv
            have j1 : (0 : Int) ≤ (j : Int) := by omega
            go_wp2_with (first
              | (go_at_call 26; refine (HRM.out _ ((HT.out.new hnb).new h3) ((HWr.out.new hnb).new h3)).mono ?_; rintro e w4 ⟨rfl, h4⟩)
              | (go_at_call 25; refine (HMT.out _ (HT.out.new hnb) (HWr.out.new hnb)).mono ?_; rintro e w3 ⟨rfl, h3⟩; have q0 := (B25.new h3).cell' 0 _ rfl; have q1 := (B25.new h3).cell' 1 _ rfl))
            go_roundw
            case rel =>
              (repeat apply Exists.intro)
              refine ⟨⟨k + 1, ?_, by omega, ((hn.trans hnb).trans h3).trans h4⟩, rfl⟩
              go_num
            case measure => simp [intOf]; omega
        · obtain rfl : k = n := by omega
          have HFN := Lib.hid (fun w h h2 => find_any A c k l (.slice A' M c') words w h h2 (fun t ht => hSM.out t ht) (by omega) (by rw [HM.out]; omega))
          have HRF := Lib.hid (fun w h h2 => rfind_any A c k l (.slice A' M c') words w h h2 (fun t ht => hSM.out t ht) (fun t ht => HX.out t ht) (by omega) (by rw [HM.out]; omega))
          have HTr := Lib.hid (HTS.out.new hwn)
          have HWr := Lib.hid (HW.out.new hwn)
          have hfl := findV_len l words (goodV 0 l) words.length 0
          generalize findV l words (goodV 0 l) words.length 0 = F at *
          rw [HM.out] at hfl
          obtain ⟨nf, hnf⟩ : ∃ k, F.length = k := ⟨_, rfl⟩
          rw [hnf] at HFN HRF hfl
          have HNF := Lib.hid hnf
          clear hnf
          go_wp2_with (first
            | (go_at_call 27; refine (eqMt_same A3 A4 c3 c4 nf F HNF.out _ (r3.below h4) r4 (by omega)).mono ?_; rintro e w5 ⟨rfl, h5⟩)
            | (go_at_call 29; refine (HRF.out _ (HTr.out.new h3) (HWr.out.new h3)).mono ?_; rintro e w4 ⟨v4, rfl, o4, h4⟩; obtain ⟨A4, c4, rfl, _, _, r4⟩ := own_form o4)
            | (go_at_call 28; refine (HFN.out _ HTr.out HWr.out).mono ?_; rintro e w3 ⟨v3, rfl, o3, h3⟩; obtain ⟨A3, c3, rfl, _, _, r3⟩ := own_form o3))
          go_ret
          exact ⟨rfl, ((hwn.trans h3).trans h4).trans h5⟩
  · have t1 : decide ((6 : Int) < (n : Int)) = true := decide_eq_true (by omega)
    go_enter Tryz.func5, Tryz.ntmps5
    go_wp2_with (go_at_call 9; refine (HA.out _).mono ?_; rintro e w0 ⟨rfl, h0⟩)
    go_ret
    exact ⟨rfl, h0⟩
end Go.Proofs.YtpoelhnceebmkaaGreatDoor

