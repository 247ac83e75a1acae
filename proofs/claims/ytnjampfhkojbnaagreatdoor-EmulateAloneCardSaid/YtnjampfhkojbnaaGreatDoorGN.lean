/- binary.words' closure: four bytes are taken. Conditions: the places are right, the bytes taken are known. (Printed by mk-n.py.) -/
import Derived.Test.YtnjampfhkojbnaaGreatDoorGBase
import Derived.Test.YtnjampfhkojbnaaGreatDoorGM
import Derived.Maps.AppendAt
import Derived.Maps.RangeWalk
import Derived.Deep.RegionHeld3

namespace Go.Proofs.YtnjampfhkojbnaaGreatDoor
open Go Go.RowKit Go.Joins
set_option linter.unusedSimpArgs false
set_option linter.unusedVariables false

/-! ### slices.Contains of a bool -/
def idxB (l : List Bool) : Int := match l.findIdx? (fun b => b) with
  | some k => (k : Int)
  | none => -1
theorem idxB_find {l : List Bool} {k : Nat} (hp : l[k]? = some true) (hno : ∀ q ∈ l.take k, q = false) : idxB l = (k : Int) := by
  have : l.findIdx? (fun b => b) = some k := by
    rw [List.findIdx?_eq_some_iff_getElem]
    obtain ⟨hk, h2⟩ := List.getElem?_eq_some_iff.1 hp
    refine ⟨hk, h2, fun j hj => ?_⟩
    have := hno l[j] (List.mem_take_iff_getElem.2 ⟨j, by omega, rfl⟩)
    rw [this]; decide
  unfold idxB
  rw [this]
theorem idxB_none {l : List Bool} (hno : ∀ q ∈ l, q = false) : idxB l = -1 := by
  have : l.findIdx? (fun b => b) = none := by
    rw [List.findIdx?_eq_none_iff]
    intro q hq
    rw [hno q hq]
  unfold idxB
  rw [this]
theorem idxB_any (l : List Bool) : decide (0 ≤ idxB l) = l.any (fun b => b) := by
  unfold idxB
  cases h : l.findIdx? (fun b => b) with
  | none =>
    rw [List.findIdx?_eq_none_iff] at h
    symm
    rw [List.any_eq_false.2 (fun x hx => by rw [h x hx]; decide)]
    rfl
  | some k =>
    obtain ⟨h1, h2, _⟩ := List.findIdx?_eq_some_iff_getElem.1 h
    symm
    rw [List.any_eq_true.2 ⟨_, List.getElem_mem h1, h2⟩]
    simp
set_option maxRecDepth 100000 in
set_option maxHeartbeats 2000000 in
theorem indexB_any (l : List Bool) (A : Option Addr) (n c : Nat) (w : World) (hl : l.length = n) (hr : Rd w 1 A n (l.map Value.bool)) (hn : n ≤ 4294967295) :
    Calls Tryz.prog 138 #[.slice A n c, .bool true] w fun e w' => e = .returned (.int .i64 (idxB l)) ∧ w = w' := by
  have HL := Lib.hid hl
  have HR := Lib.hid hr
  obtain ⟨X, hX⟩ : ∃ X, idxB l = X := ⟨_, rfl⟩
  rw [hX]
  have HX := Lib.hid hX
  clear hl hr hX
  go_enter Tryz.func138, Tryz.ntmps138
  go_wp2
  go_loop [8] (fun v8 => ∃ k : Nat, v8 = .int .i64 k ∧ k ≤ n ∧ Hid (∀ q ∈ l.take k, q = false)) (fun v8 => n - (intOf v8).toNat)
  case atStart => exact ⟨0, rfl, by omega, Lib.hid (by simp)⟩
  case round =>
    obtain ⟨k, rfl, hk, HNO⟩ := hrel
    by_cases hlt : k < n
    · have hkl : k < l.length := by rw [HL.out]; exact hlt
      obtain ⟨bk, o, rfl, hbk, hcell⟩ := HR.out.2 (by omega)
      obtain ⟨x, hx⟩ : ∃ x, l[k]? = some x := ⟨_, List.getElem?_eq_getElem hkl⟩
      have q0 := hcell k (.bool x) (by rw [List.getElem?_map, hx]; rfl)
      have HTK : Hid (∀ q ∈ l.take (k + 1), q ∈ l.take k ∨ q = x) := Lib.hid (fun q hq => by
        obtain ⟨hi, he⟩ := List.getElem?_eq_some_iff.1 hx
        rw [List.take_succ_eq_append_getElem hi, List.mem_append, he] at hq
        simpa using hq)
      have i0 : (0 : Int) ≤ (k : Int) := by omega
      have i1 : (k : Int) < (n : Int) := by omega
      clear hcell hkl
      cases x
      · clear hx
        go_wp2
        go_round
        case rel => exact ⟨k + 1, by go_num, by omega, Lib.hid (fun q hq => by
          rcases HTK.out q hq with h | rfl
          · exact HNO.out q h
          · rfl)⟩
        case measure => simp [intOf]; omega
      · have hx2 : X = (k : Int) := by rw [← HX.out]; exact idxB_find hx HNO.out
        subst hx2
        clear hx
        go_wp2
        go_ret
        exact ⟨rfl, rfl⟩
    · obtain rfl : k = n := by omega
      have hx : X = -1 := by
        rw [← HX.out]
        exact idxB_none (fun q hq => HNO.out q (by rw [List.take_of_length_le (by rw [HL.out]; exact Nat.le_refl _)]; exact hq))
      subst hx
      go_wp2
      go_ret
      exact ⟨rfl, rfl⟩
theorem hasB_any (l : List Bool) (A : Option Addr) (n c : Nat) (w : World) (hl : l.length = n) (hr : Rd w 1 A n (l.map Value.bool)) (hn : n ≤ 4294967295) :
    Calls Tryz.prog 113 #[.slice A n c, .bool true] w fun e w' => e = .returned (.bool (l.any (fun b => b))) ∧ New w w' := by
  rw [← idxB_any]
  have HI := Lib.hid (indexB_any l A n c w hl hr hn)
  generalize idxB l = X at *
  clear hl hr
  go_enter Tryz.func113, Tryz.ntmps113
  go_wp2_with (go_at_call 138; (with_reducible refine HI.out.mono ?_); rintro e w1 ⟨rfl, rfl⟩)
  go_ret
  exact ⟨rfl, New.refl _⟩

/-! ### the bytes that are taken, in memory -/
def markV (n : Nat) (T : List Int) (a i : Nat) : List Value := (List.range n).map fun (j : Nat) => Value.bool (decide (a ≤ j) && decide (j < a + i) || coverB T (j : Int))
theorem mark_zero (n : Nat) (T : List Int) (a : Nat) : markV n T a 0 = useV n T := by
  unfold markV useV
  refine List.map_congr_left fun j _ => ?_
  have : (decide (a ≤ j) && decide (j < a + 0)) = false := by
    cases h1 : decide (a ≤ j)
    · rfl
    · have := of_decide_eq_true h1
      rw [Bool.true_and]; exact decide_eq_false (by omega)
  rw [this]; rfl
theorem mark_four (n : Nat) (T : List Int) (a : Nat) : markV n T a 4 = useV n ((a : Int) :: T) := by
  unfold markV useV
  refine List.map_congr_left fun j _ => ?_
  rw [cover_cons]
  congr 2
  rw [Bool.eq_iff_iff]
  simp only [Bool.and_eq_true, decide_eq_true_eq]
  omega
theorem mark_length (n : Nat) (T : List Int) (a i : Nat) : (markV n T a i).length = n := by simp [markV]
theorem mark_at {n : Nat} {T : List Int} {a i j : Nat} (h : j < n) : ∃ x, (markV n T a i)[j]? = some (.bool x) := by
  unfold markV
  rw [List.getElem?_map, List.getElem?_range h]
  exact ⟨_, rfl⟩
theorem mark_put (n : Nat) (T : List Int) (a i : Nat) : (markV n T a i).toArray.setIfInBounds (a + i) (.bool true) = (markV n T a (i + 1)).toArray := by
  rw [List.setIfInBounds_toArray]
  congr 1
  apply List.ext_getElem?
  intro j
  rw [List.getElem?_set]
  by_cases hj : j < n
  · by_cases e : a + i = j
    · subst e
      rw [if_pos rfl, if_pos (by rw [mark_length]; exact hj)]
      unfold markV
      rw [List.getElem?_map, List.getElem?_range hj]
      simp
    · rw [if_neg e]
      unfold markV
      rw [List.getElem?_map, List.getElem?_map, List.getElem?_range hj]
      simp only [Option.map_some]
      congr 3
      rw [Bool.eq_iff_iff]
      simp only [Bool.and_eq_true, decide_eq_true_eq]
      omega
  · by_cases e : a + i = j
    · rw [if_pos e, if_neg (by rw [mark_length]; omega), List.getElem?_eq_none (by rw [mark_length]; omega)]
    · rw [if_neg e, List.getElem?_eq_none (by rw [mark_length]; omega), List.getElem?_eq_none (by rw [mark_length]; omega)]
theorem grown_put {w w' : World} {g : Nat} (h : w.grownBy w' (some g)) (i : Nat) (u : Value) : w.grownBy (w'.setCell ⟨g, i, none⟩ u) (some g) :=
  ⟨h.os, h.tape, h.output, by simpa [World.setCell] using h.size, fun k hk hne => by
    rw [← h.block k hk hne]
    simp only [World.setCell]
    rw [Array.getElem?_modify, if_neg (fun e => hne (by rw [e]))]⟩
theorem grown_new {w w' w2 : World} {r : Option Nat} (h : w.grownBy w' r) (k : New w' w2) : w.grownBy w2 r := World.grownBy.trans h ((k.grown_ none).but r)
theorem new_grown {w w' : World} (k : New w w') (r : Option Nat) : w.grownBy w' r := (k.grown_ none).but r
set_option maxRecDepth 100000 in
set_option maxHeartbeats 4000000 in
theorem take_any (b : Bn) (h : BH) (T : List Int) (a : Int) (gb gu gB N : Nat) (w : World) (hP : PlOK b) (hr : BRd w b h) (hb : Blk w gb 28 (bcells b h)) (hu : Blk w gu 169 #[.slice (some ⟨gB, 0, none⟩) N N])
    (hB : Blk w gB 4 (useV N T).toArray) (hN : b.image.size = N) (ha : W64 a) (hne : gu ≠ gB) :
    Calls Tryz.prog 111 #[.int .i64 a, .pointer (some ⟨gb, 0, none⟩), .pointer (some ⟨gu, 0, none⟩)] w fun e w' => e = .returned (.bool (takeV b.places T a)) ∧ w.grownBy w' (some gB) ∧ Hid (takeV b.places T a = true → Blk w' gB 4 (useV N (a :: T)).toArray) := by
  have HA := Lib.hid (fun W h2 => at_any b h a W h2 ha hP.wf (by have := hP.len; omega))
  have hx := idxV_ge b.places a
  have HW := Lib.hid (fun h0 : ¬ 0 ≤ idxV b.places a => idx_neg h0)
  have HS := Lib.hid (fun h0 : 0 ≤ idxV b.places a => idx_some h0)
  have HI := Lib.hid (fun (k : Nat) (p : PlD) (h1 : b.places[k]? = some p) (h2 : inV p a = true) => within_at hP.ord h1 h2)
  have HM := Lib.hid hP.mem
  have hT : takeV b.places T a = (withinV b.places a && !clash T a) := rfl
  have hle := hP.le
  rw [hN] at HM hle
  have HR := Lib.hid hr
  obtain ⟨kind, entry, image, places, fix, imps, exps, notes⟩ := b
  obtain ⟨a1, c1, a2, c2, a3, c3, a4, c4, a5, c5⟩ := h
  simp only [bcells] at hb HA HW HS HI HM hT hx hN ⊢
  rw [hT]
  have g0 := hb.cell' 0 _ rfl
  have g1 := hb.cell' 1 _ rfl
  have g2 := hb.cell' 2 _ rfl
  have g3 := hb.cell' 3 _ rfl
  have g4 := hb.cell' 4 _ rfl
  have g5 := hb.cell' 5 _ rfl
  have g6 := hb.cell' 6 _ rfl
  have g7 := hb.cell' 7 _ rfl
  have gu0 := hu.cell' 0 _ rfl
  have hR1 := HR.out.r1
  simp only at hR1
  generalize fix.length = n2 at *
  generalize imps.length = n3 at *
  generalize exps.length = n4 at *
  generalize notes.length = n5 at *
  obtain ⟨n, hn⟩ : ∃ n, places.length = n := ⟨_, rfl⟩
  rw [hn] at hR1 HA g3 hx hb
  have HNL := Lib.hid hn
  have HR1 := Lib.hid hR1
  obtain ⟨X, hX⟩ : ∃ X, idxV places a = X := ⟨_, rfl⟩
  rw [hX] at HA HW HS hx
  have HAW := Lib.hid (fun W hW => HA.out W (HR.out.new hW))
  have HB := Lib.hid hB
  clear hT hr hX hP hR1 hn HA hB
  skip
  by_cases h0 : 0 ≤ X
  · obtain ⟨k, p, hk, hp, hin⟩ := HS.out h0
    have HE := Lib.hid (HI.out k p hp hin)
    obtain ⟨m1, m2, m3⟩ := HM.out p (List.mem_of_getElem? hp)
    have hkl : k < n := by rw [← HNL.out]; exact (List.getElem?_eq_some_iff.1 hp).1
    obtain ⟨bk, o, rfl, hbk, p', hp', hcell⟩ := rd_row (f := plC) (k := 5) (fun _ => rfl) HNL.out HR1.out hkl
    obtain rfl : p' = p := by rw [hp] at hp'; exact (Option.some.inj hp').symm
    have q3 := hcell 3 (.int .i64 p'.pos) (by omega) rfl
    have q4 := hcell 4 (.int .i64 p'.size) (by omega) rfl
    rw [← Nat.add_assoc] at q3 q4
    obtain ⟨po, ps, pk, pa, pz⟩ := p'
    unfold inV at hin
    simp only [Bool.and_eq_true, decide_eq_true_eq] at hin
    simp only at q3 q4 m1 m2 m3 HE
    obtain ⟨⟨i1, i2⟩, i3⟩ := hin
    obtain ⟨an, rfl⟩ : ∃ an : Nat, a = (an : Int) := ⟨a.toNat, by omega⟩
    have hm : max X 0 = (k : Int) := by omega
    rw [decide_eq_true h0, hm] at HAW
    have wa : IntKind.i64.wrap ((an : Int) + 4) = (an : Int) + 4 := IntWalk.i64_in _ (by omega)
    have wb : IntKind.i64.wrap (pa + pz) = pa + pz := IntWalk.i64_in _ (by omega)
    have k0 : (0 : Int) ≤ (k : Int) := by omega
    have k1 : (k : Int) < (n : Int) := by omega
    have a0 : (0 : Int) ≤ (an : Int) := by omega
    clear hcell hp hp' hm h0 hx hk HS HI HM i1 i2 i3 HW
    by_cases hwi : (an : Int) + 4 ≤ pa + pz
    · have hW := HE.out
      rw [decide_eq_true hwi] at hW
      rw [hW, Bool.true_and]
      have t1 : decide (pa + pz < (an : Int) + 4) = false := decide_eq_false (by omega)
      have aN : ¬ N = an := by omega
      have a4 : (an : Int) + 4 ≤ (N : Int) := by omega
      have a5' : an + 4 ≤ N := by omega
      have a6 : (an : Int) ≤ (an : Int) + 4 := by omega
      have a7 : (0 : Int) ≤ (an : Int) + 4 := by omega
      have m4 : ((an : Int) + 4).toNat = an + 4 := by omega
      have hRd : ∀ W, New w W → Rd W 1 (some ⟨gB, an, none⟩) 4 ([coverB T an, coverB T (an + 1), coverB T (an + 2), coverB T (an + 3)].map Value.bool) := fun W hW => by
        refine ⟨rfl, fun _ => ⟨gB, an, rfl, by have := HB.out.lt; have := hW.size; omega, fun j u hu => ?_⟩⟩
        have hj : j < 4 := by
          rcases Nat.lt_or_ge j 4 with h | h
          · exact h
          · rw [List.getElem?_eq_none (by simpa using h)] at hu; cases hu
        refine (HB.out.new hW).cell' _ _ ?_
        rw [List.getElem?_toArray, useV_at (by omega), ← hu]
        have : j = 0 ∨ j = 1 ∨ j = 2 ∨ j = 3 := by omega
        rcases this with rfl | rfl | rfl | rfl <;> simp
      have HCL := Lib.hid (clash_iff T (an : Int))
      have HC : Hid (∀ W, New w W → Calls Tryz.prog 113 #[.slice (some ⟨gB, an, none⟩) 4 (N - an), .bool true] W fun e w' => e = .returned (.bool (clash T (an : Int))) ∧ New W w') := Lib.hid (fun W hW => by
        have := hasB_any _ (some ⟨gB, an, none⟩) 4 (N - an) W rfl (hRd W hW) (by omega)
        rw [HCL.out]
        simpa [Bool.or_assoc] using this)
      clear hRd hW
      obtain ⟨cl, hcl⟩ : ∃ cl, clash T (an : Int) = cl := ⟨_, rfl⟩
      rw [hcl] at HC ⊢
      clear hcl HCL
      cases cl
      · go_enter Tryz.func111, Tryz.ntmps111
        go_wp2_with (go_at_call 112; (with_reducible refine (HAW.out _ (New.refl _)).mono ?_); rintro e w1 ⟨rfl, n1⟩; have g3' := cell_new n1 g3; have q3' := cell_new n1 q3; have q4' := cell_new n1 q4; have gu0' := cell_new n1 gu0)
        refine wp_region_held_drew (S := New _) (by kernel_rfl) (New.refl _).drew (fun hS => ?_)
        refine tkQ (i := 0) (oi := ?o85) (v := ?v85) ?h85 ?q85 ?y85 hS ?_; (case h85 => (simp only [gqA, gqB, gqC]; rfl)); (case q85 => exact fun _ _ _ h => h); (case y85 => (refine Or.inl ⟨by kernel_rfl, ?_⟩; intro wq hSq; clear hSq; go_simp; (try with_reducible rfl))); simp only [Act.put, List.setIfInBounds_toArray, List.set_cons_zero, List.set_cons_succ]
        refine tkQ (i := 1) (oi := ?o86) (v := ?v86) ?h86 ?q86 ?y86 hS ?_; (case h86 => (simp only [gqA, gqB, gqC]; rfl)); (case q86 => exact fun _ _ _ h => h); (case y86 => (refine Or.inl ⟨by kernel_rfl, ?_⟩; intro wq hSq; clear hSq; go_simp; (try with_reducible rfl))); simp only [Act.put, List.setIfInBounds_toArray, List.set_cons_zero, List.set_cons_succ]
        refine tkQ (i := 2) (oi := ?o87) (v := ?v87) ?h87 ?q87 ?y87 hS ?_; (case h87 => (simp only [gqA, gqB, gqC]; rfl)); (case q87 => exact fun _ _ _ h => h); (case y87 => (refine Or.inl ⟨by kernel_rfl, ?_⟩; intro wq hSq; clear hSq; go_simp; (try with_reducible rfl))); simp only [Act.put, List.setIfInBounds_toArray, List.set_cons_zero, List.set_cons_succ]
        refine tkQ (i := 3) (oi := ?o88) (v := ?v88) ?h88 ?q88 ?y88 hS ?_; (case h88 => (simp only [gqA, gqB, gqC]; rfl)); (case q88 => exact fun _ _ _ h => h); (case y88 => (refine Or.inl ⟨by kernel_rfl, ?_⟩; intro wq hSq; clear hSq; go_simp; (try with_reducible rfl))); simp only [Act.put, List.setIfInBounds_toArray, List.set_cons_zero, List.set_cons_succ]
        refine tkQ (i := 4) (oi := ?o89) (v := ?v89) ?h89 ?q89 ?y89 hS ?_; (case h89 => (simp only [gqA, gqB, gqC]; rfl)); (case q89 => exact fun _ _ _ h => h); (case y89 => (refine Or.inl ⟨by kernel_rfl, ?_⟩; intro wq hSq; clear hSq; go_simp; (try with_reducible rfl))); simp only [Act.put, List.setIfInBounds_toArray, List.set_cons_zero, List.set_cons_succ]
        refine tkQ (i := 5) (oi := ?o90) (v := ?v90) ?h90 ?q90 ?y90 hS ?_; (case h90 => (simp only [gqA, gqB, gqC]; rfl)); (case q90 => exact fun _ _ _ h => h); (case y90 => (refine Or.inl ⟨by kernel_rfl, ?_⟩; intro wq hSq; clear hSq; go_simp; (try with_reducible rfl))); simp only [Act.put, List.setIfInBounds_toArray, List.set_cons_zero, List.set_cons_succ]
        refine tkQ (i := 6) (oi := ?o91) (v := ?v91) ?h91 ?q91 ?y91 hS ?_; (case h91 => (simp only [gqA, gqB, gqC]; rfl)); (case q91 => exact fun _ _ _ h => h); (case y91 => (refine Or.inl ⟨by kernel_rfl, ?_⟩; intro wq hSq; have hf0 := cell_new hSq g3'; have hf1 := cell_new hSq q3'; have hf2 := cell_new hSq q4'; have hf3 := cell_new hSq gu0'; clear hSq; go_simp; (try with_reducible rfl))); simp only [Act.put, List.setIfInBounds_toArray, List.set_cons_zero, List.set_cons_succ]
        refine tkQ (i := 7) (oi := ?o92) (v := ?v92) ?h92 ?q92 ?y92 hS ?_; (case h92 => (simp only [gqA, gqB, gqC]; rfl)); (case q92 => exact fun _ _ _ h => h); (case y92 => (refine Or.inl ⟨by kernel_rfl, ?_⟩; intro wq hSq; clear hSq; go_simp; (try with_reducible rfl))); simp only [Act.put, List.setIfInBounds_toArray, List.set_cons_zero, List.set_cons_succ]
        refine tkQ (i := 8) (oi := ?o93) (v := ?v93) ?h93 ?q93 ?y93 hS ?_; (case h93 => (simp only [gqA, gqB, gqC]; rfl)); (case q93 => exact fun _ _ _ h => h); (case y93 => (refine Or.inl ⟨by kernel_rfl, ?_⟩; intro wq hSq; clear hSq; go_simp; (try with_reducible rfl))); simp only [Act.put, List.setIfInBounds_toArray, List.set_cons_zero, List.set_cons_succ]
        refine tkQ (i := 9) (oi := ?o94) (v := ?v94) ?h94 ?q94 ?y94 hS ?_; (case h94 => (simp only [gqA, gqB, gqC]; rfl)); (case q94 => exact fun _ _ _ h => h); (case y94 => (refine Or.inl ⟨by kernel_rfl, ?_⟩; intro wq hSq; clear hSq; go_simp; (try with_reducible rfl))); simp only [Act.put, List.setIfInBounds_toArray, List.set_cons_zero, List.set_cons_succ]
        refine tkQ (i := 10) (oi := ?o95) (v := ?v95) ?h95 ?q95 ?y95 hS ?_; (case h95 => (simp only [gqA, gqB, gqC]; rfl)); (case q95 => exact fun _ _ _ h => h); (case y95 => (refine Or.inl ⟨by kernel_rfl, ?_⟩; intro wq hSq; have hf0 := cell_new hSq g3'; have hf1 := cell_new hSq q3'; have hf2 := cell_new hSq q4'; have hf3 := cell_new hSq gu0'; clear hSq; go_simp; (try with_reducible rfl))); simp only [Act.put, List.setIfInBounds_toArray, List.set_cons_zero, List.set_cons_succ]
        refine tkQ (i := 11) (oi := ?o96) (v := ?v96) ?h96 ?q96 ?y96 hS ?_; (case h96 => (simp only [gqA, gqB, gqC]; rfl)); (case q96 => exact fun _ _ _ h => h); (case y96 => (refine Or.inl ⟨by kernel_rfl, ?_⟩; intro wq hSq; clear hSq; go_simp; (try with_reducible rfl))); simp only [Act.put, List.setIfInBounds_toArray, List.set_cons_zero, List.set_cons_succ]
        refine tkQ (i := 12) (oi := ?o97) (v := ?v97) ?h97 ?q97 ?y97 hS ?_; (case h97 => (simp only [gqA, gqB, gqC]; rfl)); (case q97 => exact fun _ _ _ h => h); (case y97 => (refine Or.inl ⟨by kernel_rfl, ?_⟩; intro wq hSq; have hf0 := cell_new hSq g3'; have hf1 := cell_new hSq q3'; have hf2 := cell_new hSq q4'; have hf3 := cell_new hSq gu0'; clear hSq; go_simp; (try with_reducible rfl))); simp only [Act.put, List.setIfInBounds_toArray, List.set_cons_zero, List.set_cons_succ]
        refine tkQ (i := 13) (oi := ?o98) (v := ?v98) ?h98 ?q98 ?y98 hS ?_; (case h98 => (simp only [gqA, gqB, gqC]; rfl)); (case q98 => exact fun _ _ _ h => h); (case y98 => (refine Or.inl ⟨by kernel_rfl, ?_⟩; intro wq hSq; clear hSq; go_simp; (try with_reducible rfl))); simp only [Act.put, List.setIfInBounds_toArray, List.set_cons_zero, List.set_cons_succ]
        refine tkQ (i := 14) (oi := ?o99) (v := ?v99) ?h99 ?q99 ?y99 hS ?_; (case h99 => (simp only [gqA, gqB, gqC]; rfl)); (case q99 => exact fun _ _ _ h => h); (case y99 => (refine Or.inl ⟨by kernel_rfl, ?_⟩; intro wq hSq; clear hSq; go_simp; (try with_reducible rfl))); simp only [Act.put, List.setIfInBounds_toArray, List.set_cons_zero, List.set_cons_succ]
        refine tkQ (i := 15) (oi := ?o100) (v := ?v100) ?h100 ?q100 ?y100 hS ?_; (case h100 => (simp only [gqA, gqB, gqC]; rfl)); (case q100 => exact fun _ _ _ h => h); (case y100 => (refine Or.inl ⟨by kernel_rfl, ?_⟩; intro wq hSq; clear hSq; go_simp; (try with_reducible rfl))); simp only [Act.put, List.setIfInBounds_toArray, List.set_cons_zero, List.set_cons_succ]
        refine tkQ (i := 16) (oi := ?o101) (v := ?v101) ?h101 ?q101 ?y101 hS ?_; (case h101 => (simp only [gqA, gqB, gqC]; rfl)); (case q101 => exact fun _ _ _ h => h); (case y101 => (refine Or.inl ⟨by kernel_rfl, ?_⟩; intro wq hSq; have hf0 := cell_new hSq g3'; have hf1 := cell_new hSq q3'; have hf2 := cell_new hSq q4'; have hf3 := cell_new hSq gu0'; clear hSq; go_simp; (try with_reducible rfl))); simp only [Act.put, List.setIfInBounds_toArray, List.set_cons_zero, List.set_cons_succ]
        refine tkQ (i := 17) (oi := ?o102) (v := ?v102) ?h102 ?q102 ?y102 hS ?_; (case h102 => (simp only [gqA, gqB, gqC]; rfl)); (case q102 => exact fun _ _ _ h => h); (case y102 => (refine Or.inl ⟨by kernel_rfl, ?_⟩; intro wq hSq; clear hSq; go_simp; (try with_reducible rfl))); simp only [Act.put, List.setIfInBounds_toArray, List.set_cons_zero, List.set_cons_succ]
        refine tkQ (i := 18) (oi := ?o103) (v := ?v103) ?h103 ?q103 ?y103 hS ?_; (case h103 => (simp only [gqA, gqB, gqC]; rfl)); (case q103 => exact fun _ _ _ h => h); (case y103 => (refine Or.inl ⟨by kernel_rfl, ?_⟩; intro wq hSq; clear hSq; go_simp; (try with_reducible rfl))); simp only [Act.put, List.setIfInBounds_toArray, List.set_cons_zero, List.set_cons_succ]
        refine tkQ (i := 19) (oi := ?o104) (v := ?v104) ?h104 ?q104 ?y104 hS ?_; (case h104 => (simp only [gqA, gqB, gqC]; rfl)); (case q104 => exact fun _ _ _ h => h); (case y104 => (refine Or.inl ⟨by kernel_rfl, ?_⟩; intro wq hSq; clear hSq; go_simp; (try with_reducible rfl))); simp only [Act.put, List.setIfInBounds_toArray, List.set_cons_zero, List.set_cons_succ]
        refine tkQ (i := 20) (oi := ?o105) (v := ?v105) ?h105 ?q105 ?y105 hS ?_; (case h105 => (simp only [gqA, gqB, gqC]; rfl)); (case q105 => exact fun _ _ _ h => h); (case y105 => (refine Or.inl ⟨by kernel_rfl, ?_⟩; intro wq hSq; clear hSq; go_simp; (try with_reducible rfl))); simp only [Act.put, List.setIfInBounds_toArray, List.set_cons_zero, List.set_cons_succ]
        refine tkQ (i := 21) (oi := ?o106) (v := ?v106) ?h106 ?q106 ?y106 hS ?_; (case h106 => (simp only [gqA, gqB, gqC]; rfl)); (case q106 => exact fun _ _ _ h => h); (case y106 => (refine Or.inl ⟨by kernel_rfl, ?_⟩; intro wq hSq; have hf0 := cell_new hSq g3'; have hf1 := cell_new hSq q3'; have hf2 := cell_new hSq q4'; have hf3 := cell_new hSq gu0'; clear hSq; go_simp; (try with_reducible rfl))); simp only [Act.put, List.setIfInBounds_toArray, List.set_cons_zero, List.set_cons_succ]
        refine tkQ (i := 22) (oi := ?o107) (v := ?v107) ?h107 ?q107 ?y107 hS ?_; (case h107 => (simp only [gqA, gqB, gqC]; rfl)); (case q107 => exact fun _ _ _ h => h); (case y107 => (refine Or.inl ⟨by kernel_rfl, ?_⟩; intro wq hSq; clear hSq; go_simp; (try with_reducible rfl))); simp only [Act.put, List.setIfInBounds_toArray, List.set_cons_zero, List.set_cons_succ]
        refine tkQ (i := 23) (oi := ?o108) (v := ?v108) ?h108 ?q108 ?y108 hS ?_; (case h108 => (simp only [gqA, gqB, gqC]; rfl)); (case q108 => exact fun _ _ _ h => h); (case y108 => (refine Or.inl ⟨by kernel_rfl, ?_⟩; intro wq hSq; clear hSq; go_simp; (try with_reducible rfl))); simp only [Act.put, List.setIfInBounds_toArray, List.set_cons_zero, List.set_cons_succ]
        refine tkQ (i := 24) (oi := ?o109) (v := ?v109) ?h109 ?q109 ?y109 hS ?_; (case h109 => (simp only [gqA, gqB, gqC]; rfl)); (case q109 => exact fun _ _ _ h => h); (case y109 => (refine Or.inl ⟨by kernel_rfl, ?_⟩; intro wq hSq; clear hSq; go_simp; (try with_reducible rfl))); simp only [Act.put, List.setIfInBounds_toArray, List.set_cons_zero, List.set_cons_succ]
        refine tkQ (i := 25) (oi := ?o110) (v := ?v110) ?h110 ?q110 ?y110 hS ?_; (case h110 => (simp only [gqA, gqB, gqC]; rfl)); (case q110 => exact fun _ _ _ h => h); (case y110 => (refine Or.inl ⟨by kernel_rfl, ?_⟩; intro wq hSq; clear hSq; go_simp; (try with_reducible rfl))); simp only [Act.put, List.setIfInBounds_toArray, List.set_cons_zero, List.set_cons_succ]
        refine wpAnyH_ready (rs := [26]) (by kernel_rfl) (by simp) ?_
        refine AllReadyH.cons (o := ?oi111) ?hi111 (fun K hK => ?_) AllReadyH.nil
        case hi111 => (simp only [gqA, gqB, gqC]; rfl)
        go_simp
        refine (HC.out _ (n1.trans (New.refl _).drew)).mono ?_
        rintro e w2 ⟨rfl, hn2⟩
        refine hK.out _ _ (hS.trans hn2) (fun hS => ?_)
        clear hK K
        refine tkQ (i := 27) (oi := ?o112) (v := ?v112) ?h112 ?q112 ?y112 hS ?_; (case h112 => (simp only [gqA, gqB, gqC]; rfl)); (case q112 => exact fun _ _ _ h => h); (case y112 => (refine Or.inl ⟨by kernel_rfl, ?_⟩; intro wq hSq; clear hSq; go_simp; (try with_reducible rfl))); simp only [Act.put, List.setIfInBounds_toArray, List.set_cons_zero, List.set_cons_succ]
        refine wpAnyH_done (by kernel_rfl) ?_ _
        have n2 : New w w2 := n1.trans ((New.refl _).drew.trans hn2)
        go_wp2
        go_loopw [42] (fun v42 wr => ∃ i : Nat, v42 = .int .i64 i ∧ i ≤ 4 ∧ w.grownBy wr (some gB) ∧ Blk wr gB 4 (markV N T an i).toArray) (fun v42 _ => 4 - (intOf v42).toNat)
        case atStart => exact ⟨0, rfl, by omega, new_grown n2 _, by rw [mark_zero]; exact HB.out.new n2⟩
        case round =>
          obtain ⟨i, rfl, hi4, hgr, BM⟩ := hrel
          by_cases hlt : i < 4
          · have ai : an + i < N := by omega
            obtain ⟨x, hx⟩ := mark_at (n := N) (T := T) (a := an) (i := i) ai
            have cB := BM.cell' (an + i) _ (by rw [List.getElem?_toArray]; exact hx)
            have fB := BM.free (an + i)
            have BP := BM.put (an + i) (.bool true)
            rw [mark_put] at BP
            have hgp := grown_put hgr (an + i) (.bool true)
            have gu1 := hgr.cell gu0 (fun e => hne (Option.some.inj e))
            have ws : IntKind.i64.wrap ((an : Int) + (i : Int)) = (an : Int) + (i : Int) := IntWalk.i64_in _ (by omega)
            have s0 : (0 : Int) ≤ (an : Int) + (i : Int) := by omega
            have s1 : (an : Int) + (i : Int) < (N : Int) := by omega
            have s2 : ((an : Int) + (i : Int)).toNat = an + i := by omega
            clear hx
            go_wp2
            go_roundw
            case rel => exact ⟨i + 1, by go_num, by omega, hgp, BP⟩
            case measure => simp [intOf]; omega
          · obtain rfl : i = 4 := by omega
            have HF := Lib.hid BM
            go_wp2
            go_ret
            exact ⟨rfl, hgr, Lib.hid (fun _ => by rw [← mark_four]; exact HF.out)⟩
      · go_enter Tryz.func111, Tryz.ntmps111
        go_wp2_with (go_at_call 112; (with_reducible refine (HAW.out _ (New.refl _)).mono ?_); rintro e w1 ⟨rfl, n1⟩; have g3' := cell_new n1 g3; have q3' := cell_new n1 q3; have q4' := cell_new n1 q4; have gu0' := cell_new n1 gu0)
        refine wp_region_held_drew (S := New _) (by kernel_rfl) (New.refl _).drew (fun hS => ?_)
        refine tkQ (i := 0) (oi := ?o57) (v := ?v57) ?h57 ?q57 ?y57 hS ?_; (case h57 => (simp only [gqA, gqB, gqC]; rfl)); (case q57 => exact fun _ _ _ h => h); (case y57 => (refine Or.inl ⟨by kernel_rfl, ?_⟩; intro wq hSq; clear hSq; go_simp; (try with_reducible rfl))); simp only [Act.put, List.setIfInBounds_toArray, List.set_cons_zero, List.set_cons_succ]
        refine tkQ (i := 1) (oi := ?o58) (v := ?v58) ?h58 ?q58 ?y58 hS ?_; (case h58 => (simp only [gqA, gqB, gqC]; rfl)); (case q58 => exact fun _ _ _ h => h); (case y58 => (refine Or.inl ⟨by kernel_rfl, ?_⟩; intro wq hSq; clear hSq; go_simp; (try with_reducible rfl))); simp only [Act.put, List.setIfInBounds_toArray, List.set_cons_zero, List.set_cons_succ]
        refine tkQ (i := 2) (oi := ?o59) (v := ?v59) ?h59 ?q59 ?y59 hS ?_; (case h59 => (simp only [gqA, gqB, gqC]; rfl)); (case q59 => exact fun _ _ _ h => h); (case y59 => (refine Or.inl ⟨by kernel_rfl, ?_⟩; intro wq hSq; clear hSq; go_simp; (try with_reducible rfl))); simp only [Act.put, List.setIfInBounds_toArray, List.set_cons_zero, List.set_cons_succ]
        refine tkQ (i := 3) (oi := ?o60) (v := ?v60) ?h60 ?q60 ?y60 hS ?_; (case h60 => (simp only [gqA, gqB, gqC]; rfl)); (case q60 => exact fun _ _ _ h => h); (case y60 => (refine Or.inl ⟨by kernel_rfl, ?_⟩; intro wq hSq; clear hSq; go_simp; (try with_reducible rfl))); simp only [Act.put, List.setIfInBounds_toArray, List.set_cons_zero, List.set_cons_succ]
        refine tkQ (i := 4) (oi := ?o61) (v := ?v61) ?h61 ?q61 ?y61 hS ?_; (case h61 => (simp only [gqA, gqB, gqC]; rfl)); (case q61 => exact fun _ _ _ h => h); (case y61 => (refine Or.inl ⟨by kernel_rfl, ?_⟩; intro wq hSq; clear hSq; go_simp; (try with_reducible rfl))); simp only [Act.put, List.setIfInBounds_toArray, List.set_cons_zero, List.set_cons_succ]
        refine tkQ (i := 5) (oi := ?o62) (v := ?v62) ?h62 ?q62 ?y62 hS ?_; (case h62 => (simp only [gqA, gqB, gqC]; rfl)); (case q62 => exact fun _ _ _ h => h); (case y62 => (refine Or.inl ⟨by kernel_rfl, ?_⟩; intro wq hSq; clear hSq; go_simp; (try with_reducible rfl))); simp only [Act.put, List.setIfInBounds_toArray, List.set_cons_zero, List.set_cons_succ]
        refine tkQ (i := 6) (oi := ?o63) (v := ?v63) ?h63 ?q63 ?y63 hS ?_; (case h63 => (simp only [gqA, gqB, gqC]; rfl)); (case q63 => exact fun _ _ _ h => h); (case y63 => (refine Or.inl ⟨by kernel_rfl, ?_⟩; intro wq hSq; have hf0 := cell_new hSq g3'; have hf1 := cell_new hSq q3'; have hf2 := cell_new hSq q4'; have hf3 := cell_new hSq gu0'; clear hSq; go_simp; (try with_reducible rfl))); simp only [Act.put, List.setIfInBounds_toArray, List.set_cons_zero, List.set_cons_succ]
        refine tkQ (i := 7) (oi := ?o64) (v := ?v64) ?h64 ?q64 ?y64 hS ?_; (case h64 => (simp only [gqA, gqB, gqC]; rfl)); (case q64 => exact fun _ _ _ h => h); (case y64 => (refine Or.inl ⟨by kernel_rfl, ?_⟩; intro wq hSq; clear hSq; go_simp; (try with_reducible rfl))); simp only [Act.put, List.setIfInBounds_toArray, List.set_cons_zero, List.set_cons_succ]
        refine tkQ (i := 8) (oi := ?o65) (v := ?v65) ?h65 ?q65 ?y65 hS ?_; (case h65 => (simp only [gqA, gqB, gqC]; rfl)); (case q65 => exact fun _ _ _ h => h); (case y65 => (refine Or.inl ⟨by kernel_rfl, ?_⟩; intro wq hSq; clear hSq; go_simp; (try with_reducible rfl))); simp only [Act.put, List.setIfInBounds_toArray, List.set_cons_zero, List.set_cons_succ]
        refine tkQ (i := 9) (oi := ?o66) (v := ?v66) ?h66 ?q66 ?y66 hS ?_; (case h66 => (simp only [gqA, gqB, gqC]; rfl)); (case q66 => exact fun _ _ _ h => h); (case y66 => (refine Or.inl ⟨by kernel_rfl, ?_⟩; intro wq hSq; clear hSq; go_simp; (try with_reducible rfl))); simp only [Act.put, List.setIfInBounds_toArray, List.set_cons_zero, List.set_cons_succ]
        refine tkQ (i := 10) (oi := ?o67) (v := ?v67) ?h67 ?q67 ?y67 hS ?_; (case h67 => (simp only [gqA, gqB, gqC]; rfl)); (case q67 => exact fun _ _ _ h => h); (case y67 => (refine Or.inl ⟨by kernel_rfl, ?_⟩; intro wq hSq; have hf0 := cell_new hSq g3'; have hf1 := cell_new hSq q3'; have hf2 := cell_new hSq q4'; have hf3 := cell_new hSq gu0'; clear hSq; go_simp; (try with_reducible rfl))); simp only [Act.put, List.setIfInBounds_toArray, List.set_cons_zero, List.set_cons_succ]
        refine tkQ (i := 11) (oi := ?o68) (v := ?v68) ?h68 ?q68 ?y68 hS ?_; (case h68 => (simp only [gqA, gqB, gqC]; rfl)); (case q68 => exact fun _ _ _ h => h); (case y68 => (refine Or.inl ⟨by kernel_rfl, ?_⟩; intro wq hSq; clear hSq; go_simp; (try with_reducible rfl))); simp only [Act.put, List.setIfInBounds_toArray, List.set_cons_zero, List.set_cons_succ]
        refine tkQ (i := 12) (oi := ?o69) (v := ?v69) ?h69 ?q69 ?y69 hS ?_; (case h69 => (simp only [gqA, gqB, gqC]; rfl)); (case q69 => exact fun _ _ _ h => h); (case y69 => (refine Or.inl ⟨by kernel_rfl, ?_⟩; intro wq hSq; have hf0 := cell_new hSq g3'; have hf1 := cell_new hSq q3'; have hf2 := cell_new hSq q4'; have hf3 := cell_new hSq gu0'; clear hSq; go_simp; (try with_reducible rfl))); simp only [Act.put, List.setIfInBounds_toArray, List.set_cons_zero, List.set_cons_succ]
        refine tkQ (i := 13) (oi := ?o70) (v := ?v70) ?h70 ?q70 ?y70 hS ?_; (case h70 => (simp only [gqA, gqB, gqC]; rfl)); (case q70 => exact fun _ _ _ h => h); (case y70 => (refine Or.inl ⟨by kernel_rfl, ?_⟩; intro wq hSq; clear hSq; go_simp; (try with_reducible rfl))); simp only [Act.put, List.setIfInBounds_toArray, List.set_cons_zero, List.set_cons_succ]
        refine tkQ (i := 14) (oi := ?o71) (v := ?v71) ?h71 ?q71 ?y71 hS ?_; (case h71 => (simp only [gqA, gqB, gqC]; rfl)); (case q71 => exact fun _ _ _ h => h); (case y71 => (refine Or.inl ⟨by kernel_rfl, ?_⟩; intro wq hSq; clear hSq; go_simp; (try with_reducible rfl))); simp only [Act.put, List.setIfInBounds_toArray, List.set_cons_zero, List.set_cons_succ]
        refine tkQ (i := 15) (oi := ?o72) (v := ?v72) ?h72 ?q72 ?y72 hS ?_; (case h72 => (simp only [gqA, gqB, gqC]; rfl)); (case q72 => exact fun _ _ _ h => h); (case y72 => (refine Or.inl ⟨by kernel_rfl, ?_⟩; intro wq hSq; clear hSq; go_simp; (try with_reducible rfl))); simp only [Act.put, List.setIfInBounds_toArray, List.set_cons_zero, List.set_cons_succ]
        refine tkQ (i := 16) (oi := ?o73) (v := ?v73) ?h73 ?q73 ?y73 hS ?_; (case h73 => (simp only [gqA, gqB, gqC]; rfl)); (case q73 => exact fun _ _ _ h => h); (case y73 => (refine Or.inl ⟨by kernel_rfl, ?_⟩; intro wq hSq; have hf0 := cell_new hSq g3'; have hf1 := cell_new hSq q3'; have hf2 := cell_new hSq q4'; have hf3 := cell_new hSq gu0'; clear hSq; go_simp; (try with_reducible rfl))); simp only [Act.put, List.setIfInBounds_toArray, List.set_cons_zero, List.set_cons_succ]
        refine tkQ (i := 17) (oi := ?o74) (v := ?v74) ?h74 ?q74 ?y74 hS ?_; (case h74 => (simp only [gqA, gqB, gqC]; rfl)); (case q74 => exact fun _ _ _ h => h); (case y74 => (refine Or.inl ⟨by kernel_rfl, ?_⟩; intro wq hSq; clear hSq; go_simp; (try with_reducible rfl))); simp only [Act.put, List.setIfInBounds_toArray, List.set_cons_zero, List.set_cons_succ]
        refine tkQ (i := 18) (oi := ?o75) (v := ?v75) ?h75 ?q75 ?y75 hS ?_; (case h75 => (simp only [gqA, gqB, gqC]; rfl)); (case q75 => exact fun _ _ _ h => h); (case y75 => (refine Or.inl ⟨by kernel_rfl, ?_⟩; intro wq hSq; clear hSq; go_simp; (try with_reducible rfl))); simp only [Act.put, List.setIfInBounds_toArray, List.set_cons_zero, List.set_cons_succ]
        refine tkQ (i := 19) (oi := ?o76) (v := ?v76) ?h76 ?q76 ?y76 hS ?_; (case h76 => (simp only [gqA, gqB, gqC]; rfl)); (case q76 => exact fun _ _ _ h => h); (case y76 => (refine Or.inl ⟨by kernel_rfl, ?_⟩; intro wq hSq; clear hSq; go_simp; (try with_reducible rfl))); simp only [Act.put, List.setIfInBounds_toArray, List.set_cons_zero, List.set_cons_succ]
        refine tkQ (i := 20) (oi := ?o77) (v := ?v77) ?h77 ?q77 ?y77 hS ?_; (case h77 => (simp only [gqA, gqB, gqC]; rfl)); (case q77 => exact fun _ _ _ h => h); (case y77 => (refine Or.inl ⟨by kernel_rfl, ?_⟩; intro wq hSq; clear hSq; go_simp; (try with_reducible rfl))); simp only [Act.put, List.setIfInBounds_toArray, List.set_cons_zero, List.set_cons_succ]
        refine tkQ (i := 21) (oi := ?o78) (v := ?v78) ?h78 ?q78 ?y78 hS ?_; (case h78 => (simp only [gqA, gqB, gqC]; rfl)); (case q78 => exact fun _ _ _ h => h); (case y78 => (refine Or.inl ⟨by kernel_rfl, ?_⟩; intro wq hSq; have hf0 := cell_new hSq g3'; have hf1 := cell_new hSq q3'; have hf2 := cell_new hSq q4'; have hf3 := cell_new hSq gu0'; clear hSq; go_simp; (try with_reducible rfl))); simp only [Act.put, List.setIfInBounds_toArray, List.set_cons_zero, List.set_cons_succ]
        refine tkQ (i := 22) (oi := ?o79) (v := ?v79) ?h79 ?q79 ?y79 hS ?_; (case h79 => (simp only [gqA, gqB, gqC]; rfl)); (case q79 => exact fun _ _ _ h => h); (case y79 => (refine Or.inl ⟨by kernel_rfl, ?_⟩; intro wq hSq; clear hSq; go_simp; (try with_reducible rfl))); simp only [Act.put, List.setIfInBounds_toArray, List.set_cons_zero, List.set_cons_succ]
        refine tkQ (i := 23) (oi := ?o80) (v := ?v80) ?h80 ?q80 ?y80 hS ?_; (case h80 => (simp only [gqA, gqB, gqC]; rfl)); (case q80 => exact fun _ _ _ h => h); (case y80 => (refine Or.inl ⟨by kernel_rfl, ?_⟩; intro wq hSq; clear hSq; go_simp; (try with_reducible rfl))); simp only [Act.put, List.setIfInBounds_toArray, List.set_cons_zero, List.set_cons_succ]
        refine tkQ (i := 24) (oi := ?o81) (v := ?v81) ?h81 ?q81 ?y81 hS ?_; (case h81 => (simp only [gqA, gqB, gqC]; rfl)); (case q81 => exact fun _ _ _ h => h); (case y81 => (refine Or.inl ⟨by kernel_rfl, ?_⟩; intro wq hSq; clear hSq; go_simp; (try with_reducible rfl))); simp only [Act.put, List.setIfInBounds_toArray, List.set_cons_zero, List.set_cons_succ]
        refine tkQ (i := 25) (oi := ?o82) (v := ?v82) ?h82 ?q82 ?y82 hS ?_; (case h82 => (simp only [gqA, gqB, gqC]; rfl)); (case q82 => exact fun _ _ _ h => h); (case y82 => (refine Or.inl ⟨by kernel_rfl, ?_⟩; intro wq hSq; clear hSq; go_simp; (try with_reducible rfl))); simp only [Act.put, List.setIfInBounds_toArray, List.set_cons_zero, List.set_cons_succ]
        refine wpAnyH_ready (rs := [26]) (by kernel_rfl) (by simp) ?_
        refine AllReadyH.cons (o := ?oi83) ?hi83 (fun K hK => ?_) AllReadyH.nil
        case hi83 => (simp only [gqA, gqB, gqC]; rfl)
        go_simp
        refine (HC.out _ (n1.trans (New.refl _).drew)).mono ?_
        rintro e w2 ⟨rfl, hn2⟩
        refine hK.out _ _ (hS.trans hn2) (fun hS => ?_)
        clear hK K
        refine tkQ (i := 27) (oi := ?o84) (v := ?v84) ?h84 ?q84 ?y84 hS ?_; (case h84 => (simp only [gqA, gqB, gqC]; rfl)); (case q84 => exact fun _ _ _ h => h); (case y84 => (refine Or.inl ⟨by kernel_rfl, ?_⟩; intro wq hSq; clear hSq; go_simp; (try with_reducible rfl))); simp only [Act.put, List.setIfInBounds_toArray, List.set_cons_zero, List.set_cons_succ]
        refine wpAnyH_done (by kernel_rfl) ?_ _
        go_wp2
        go_ret
        exact ⟨rfl, new_grown (n1.trans ((New.refl _).drew.trans hn2)) _, Lib.hid (fun h => by cases h)⟩
    · have hW := HE.out
      rw [decide_eq_false hwi] at hW
      rw [hW, Bool.false_and]
      have t1 : decide (pa + pz < (an : Int) + 4) = true := decide_eq_true (by omega)
      clear hW
      go_enter Tryz.func111, Tryz.ntmps111
      go_wp2_with (go_at_call 112; (with_reducible refine (HAW.out _ (New.refl _)).mono ?_); rintro e w1 ⟨rfl, n1⟩; have g3' := cell_new n1 g3; have q3' := cell_new n1 q3; have q4' := cell_new n1 q4)
      refine wp_region_held_drew (S := New _) (by kernel_rfl) (New.refl _).drew (fun hS => ?_)
      refine tkQ (i := 0) (oi := ?o113) (v := ?v113) ?h113 ?q113 ?y113 hS ?_; (case h113 => (simp only [gqA, gqB, gqC]; rfl)); (case q113 => exact fun _ _ _ h => h); (case y113 => (refine Or.inl ⟨by kernel_rfl, ?_⟩; intro wq hSq; clear hSq; go_simp; (try with_reducible rfl))); simp only [Act.put, List.setIfInBounds_toArray, List.set_cons_zero, List.set_cons_succ]
      refine tkQ (i := 1) (oi := ?o114) (v := ?v114) ?h114 ?q114 ?y114 hS ?_; (case h114 => (simp only [gqA, gqB, gqC]; rfl)); (case q114 => exact fun _ _ _ h => h); (case y114 => (refine Or.inl ⟨by kernel_rfl, ?_⟩; intro wq hSq; clear hSq; go_simp; (try with_reducible rfl))); simp only [Act.put, List.setIfInBounds_toArray, List.set_cons_zero, List.set_cons_succ]
      refine tkQ (i := 2) (oi := ?o115) (v := ?v115) ?h115 ?q115 ?y115 hS ?_; (case h115 => (simp only [gqA, gqB, gqC]; rfl)); (case q115 => exact fun _ _ _ h => h); (case y115 => (refine Or.inl ⟨by kernel_rfl, ?_⟩; intro wq hSq; clear hSq; go_simp; (try with_reducible rfl))); simp only [Act.put, List.setIfInBounds_toArray, List.set_cons_zero, List.set_cons_succ]
      refine tkQ (i := 3) (oi := ?o116) (v := ?v116) ?h116 ?q116 ?y116 hS ?_; (case h116 => (simp only [gqA, gqB, gqC]; rfl)); (case q116 => exact fun _ _ _ h => h); (case y116 => (refine Or.inl ⟨by kernel_rfl, ?_⟩; intro wq hSq; clear hSq; go_simp; (try with_reducible rfl))); simp only [Act.put, List.setIfInBounds_toArray, List.set_cons_zero, List.set_cons_succ]
      refine tkQ (i := 4) (oi := ?o117) (v := ?v117) ?h117 ?q117 ?y117 hS ?_; (case h117 => (simp only [gqA, gqB, gqC]; rfl)); (case q117 => exact fun _ _ _ h => h); (case y117 => (refine Or.inl ⟨by kernel_rfl, ?_⟩; intro wq hSq; clear hSq; go_simp; (try with_reducible rfl))); simp only [Act.put, List.setIfInBounds_toArray, List.set_cons_zero, List.set_cons_succ]
      refine tkQ (i := 5) (oi := ?o118) (v := ?v118) ?h118 ?q118 ?y118 hS ?_; (case h118 => (simp only [gqA, gqB, gqC]; rfl)); (case q118 => exact fun _ _ _ h => h); (case y118 => (refine Or.inl ⟨by kernel_rfl, ?_⟩; intro wq hSq; clear hSq; go_simp; (try with_reducible rfl))); simp only [Act.put, List.setIfInBounds_toArray, List.set_cons_zero, List.set_cons_succ]
      refine tkQ (i := 6) (oi := ?o119) (v := ?v119) ?h119 ?q119 ?y119 hS ?_; (case h119 => (simp only [gqA, gqB, gqC]; rfl)); (case q119 => exact fun _ _ _ h => h); (case y119 => (refine Or.inl ⟨by kernel_rfl, ?_⟩; intro wq hSq; have hf0 := cell_new hSq g3'; have hf1 := cell_new hSq q3'; have hf2 := cell_new hSq q4'; clear hSq; go_simp; (try with_reducible rfl))); simp only [Act.put, List.setIfInBounds_toArray, List.set_cons_zero, List.set_cons_succ]
      refine tkQ (i := 7) (oi := ?o120) (v := ?v120) ?h120 ?q120 ?y120 hS ?_; (case h120 => (simp only [gqA, gqB, gqC]; rfl)); (case q120 => exact fun _ _ _ h => h); (case y120 => (refine Or.inl ⟨by kernel_rfl, ?_⟩; intro wq hSq; clear hSq; go_simp; (try with_reducible rfl))); simp only [Act.put, List.setIfInBounds_toArray, List.set_cons_zero, List.set_cons_succ]
      refine tkQ (i := 8) (oi := ?o121) (v := ?v121) ?h121 ?q121 ?y121 hS ?_; (case h121 => (simp only [gqA, gqB, gqC]; rfl)); (case q121 => exact fun _ _ _ h => h); (case y121 => (refine Or.inl ⟨by kernel_rfl, ?_⟩; intro wq hSq; clear hSq; go_simp; (try with_reducible rfl))); simp only [Act.put, List.setIfInBounds_toArray, List.set_cons_zero, List.set_cons_succ]
      refine tkQ (i := 9) (oi := ?o122) (v := ?v122) ?h122 ?q122 ?y122 hS ?_; (case h122 => (simp only [gqA, gqB, gqC]; rfl)); (case q122 => exact fun _ _ _ h => h); (case y122 => (refine Or.inl ⟨by kernel_rfl, ?_⟩; intro wq hSq; clear hSq; go_simp; (try with_reducible rfl))); simp only [Act.put, List.setIfInBounds_toArray, List.set_cons_zero, List.set_cons_succ]
      refine tkQ (i := 10) (oi := ?o123) (v := ?v123) ?h123 ?q123 ?y123 hS ?_; (case h123 => (simp only [gqA, gqB, gqC]; rfl)); (case q123 => exact fun _ _ _ h => h); (case y123 => (refine Or.inl ⟨by kernel_rfl, ?_⟩; intro wq hSq; have hf0 := cell_new hSq g3'; have hf1 := cell_new hSq q3'; have hf2 := cell_new hSq q4'; clear hSq; go_simp; (try with_reducible rfl))); simp only [Act.put, List.setIfInBounds_toArray, List.set_cons_zero, List.set_cons_succ]
      refine tkQ (i := 11) (oi := ?o124) (v := ?v124) ?h124 ?q124 ?y124 hS ?_; (case h124 => (simp only [gqA, gqB, gqC]; rfl)); (case q124 => exact fun _ _ _ h => h); (case y124 => (refine Or.inl ⟨by kernel_rfl, ?_⟩; intro wq hSq; clear hSq; go_simp; (try with_reducible rfl))); simp only [Act.put, List.setIfInBounds_toArray, List.set_cons_zero, List.set_cons_succ]
      refine tkQ (i := 12) (oi := ?o125) (v := ?v125) ?h125 ?q125 ?y125 hS ?_; (case h125 => (simp only [gqA, gqB, gqC]; rfl)); (case q125 => exact fun _ _ _ h => h); (case y125 => (refine Or.inl ⟨by kernel_rfl, ?_⟩; intro wq hSq; have hf0 := cell_new hSq g3'; have hf1 := cell_new hSq q3'; have hf2 := cell_new hSq q4'; clear hSq; go_simp; (try with_reducible rfl))); simp only [Act.put, List.setIfInBounds_toArray, List.set_cons_zero, List.set_cons_succ]
      refine tkQ (i := 13) (oi := ?o126) (v := ?v126) ?h126 ?q126 ?y126 hS ?_; (case h126 => (simp only [gqA, gqB, gqC]; rfl)); (case q126 => exact fun _ _ _ h => h); (case y126 => (refine Or.inl ⟨by kernel_rfl, ?_⟩; intro wq hSq; clear hSq; go_simp; (try with_reducible rfl))); simp only [Act.put, List.setIfInBounds_toArray, List.set_cons_zero, List.set_cons_succ]
      refine tkQ (i := 14) (oi := ?o127) (v := ?v127) ?h127 ?q127 ?y127 hS ?_; (case h127 => (simp only [gqA, gqB, gqC]; rfl)); (case q127 => exact fun _ _ _ h => h); (case y127 => (refine Or.inl ⟨by kernel_rfl, ?_⟩; intro wq hSq; clear hSq; go_simp; (try with_reducible rfl))); simp only [Act.put, List.setIfInBounds_toArray, List.set_cons_zero, List.set_cons_succ]
      refine tkQ (i := 15) (oi := ?o128) (v := ?v128) ?h128 ?q128 ?y128 hS ?_; (case h128 => (simp only [gqA, gqB, gqC]; rfl)); (case q128 => exact fun _ _ _ h => h); (case y128 => (refine Or.inl ⟨by kernel_rfl, ?_⟩; intro wq hSq; clear hSq; go_simp; (try with_reducible rfl))); simp only [Act.put, List.setIfInBounds_toArray, List.set_cons_zero, List.set_cons_succ]
      refine tkQ (i := 16) (oi := ?o129) (v := ?v129) ?h129 ?q129 ?y129 hS ?_; (case h129 => (simp only [gqA, gqB, gqC]; rfl)); (case q129 => exact fun _ _ _ h => h); (case y129 => (refine Or.inl ⟨by kernel_rfl, ?_⟩; intro wq hSq; have hf0 := cell_new hSq g3'; have hf1 := cell_new hSq q3'; have hf2 := cell_new hSq q4'; clear hSq; go_simp; (try with_reducible rfl))); simp only [Act.put, List.setIfInBounds_toArray, List.set_cons_zero, List.set_cons_succ]
      refine tkQ (i := 17) (oi := ?o130) (v := ?v130) ?h130 ?q130 ?y130 hS ?_; (case h130 => (simp only [gqA, gqB, gqC]; rfl)); (case q130 => exact fun _ _ _ h => h); (case y130 => (refine Or.inl ⟨by kernel_rfl, ?_⟩; intro wq hSq; clear hSq; go_simp; (try with_reducible rfl))); simp only [Act.put, List.setIfInBounds_toArray, List.set_cons_zero, List.set_cons_succ]
      refine tkQ (i := 18) (oi := ?o131) (v := ?v131) ?h131 ?q131 ?y131 hS ?_; (case h131 => (simp only [gqA, gqB, gqC]; rfl)); (case q131 => exact fun _ _ _ h => h); (case y131 => (refine Or.inl ⟨by kernel_rfl, ?_⟩; intro wq hSq; clear hSq; go_simp; (try with_reducible rfl))); simp only [Act.put, List.setIfInBounds_toArray, List.set_cons_zero, List.set_cons_succ]
      refine tkQ (i := 19) (oi := ?o132) (v := ?v132) ?h132 ?q132 ?y132 hS ?_; (case h132 => (simp only [gqA, gqB, gqC]; rfl)); (case q132 => exact fun _ _ _ h => h); (case y132 => (refine Or.inl ⟨by kernel_rfl, ?_⟩; intro wq hSq; clear hSq; go_simp; (try with_reducible rfl))); simp only [Act.put, List.setIfInBounds_toArray, List.set_cons_zero, List.set_cons_succ]
      refine tkQ (i := 20) (oi := ?o133) (v := ?v133) ?h133 ?q133 ?y133 hS ?_; (case h133 => (simp only [gqA, gqB, gqC]; rfl)); (case q133 => exact fun _ _ _ h => h); (case y133 => (refine Or.inl ⟨by kernel_rfl, ?_⟩; intro wq hSq; clear hSq; go_simp; (try with_reducible rfl))); simp only [Act.put, List.setIfInBounds_toArray, List.set_cons_zero, List.set_cons_succ]
      refine tkQ (i := 21) (oi := ?o134) (v := undef) ?h134 ?q134 ?y134 hS ?_; (case h134 => (simp only [gqA, gqB, gqC]; rfl)); (case q134 => exact fun _ _ _ h => h); (case y134 => (exact Or.inr ⟨by kernel_rfl, rfl⟩)); simp only [Act.put, List.setIfInBounds_toArray, List.set_cons_zero, List.set_cons_succ]
      refine tkQ (i := 22) (oi := ?o135) (v := undef) ?h135 ?q135 ?y135 hS ?_; (case h135 => (simp only [gqA, gqB, gqC]; rfl)); (case q135 => exact fun _ _ _ h => h); (case y135 => (exact Or.inr ⟨by kernel_rfl, rfl⟩)); simp only [Act.put, List.setIfInBounds_toArray, List.set_cons_zero, List.set_cons_succ]
      refine tkQ (i := 23) (oi := ?o136) (v := undef) ?h136 ?q136 ?y136 hS ?_; (case h136 => (simp only [gqA, gqB, gqC]; rfl)); (case q136 => exact fun _ _ _ h => h); (case y136 => (exact Or.inr ⟨by kernel_rfl, rfl⟩)); simp only [Act.put, List.setIfInBounds_toArray, List.set_cons_zero, List.set_cons_succ]
      refine tkQ (i := 24) (oi := ?o137) (v := undef) ?h137 ?q137 ?y137 hS ?_; (case h137 => (simp only [gqA, gqB, gqC]; rfl)); (case q137 => exact fun _ _ _ h => h); (case y137 => (exact Or.inr ⟨by kernel_rfl, rfl⟩)); simp only [Act.put, List.setIfInBounds_toArray, List.set_cons_zero, List.set_cons_succ]
      refine tkQ (i := 25) (oi := ?o138) (v := undef) ?h138 ?q138 ?y138 hS ?_; (case h138 => (simp only [gqA, gqB, gqC]; rfl)); (case q138 => exact fun _ _ _ h => h); (case y138 => (exact Or.inr ⟨by kernel_rfl, rfl⟩)); simp only [Act.put, List.setIfInBounds_toArray, List.set_cons_zero, List.set_cons_succ]
      refine tkQ (i := 26) (oi := ?o139) (v := undef) ?h139 ?q139 ?y139 hS ?_; (case h139 => (simp only [gqA, gqB, gqC]; rfl)); (case q139 => exact fun _ _ _ h => h); (case y139 => (exact Or.inr ⟨by kernel_rfl, rfl⟩)); simp only [Act.put, List.setIfInBounds_toArray, List.set_cons_zero, List.set_cons_succ]
      refine tkQ (i := 27) (oi := ?o140) (v := ?v140) ?h140 ?q140 ?y140 hS ?_; (case h140 => (simp only [gqA, gqB, gqC]; rfl)); (case q140 => exact fun _ _ _ h => h); (case y140 => (refine Or.inl ⟨by kernel_rfl, ?_⟩; intro wq hSq; clear hSq; go_simp; (try with_reducible rfl))); simp only [Act.put, List.setIfInBounds_toArray, List.set_cons_zero, List.set_cons_succ]
      refine wpAnyH_done (by kernel_rfl) ?_ _
      go_wp2
      go_ret
      exact ⟨rfl, new_grown (n1.trans (New.refl _).drew) _, Lib.hid (fun h => by cases h)⟩
  · have hW := HW.out h0
    rw [hW, Bool.false_and]
    rw [decide_eq_false h0] at HAW
    clear hW
    go_enter Tryz.func111, Tryz.ntmps111
    go_wp2_with (go_at_call 112; (with_reducible refine (HAW.out _ (New.refl _)).mono ?_); rintro e w1 ⟨rfl, n1⟩)
    refine wp_region_held_drew (S := New _) (by kernel_rfl) (New.refl _).drew (fun hS => ?_)
    refine tkQ (i := 0) (oi := ?o1) (v := ?v1) ?h1 ?q1 ?y1 hS ?_; (case h1 => (simp only [gqA, gqB, gqC]; rfl)); (case q1 => exact fun _ _ _ h => h); (case y1 => (refine Or.inl ⟨by kernel_rfl, ?_⟩; intro wq hSq; clear hSq; go_simp; (try with_reducible rfl))); simp only [Act.put, List.setIfInBounds_toArray, List.set_cons_zero, List.set_cons_succ]
    refine tkQ (i := 1) (oi := ?o2) (v := ?v2) ?h2 ?q2 ?y2 hS ?_; (case h2 => (simp only [gqA, gqB, gqC]; rfl)); (case q2 => exact fun _ _ _ h => h); (case y2 => (refine Or.inl ⟨by kernel_rfl, ?_⟩; intro wq hSq; clear hSq; go_simp; (try with_reducible rfl))); simp only [Act.put, List.setIfInBounds_toArray, List.set_cons_zero, List.set_cons_succ]
    refine tkQ (i := 2) (oi := ?o3) (v := ?v3) ?h3 ?q3 ?y3 hS ?_; (case h3 => (simp only [gqA, gqB, gqC]; rfl)); (case q3 => exact fun _ _ _ h => h); (case y3 => (refine Or.inl ⟨by kernel_rfl, ?_⟩; intro wq hSq; clear hSq; go_simp; (try with_reducible rfl))); simp only [Act.put, List.setIfInBounds_toArray, List.set_cons_zero, List.set_cons_succ]
    refine tkQ (i := 3) (oi := ?o4) (v := undef) ?h4 ?q4 ?y4 hS ?_; (case h4 => (simp only [gqA, gqB, gqC]; rfl)); (case q4 => exact fun _ _ _ h => h); (case y4 => (exact Or.inr ⟨by kernel_rfl, rfl⟩)); simp only [Act.put, List.setIfInBounds_toArray, List.set_cons_zero, List.set_cons_succ]
    refine tkQ (i := 4) (oi := ?o5) (v := undef) ?h5 ?q5 ?y5 hS ?_; (case h5 => (simp only [gqA, gqB, gqC]; rfl)); (case q5 => exact fun _ _ _ h => h); (case y5 => (exact Or.inr ⟨by kernel_rfl, rfl⟩)); simp only [Act.put, List.setIfInBounds_toArray, List.set_cons_zero, List.set_cons_succ]
    refine tkQ (i := 5) (oi := ?o6) (v := undef) ?h6 ?q6 ?y6 hS ?_; (case h6 => (simp only [gqA, gqB, gqC]; rfl)); (case q6 => exact fun _ _ _ h => h); (case y6 => (exact Or.inr ⟨by kernel_rfl, rfl⟩)); simp only [Act.put, List.setIfInBounds_toArray, List.set_cons_zero, List.set_cons_succ]
    refine tkQ (i := 6) (oi := ?o7) (v := undef) ?h7 ?q7 ?y7 hS ?_; (case h7 => (simp only [gqA, gqB, gqC]; rfl)); (case q7 => exact fun _ _ _ h => h); (case y7 => (exact Or.inr ⟨by kernel_rfl, rfl⟩)); simp only [Act.put, List.setIfInBounds_toArray, List.set_cons_zero, List.set_cons_succ]
    refine tkQ (i := 7) (oi := ?o8) (v := undef) ?h8 ?q8 ?y8 hS ?_; (case h8 => (simp only [gqA, gqB, gqC]; rfl)); (case q8 => exact fun _ _ _ h => h); (case y8 => (exact Or.inr ⟨by kernel_rfl, rfl⟩)); simp only [Act.put, List.setIfInBounds_toArray, List.set_cons_zero, List.set_cons_succ]
    refine tkQ (i := 8) (oi := ?o9) (v := undef) ?h9 ?q9 ?y9 hS ?_; (case h9 => (simp only [gqA, gqB, gqC]; rfl)); (case q9 => exact fun _ _ _ h => h); (case y9 => (exact Or.inr ⟨by kernel_rfl, rfl⟩)); simp only [Act.put, List.setIfInBounds_toArray, List.set_cons_zero, List.set_cons_succ]
    refine tkQ (i := 9) (oi := ?o10) (v := undef) ?h10 ?q10 ?y10 hS ?_; (case h10 => (simp only [gqA, gqB, gqC]; rfl)); (case q10 => exact fun _ _ _ h => h); (case y10 => (exact Or.inr ⟨by kernel_rfl, rfl⟩)); simp only [Act.put, List.setIfInBounds_toArray, List.set_cons_zero, List.set_cons_succ]
    refine tkQ (i := 10) (oi := ?o11) (v := undef) ?h11 ?q11 ?y11 hS ?_; (case h11 => (simp only [gqA, gqB, gqC]; rfl)); (case q11 => exact fun _ _ _ h => h); (case y11 => (exact Or.inr ⟨by kernel_rfl, rfl⟩)); simp only [Act.put, List.setIfInBounds_toArray, List.set_cons_zero, List.set_cons_succ]
    refine tkQ (i := 11) (oi := ?o12) (v := undef) ?h12 ?q12 ?y12 hS ?_; (case h12 => (simp only [gqA, gqB, gqC]; rfl)); (case q12 => exact fun _ _ _ h => h); (case y12 => (exact Or.inr ⟨by kernel_rfl, rfl⟩)); simp only [Act.put, List.setIfInBounds_toArray, List.set_cons_zero, List.set_cons_succ]
    refine tkQ (i := 12) (oi := ?o13) (v := undef) ?h13 ?q13 ?y13 hS ?_; (case h13 => (simp only [gqA, gqB, gqC]; rfl)); (case q13 => exact fun _ _ _ h => h); (case y13 => (exact Or.inr ⟨by kernel_rfl, rfl⟩)); simp only [Act.put, List.setIfInBounds_toArray, List.set_cons_zero, List.set_cons_succ]
    refine tkQ (i := 13) (oi := ?o14) (v := undef) ?h14 ?q14 ?y14 hS ?_; (case h14 => (simp only [gqA, gqB, gqC]; rfl)); (case q14 => exact fun _ _ _ h => h); (case y14 => (exact Or.inr ⟨by kernel_rfl, rfl⟩)); simp only [Act.put, List.setIfInBounds_toArray, List.set_cons_zero, List.set_cons_succ]
    refine tkQ (i := 14) (oi := ?o15) (v := undef) ?h15 ?q15 ?y15 hS ?_; (case h15 => (simp only [gqA, gqB, gqC]; rfl)); (case q15 => exact fun _ _ _ h => h); (case y15 => (exact Or.inr ⟨by kernel_rfl, rfl⟩)); simp only [Act.put, List.setIfInBounds_toArray, List.set_cons_zero, List.set_cons_succ]
    refine tkQ (i := 15) (oi := ?o16) (v := undef) ?h16 ?q16 ?y16 hS ?_; (case h16 => (simp only [gqA, gqB, gqC]; rfl)); (case q16 => exact fun _ _ _ h => h); (case y16 => (exact Or.inr ⟨by kernel_rfl, rfl⟩)); simp only [Act.put, List.setIfInBounds_toArray, List.set_cons_zero, List.set_cons_succ]
    refine tkQ (i := 16) (oi := ?o17) (v := undef) ?h17 ?q17 ?y17 hS ?_; (case h17 => (simp only [gqA, gqB, gqC]; rfl)); (case q17 => exact fun _ _ _ h => h); (case y17 => (exact Or.inr ⟨by kernel_rfl, rfl⟩)); simp only [Act.put, List.setIfInBounds_toArray, List.set_cons_zero, List.set_cons_succ]
    refine tkQ (i := 17) (oi := ?o18) (v := undef) ?h18 ?q18 ?y18 hS ?_; (case h18 => (simp only [gqA, gqB, gqC]; rfl)); (case q18 => exact fun _ _ _ h => h); (case y18 => (exact Or.inr ⟨by kernel_rfl, rfl⟩)); simp only [Act.put, List.setIfInBounds_toArray, List.set_cons_zero, List.set_cons_succ]
    refine tkQ (i := 18) (oi := ?o19) (v := undef) ?h19 ?q19 ?y19 hS ?_; (case h19 => (simp only [gqA, gqB, gqC]; rfl)); (case q19 => exact fun _ _ _ h => h); (case y19 => (exact Or.inr ⟨by kernel_rfl, rfl⟩)); simp only [Act.put, List.setIfInBounds_toArray, List.set_cons_zero, List.set_cons_succ]
    refine tkQ (i := 19) (oi := ?o20) (v := ?v20) ?h20 ?q20 ?y20 hS ?_; (case h20 => (simp only [gqA, gqB, gqC]; rfl)); (case q20 => exact fun _ _ _ h => h); (case y20 => (refine Or.inl ⟨by kernel_rfl, ?_⟩; intro wq hSq; clear hSq; go_simp; (try with_reducible rfl))); simp only [Act.put, List.setIfInBounds_toArray, List.set_cons_zero, List.set_cons_succ]
    refine tkQ (i := 20) (oi := ?o21) (v := ?v21) ?h21 ?q21 ?y21 hS ?_; (case h21 => (simp only [gqA, gqB, gqC]; rfl)); (case q21 => exact fun _ _ _ h => h); (case y21 => (refine Or.inl ⟨by kernel_rfl, ?_⟩; intro wq hSq; clear hSq; go_simp; (try with_reducible rfl))); simp only [Act.put, List.setIfInBounds_toArray, List.set_cons_zero, List.set_cons_succ]
    refine tkQ (i := 21) (oi := ?o22) (v := undef) ?h22 ?q22 ?y22 hS ?_; (case h22 => (simp only [gqA, gqB, gqC]; rfl)); (case q22 => exact fun _ _ _ h => h); (case y22 => (exact Or.inr ⟨by kernel_rfl, rfl⟩)); simp only [Act.put, List.setIfInBounds_toArray, List.set_cons_zero, List.set_cons_succ]
    refine tkQ (i := 22) (oi := ?o23) (v := undef) ?h23 ?q23 ?y23 hS ?_; (case h23 => (simp only [gqA, gqB, gqC]; rfl)); (case q23 => exact fun _ _ _ h => h); (case y23 => (exact Or.inr ⟨by kernel_rfl, rfl⟩)); simp only [Act.put, List.setIfInBounds_toArray, List.set_cons_zero, List.set_cons_succ]
    refine tkQ (i := 23) (oi := ?o24) (v := undef) ?h24 ?q24 ?y24 hS ?_; (case h24 => (simp only [gqA, gqB, gqC]; rfl)); (case q24 => exact fun _ _ _ h => h); (case y24 => (exact Or.inr ⟨by kernel_rfl, rfl⟩)); simp only [Act.put, List.setIfInBounds_toArray, List.set_cons_zero, List.set_cons_succ]
    refine tkQ (i := 24) (oi := ?o25) (v := undef) ?h25 ?q25 ?y25 hS ?_; (case h25 => (simp only [gqA, gqB, gqC]; rfl)); (case q25 => exact fun _ _ _ h => h); (case y25 => (exact Or.inr ⟨by kernel_rfl, rfl⟩)); simp only [Act.put, List.setIfInBounds_toArray, List.set_cons_zero, List.set_cons_succ]
    refine tkQ (i := 25) (oi := ?o26) (v := undef) ?h26 ?q26 ?y26 hS ?_; (case h26 => (simp only [gqA, gqB, gqC]; rfl)); (case q26 => exact fun _ _ _ h => h); (case y26 => (exact Or.inr ⟨by kernel_rfl, rfl⟩)); simp only [Act.put, List.setIfInBounds_toArray, List.set_cons_zero, List.set_cons_succ]
    refine tkQ (i := 26) (oi := ?o27) (v := undef) ?h27 ?q27 ?y27 hS ?_; (case h27 => (simp only [gqA, gqB, gqC]; rfl)); (case q27 => exact fun _ _ _ h => h); (case y27 => (exact Or.inr ⟨by kernel_rfl, rfl⟩)); simp only [Act.put, List.setIfInBounds_toArray, List.set_cons_zero, List.set_cons_succ]
    refine tkQ (i := 27) (oi := ?o28) (v := ?v28) ?h28 ?q28 ?y28 hS ?_; (case h28 => (simp only [gqA, gqB, gqC]; rfl)); (case q28 => exact fun _ _ _ h => h); (case y28 => (refine Or.inl ⟨by kernel_rfl, ?_⟩; intro wq hSq; clear hSq; go_simp; (try with_reducible rfl))); simp only [Act.put, List.setIfInBounds_toArray, List.set_cons_zero, List.set_cons_succ]
    refine wpAnyH_done (by kernel_rfl) ?_ _
    go_wp2
    go_ret
    exact ⟨rfl, new_grown (n1.trans (New.refl _).drew) _, Lib.hid (fun h => by cases h)⟩
end Go.Proofs.YtnjampfhkojbnaaGreatDoor

