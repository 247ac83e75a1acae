/- The reference's Check. Conditions: sizes. (Printed by mk-c2.py.) -/
import Derived.Test.YtnknmpcgbfmfjaaGreatDoorGC1
import Derived.Test.YtnknmpcgbfmfjaaGreatDoorGR4
import Derived.Test.YtnknmpcgbfmfjaaGreatDoorGR5

namespace Go.Proofs.YtnknmpcgbfmfjaaGreatDoor
open Go Go.RowKit Go.Joins
set_option linter.unusedSimpArgs false
set_option linter.unusedVariables false

theorem less_total : ∀ x y : List UInt8, Op.bytesLess y x = !(Op.bytesLess x y || x == y)
  | [], [] => rfl
  | [], b :: y => by simp [Op.bytesLess]
  | a :: x, [] => by simp [Op.bytesLess]
  | a :: x, b :: y => by
    have ih := less_total x y
    rw [Op.bytesLess, Op.bytesLess, ih]
    by_cases e : a = b
    · subst e
      have h1 : decide (a < a) = false := decide_eq_false (UInt8.lt_irrefl a)
      have h2 : (a == a) = true := beq_self_eq_true a
      rw [h1, h2]
      have h3 : (a :: x == a :: y) = (x == y) := by simp
      rw [h3]; simp
    · have h2 : (a == b) = false := beq_eq_false_iff_ne.2 e
      have h3 : (b == a) = false := beq_eq_false_iff_ne.2 (fun q => e q.symm)
      have h4 : (a :: x == b :: y) = false := beq_eq_false_iff_ne.2 (fun q => e (List.cons.inj q).1)
      rw [h2, h3, h4]
      have hne : a.toNat ≠ b.toNat := fun q => e (UInt8.toNat_inj.1 q)
      by_cases hl : a < b
      · have : ¬ b < a := by rw [UInt8.lt_iff_toNat_lt] at hl ⊢; omega
        rw [decide_eq_true hl, decide_eq_false this]; rfl
      · have : b < a := by rw [UInt8.lt_iff_toNat_lt] at hl ⊢; omega
        rw [decide_eq_false hl, decide_eq_true this]; rfl
def LastX (l : List ExD) (i : Nat) (last : ByteArray) : Prop := (i = 0 ∧ last = ⟨#[]⟩) ∨ (∃ m y, i = m + 1 ∧ l[m]? = some y ∧ last = y.sym)
theorem name_ne {s : ByteArray} (h : nameV s = true) : s.size ≠ 0 := fun h0 => by
  unfold nameV at h
  rw [formV_nil h0] at h
  cases h
theorem exp_ref {ps : List PlD} {l : List ExD} {i : Nat} {x : ExD} {last : ByteArray} (hx : l[i]? = some x) (hL : LastX l i last) (hn : nameV x.sym = true) :
    expOK ps l i = (!(Op.bytesLess x.sym.toList last.toList || x.sym.toList == last.toList) && ps.any (begP x.pos x.sym)) := by
  have hb : ps.any (begP x.pos x.sym) = ps.any (expV x.sym x.pos) := by
    congr 1
    funext p
    unfold begP expV
    rw [decide_eq_false (name_ne hn), Bool.false_or, Bool.and_comm]
  unfold expOK
  rw [hx, hb]
  rcases hL with ⟨rfl, rfl⟩ | ⟨m, y, rfl, hy, rfl⟩
  · simp only
    have h1 : x.sym.toList ≠ [] := fun e => name_ne hn (by rw [size_eq, ← toList_eq, e]; rfl)
    have h2 : (⟨#[]⟩ : ByteArray).toList = [] := by rw [toList_eq]
    rw [h2]
    cases hc : x.sym.toList with
    | nil => exact absurd hc h1
    | cons c r => simp [Op.bytesLess]
  · simp only [hy]
    unfold ltX
    rw [less_total]
theorem exp_noname {ps : List PlD} {l : List ExD} {i : Nat} {x : ExD} (hx : l[i]? = some x) (hN : ∀ p ∈ ps, nameV p.sym = true) (hn : nameV x.sym = false) : expOK ps l i = false := by
  have : ps.any (expV x.sym x.pos) = false := by
    rw [List.any_eq_false]
    intro p hp he
    unfold expV at he
    simp only [Bool.and_eq_true, decide_eq_true_eq] at he
    have := hN p hp
    rw [he.1, hn] at this
    cases this
  unfold expOK
  simp only [hx]
  rw [this, Bool.and_false]
theorem placed_names {img : ByteArray} : ∀ {l : List PlD} {e z : Nat} {seen : List (ByteArray × ByteArray)}, placedGo img l e seen = some z → ∀ p ∈ l, nameV p.sym = true
  | [], e, z, seen, h, p, hp => by cases hp
  | q :: r, e, z, seen, h, p, hp => by
    rw [placedGo] at h
    split at h
    · rename_i hc
      obtain ⟨_, hc⟩ := hc
      rcases List.mem_cons.1 hp with rfl | hp
      · unfold placeOK at hc
        simp only [Bool.and_eq_true] at hc
        exact hc.1.1.1.1.1.2
      · exact placed_names h p hp
    · cases h
theorem placedV_names {b : Bn} (h : placedV b = true) : ∀ p ∈ b.places, nameV p.sym = true := by
  unfold placedV at h
  simp only [Bool.and_eq_true, decide_eq_true_eq] at h
  exact placed_names h.2
theorem take_note {l : List NtD} {j : Nat} {x : NtD} (h : l[j]? = some x) :
    (l.take (j + 1)).map (fun p => Value.string p.name) = (l.take j).map (fun p => Value.string p.name) ++ [.string x.name] ∧ ((l.take (j + 1)).map fun p => p.name).reverse = x.name :: ((l.take j).map fun p => p.name).reverse := by
  obtain ⟨hi, he⟩ := List.getElem?_eq_some_iff.1 h
  rw [List.take_succ_eq_append_getElem hi, he, List.map_append, List.map_append, List.reverse_append]
  exact ⟨rfl, rfl⟩
theorem has_seen (l : List NtD) (s : ByteArray) (j : Nat) (A : Option Addr) (c : Nat) (w : World) (hj : j ≤ l.length) (hr : Rd w 1 A j ((l.take j).map fun p => Value.string p.name)) (hn : j ≤ 4294967295) :
    Calls Tryz.prog 53 #[.slice A j c, .string s] w fun e w' => e = .returned (.bool (seenN ((l.take j).map fun p => p.name).reverse s)) ∧ w = w' := by
  have h := rhas_any ((l.take j).map fun p => p.name) s A j c w (by rw [List.length_map, List.length_take]; omega) (by rw [List.map_map]; exact hr) hn
  have e : hasV ((l.take j).map fun p => p.name) s = seenN ((l.take j).map fun p => p.name).reverse s := by
    unfold hasV seenN
    rw [List.any_reverse]
  rw [e] at h
  exact h
set_option maxRecDepth 100000 in
set_option maxHeartbeats 8000000 in
theorem rcheck_any (b : Bn) (h : BH) (w : World) (hr : BRd w b h) (hz : SzB b) :
    Calls Tryz.prog 15 #[.agg (bcells b h)] w fun e w' => e = .returned (.int .i64 (chkE b)) ∧ New w w' := by
  obtain ⟨i0, hi, hz0, hz1, hz2⟩ := info_parts Tryz.info9'
  have H50 := Lib.hid (fun W (hn : New w W) => rplaces_any b h W (hr.new hn) hz.pl hz.img hz.l1)
  have H51P := Lib.hid (fun (hp : placedV b = true) W (hn : New w W) => rwords_any b h W (placed_ok hp) (hr.new hn) hz.l2 hz.l3 hz.fx hz.im)
  have HBG := Lib.hid (fun a s W (hn : New w W) => rbegins_any b h a s W hz.l1 (hr.new hn))
  have HPO := Lib.hid (fun hp : placedV b = true => (placed_ok hp).pos)
  have HPNP := Lib.hid (fun hp : placedV b = true => placedV_names hp)
  have hr1 := hr.r1
  have HR4 := Lib.hid hr.r4
  have HR5 := Lib.hid hr.r5
  have hl4 := hz.l4
  have hl5 := hz.l5
  have HCV : Hid (checkV b = (placedV b && wordsV b && notedV b.notes &&
  ((decide (b.kind = 1) && decide (b.entry = 0) && (match b.places with | [] => false | p :: _ => decide (p.kind = 1)) && decide (b.exps.length = 0)) ||
   (decide (b.kind = 2) && decide (b.entry = -1) && decide (b.imps.length = 0) && exportedV b.places b.exps)))) := Lib.hid rfl
  obtain ⟨X, hX⟩ : ∃ X, chkE b = X := ⟨_, rfl⟩
  have HX : Hid (X = if checkV b = true then 0 else 1) := Lib.hid hX.symm
  rw [hX]
  have BX := Blk.made w 28 (bcells b h)
  have hnX := (New.refl w).alloc (.cells (bcells b h) 28)
  obtain ⟨kind, entry, image, places, fix, imps, exps, notes⟩ := b
  obtain ⟨a1, c1, a2, c2, a3, c3, a4, c4, a5, c5⟩ := h
  simp only [bcells] at BX hnX H50 H51P HBG HPO HPNP HCV hr1 HR4 HR5 hl4 hl5 ⊢
  obtain ⟨v1, hv1⟩ : ∃ v, placedV ⟨kind, entry, image, places, fix, imps, exps, notes⟩ = v := ⟨_, rfl⟩
  obtain ⟨v2, hv2⟩ : ∃ v, wordsV ⟨kind, entry, image, places, fix, imps, exps, notes⟩ = v := ⟨_, rfl⟩
  obtain ⟨cv, hv5⟩ : ∃ v, checkV ⟨kind, entry, image, places, fix, imps, exps, notes⟩ = v := ⟨_, rfl⟩
  obtain ⟨n1, hn1⟩ : ∃ n, places.length = n := ⟨_, rfl⟩
  obtain ⟨n2, hn2⟩ : ∃ n, fix.length = n := ⟨_, rfl⟩
  obtain ⟨n3, hn3⟩ : ∃ n, imps.length = n := ⟨_, rfl⟩
  obtain ⟨n4, hn4⟩ : ∃ n, exps.length = n := ⟨_, rfl⟩
  obtain ⟨n5, hn5⟩ : ∃ n, notes.length = n := ⟨_, rfl⟩
  rw [hv1] at H50 H51P HPO HPNP
  rw [hv2] at H51P
  rw [hv1, hv2, hv5, hn3, hn4] at HCV
  rw [hv5] at HX
  rw [hn1, hn2, hn3, hn4, hn5] at BX hnX H50 H51P HBG ⊢
  rw [hn1] at HPO hr1
  rw [hn4] at HR4 hl4
  rw [hn5] at HR5 hl5
  have HL1 := Lib.hid hn1
  have HL4 := Lib.hid hn4
  have HL5 := Lib.hid hn5
  have HE0 : Hid (n4 = 0 → exportedV places exps = true) := Lib.hid (fun q => exported_good (fun j hj => by omega))
  have HN64 : Hid (64 < n5 → notedV notes = false) := Lib.hid (fun q => by unfold notedV; rw [hn5, decide_eq_false (by omega : ¬ n5 ≤ 64), Bool.and_false])
  clear hv1 hv2 hv5 hn1 hn2 hn3 hn4 hn5 hX hr hz
  cases v1
  · have hx : X = 1 := by rw [HX.out, HCV.out]; simp
    subst hx
    clear hr1
    go_enter Tryz.func15, Tryz.ntmps15
    go_wp2_with (first | (go_at_call 51; (with_reducible refine (H51.out _ (hnX.trans k1)).mono ?_); rintro e w2 ⟨rfl, k2⟩; have B2 := BX.new (k1.trans k2); have d0 := B2.cell' 0 _ rfl; have d1 := B2.cell' 1 _ rfl; have d2 := B2.cell' 2 _ rfl; have d3 := B2.cell' 3 _ rfl; have d4 := B2.cell' 4 _ rfl; have d5 := B2.cell' 5 _ rfl; have d6 := B2.cell' 6 _ rfl; have d7 := B2.cell' 7 _ rfl; have p2 := cell_new ((hnX.trans k1).trans k2) p0) | (go_at_call 50; (with_reducible refine (H50.out _ hnX).mono ?_); rintro e w1 ⟨rfl, k1⟩; have B1 := BX.new k1; have ca0 := B1.cell' 0 _ rfl; have ca1 := B1.cell' 1 _ rfl; have ca2 := B1.cell' 2 _ rfl; have ca3 := B1.cell' 3 _ rfl; have ca4 := B1.cell' 4 _ rfl; have ca5 := B1.cell' 5 _ rfl; have ca6 := B1.cell' 6 _ rfl; have ca7 := B1.cell' 7 _ rfl))
    go_ret
    exact ⟨rfl, hnX.trans k1⟩
  · have H51 := Lib.hid (H51P.out rfl)
    have HPN := Lib.hid (HPNP.out rfl)
    have hpos := HPO.out rfl
    obtain ⟨p, ps, hps⟩ : ∃ p ps, places = p :: ps := by
      cases places with
      | nil => have := HL1.out; simp at this; omega
      | cons p ps => exact ⟨p, ps, rfl⟩
    obtain ⟨bk, o, rfl, _, hcell⟩ := hr1.2 (by omega)
    have p0 := hcell 2 (.int .i64 p.kind) (by rw [hps]; rfl)
    rw [hps] at HCV
    dsimp only at HCV
    rw [← hps] at HCV
    have j1 : (0 : Int) < (n1 : Int) := by omega
    obtain ⟨pk, hpk⟩ : ∃ k, p.kind = k := ⟨_, rfl⟩
    rw [hpk] at p0 HCV
    clear H51P HPO HPNP hr1 hcell hpk HL1 hps
    cases v2
    · have hx : X = 1 := by rw [HX.out, HCV.out]; simp
      subst hx
      go_enter Tryz.func15, Tryz.ntmps15
      go_wp2_with (first | (go_at_call 51; (with_reducible refine (H51.out _ (hnX.trans k1)).mono ?_); rintro e w2 ⟨rfl, k2⟩; have B2 := BX.new (k1.trans k2); have d0 := B2.cell' 0 _ rfl; have d1 := B2.cell' 1 _ rfl; have d2 := B2.cell' 2 _ rfl; have d3 := B2.cell' 3 _ rfl; have d4 := B2.cell' 4 _ rfl; have d5 := B2.cell' 5 _ rfl; have d6 := B2.cell' 6 _ rfl; have d7 := B2.cell' 7 _ rfl; have p2 := cell_new ((hnX.trans k1).trans k2) p0) | (go_at_call 50; (with_reducible refine (H50.out _ hnX).mono ?_); rintro e w1 ⟨rfl, k1⟩; have B1 := BX.new k1; have ca0 := B1.cell' 0 _ rfl; have ca1 := B1.cell' 1 _ rfl; have ca2 := B1.cell' 2 _ rfl; have ca3 := B1.cell' 3 _ rfl; have ca4 := B1.cell' 4 _ rfl; have ca5 := B1.cell' 5 _ rfl; have ca6 := B1.cell' 6 _ rfl; have ca7 := B1.cell' 7 _ rfl))
      go_ret
      exact ⟨rfl, (hnX.trans k1).trans k2⟩
    · by_cases h64 : n5 ≤ 64
      · have t64 : ¬ (64 : Int) < (n5 : Int) := by omega
        rw [Bool.true_and, Bool.true_and] at HCV
        by_cases e1 : kind = 1
        · subst e1
          by_cases e2 : entry = 0
          · subst e2
            by_cases e3 : pk = 1
            · subst e3
              by_cases e4 : n4 = 0
              · subst e4
                have HCV9 : Hid (cv = (notedV notes && exportedV places exps)) := Lib.hid (by rw [HCV.out, HE0.out rfl]; simp)
                clear HCV HE0
                have HCV := Lib.hid HCV9.out
                clear HCV9
                go_enter Tryz.func15, Tryz.ntmps15
                go_wp2_with (first | (go_at_call 51; (with_reducible refine (H51.out _ (hnX.trans k1)).mono ?_); rintro e w2 ⟨rfl, k2⟩; have B2 := BX.new (k1.trans k2); have d0 := B2.cell' 0 _ rfl; have d1 := B2.cell' 1 _ rfl; have d2 := B2.cell' 2 _ rfl; have d3 := B2.cell' 3 _ rfl; have d4 := B2.cell' 4 _ rfl; have d5 := B2.cell' 5 _ rfl; have d6 := B2.cell' 6 _ rfl; have d7 := B2.cell' 7 _ rfl; have p2 := cell_new ((hnX.trans k1).trans k2) p0) | (go_at_call 50; (with_reducible refine (H50.out _ hnX).mono ?_); rintro e w1 ⟨rfl, k1⟩; have B1 := BX.new k1; have ca0 := B1.cell' 0 _ rfl; have ca1 := B1.cell' 1 _ rfl; have ca2 := B1.cell' 2 _ rfl; have ca3 := B1.cell' 3 _ rfl; have ca4 := B1.cell' 4 _ rfl; have ca5 := B1.cell' 5 _ rfl; have ca6 := B1.cell' 6 _ rfl; have ca7 := B1.cell' 7 _ rfl))
                have hn2' : New w w2 := (hnX.trans k1).trans k2
                have g6 := B2.cell' 6 _ rfl
                go_loopw [3, 58] (fun v3 v58 wr => ∃ (i : Nat) (last : ByteArray), v58 = .int .i64 i ∧ v3 = .string last ∧ i ≤ 0 ∧ New w wr ∧ Blk wr w.heap.size 28 #[.int .i64 1, .int .i64 0, .string image, .slice (some ⟨bk, o, none⟩) n1 c1, .slice a2 n2 c2, .slice a3 n3 c3, .slice a4 0 c4, .slice a5 n5 c5] ∧ Hid (LastX exps i last) ∧ Hid (∀ j, j < i → expOK places exps j = true)) (fun _ v58 _ => 0 - (intOf v58).toNat)
                case atStart => exact ⟨0, ⟨#[]⟩, rfl, rfl, by omega, hn2', B2, Lib.hid (Or.inl ⟨rfl, rfl⟩), Lib.hid (fun j hj => absurd hj (by omega))⟩
                case round =>
                  clear hn2' B2 g6 d0 d1 d2 d3 d4 d5 d6 d7
                  obtain ⟨i, last, rfl, rfl, hi9, hn3', BR, HLX, HOK⟩ := hrel
                  obtain ⟨wp, rfl⟩ : ∃ wp : World, wp = wr := ⟨_, rfl⟩
                  have h0i : i = 0 := by omega
                  subst h0i
                  have HEX : Hid (exportedV places exps = true) := Lib.hid (exported_good (fun j hj => HOK.out j (by rw [HL4.out] at hj; exact hj)))
                  have HCV2 : Hid (cv = notedV notes) := Lib.hid (by rw [HCV.out, HEX.out, Bool.and_true])
                  have g7 := BR.cell' 7 _ rfl
                  clear HEX HOK HLX HCV hi9
                  go_wp2
                  go_loopw [6, 87] (fun v6 v87 wr => ∃ (j : Nat), v87 = .int .i64 j ∧ j ≤ n5 ∧ wr.ownsRow w.heap.size 9 1 v6 j ((notes.take j).map fun p => Value.string p.name) ∧ New w wr ∧ Hid (notedGo (notes.drop j) ((notes.take j).map fun p => p.name).reverse = notedGo notes [])) (fun _ v87 _ => n5 - (intOf v87).toNat)
                  case atStart => exact ⟨0, rfl, by omega, World.ownsRow_nil .., hn3', Lib.hid rfl⟩
                  case round =>
                    clear hn3' BR g7
                    obtain ⟨j, rfl, hj9, hown, hn6, HGo⟩ := hrel
                    by_cases hlt : j < n5
                    · obtain ⟨bk, o, rfl, hbk, x, hx, hcell⟩ := rd_row (f := ntC) (k := 2) (fun _ => rfl) HL5.out (HR5.out.below hn6) hlt
                      have HGA := Lib.hid (notedGo_at (seen := ((notes.take j).map fun p => p.name).reverse) hx)
                      have HTK := Lib.hid (take_note hx)
                      obtain ⟨xs, xt⟩ := x
                      simp only at HGA HTK
                      obtain ⟨A6, c6', rfl, _, _, hrd⟩ := own_form hown
                      have q0 := hcell 0 (.string xs) (by omega) rfl
                      have q1 := hcell 1 (.string xt) (by omega) rfl
                      simp only [Nat.add_zero] at q0
                      rw [← Nat.add_assoc] at q1
                      have BXX := Blk.made wr 40 #[.string xs, .string xt]
                      have hnX3 := New.alloc hn6 (.cells #[.string xs, .string xt] 40)
                      have HNa := Lib.hid (fun w => rname_any xs w)
                      have HRD := Lib.hid hrd
                      have HHs := Lib.hid (fun W (hW : New (wr.alloc (.cells #[.string xs, .string xt] 40)) W) => has_seen notes xs j A6 c6' W (by have := HL5.out; omega) (HRD.out.below (New.trans ((New.refl wr).alloc _) hW)) (by omega))
                      have hown6 := Lib.hid (fun W (hW : New (wr.alloc (.cells #[.string xs, .string xt] 40)) W) => hown.kept (New.trans ((New.refl wr).alloc _) hW |>.grown_ none) (by cases A6 <;> simp [Value.ownBlock]))
                      have HNO : Hid (noteOK ⟨xs, xt⟩ = (nameV xs && decide (xt.size ≤ 65536))) := Lib.hid rfl
                      have i0' : (0 : Int) ≤ (j : Int) := by omega
                      have i1 : (j : Int) < (n5 : Int) := by omega
                      clear hcell hx hrd hown
                      obtain ⟨nk, hnk⟩ : ∃ b, nameV xs = b := ⟨_, rfl⟩
                      rw [hnk] at HNa HNO
                      obtain ⟨sk, hsk⟩ : ∃ b, seenN ((notes.take j).map fun p => p.name).reverse xs = b := ⟨_, rfl⟩
                      rw [hsk] at HHs HGA
                      clear hnk hsk
                      have HBad : Hid (¬ (sk = false ∧ noteOK ⟨xs, xt⟩ = true) → X = 1) := Lib.hid (fun q => by
                        rw [HX.out, HCV2.out]
                        unfold notedV
                        rw [← HGo.out, HGA.out, if_neg q]; rfl)
                      cases nk
                      · have hxX := HBad.out (by rw [HNO.out]; simp)
                        subst hxX
                        go_wp2_with (first | (go_at_call 53; (with_reducible refine (HHs.out _ k6).mono ?_); rintro e w7 ⟨rfl, rfl⟩) | (go_at_call 34; (with_reducible refine (HNa.out _).mono ?_); rintro e w6 ⟨rfl, k6⟩; have X6 := BXX.new k6; have f60 := X6.cell' 0 _ rfl; have f61 := X6.cell' 1 _ rfl))
                        go_ret
                        exact ⟨rfl, New.trans hnX3 k6⟩
                      · cases sk
                        · by_cases h6 : xt.size ≤ 65536
                          · have t6 : ¬ (65536 : Int) < (xt.size : Int) := by omega
                            have HG9 : Hid (notedGo (notes.drop (j + 1)) (xs :: ((notes.take j).map fun p => p.name).reverse) = notedGo notes []) := Lib.hid (by
                              rw [← HGo.out, HGA.out, if_pos ⟨rfl, by rw [HNO.out, decide_eq_true h6]; rfl⟩])
                            go_wp2_with (first | (at_builtin; refine wpList_append_own _ rfl (.tmp 107) (.tmp 110) 54 rfl w.heap.size 9 i0 (.string ByteArray.empty) 1 16 Tryz.underlying54 hi hz0 hz1 hz2 rfl (by decide) _ _ _ rfl ((hown6.out _ k6).alloc _) ⟨w6.heap.size, 0, none⟩ 1 1 [.string xs] rfl rfl (cell_one_new _ _ _) (by simp [Value.oneCell']) (by simp [maxLen]; omega) (by omega) (by have := (New.trans hnX3 k6).size; simp; omega) ?_; intro v' w8 hown8 hg8 _) | (go_at_call 53; (with_reducible refine (HHs.out _ k6).mono ?_); rintro e w7 ⟨rfl, rfl⟩) | (go_at_call 34; (with_reducible refine (HNa.out _).mono ?_); rintro e w6 ⟨rfl, k6⟩; have X6 := BXX.new k6; have f60 := X6.cell' 0 _ rfl; have f61 := X6.cell' 1 _ rfl))
                            go_roundw
                            case rel => first | exact ⟨j + 1, by go_num, by omega, by rw [HTK.out.1]; simpa using hown8, Below.grown ((New.trans hnX3 k6).alloc _) hg8 (by have := (New.trans hnX3 k6).size; simp; omega) (fun k hk => ((hown6.out _ k6).lt k hk).1), Lib.hid (by rw [HTK.out.2]; exact HG9.out)⟩ | ((repeat apply Exists.intro); exact ⟨⟨j + 1, by go_num, by omega, by rw [HTK.out.1]; simpa using hown8, Below.grown ((New.trans hnX3 k6).alloc _) hg8 (by have := (New.trans hnX3 k6).size; simp; omega) (fun k hk => ((hown6.out _ k6).lt k hk).1), Lib.hid (by rw [HTK.out.2]; exact HG9.out)⟩, rfl⟩)
                            case measure => simp [intOf]; omega
                          · have t6 : (65536 : Int) < (xt.size : Int) := by omega
                            have hxX := HBad.out (by rw [HNO.out, decide_eq_false h6]; simp)
                            subst hxX
                            go_wp2_with (first | (go_at_call 53; (with_reducible refine (HHs.out _ k6).mono ?_); rintro e w7 ⟨rfl, rfl⟩) | (go_at_call 34; (with_reducible refine (HNa.out _).mono ?_); rintro e w6 ⟨rfl, k6⟩; have X6 := BXX.new k6; have f60 := X6.cell' 0 _ rfl; have f61 := X6.cell' 1 _ rfl))
                            go_ret
                            exact ⟨rfl, New.trans hnX3 k6⟩
                        · have hxX := HBad.out (by simp)
                          subst hxX
                          go_wp2_with (first | (go_at_call 53; (with_reducible refine (HHs.out _ k6).mono ?_); rintro e w7 ⟨rfl, rfl⟩) | (go_at_call 34; (with_reducible refine (HNa.out _).mono ?_); rintro e w6 ⟨rfl, k6⟩; have X6 := BXX.new k6; have f60 := X6.cell' 0 _ rfl; have f61 := X6.cell' 1 _ rfl))
                          go_ret
                          exact ⟨rfl, New.trans hnX3 k6⟩
                    · obtain rfl : n5 = j := by omega
                      have hxX : X = 0 := by
                        rw [HX.out, HCV2.out]
                        have hg := HGo.out
                        rw [List.drop_of_length_le (by rw [HL5.out]; exact Nat.le_refl _), notedGo] at hg
                        unfold notedV
                        rw [← hg, HL5.out, decide_eq_true h64]; rfl
                      subst hxX
                      go_wp2
                      go_ret
                      exact ⟨rfl, hn6⟩
              · have e5 : ((n4 : Int) == 0) = false := by rw [beq_eq_false_iff_ne]; omega
                have e6 : (0 : Int) < (n4 : Int) := by omega
                have hx : X = 1 := by rw [HX.out, HCV.out]; simp [e4]
                subst hx
                go_enter Tryz.func15, Tryz.ntmps15
                go_wp2_with (first | (go_at_call 51; (with_reducible refine (H51.out _ (hnX.trans k1)).mono ?_); rintro e w2 ⟨rfl, k2⟩; have B2 := BX.new (k1.trans k2); have d0 := B2.cell' 0 _ rfl; have d1 := B2.cell' 1 _ rfl; have d2 := B2.cell' 2 _ rfl; have d3 := B2.cell' 3 _ rfl; have d4 := B2.cell' 4 _ rfl; have d5 := B2.cell' 5 _ rfl; have d6 := B2.cell' 6 _ rfl; have d7 := B2.cell' 7 _ rfl; have p2 := cell_new ((hnX.trans k1).trans k2) p0) | (go_at_call 50; (with_reducible refine (H50.out _ hnX).mono ?_); rintro e w1 ⟨rfl, k1⟩; have B1 := BX.new k1; have ca0 := B1.cell' 0 _ rfl; have ca1 := B1.cell' 1 _ rfl; have ca2 := B1.cell' 2 _ rfl; have ca3 := B1.cell' 3 _ rfl; have ca4 := B1.cell' 4 _ rfl; have ca5 := B1.cell' 5 _ rfl; have ca6 := B1.cell' 6 _ rfl; have ca7 := B1.cell' 7 _ rfl))
                go_ret
                exact ⟨rfl, (hnX.trans k1).trans k2⟩
            · have e5 : (pk == 1) = false := beq_eq_false_iff_ne.2 e3
              have e6 : (pk != 1) = true := by rw [bne, e5]; rfl
              have hx : X = 1 := by rw [HX.out, HCV.out]; simp [e3]
              subst hx
              clear e3
              go_enter Tryz.func15, Tryz.ntmps15
              go_wp2_with (first | (go_at_call 51; (with_reducible refine (H51.out _ (hnX.trans k1)).mono ?_); rintro e w2 ⟨rfl, k2⟩; have B2 := BX.new (k1.trans k2); have d0 := B2.cell' 0 _ rfl; have d1 := B2.cell' 1 _ rfl; have d2 := B2.cell' 2 _ rfl; have d3 := B2.cell' 3 _ rfl; have d4 := B2.cell' 4 _ rfl; have d5 := B2.cell' 5 _ rfl; have d6 := B2.cell' 6 _ rfl; have d7 := B2.cell' 7 _ rfl; have p2 := cell_new ((hnX.trans k1).trans k2) p0) | (go_at_call 50; (with_reducible refine (H50.out _ hnX).mono ?_); rintro e w1 ⟨rfl, k1⟩; have B1 := BX.new k1; have ca0 := B1.cell' 0 _ rfl; have ca1 := B1.cell' 1 _ rfl; have ca2 := B1.cell' 2 _ rfl; have ca3 := B1.cell' 3 _ rfl; have ca4 := B1.cell' 4 _ rfl; have ca5 := B1.cell' 5 _ rfl; have ca6 := B1.cell' 6 _ rfl; have ca7 := B1.cell' 7 _ rfl))
              go_ret
              exact ⟨rfl, (hnX.trans k1).trans k2⟩
          · have e5 : (entry == 0) = false := beq_eq_false_iff_ne.2 e2
            have e6 : (entry != 0) = true := by rw [bne, e5]; rfl
            have hx : X = 1 := by rw [HX.out, HCV.out]; simp [e2]
            subst hx
            clear e2
            go_enter Tryz.func15, Tryz.ntmps15
            go_wp2_with (first | (go_at_call 51; (with_reducible refine (H51.out _ (hnX.trans k1)).mono ?_); rintro e w2 ⟨rfl, k2⟩; have B2 := BX.new (k1.trans k2); have d0 := B2.cell' 0 _ rfl; have d1 := B2.cell' 1 _ rfl; have d2 := B2.cell' 2 _ rfl; have d3 := B2.cell' 3 _ rfl; have d4 := B2.cell' 4 _ rfl; have d5 := B2.cell' 5 _ rfl; have d6 := B2.cell' 6 _ rfl; have d7 := B2.cell' 7 _ rfl; have p2 := cell_new ((hnX.trans k1).trans k2) p0) | (go_at_call 50; (with_reducible refine (H50.out _ hnX).mono ?_); rintro e w1 ⟨rfl, k1⟩; have B1 := BX.new k1; have ca0 := B1.cell' 0 _ rfl; have ca1 := B1.cell' 1 _ rfl; have ca2 := B1.cell' 2 _ rfl; have ca3 := B1.cell' 3 _ rfl; have ca4 := B1.cell' 4 _ rfl; have ca5 := B1.cell' 5 _ rfl; have ca6 := B1.cell' 6 _ rfl; have ca7 := B1.cell' 7 _ rfl))
            go_ret
            exact ⟨rfl, (hnX.trans k1).trans k2⟩
        · have e5 : (kind == 1) = false := beq_eq_false_iff_ne.2 e1
          by_cases e2 : kind = 2
          · subst e2
            by_cases e3 : entry = -1
            · subst e3
              by_cases e4 : n3 = 0
              · subst e4
                have HCV9 : Hid (cv = (notedV notes && exportedV places exps)) := Lib.hid (by rw [HCV.out]; simp)
                clear HCV HE0 e1
                have HCV := Lib.hid HCV9.out
                clear HCV9
                go_enter Tryz.func15, Tryz.ntmps15
                go_wp2_with (first | (go_at_call 51; (with_reducible refine (H51.out _ (hnX.trans k1)).mono ?_); rintro e w2 ⟨rfl, k2⟩; have B2 := BX.new (k1.trans k2); have d0 := B2.cell' 0 _ rfl; have d1 := B2.cell' 1 _ rfl; have d2 := B2.cell' 2 _ rfl; have d3 := B2.cell' 3 _ rfl; have d4 := B2.cell' 4 _ rfl; have d5 := B2.cell' 5 _ rfl; have d6 := B2.cell' 6 _ rfl; have d7 := B2.cell' 7 _ rfl; have p2 := cell_new ((hnX.trans k1).trans k2) p0) | (go_at_call 50; (with_reducible refine (H50.out _ hnX).mono ?_); rintro e w1 ⟨rfl, k1⟩; have B1 := BX.new k1; have ca0 := B1.cell' 0 _ rfl; have ca1 := B1.cell' 1 _ rfl; have ca2 := B1.cell' 2 _ rfl; have ca3 := B1.cell' 3 _ rfl; have ca4 := B1.cell' 4 _ rfl; have ca5 := B1.cell' 5 _ rfl; have ca6 := B1.cell' 6 _ rfl; have ca7 := B1.cell' 7 _ rfl))
                have hn2' : New w w2 := (hnX.trans k1).trans k2
                have g6 := B2.cell' 6 _ rfl
                go_loopw [3, 58] (fun v3 v58 wr => ∃ (i : Nat) (last : ByteArray), v58 = .int .i64 i ∧ v3 = .string last ∧ i ≤ n4 ∧ New w wr ∧ Blk wr w.heap.size 28 #[.int .i64 2, .int .i64 (-1), .string image, .slice (some ⟨bk, o, none⟩) n1 c1, .slice a2 n2 c2, .slice a3 0 c3, .slice a4 n4 c4, .slice a5 n5 c5] ∧ Hid (LastX exps i last) ∧ Hid (∀ j, j < i → expOK places exps j = true)) (fun _ v58 _ => n4 - (intOf v58).toNat)
                case atStart => exact ⟨0, ⟨#[]⟩, rfl, rfl, by omega, hn2', B2, Lib.hid (Or.inl ⟨rfl, rfl⟩), Lib.hid (fun j hj => absurd hj (by omega))⟩
                case round =>
                  clear hn2' B2 g6 d0 d1 d2 d3 d4 d5 d6 d7
                  obtain ⟨i, last, rfl, rfl, hi9, hn3', BR, HLX, HOK⟩ := hrel
                  obtain ⟨wp, rfl⟩ : ∃ wp : World, wp = wr := ⟨_, rfl⟩
                  by_cases hlt : i < n4
                  · obtain ⟨bk, o, rfl, hbk, x, hx, hcell⟩ := rd_row (f := exC) (k := 2) (fun _ => rfl) HL4.out (HR4.out.below hn3') hlt
                    have HEB := Lib.hid (fun q => exported_bad (ps := places) (l := exps) (i := i) (by rw [HL4.out]; exact hlt) q)
                    have HER := Lib.hid (fun hn => exp_ref (ps := places) hx HLX.out hn)
                    have HEN := Lib.hid (fun hn => exp_noname (ps := places) hx HPN.out hn)
                    have HLN : Hid (LastX exps (i + 1) x.sym) := Lib.hid (Or.inr ⟨i, x, rfl, hx, rfl⟩)
                    obtain ⟨xs, xp⟩ := x
                    simp only at HER HEN HLN
                    have q0 := hcell 0 (.string xs) (by omega) rfl
                    have q1 := hcell 1 (.int .i64 xp) (by omega) rfl
                    simp only [Nat.add_zero] at q0
                    rw [← Nat.add_assoc] at q1
                    have BXX := Blk.made wp 83 #[.string xs, .int .i64 xp]
                    have hnX3 := New.alloc hn3' (.cells #[.string xs, .int .i64 xp] 83)
                    have BB3 := BR.alloc (.cells #[.string xs, .int .i64 xp] 83)
                    have HNa := Lib.hid (fun w => rname_any xs w)
                    have HBg := Lib.hid (HBG.out xp xs)
                    have i0' : (0 : Int) ≤ (i : Int) := by omega
                    have i1 : (i : Int) < (n4 : Int) := by omega
                    clear hcell hx
                    obtain ⟨nk, hnk⟩ : ∃ b, nameV xs = b := ⟨_, rfl⟩
                    rw [hnk] at HNa HER HEN
                    clear hnk
                    cases nk
                    · have hxX : X = 1 := by rw [HX.out, HCV.out, HEB.out (HEN.out rfl)]; simp
                      subst hxX
                      go_wp2_with (first | (go_at_call 52; (with_reducible refine (HBg.out _ (New.trans hnX3 k4)).mono ?_); rintro e w5 ⟨rfl, k5⟩; have X5 := X4.new k5; have f50 := X5.cell' 0 _ rfl) | (go_at_call 34; (with_reducible refine (HNa.out _).mono ?_); rintro e w4 ⟨rfl, k4⟩; have X4 := BXX.new k4; have f40 := X4.cell' 0 _ rfl; have f41 := X4.cell' 1 _ rfl; have B4 := BB3.new k4; have m0 := B4.cell' 0 _ rfl; have m1 := B4.cell' 1 _ rfl; have m2 := B4.cell' 2 _ rfl; have m3 := B4.cell' 3 _ rfl; have m4 := B4.cell' 4 _ rfl; have m5 := B4.cell' 5 _ rfl; have m6 := B4.cell' 6 _ rfl; have m7 := B4.cell' 7 _ rfl))
                      go_ret
                      exact ⟨rfl, New.trans hnX3 k4⟩
                    · have HER2 := Lib.hid (HER.out rfl)
                      obtain ⟨l1, hl1⟩ : ∃ b, Op.bytesLess xs.toList last.toList = b := ⟨_, rfl⟩
                      obtain ⟨l2, hl2⟩ : ∃ b, (xs.toList == last.toList) = b := ⟨_, rfl⟩
                      obtain ⟨l3, hl3⟩ : ∃ b, places.any (begP xp xs) = b := ⟨_, rfl⟩
                      rw [hl1, hl2, hl3] at HER2
                      rw [hl3] at HBg
                      clear hl3 HER HEN
                      cases l1
                      · cases l2
                        · cases l3
                          · have hxX : X = 1 := by rw [HX.out, HCV.out, HEB.out (by rw [HER2.out]; rfl)]; simp
                            subst hxX
                            go_wp2_with (first | (go_at_call 52; (with_reducible refine (HBg.out _ (New.trans hnX3 k4)).mono ?_); rintro e w5 ⟨rfl, k5⟩; have X5 := X4.new k5; have f50 := X5.cell' 0 _ rfl) | (go_at_call 34; (with_reducible refine (HNa.out _).mono ?_); rintro e w4 ⟨rfl, k4⟩; have X4 := BXX.new k4; have f40 := X4.cell' 0 _ rfl; have f41 := X4.cell' 1 _ rfl; have B4 := BB3.new k4; have m0 := B4.cell' 0 _ rfl; have m1 := B4.cell' 1 _ rfl; have m2 := B4.cell' 2 _ rfl; have m3 := B4.cell' 3 _ rfl; have m4 := B4.cell' 4 _ rfl; have m5 := B4.cell' 5 _ rfl; have m6 := B4.cell' 6 _ rfl; have m7 := B4.cell' 7 _ rfl))
                            go_ret
                            exact ⟨rfl, New.trans (New.trans hnX3 k4) k5⟩
                          · have HOK2 : Hid (∀ j, j < i + 1 → expOK places exps j = true) := Lib.hid (fun j hj => by
                              rcases Nat.lt_or_ge j i with hj2 | hj2
                              · exact HOK.out j hj2
                              · obtain rfl : j = i := by omega
                                rw [HER2.out]; rfl)
                            go_wp2_with (first | (go_at_call 52; (with_reducible refine (HBg.out _ (New.trans hnX3 k4)).mono ?_); rintro e w5 ⟨rfl, k5⟩; have X5 := X4.new k5; have f50 := X5.cell' 0 _ rfl) | (go_at_call 34; (with_reducible refine (HNa.out _).mono ?_); rintro e w4 ⟨rfl, k4⟩; have X4 := BXX.new k4; have f40 := X4.cell' 0 _ rfl; have f41 := X4.cell' 1 _ rfl; have B4 := BB3.new k4; have m0 := B4.cell' 0 _ rfl; have m1 := B4.cell' 1 _ rfl; have m2 := B4.cell' 2 _ rfl; have m3 := B4.cell' 3 _ rfl; have m4 := B4.cell' 4 _ rfl; have m5 := B4.cell' 5 _ rfl; have m6 := B4.cell' 6 _ rfl; have m7 := B4.cell' 7 _ rfl))
                            go_roundw
                            case rel => exact ⟨i + 1, xs, by go_num, rfl, by omega, New.trans (New.trans hnX3 k4) k5, B4.new k5, HLN, HOK2⟩
                            case measure => simp [intOf]; omega
                        · have hxX : X = 1 := by rw [HX.out, HCV.out, HEB.out (by rw [HER2.out]; rfl)]; simp
                          subst hxX
                          go_wp2_with (first | (go_at_call 52; (with_reducible refine (HBg.out _ (New.trans hnX3 k4)).mono ?_); rintro e w5 ⟨rfl, k5⟩; have X5 := X4.new k5; have f50 := X5.cell' 0 _ rfl) | (go_at_call 34; (with_reducible refine (HNa.out _).mono ?_); rintro e w4 ⟨rfl, k4⟩; have X4 := BXX.new k4; have f40 := X4.cell' 0 _ rfl; have f41 := X4.cell' 1 _ rfl; have B4 := BB3.new k4; have m0 := B4.cell' 0 _ rfl; have m1 := B4.cell' 1 _ rfl; have m2 := B4.cell' 2 _ rfl; have m3 := B4.cell' 3 _ rfl; have m4 := B4.cell' 4 _ rfl; have m5 := B4.cell' 5 _ rfl; have m6 := B4.cell' 6 _ rfl; have m7 := B4.cell' 7 _ rfl))
                          go_ret
                          exact ⟨rfl, New.trans hnX3 k4⟩
                      · have hxX : X = 1 := by rw [HX.out, HCV.out, HEB.out (by rw [HER2.out]; rfl)]; simp
                        subst hxX
                        go_wp2_with (first | (go_at_call 52; (with_reducible refine (HBg.out _ (New.trans hnX3 k4)).mono ?_); rintro e w5 ⟨rfl, k5⟩; have X5 := X4.new k5; have f50 := X5.cell' 0 _ rfl) | (go_at_call 34; (with_reducible refine (HNa.out _).mono ?_); rintro e w4 ⟨rfl, k4⟩; have X4 := BXX.new k4; have f40 := X4.cell' 0 _ rfl; have f41 := X4.cell' 1 _ rfl; have B4 := BB3.new k4; have m0 := B4.cell' 0 _ rfl; have m1 := B4.cell' 1 _ rfl; have m2 := B4.cell' 2 _ rfl; have m3 := B4.cell' 3 _ rfl; have m4 := B4.cell' 4 _ rfl; have m5 := B4.cell' 5 _ rfl; have m6 := B4.cell' 6 _ rfl; have m7 := B4.cell' 7 _ rfl))
                        go_ret
                        exact ⟨rfl, New.trans hnX3 k4⟩
                  · obtain rfl : n4 = i := by omega
                    have HEX : Hid (exportedV places exps = true) := Lib.hid (exported_good (fun j hj => HOK.out j (by rw [HL4.out] at hj; exact hj)))
                    have HCV2 : Hid (cv = notedV notes) := Lib.hid (by rw [HCV.out, HEX.out, Bool.and_true])
                    have g7 := BR.cell' 7 _ rfl
                    clear HEX HOK HLX HCV hi9 hlt
                    go_wp2
                    go_loopw [6, 87] (fun v6 v87 wr => ∃ (j : Nat), v87 = .int .i64 j ∧ j ≤ n5 ∧ wr.ownsRow w.heap.size 9 1 v6 j ((notes.take j).map fun p => Value.string p.name) ∧ New w wr ∧ Hid (notedGo (notes.drop j) ((notes.take j).map fun p => p.name).reverse = notedGo notes [])) (fun _ v87 _ => n5 - (intOf v87).toNat)
                    case atStart => exact ⟨0, rfl, by omega, World.ownsRow_nil .., hn3', Lib.hid rfl⟩
                    case round =>
                      clear hn3' BR g7
                      obtain ⟨j, rfl, hj9, hown, hn6, HGo⟩ := hrel
                      by_cases hlt : j < n5
                      · obtain ⟨bk, o, rfl, hbk, x, hx, hcell⟩ := rd_row (f := ntC) (k := 2) (fun _ => rfl) HL5.out (HR5.out.below hn6) hlt
                        have HGA := Lib.hid (notedGo_at (seen := ((notes.take j).map fun p => p.name).reverse) hx)
                        have HTK := Lib.hid (take_note hx)
                        obtain ⟨xs, xt⟩ := x
                        simp only at HGA HTK
                        obtain ⟨A6, c6', rfl, _, _, hrd⟩ := own_form hown
                        have q0 := hcell 0 (.string xs) (by omega) rfl
                        have q1 := hcell 1 (.string xt) (by omega) rfl
                        simp only [Nat.add_zero] at q0
                        rw [← Nat.add_assoc] at q1
                        have BXX := Blk.made wr 40 #[.string xs, .string xt]
                        have hnX3 := New.alloc hn6 (.cells #[.string xs, .string xt] 40)
                        have HNa := Lib.hid (fun w => rname_any xs w)
                        have HRD := Lib.hid hrd
                        have HHs := Lib.hid (fun W (hW : New (wr.alloc (.cells #[.string xs, .string xt] 40)) W) => has_seen notes xs j A6 c6' W (by have := HL5.out; omega) (HRD.out.below (New.trans ((New.refl wr).alloc _) hW)) (by omega))
                        have hown6 := Lib.hid (fun W (hW : New (wr.alloc (.cells #[.string xs, .string xt] 40)) W) => hown.kept (New.trans ((New.refl wr).alloc _) hW |>.grown_ none) (by cases A6 <;> simp [Value.ownBlock]))
                        have HNO : Hid (noteOK ⟨xs, xt⟩ = (nameV xs && decide (xt.size ≤ 65536))) := Lib.hid rfl
                        have i0' : (0 : Int) ≤ (j : Int) := by omega
                        have i1 : (j : Int) < (n5 : Int) := by omega
                        clear hcell hx hrd hown
                        obtain ⟨nk, hnk⟩ : ∃ b, nameV xs = b := ⟨_, rfl⟩
                        rw [hnk] at HNa HNO
                        obtain ⟨sk, hsk⟩ : ∃ b, seenN ((notes.take j).map fun p => p.name).reverse xs = b := ⟨_, rfl⟩
                        rw [hsk] at HHs HGA
                        clear hnk hsk
                        have HBad : Hid (¬ (sk = false ∧ noteOK ⟨xs, xt⟩ = true) → X = 1) := Lib.hid (fun q => by
                          rw [HX.out, HCV2.out]
                          unfold notedV
                          rw [← HGo.out, HGA.out, if_neg q]; rfl)
                        cases nk
                        · have hxX := HBad.out (by rw [HNO.out]; simp)
                          subst hxX
                          go_wp2_with (first | (go_at_call 53; (with_reducible refine (HHs.out _ k6).mono ?_); rintro e w7 ⟨rfl, rfl⟩) | (go_at_call 34; (with_reducible refine (HNa.out _).mono ?_); rintro e w6 ⟨rfl, k6⟩; have X6 := BXX.new k6; have f60 := X6.cell' 0 _ rfl; have f61 := X6.cell' 1 _ rfl))
                          go_ret
                          exact ⟨rfl, New.trans hnX3 k6⟩
                        · cases sk
                          · by_cases h6 : xt.size ≤ 65536
                            · have t6 : ¬ (65536 : Int) < (xt.size : Int) := by omega
                              have HG9 : Hid (notedGo (notes.drop (j + 1)) (xs :: ((notes.take j).map fun p => p.name).reverse) = notedGo notes []) := Lib.hid (by
                                rw [← HGo.out, HGA.out, if_pos ⟨rfl, by rw [HNO.out, decide_eq_true h6]; rfl⟩])
                              go_wp2_with (first | (at_builtin; refine wpList_append_own _ rfl (.tmp 107) (.tmp 110) 54 rfl w.heap.size 9 i0 (.string ByteArray.empty) 1 16 Tryz.underlying54 hi hz0 hz1 hz2 rfl (by decide) _ _ _ rfl ((hown6.out _ k6).alloc _) ⟨w6.heap.size, 0, none⟩ 1 1 [.string xs] rfl rfl (cell_one_new _ _ _) (by simp [Value.oneCell']) (by simp [maxLen]; omega) (by omega) (by have := (New.trans hnX3 k6).size; simp; omega) ?_; intro v' w8 hown8 hg8 _) | (go_at_call 53; (with_reducible refine (HHs.out _ k6).mono ?_); rintro e w7 ⟨rfl, rfl⟩) | (go_at_call 34; (with_reducible refine (HNa.out _).mono ?_); rintro e w6 ⟨rfl, k6⟩; have X6 := BXX.new k6; have f60 := X6.cell' 0 _ rfl; have f61 := X6.cell' 1 _ rfl))
                              go_roundw
                              case rel => first | exact ⟨j + 1, by go_num, by omega, by rw [HTK.out.1]; simpa using hown8, Below.grown ((New.trans hnX3 k6).alloc _) hg8 (by have := (New.trans hnX3 k6).size; simp; omega) (fun k hk => ((hown6.out _ k6).lt k hk).1), Lib.hid (by rw [HTK.out.2]; exact HG9.out)⟩ | ((repeat apply Exists.intro); exact ⟨⟨j + 1, by go_num, by omega, by rw [HTK.out.1]; simpa using hown8, Below.grown ((New.trans hnX3 k6).alloc _) hg8 (by have := (New.trans hnX3 k6).size; simp; omega) (fun k hk => ((hown6.out _ k6).lt k hk).1), Lib.hid (by rw [HTK.out.2]; exact HG9.out)⟩, rfl⟩)
                              case measure => simp [intOf]; omega
                            · have t6 : (65536 : Int) < (xt.size : Int) := by omega
                              have hxX := HBad.out (by rw [HNO.out, decide_eq_false h6]; simp)
                              subst hxX
                              go_wp2_with (first | (go_at_call 53; (with_reducible refine (HHs.out _ k6).mono ?_); rintro e w7 ⟨rfl, rfl⟩) | (go_at_call 34; (with_reducible refine (HNa.out _).mono ?_); rintro e w6 ⟨rfl, k6⟩; have X6 := BXX.new k6; have f60 := X6.cell' 0 _ rfl; have f61 := X6.cell' 1 _ rfl))
                              go_ret
                              exact ⟨rfl, New.trans hnX3 k6⟩
                          · have hxX := HBad.out (by simp)
                            subst hxX
                            go_wp2_with (first | (go_at_call 53; (with_reducible refine (HHs.out _ k6).mono ?_); rintro e w7 ⟨rfl, rfl⟩) | (go_at_call 34; (with_reducible refine (HNa.out _).mono ?_); rintro e w6 ⟨rfl, k6⟩; have X6 := BXX.new k6; have f60 := X6.cell' 0 _ rfl; have f61 := X6.cell' 1 _ rfl))
                            go_ret
                            exact ⟨rfl, New.trans hnX3 k6⟩
                      · obtain rfl : n5 = j := by omega
                        have hxX : X = 0 := by
                          rw [HX.out, HCV2.out]
                          have hg := HGo.out
                          rw [List.drop_of_length_le (by rw [HL5.out]; exact Nat.le_refl _), notedGo] at hg
                          unfold notedV
                          rw [← hg, HL5.out, decide_eq_true h64]; rfl
                        subst hxX
                        go_wp2
                        go_ret
                        exact ⟨rfl, hn6⟩
              · have e6 : ((n3 : Int) == 0) = false := by rw [beq_eq_false_iff_ne]; omega
                have e7 : (0 : Int) < (n3 : Int) := by omega
                have hx : X = 1 := by rw [HX.out, HCV.out]; simp [e4]
                subst hx
                clear e1
                go_enter Tryz.func15, Tryz.ntmps15
                go_wp2_with (first | (go_at_call 51; (with_reducible refine (H51.out _ (hnX.trans k1)).mono ?_); rintro e w2 ⟨rfl, k2⟩; have B2 := BX.new (k1.trans k2); have d0 := B2.cell' 0 _ rfl; have d1 := B2.cell' 1 _ rfl; have d2 := B2.cell' 2 _ rfl; have d3 := B2.cell' 3 _ rfl; have d4 := B2.cell' 4 _ rfl; have d5 := B2.cell' 5 _ rfl; have d6 := B2.cell' 6 _ rfl; have d7 := B2.cell' 7 _ rfl; have p2 := cell_new ((hnX.trans k1).trans k2) p0) | (go_at_call 50; (with_reducible refine (H50.out _ hnX).mono ?_); rintro e w1 ⟨rfl, k1⟩; have B1 := BX.new k1; have ca0 := B1.cell' 0 _ rfl; have ca1 := B1.cell' 1 _ rfl; have ca2 := B1.cell' 2 _ rfl; have ca3 := B1.cell' 3 _ rfl; have ca4 := B1.cell' 4 _ rfl; have ca5 := B1.cell' 5 _ rfl; have ca6 := B1.cell' 6 _ rfl; have ca7 := B1.cell' 7 _ rfl))
                go_ret
                exact ⟨rfl, (hnX.trans k1).trans k2⟩
            · have e6 : (entry == -1) = false := beq_eq_false_iff_ne.2 e3
              have e7 : (entry != -1) = true := by rw [bne, e6]; rfl
              have hx : X = 1 := by rw [HX.out, HCV.out]; simp [e3]
              subst hx
              clear e1 e3
              go_enter Tryz.func15, Tryz.ntmps15
              go_wp2_with (first | (go_at_call 51; (with_reducible refine (H51.out _ (hnX.trans k1)).mono ?_); rintro e w2 ⟨rfl, k2⟩; have B2 := BX.new (k1.trans k2); have d0 := B2.cell' 0 _ rfl; have d1 := B2.cell' 1 _ rfl; have d2 := B2.cell' 2 _ rfl; have d3 := B2.cell' 3 _ rfl; have d4 := B2.cell' 4 _ rfl; have d5 := B2.cell' 5 _ rfl; have d6 := B2.cell' 6 _ rfl; have d7 := B2.cell' 7 _ rfl; have p2 := cell_new ((hnX.trans k1).trans k2) p0) | (go_at_call 50; (with_reducible refine (H50.out _ hnX).mono ?_); rintro e w1 ⟨rfl, k1⟩; have B1 := BX.new k1; have ca0 := B1.cell' 0 _ rfl; have ca1 := B1.cell' 1 _ rfl; have ca2 := B1.cell' 2 _ rfl; have ca3 := B1.cell' 3 _ rfl; have ca4 := B1.cell' 4 _ rfl; have ca5 := B1.cell' 5 _ rfl; have ca6 := B1.cell' 6 _ rfl; have ca7 := B1.cell' 7 _ rfl))
              go_ret
              exact ⟨rfl, (hnX.trans k1).trans k2⟩
          · have e6 : (kind == 2) = false := beq_eq_false_iff_ne.2 e2
            have hx : X = 1 := by rw [HX.out, HCV.out]; simp [e1, e2]
            subst hx
            clear e1 e2
            go_enter Tryz.func15, Tryz.ntmps15
            go_wp2_with (first | (go_at_call 51; (with_reducible refine (H51.out _ (hnX.trans k1)).mono ?_); rintro e w2 ⟨rfl, k2⟩; have B2 := BX.new (k1.trans k2); have d0 := B2.cell' 0 _ rfl; have d1 := B2.cell' 1 _ rfl; have d2 := B2.cell' 2 _ rfl; have d3 := B2.cell' 3 _ rfl; have d4 := B2.cell' 4 _ rfl; have d5 := B2.cell' 5 _ rfl; have d6 := B2.cell' 6 _ rfl; have d7 := B2.cell' 7 _ rfl; have p2 := cell_new ((hnX.trans k1).trans k2) p0) | (go_at_call 50; (with_reducible refine (H50.out _ hnX).mono ?_); rintro e w1 ⟨rfl, k1⟩; have B1 := BX.new k1; have ca0 := B1.cell' 0 _ rfl; have ca1 := B1.cell' 1 _ rfl; have ca2 := B1.cell' 2 _ rfl; have ca3 := B1.cell' 3 _ rfl; have ca4 := B1.cell' 4 _ rfl; have ca5 := B1.cell' 5 _ rfl; have ca6 := B1.cell' 6 _ rfl; have ca7 := B1.cell' 7 _ rfl))
            go_ret
            exact ⟨rfl, (hnX.trans k1).trans k2⟩
      · have t64 : (64 : Int) < (n5 : Int) := by omega
        have hx : X = 1 := by rw [HX.out, HCV.out, HN64.out (by omega)]; simp
        subst hx
        go_enter Tryz.func15, Tryz.ntmps15
        go_wp2_with (first | (go_at_call 51; (with_reducible refine (H51.out _ (hnX.trans k1)).mono ?_); rintro e w2 ⟨rfl, k2⟩; have B2 := BX.new (k1.trans k2); have d0 := B2.cell' 0 _ rfl; have d1 := B2.cell' 1 _ rfl; have d2 := B2.cell' 2 _ rfl; have d3 := B2.cell' 3 _ rfl; have d4 := B2.cell' 4 _ rfl; have d5 := B2.cell' 5 _ rfl; have d6 := B2.cell' 6 _ rfl; have d7 := B2.cell' 7 _ rfl; have p2 := cell_new ((hnX.trans k1).trans k2) p0) | (go_at_call 50; (with_reducible refine (H50.out _ hnX).mono ?_); rintro e w1 ⟨rfl, k1⟩; have B1 := BX.new k1; have ca0 := B1.cell' 0 _ rfl; have ca1 := B1.cell' 1 _ rfl; have ca2 := B1.cell' 2 _ rfl; have ca3 := B1.cell' 3 _ rfl; have ca4 := B1.cell' 4 _ rfl; have ca5 := B1.cell' 5 _ rfl; have ca6 := B1.cell' 6 _ rfl; have ca7 := B1.cell' 7 _ rfl))
        go_ret
        exact ⟨rfl, (hnX.trans k1).trans k2⟩
end Go.Proofs.YtnknmpcgbfmfjaaGreatDoor

