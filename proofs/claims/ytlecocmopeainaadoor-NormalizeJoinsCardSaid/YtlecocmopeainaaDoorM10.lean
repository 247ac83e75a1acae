/- The law NormalizeJoins, walked. The package-level variables that the library reads hold what the row lists (Env; utf8's two tables). -/
import Derived.Test.YtlecocmopeainaaDoorU3
import Derived.Test.YtlecocmopeainaaDoorM4
import Derived.Test.YtlecocmopeainaaDoorM9
import Derived.Deep.AppendLies
namespace Go.Proofs.YtlecocmopeainaaDoor
open Go Go.RowKit Go.Joins Go.Shelf
set_option linter.unusedSimpArgs false
set_option linter.unusedVariables false

theorem linesR_all {p : ByteArray} {ws : List Lz} (h : validV p ws = true) : linesR p ws 0 (ws.length : Nat) = (0, linesV (ws.map Prod.snd)) := by
  rw [linesR, if_neg (by rw [h]; decide), if_neg (by omega)]
  simp
theorem nl_app (a b : ByteArray) : nl (a ++ b) = nl a + nl b := by simp [nl]
theorem lx_snoc (wx l : List Lx) (x : Lx) (na : Nat) : lxCells (wx ++ l) ++ [.string x.1, .int .i64 ((x.2 : Int) + (na : Int) + 1)] = lxCells (wx ++ (l ++ [shift (na + 1) x])) := by
  rw [← List.append_assoc, lxCells_app (wx ++ l)]
  have e : ((x.2 + (na + 1) : Nat) : Int) = (x.2 : Int) + (na : Int) + 1 := by omega
  simp only [lxCells, shift, List.flatMap_cons, List.flatMap_nil, List.append_nil, e]
theorem fit_of {ws : List Lx} {m : Nat} (h : ∀ x ∈ ws, 0 < x.1.size ∧ x.1.size ≤ m) (hm : m ≤ 10000) : Fit lA (toZ ws) := ⟨by decide, fun x hx => by
  obtain ⟨y, hy, rfl⟩ := List.mem_map.1 hx
  have := h y hy
  show y.1.size ≤ _
  omega⟩

set_option maxRecDepth 100000 in
set_option maxHeartbeats 3000000 in
theorem law_joins (a b : ByteArray) (w : World) (hE : Env w) (hT : Tabs w) :
    Calls Tryd.prog 10 #[.string a, .string b] w fun e w' => e = .returned (.bool true) ∧ New w w' := by
  by_cases g1 : a.size ≤ 1000
  case neg =>
    have g1' : (1000 : Int) < (a.size : Int) := by omega
    clear g1
    go_enter Tryd.func10, Tryd.ntmps10
    go_wp2_with (go_at_call 12; refine (awake_any _ hE).mono ?_; rintro e0 w0 ⟨rfl, hw0⟩)
    go_ret
    exact ⟨rfl, hw0⟩
  have g1' : ¬ (1000 : Int) < (a.size : Int) := by omega
  by_cases g2 : b.size ≤ 1000
  case neg =>
    have g2' : (1000 : Int) < (b.size : Int) := by omega
    clear g2
    go_enter Tryd.func10, Tryd.ntmps10
    go_wp2_with (go_at_call 12; refine (awake_any _ hE).mono ?_; rintro e0 w0 ⟨rfl, hw0⟩)
    go_ret
    exact ⟨rfl, hw0⟩
  have g2' : ¬ (1000 : Int) < (b.size : Int) := by omega
  have ks : (a ++ b).size = a.size + b.size := ByteArray.size_append
  have k0 : ¬ (9223372036854775807 < a.size + b.size) := by omega
  cases g3 : Lib.contains (a ++ b).data.toList noteL
  case true =>
    have C0 : ∀ w, Env w → Calls Tryd.prog 27 #[.string (a ++ b), .string ⟨#[110, 111, 116, 101]⟩] w fun e w' => e = .returned (.bool true) ∧ w = w' := fun w h => contains_any' (a ++ b) ⟨#[110, 111, 116, 101]⟩ true w h (by omega) g3
    have D0 := Lib.hid C0
    clear C0 g3
    go_enter Tryd.func10, Tryd.ntmps10
    go_wp2_with (first | (go_at_call 27; refine (D0.out _ (hE.new hw0)).mono ?_; rintro e1 w1 ⟨rfl, rfl⟩) | (go_at_call 12; refine (awake_any _ hE).mono ?_; rintro e0 w0 ⟨rfl, hw0⟩))
    go_ret
    exact ⟨rfl, hw0⟩
  have C0 : ∀ w, Env w → Calls Tryd.prog 27 #[.string (a ++ b), .string ⟨#[110, 111, 116, 101]⟩] w fun e w' => e = .returned (.bool false) ∧ w = w' := fun w h => contains_any' (a ++ b) ⟨#[110, 111, 116, 101]⟩ false w h (by omega) g3
  obtain ⟨cn, hcn⟩ : ∃ cn, nl (a ++ b) = cn := ⟨_, rfl⟩
  have C5 : ∀ w, Calls Tryd.prog 28 #[.string (a ++ b), .string ⟨#[10]⟩] w fun e w' => e = .returned (.int .i64 (cn : Nat)) ∧ w = w' := fun w => count_lf (a ++ b) w cn hcn
  by_cases g4 : cn ≤ 1000
  case neg =>
    have g4' : (1000 : Int) < (cn : Int) := by omega
    have D0 := Lib.hid C0
    have D5 := Lib.hid C5
    clear C0 C5 g3 g4 hcn
    go_enter Tryd.func10, Tryd.ntmps10
    go_wp2_with (first | (go_at_call 28; refine (D5.out _).mono ?_; rintro e2 w2 ⟨rfl, rfl⟩) | (go_at_call 27; refine (D0.out _ (hE.new hw0)).mono ?_; rintro e1 w1 ⟨rfl, rfl⟩) | (go_at_call 12; refine (awake_any _ hE).mono ?_; rintro e0 w0 ⟨rfl, hw0⟩))
    go_ret
    exact ⟨rfl, hw0⟩
  have g4' : ¬ (1000 : Int) < (cn : Int) := by omega
  obtain ⟨z, hz⟩ : ∃ z, a ++ ByteArray.mk #[10] ++ b = z := ⟨_, rfl⟩
  have hzd : z.data.toList = a.data.toList ++ 10 :: b.data.toList := by rw [← hz]; simp
  have hzs : z.size = a.size + 1 + b.size := by rw [← hz, ByteArray.size_append, ByteArray.size_append]; rfl
  rw [nl_app] at hcn
  have hj := wordsV_join (p := lA) hzd (by simpa using g3) pathA g1 g2 (by omega)
  have hgood := wordsV_good false false (p := lA) (d := z) pathA
  obtain ⟨na, hna⟩ : ∃ na, nl a = na := ⟨_, rfl⟩
  rw [hna] at hj
  have hlw : allW false false 0 (lw z) = allW false false 0 (lw a) ++ (allW false false 0 (lw b)).map (shift (na + 1)) := by
    rw [hj.2.2.2.2.2, allW_app, ← allW_shift, lw_len, hna, Nat.zero_add]
  obtain ⟨wx, hwx⟩ : ∃ wx, allW false false 0 (lw a) = wx := ⟨_, rfl⟩
  obtain ⟨wy, hwy⟩ : ∃ wy, allW false false 0 (lw b) = wy := ⟨_, rfl⟩
  obtain ⟨wz, hwz⟩ : ∃ wz, wx ++ wy.map (shift (na + 1)) = wz := ⟨_, rfl⟩
  rw [hwx, hwy, hwz] at hlw
  rw [hwx, hwy, hwz] at hj
  obtain ⟨j1, j2, j3, j4, j5, _⟩ := hj
  rw [j3] at hgood
  obtain ⟨_, hv, hsz, _⟩ := hgood.resolve_left (fun h => absurd (show (0 : Int) = 10 from h.1) (by decide))
  have hF := fit_of hsz (by omega)
  have hlr := linesR_all hv
  have hgs := lines_good hv
  have htr := fun i s hs => has_trim (p := lA) (z := z) (ws := wz) hlw.symm hv (i := i) (s := s) hs
  obtain ⟨sp, hsp⟩ : ∃ sp, linesV ((toZ wz).map Prod.snd) = sp := ⟨_, rfl⟩
  rw [hsp] at hlr hgs htr
  obtain ⟨n1, hn1⟩ : ∃ n, wx.length = n := ⟨_, rfl⟩
  obtain ⟨n2, hn2⟩ : ∃ n, wy.length = n := ⟨_, rfl⟩
  obtain ⟨n3, hn3⟩ : ∃ n, wz.length = n := ⟨_, rfl⟩
  obtain ⟨ns, hns⟩ : ∃ n, sp.length = n := ⟨_, rfl⟩
  obtain ⟨L, hL⟩ : ∃ n, (parts 10 z).length = n := ⟨_, rfl⟩
  have hnn : n3 = n1 + n2 := by rw [← hn3, ← hwz, List.length_append, List.length_map, hn1, hn2]
  have htz : (toZ wz).length = n3 := by rw [toZ, List.length_map, hn3]
  have hnsl : ns ≤ n3 := by
    rw [← hns, ← hsp]
    have := linesV_len ((toZ wz).map Prod.snd)
    rw [List.length_map, htz] at this
    exact this
  rw [htz] at hlr
  have C1 : ∀ w, Env w → Calls Tryd.prog 13 #[.string ⟨#[97]⟩, .string a, .bool false, .bool false] w fun e' w' => ∃ A c, e' = .returned (.tuple #[.agg #[.string lA, .slice A n1 c], .int .i64 0]) ∧ Rd w' 2 A n1 (lxCells wx) ∧ n1 ≤ c ∧ c ≤ maxLen ∧ New w w' := fun w h => words_n lA a lA false false wx n1 0 w j1 hn1 (if_pos rfl) (by decide) h
  have C2 : ∀ w, Env w → Calls Tryd.prog 13 #[.string ⟨#[97]⟩, .string b, .bool false, .bool false] w fun e' w' => ∃ A c, e' = .returned (.tuple #[.agg #[.string lA, .slice A n2 c], .int .i64 0]) ∧ Rd w' 2 A n2 (lxCells wy) ∧ n2 ≤ c ∧ c ≤ maxLen ∧ New w w' := fun w h => words_n lA b lA false false wy n2 0 w j2 hn2 (if_pos rfl) (by decide) h
  have C3 : ∀ w, Env w → Calls Tryd.prog 13 #[.string ⟨#[97]⟩, .string (a ++ ⟨#[10]⟩ ++ b), .bool false, .bool false] w fun e' w' => ∃ A c, e' = .returned (.tuple #[.agg #[.string lA, .slice A n3 c], .int .i64 0]) ∧ Rd w' 2 A n3 (lxCells wz) ∧ n3 ≤ c ∧ c ≤ maxLen ∧ New w w' := fun w h => by
    rw [hz]; exact words_n lA z lA false false wz n3 0 w j3 hn3 (if_pos rfl) (by decide) h
  have C4 : ∀ (A : Option Addr) (c : Nat) w, Rd w 2 A n3 (lxCells wz) → n3 ≤ c → c ≤ maxLen → Env w → Calls Tryd.prog 23 #[.agg #[.string lA, .slice A n3 c], .int .i64 0, .int .i64 n3] w fun e w' => ∃ A' c', e = .returned (.tuple #[.slice A' ns c', .int .i64 0]) ∧ Rd w' 3 A' ns (spCells lA sp) ∧ New w w' := fun A c w hr h1 h2 hE => by
    refine (lines_any _ lA (toZ wz) 0 n3 w (ztext_of hn3 hr h1 h2) hF hE).mono ?_
    rintro e w' ⟨A', c', he, hr', _, _, hn⟩
    rw [hlr] at he hr'
    simp only at he hr'
    rw [hns] at he hr'
    exact ⟨A', c', he, hr', hn⟩
  have C6 : ∀ w, Env w → Calls Tryd.prog 31 #[.string (a ++ ⟨#[10]⟩ ++ b), .string ⟨#[10]⟩] w fun e w' => e = .returned (.slice (some ⟨w.heap.size, 0, none⟩) L L) ∧ Rd w' 1 (some ⟨w.heap.size, 0, none⟩) L ((parts 10 z).map Value.string) ∧ New w w' := fun w h => by
    rw [hz]; exact split_lines z w (by omega) h L hL
  have C7 : ∀ w, Calls Tryd.prog 28 #[.string a, .string ⟨#[10]⟩] w fun e w' => e = .returned (.int .i64 (na : Nat)) ∧ w = w' := fun w => count_lf a w na hna
  have C8 : ∀ (A : Option Addr) (c : Nat) (i : Int) (r : Bool) w, hasB sp i = r → Rd w 3 A ns (spCells lA sp) → Env w → Calls Tryd.prog 34 #[.slice A ns c, .agg #[.string ⟨#[97]⟩, .int .i64 i]] w fun e w' => e = .returned (.bool r) ∧ New w w' := fun A c i r w hr hrd hE =>
    has_any A c ns lA i sp r hr hns hgs pathA (by decide) w (by omega) hrd hE
  have HAT : Hid (∀ i, i < n2 → ∃ x : Lx, wy[i]? = some x ∧ x.2 < 2000 ∧ wy.take (i + 1) = wy.take i ++ [x]) := Lib.hid (fun i hi => by
    have hi' : i < wy.length := by rw [hn2]; exact hi
    refine ⟨wy[i], List.getElem?_eq_getElem hi', ?_, List.take_succ_eq_append_getElem hi'⟩
    have hm : ((wy[i].1, wy[i].2 + (na + 1)) : Lx) ∈ wz := by
      rw [← hwz]
      exact List.mem_append_right _ (List.mem_map.2 ⟨wy[i], List.getElem_mem hi', rfl⟩)
    have h2 := valid_lines hv ((wy[i].1, ((wy[i].2 + (na + 1) : Nat) : Int))) (List.mem_map.2 ⟨_, hm, rfl⟩)
    simp only at h2
    omega)
  have HLI : Hid (∀ i, i < L → ∃ s, (parts 10 z)[i]? = some s ∧ s.size ≤ 3000 ∧ hasB sp (i : Nat) = !(Lib.trimF blN s).toList.isEmpty) := Lib.hid (fun i hi => by
    have hi' : i < (parts 10 z).length := by rw [hL]; exact hi
    have hm := List.getElem?_eq_getElem hi'
    refine ⟨(parts 10 z)[i], hm, ?_, htr i _ hm⟩
    have := parts_small (d := z) _ (List.getElem_mem hi')
    omega)
  have hn3b : n3 ≤ 2000 := by omega
  have hLb : L ≤ 4000 := by
    rw [← hL, parts_length, hzd, List.count_append, List.count_cons]
    have h1 : a.data.toList.count 10 = na := hna
    have h2 : a.data.toList.count 10 + b.data.toList.count 10 = cn := hcn
    rw [if_pos (by rfl)]; omega
  have hnab : na ≤ 1000 := by omega
  have HWZ := Lib.hid hwz
  have HN1 := Lib.hid hn1
  have HN2 := Lib.hid hn2
  have HN3 := Lib.hid hn3
  have HNN := Lib.hid hnn
  have D0 := Lib.hid C0
  have D1 := Lib.hid C1
  have D2 := Lib.hid C2
  have D3 := Lib.hid C3
  have D4 := Lib.hid C4
  have D5 := Lib.hid C5
  have D6 := Lib.hid C6
  have D7 := Lib.hid C7
  have D8 := Lib.hid C8
  have s1 : IntKind.i64.wrap ((n1 : Int) + (n2 : Int)) = (n3 : Int) := by rw [IntWalk.i64_in _ (by omega)]; omega
  have k1 : ¬ (9223372036854775807 < a.size + 1) := by omega
  have k2 : ¬ (9223372036854775807 < a.size + 1 + b.size) := by omega
  have hb1 : n1 ≤ 2000 := by omega
  have hb2 : n2 ≤ 2000 := by omega
  clear C0 C1 C2 C3 C4 C5 C6 C7 C8 hgood hF hlr hgs htr hsp hns hL hwz hn1 hn2 hn3 hnn htz hlw hv hsz hwx hwy hna hzd hzs hz hcn g3 j1 j2 j3 j4 j5 ks
  go_enter Tryd.func10, Tryd.ntmps10
  go_wp2_with (first
    | (go_at_call 29; refine (clone_lx A1 c1 n1 wx HN1.out _ hr1B (by omega)).mono ?_; rintro e5 w5 ⟨v5, rfl, own5, hw5⟩; have e21 := (BB2.new hw5).cell' 1 _ rfl)
    | (go_at_call 13; refine (D3.out _ hE2).mono ?_; rintro e3 w3 ⟨A3, c3, rfl, hr3, h3a, h3b, hw3⟩; have BB1 := (((B1.new hw2).alloc (.cells #[.string lA, .slice A2 n2 c2] 25)).new hw3).alloc (.cells #[.string lA, .slice A3 n3 c3] 25); have BB2 := ((Blk.made w2 25 #[.string lA, .slice A2 n2 c2]).new hw3).alloc (.cells #[.string lA, .slice A3 n3 c3] 25); have BB3 := Blk.made w3 25 #[.string lA, .slice A3 n3 c3]; have e10 := BB1.cell' 0 _ rfl; have e11 := BB1.cell' 1 _ rfl; have e20 := BB2.cell' 0 _ rfl; have e21 := BB2.cell' 1 _ rfl; have e30 := BB3.cell' 0 _ rfl; have e31 := BB3.cell' 1 _ rfl; have hr1B := ((((hr1.alloc (.cells #[.string lA, .slice A1 n1 c1] 25)).below hw2).alloc (.cells #[.string lA, .slice A2 n2 c2] 25)).below hw3).alloc (.cells #[.string lA, .slice A3 n3 c3] 25); have hr2B := ((hr2.alloc (.cells #[.string lA, .slice A2 n2 c2] 25)).below hw3).alloc (.cells #[.string lA, .slice A3 n3 c3] 25); have hr3B := hr3.alloc (.cells #[.string lA, .slice A3 n3 c3] 25))
    | (go_at_call 13; refine (D2.out _ hE1).mono ?_; rintro e2 w2 ⟨A2, c2, rfl, hr2, h2a, h2b, hw2⟩; have hE2 := (hE1.new hw2).new ((New.refl _).alloc (.cells #[.string lA, .slice A2 n2 c2] 25)))
    | (go_at_call 13; refine (D1.out _ hE0).mono ?_; rintro e1 w1 ⟨A1, c1, rfl, hr1, h1a, h1b, hw1⟩; have hE1 := (hE0.new hw1).new ((New.refl _).alloc (.cells #[.string lA, .slice A1 n1 c1] 25)); have B1 := Blk.made w1 25 #[.string lA, .slice A1 n1 c1])
    | (go_at_call 28; refine (D5.out _).mono ?_; rintro e8 w8 ⟨rfl, rfl⟩)
    | (go_at_call 27; refine (D0.out _ hE0).mono ?_; rintro e9 w9 ⟨rfl, rfl⟩)
    | (go_at_call 12; refine (awake_any _ hE).mono ?_; rintro e0 w0 ⟨rfl, hw0⟩; have hE0 := hE.new hw0))
  have hwW : New w (w3.alloc (.cells #[.string lA, .slice A3 n3 c3] 25)) := (((((hw0.trans hw1).alloc _).trans hw2).alloc _).trans hw3).alloc _
  generalize w3.alloc (.cells #[.string lA, .slice A3 n3 c3] 25) = WB at *
  have hEB := hE.new hwW
  have hTB := hT.new hwW
  obtain ⟨i0, hi, hz0, hz1, hz2⟩ := info_parts Tryd.info33
  go_loopw [11, 89] (fun v11 v89 wr => ∃ j : Nat, v89 = .int .i64 j ∧ j ≤ n2 ∧ wr.ownsRow WB.heap.size 33 2 v11 (n1 + j) (lxCells (wx ++ (wy.take j).map (shift (na + 1)))) ∧ New WB wr) (fun _ v89 _ => n2 - (intOf v89).toNat)
  case atStart => exact ⟨0, rfl, by omega, by simpa using own5, hw5⟩
  case round =>
    obtain ⟨j, rfl, hj, own, hn⟩ := hrel
    have hzr := hn.size
    by_cases hlt : j < n2
    · obtain ⟨x, hx, hx2, hxt⟩ := HAT.out j hlt
      obtain ⟨bk, o, rfl, hbk, hc⟩ := (hr2B.below hn).2 (by omega)
      obtain ⟨hxl, hxe⟩ := List.getElem?_eq_some_iff.1 hx
      obtain ⟨q1, q2⟩ := lxCells_at wy j hxl
      rw [hxe] at q1 q2
      have d1 := hc _ _ q1
      have d2 : wr.cell? ⟨bk, o + j * 2 + 1, none⟩ = some (.int .i64 x.2) := hc _ _ q2
      have HX := Lib.hid hxt
      have u1 : IntKind.i64.wrap ((x.2 : Int) + (na : Int)) = (x.2 : Int) + (na : Int) := IntWalk.i64_in _ (by omega)
      have u2 : IntKind.i64.wrap ((x.2 : Int) + (na : Int) + 1) = (x.2 : Int) + (na : Int) + 1 := IntWalk.i64_in _ (by omega)
      clear hc q1 q2 hx hxt hxl hxe
      obtain ⟨A9, c9, rfl, h91, h92, _⟩ := own_form own
      go_wp2_with (fail)
      have hne : (Value.slice A9 (n1 + j) c9).ownBlock ≠ some wr.heap.size := fun e => by
        have := (own.lt _ e).2
        omega
      have hS : Pair (wr.alloc (.cells #[.string x.1, .int .i64 x.2] 33)) wr.heap.size (.string x.1) (.int .i64 x.2) (wr.alloc (.cells #[.string x.1, .int .i64 x.2] 33)) := ⟨(Blk.made wr 33 _).cell' 0 _ rfl, (Blk.made wr 33 _).cell' 1 _ rfl, New.refl _⟩
      go_region_held3 (fun W => W.cell? ⟨wr.heap.size, 0, none⟩ = some (.string x.1) ∧ W.cell? ⟨wr.heap.size, 1, none⟩ = some (.int .i64 x.2)) (first | exact ⟨hS.1, hS.2.1⟩ | go_keep | (go_split_ands; exact ⟨hgrow.cell (by assumption) (Ne.symm hne), hgrow.cell (by assumption) (Ne.symm hne)⟩)) (first | (go_at_call 28; refine (D7.out _).mono ?_; rintro e w9 ⟨rfl, rfl⟩) | (refine step_append_lies _ (by rfl) _ _ _ (by rfl) WB.heap.size 33 i0 _ 2 24 Tryd.underlying23 hi hz0 hz1 hz2 rfl (by omega) _ _ _ (by rfl) (((own.alloc _).alloc _).drew) ⟨wr.heap.size + 1, 0, none⟩ 1 1 [.string x.1, .int .i64 ((x.2 : Int) + (na : Int) + 1)] (by rfl) (by rfl) (World.news_of_block (cs := #[.string x.1, .int .i64 ((x.2 : Int) + (na : Int) + 1)]) (t := 33) (fr := (0, 0)) (by have := heap_alloc_new (wr.alloc (.cells #[.string x.1, .int .i64 x.2] 33)) (.cells #[.string x.1, .int .i64 ((x.2 : Int) + (na : Int) + 1)] 33); rw [World.size_alloc] at this; exact this)) (by simp [Value.oneCell']) (by omega) (by simp [maxLen]; try omega) (by omega) (by simp; omega) (wr.heap.size + 2) (by simp) ?_; intro gg cap2 w9 hown2 hgrow hat hlt2))
      go_wp2
      go_roundw
      case rel => exact ⟨j + 1, by go_num, by omega, own_len hown2 (by omega) (by have := HX.out; rw [this, List.map_append, List.map_cons, List.map_nil, lx_snoc]), Below.grown ((hn.alloc _).alloc _).drew hgrow (by simp; omega) (fun q hq => by have := (own.lt q hq).1; omega)⟩
      case measure => simp [intOf]; omega
    · obtain rfl : j = n2 := by omega
      have ownF := own_len (n' := n3) (xs' := lxCells wz) own HNN.out.symm (by rw [List.take_of_length_le (by rw [HN2.out]; exact Nat.le_refl _), HWZ.out])
      obtain ⟨A9, c9, rfl, h91, h92, hr9⟩ := own_form ownF
      have B3r := BB3.new hn
      have e30' := B3r.cell' 0 _ rfl
      have e31' := B3r.cell' 1 _ rfl
      have hEr := hEB.new hn
      have r3r := hr3B.below hn
      clear own ownF
      go_wp2_with (first
        | (go_at_call 31; refine (D6.out _ ((hEr.new hw6).new hw7)).mono ?_; rintro e8 w8 ⟨rfl, hr8, hw8⟩)
        | (go_at_call 30; refine (eqLx_same A3 A9 c3 c9 n3 wz HN3.out _ (r3r.below hw6) (hr9.below hw6) (by omega)).mono ?_; rintro e7 w7 ⟨rfl, hw7⟩)
        | (go_at_call 23; refine (D4.out A3 c3 _ r3r h3a h3b hEr).mono ?_; rintro e6 w6 ⟨A6, c6, rfl, hr6, hw6⟩; have B36 := B3r.new hw6; have e36 := B36.cell' 0 _ rfl; have e37 := B36.cell' 1 _ rfl))
      have hn8 : New w w8 := (((hwW.trans hn).trans hw6).trans hw7).trans hw8
      have hr6' := (hr6.below hw7).below hw8
      have hE8 := hE.new hn8
      have hT8 := hT.new hn8
      clear D0 D1 D2 D3 D4 D5 D6 D7 HAT r3r hr9 hEr hr1B hr2B hr3B
      go_loopw [129] (fun v129 wy2 => ∃ i : Nat, v129 = .int .i64 i ∧ i ≤ L ∧ New w8 wy2) (fun v129 _ => L - (intOf v129).toNat)
      case atStart => exact ⟨0, rfl, by omega, New.refl _⟩
      case round =>
        obtain ⟨i, rfl, hiL, hn9⟩ := hrel
        by_cases hlt : i < L
        · obtain ⟨s, hs, hs2, hsb⟩ := HLI.out i hlt
          obtain ⟨bk, o, he, hbk, hc⟩ := (hr8.below hn9).2 (by omega)
          injection he with he
          injection he with he1 he2
          subst he1 he2
          have d1 := hc i (.string s) (by rw [List.getElem?_map, hs]; rfl)
          rw [Nat.zero_add] at d1
          have HT8 := Lib.hid (trim_any s _ (by omega) (hT8.new hn9))
          have hr6n := hr6'.below hn9
          have hE9 := hE8.new hn9
          obtain ⟨t, ht⟩ : ∃ t, Lib.trimF blN s = t := ⟨_, rfl⟩
          rw [ht] at hsb HT8
          clear hc hs ht
          cases hb : t.toList.isEmpty
          · rw [hb] at hsb
            have HB := Lib.hid hsb
            clear hsb
            go_wp2_with (first | (go_at_call 34; refine (D8.out A6 c6 i true _ HB.out (hr6n.below hw10) (hE9.new hw10)).mono ?_; rintro e11 w11 ⟨rfl, hw11⟩) | (go_at_call 32; refine HT8.out.mono ?_; rintro e10 w10 ⟨rfl, hw10⟩))
            go_roundw
            case rel => exact ⟨i + 1, by go_num, by omega, (hn9.trans hw10).trans hw11⟩
            case measure => simp [intOf]; omega
          · rw [hb] at hsb
            have HB := Lib.hid hsb
            clear hsb
            go_wp2_with (first | (go_at_call 34; refine (D8.out A6 c6 i false _ HB.out (hr6n.below hw10) (hE9.new hw10)).mono ?_; rintro e11 w11 ⟨rfl, hw11⟩) | (go_at_call 32; refine HT8.out.mono ?_; rintro e10 w10 ⟨rfl, hw10⟩))
            go_roundw
            case rel => exact ⟨i + 1, by go_num, by omega, (hn9.trans hw10).trans hw11⟩
            case measure => simp [intOf]; omega
        · obtain rfl : i = L := by omega
          go_wp2
          go_ret
          exact ⟨rfl, hn8.trans hn9⟩
end Go.Proofs.YtlecocmopeainaaDoor
