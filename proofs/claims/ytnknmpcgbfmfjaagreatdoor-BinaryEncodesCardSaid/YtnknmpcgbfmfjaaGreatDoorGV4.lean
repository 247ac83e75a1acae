/- The reference's Decimal, Number, Text, number and text. Conditions: sizes. The reference's Encode. Conditions: sizes. (Printed by mk-v4.py.) -/
import Derived.Test.YtnknmpcgbfmfjaaGreatDoorGBase
import Derived.Test.YtnknmpcgbfmfjaaGreatDoorGV1
import Derived.Deep.RegionWith
import Derived.Test.YtnknmpcgbfmfjaaGreatDoorGV2
import Derived.Deep.RegionHeld3

namespace Go.Proofs.YtnknmpcgbfmfjaaGreatDoor
open Go Go.RowKit Go.Joins
set_option linter.unusedSimpArgs false
set_option linter.unusedVariables false

theorem itoa_low {n : Nat} (h : n < 10) : Lib.itoa (n : Int) = [UInt8.ofNat (48 + n)] := by
  rw [Lib.itoa, if_neg (by omega), Int.toNat_natCast, Lib.decDigits, dif_pos h]
theorem itoa_high {n : Nat} (h : 10 ≤ n) : Lib.itoa (n : Int) = Lib.itoa ((n / 10 : Nat) : Int) ++ Lib.itoa ((n % 10 : Nat) : Int) := by
  rw [Lib.itoa, if_neg (by omega), Int.toNat_natCast, Lib.itoa, if_neg (by omega), Int.toNat_natCast, Lib.itoa, if_neg (by omega), Int.toNat_natCast]
  conv => lhs; rw [Lib.decDigits, dif_neg (by omega)]
  rw [Lib.decDigits_one (i := n % 10) (by omega)]
theorem convD (W : World) (g k : Nat) (hk : k < 10) (h : W.cell? ⟨g, 0, none⟩ = some (.int .u8 (48 + (k : Int)))) : (convert 85 9 (.slice (some ⟨g, 0, none⟩) 1 1)).run Tryz.prog W = .ok (.string (S (Lib.itoa (k : Int)))) W := by
  rw [itoa_low hk]
  have h8 : (UInt8.ofNat (48 + k)).toNat = 48 + k := by
    show (48 + k) % 256 = _; omega
  refine run_convert_bytes_back (P := Tryz.prog) W 85 9 5 ⟨g, 0, none⟩ 1 [UInt8.ofNat (48 + k)] Tryz.underlying85 Tryz.underlying5 Tryz.underlying9 (fun j hj => ?_)
  obtain rfl : j = 0 := by simpa using hj
  have hadd : (⟨g, 0, none⟩ : Addr).add 0 = ⟨g, 0 + 0, none⟩ := by unfold Addr.add; split <;> simp_all
  rw [hadd, Nat.zero_add, h]
  show _ = some (Value.int .u8 ((UInt8.ofNat (48 + k)).toNat : Int))
  rw [h8]; simp
set_option maxRecDepth 100000 in
set_option maxHeartbeats 4000000 in
theorem decimal_low (n : Nat) (hn : n < 10) (w : World) :
    Calls Tryz.prog 129 #[.int .i64 n] w fun e w' => e = .returned (.string (S (Lib.itoa (n : Int)))) ∧ New w w' := by
  have CV : ∀ W g, W.cell? ⟨g, 0, none⟩ = some (.int .u8 (48 + (n : Int))) → (convert 85 9 (.slice (some ⟨g, 0, none⟩) 1 1)).run Tryz.prog W = .ok (.string (S (Lib.itoa (n : Int)))) W := fun W g h => convD W g n hn h
  have v0 : IntKind.i64.wrap (48 + (n : Int)) = 48 + (n : Int) := IntWalk.i64_in _ (by omega)
  have v1 : IntKind.u8.wrap (48 + (n : Int)) = 48 + (n : Int) := IntWalk.u8_in _ (by omega)
  have v2 : (n : Int) < 10 := by omega
  go_enter Tryz.func129, Tryz.ntmps129
  go_wp2
  go_ret
  exact ⟨rfl, (New.refl w).alloc _⟩
set_option maxRecDepth 100000 in
set_option maxHeartbeats 4000000 in
theorem decimal_step (n q r : Nat) (a : List UInt8) (hn : n ≤ 9223372036854775807) (hr : r < 10) (v2 : ¬ (n : Int) < 10) (d1 : (n : Int) / 10 = (q : Int)) (d2 : (n : Int) % 10 = (r : Int)) (h1 : a.length ≤ 21)
    (ih : ∀ w, Calls Tryz.prog 129 #[.int .i64 q] w fun e w' => e = .returned (.string (S a)) ∧ New w w') (w : World) :
    Calls Tryz.prog 129 #[.int .i64 n] w fun e w' => e = .returned (.string (S a ++ S (Lib.itoa (r : Int)))) ∧ New w w' := by
  have hlr : (Lib.itoa (r : Int)).length = 1 := by rw [itoa_low hr]; rfl
  have CV : ∀ W g, W.cell? ⟨g, 0, none⟩ = some (.int .u8 (48 + (r : Int))) → (convert 85 9 (.slice (some ⟨g, 0, none⟩) 1 1)).run Tryz.prog W = .ok (.string (S (Lib.itoa (r : Int)))) W := fun W g h => convD W g r hr h
  have k1 : ¬ (9223372036854775807 < (S a).size + (S (Lib.itoa (r : Int))).size) := by simp only [size_S]; omega
  generalize S (Lib.itoa (r : Int)) = sr at *
  generalize S a = sa at *
  have v0 : IntKind.i64.wrap (48 + (r : Int)) = 48 + (r : Int) := IntWalk.i64_in _ (by omega)
  have v1 : IntKind.u8.wrap (48 + (r : Int)) = 48 + (r : Int) := IntWalk.u8_in _ (by omega)
  have wq : IntKind.i64.wrap (q : Int) = (q : Int) := IntWalk.i64_in _ (by omega)
  have d3 : (n : Int).tmod 10 = (r : Int) := by rw [Int.tmod_eq_emod_of_nonneg (by omega)]; exact d2
  have IH := Lib.hid ih
  clear ih hlr
  go_enter Tryz.func129, Tryz.ntmps129
  go_wp2
  go_region_with (go_at_call 129; (with_reducible refine (IH.out _).mono ?_); rintro e w2 ⟨rfl, n2⟩; (try (have f0 : w2.cell? ⟨w.heap.size, 0, none⟩ = some (.int .u8 (48 + (r : Int))) := ((Blk.made w.drew 5 #[.int .u8 (48 + (r : Int))]).new n2).cell' 0 _ rfl)))
  all_goals go_wp2
  all_goals go_ret
  all_goals first
    | exact ⟨rfl, New.trans (New.refl _).drew (New.alloc n2 _)⟩
    | exact ⟨rfl, New.trans ((New.refl _).drew.alloc _) n2⟩
theorem decimal_any (n : Nat) (hn : n ≤ 9223372036854775807) (w : World) :
    Calls Tryz.prog 129 #[.int .i64 n] w fun e w' => e = .returned (.string (S (Lib.itoa (n : Int)))) ∧ New w w' := by
  by_cases h : n < 10
  · exact decimal_low n h w
  rw [itoa_high (by omega), ← S_app]
  exact decimal_step n (n / 10) (n % 10) _ hn (by omega) (by omega) (by omega) (by omega) (Lib.itoa_length_le _ (by omega) (by omega)) (fun w => decimal_any (n / 10) (by omega) w) w
termination_by n
decreasing_by omega
set_option maxHeartbeats 1000000 in
theorem rnumber_any (n : Int) (w : World) (hn : W64 n) : Calls Tryz.prog 93 #[.int .i64 n] w fun e w' => e = .returned (.tuple #[.string (S (numB n)), .int .i64 (numE n)]) ∧ New w w' := by
  by_cases h : 0 ≤ n ∧ n ≤ 281474976710656
  · have h1 : numB n = Lib.itoa n ++ [59] := by unfold numB; rw [if_pos h]
    have h2 : numE n = 0 := by unfold numE; rw [if_pos h]
    obtain ⟨ha, hb⟩ := h
    obtain ⟨k, rfl⟩ : ∃ k : Nat, n = (k : Int) := ⟨n.toNat, by omega⟩
    have HI := Lib.hid (decimal_any k (by omega) w)
    have hlen := Lib.itoa_length_le (k : Int) (by omega) (by omega)
    have h4 : ¬ (9223372036854775807 < (S (Lib.itoa (k : Int))).size + 1) := by rw [size_S]; omega
    have h3 : S (Lib.itoa (k : Int)) ++ ⟨#[59]⟩ = S (Lib.itoa (k : Int) ++ [59]) := S_app (Lib.itoa (k : Int)) [59]
    rw [h1, h2, ← h3]
    generalize S (Lib.itoa (k : Int)) = s at *
    clear h1 h2 h3 hlen
    have t1 : ¬ (k : Int) < 0 := by omega
    have t2 : ¬ (281474976710656 : Int) < (k : Int) := by omega
    go_enter Tryz.func93, Tryz.ntmps93
    go_wp2_with (go_at_call 129; (with_reducible refine HI.out.mono ?_); rintro e w1 ⟨rfl, k1⟩)
    exact bodyPost_ret (v := .tuple #[.string (s ++ ⟨#[59]⟩), .int .i64 0]) (by simp [results, Tryz.results93, go_sem]) rfl ⟨rfl, k1⟩
  · have h1 : numB n = [] := by unfold numB; rw [if_neg h]
    have h2 : numE n = 3 := by unfold numE; rw [if_neg h]
    rw [h1, h2]
    by_cases t1 : n < 0
    · clear h h1 h2
      go_enter Tryz.func93, Tryz.ntmps93
      go_wp2
      exact bodyPost_ret (v := .tuple #[.string ⟨#[]⟩, .int .i64 3]) (by simp [results, Tryz.results93, go_sem]) rfl ⟨rfl, New.refl _⟩
    · have t2 : (281474976710656 : Int) < n := by omega
      clear h h1 h2
      go_enter Tryz.func93, Tryz.ntmps93
      go_wp2
      exact bodyPost_ret (v := .tuple #[.string ⟨#[]⟩, .int .i64 3]) (by simp [results, Tryz.results93, go_sem]) rfl ⟨rfl, New.refl _⟩
set_option maxHeartbeats 1000000 in
theorem rtext_any (x : ByteArray) (w : World) (hx : x.size ≤ 1000000) : Calls Tryz.prog 92 #[.string x] w fun e w' => e = .returned (.tuple #[.string (S (txtB x)), .int .i64 (txtE x)]) ∧ New w w' := by
  by_cases h : x.size ≤ 65536
  · have h1 : txtB x = Lib.itoa x.size ++ [58] ++ x.data.toList ++ [44] := by unfold txtB; rw [if_pos h]
    have h2 : txtE x = 0 := by unfold txtE; rw [if_pos h]
    have HI := Lib.hid (decimal_any x.size (by omega) w)
    have hlen := Lib.itoa_length_le (x.size : Int) (by omega) (by omega)
    rw [← size_S] at hlen
    have h3 : ((S (Lib.itoa (x.size : Int)) ++ ⟨#[58]⟩) ++ x) ++ ⟨#[44]⟩ = S (Lib.itoa x.size ++ [58] ++ x.data.toList ++ [44]) := by
      rw [show (⟨#[58]⟩ : ByteArray) = S [58] from rfl, show (⟨#[44]⟩ : ByteArray) = S [44] from rfl, S_app]
      conv => lhs; rw [← S_data x]
      rw [S_app, S_app]
      simp only [S_data]
    rw [h1, h2, ← h3]
    generalize S (Lib.itoa (x.size : Int)) = s at *
    clear h1 h2 h3
    have k0 : ¬ (9223372036854775807 < s.size + 1) := by omega
    have k1 : ¬ (9223372036854775807 < s.size + 1 + x.size) := by omega
    have k2 : ¬ (9223372036854775807 < s.size + 1 + x.size + 1) := by omega
    have t1 : ¬ (65536 : Int) < (x.size : Int) := by omega
    go_enter Tryz.func92, Tryz.ntmps92
    go_wp2_with (go_at_call 129; (with_reducible refine HI.out.mono ?_); rintro e w1 ⟨rfl, k1⟩)
    exact bodyPost_ret (v := .tuple #[.string (((s ++ ⟨#[58]⟩) ++ x) ++ ⟨#[44]⟩), .int .i64 0]) (by simp [results, Tryz.results92, go_sem]) rfl ⟨rfl, k1⟩
  · have h1 : txtB x = [] := by unfold txtB; rw [if_neg h]
    have h2 : txtE x = 10 := by unfold txtE; rw [if_neg h]
    rw [h1, h2]
    have t2 : (65536 : Int) < (x.size : Int) := by omega
    clear h h1 h2
    go_enter Tryz.func92, Tryz.ntmps92
    go_wp2
    exact bodyPost_ret (v := .tuple #[.string ⟨#[]⟩, .int .i64 10]) (by simp [results, Tryz.results92, go_sem]) rfl ⟨rfl, New.refl _⟩
theorem rtxt_any (x : ByteArray) (w : World) (hx : x.size ≤ 1000000) : Calls Tryz.prog 44 #[.string x] w fun e w' => e = .returned (.string (S (txtB x))) ∧ New w w' := by
  have HT := Lib.hid (rtext_any x w hx)
  generalize S (txtB x) = s at *
  generalize txtE x = y at *
  go_enter Tryz.func44, Tryz.ntmps44
  go_wp2_with (go_at_call 92; (with_reducible refine HT.out.mono ?_); rintro e w1 ⟨rfl, k1⟩)
  go_ret
  exact ⟨rfl, k1⟩
theorem rnum_any (n : Int) (w : World) (hn : W64 n) : Calls Tryz.prog 45 #[.int .i64 n] w fun e w' => e = .returned (.string (S (numB n))) ∧ New w w' := by
  have HT := Lib.hid (rnumber_any n w hn)
  generalize S (numB n) = s at *
  generalize numE n = y at *
  go_enter Tryz.func45, Tryz.ntmps45
  go_wp2_with (go_at_call 93; (with_reducible refine HT.out.mono ?_); rintro e w1 ⟨rfl, k1⟩)
  go_ret
  exact ⟨rfl, k1⟩
end Go.Proofs.YtnknmpcgbfmfjaaGreatDoor

namespace Go.Proofs.YtnknmpcgbfmfjaaGreatDoor
open Go Go.RowKit Go.Joins
set_option linter.unusedSimpArgs false
set_option linter.unusedVariables false

set_option maxRecDepth 100000 in
set_option maxHeartbeats 8000000 in
theorem rencode_any (b : Bn) (h : BH) (w : World) (hr : BRd w b h) (hz : SzB b) (hx : SzX b.exps) :
    Calls Tryz.prog 13 #[.agg (bcells b h)] w fun e w' => e = .returned (.tuple #[.string (S (encV b).1), .int .i64 (encV b).2]) ∧ New w w' := by
  have HC := Lib.hid (fun W (hn : New w W) => rcheck_any b h W (hr.new hn) hz)
  have hce : chkE b = if checkV b = true then 0 else 1 := rfl
  rw [hce] at HC
  obtain ⟨X, hX⟩ : ∃ X, encV b = X := ⟨_, rfl⟩
  have HX : Hid (X = if checkV b = true then (if (encL b).length ≤ 65536 then (encL b, 0) else ([], 10)) else ([], 1)) := Lib.hid hX.symm
  have BX := Blk.made w 28 (bcells b h)
  have hnX := (New.refl w).alloc (.cells (bcells b h) 28)
  rw [hX]
  have HWF := Lib.hid (fun hc : checkV b = true => check_nums hc)
  have HR1 := Lib.hid hr.r1
  have HR2 := Lib.hid hr.r2
  have HR3 := Lib.hid hr.r3
  have HR4 := Lib.hid hr.r4
  have HR5 := Lib.hid hr.r5
  have HZP := Lib.hid hz.pl
  have HZN := Lib.hid hz.nt
  have HZI := Lib.hid hz.im
  have HZF := Lib.hid hz.fx
  have HZX := Lib.hid hx
  have hz1 := hz.l1
  have hz2 := hz.l2
  have hz3 := hz.l3
  have hz4 := hz.l4
  have hz5 := hz.l5
  have himg := hz.img
  have HEL : Hid (encL b = ((((((((headE b ++ b.places.flatMap plE) ++ [(b.fix.length : Int)].flatMap numB) ++ b.fix.flatMap numB) ++ [(b.imps.length : Int)].flatMap numB) ++ b.imps.flatMap imE) ++ [(b.exps.length : Int)].flatMap numB) ++ b.exps.flatMap exE) ++ [(b.notes.length : Int)].flatMap numB) ++ b.notes.flatMap ntE) := Lib.hid rfl
  have HHD : Hid (headE b = ((([] ++ [(⟨#[98, 105, 110, 97, 114, 121]⟩ : ByteArray)].flatMap txtB) ++ [b.kind, b.entry + 1].flatMap numB) ++ [b.image].flatMap txtB) ++ [(b.places.length : Int)].flatMap numB) := Lib.hid rfl
  obtain ⟨cv, hcv⟩ : ∃ v, checkV b = v := ⟨_, rfl⟩
  obtain ⟨EL, hEL⟩ : ∃ v, encL b = v := ⟨_, rfl⟩
  rw [hcv] at HX HC HWF
  rw [hEL] at HX HEL
  clear hce hX hcv hEL hr hz hx
  obtain ⟨kind, entry, image, places, fix, imps, exps, notes⟩ := b
  obtain ⟨a1, c1, a2, c2, a3, c3, a4, c4, a5, c5⟩ := h
  simp only [bcells] at BX hnX HC HX HWF HR1 HR2 HR3 HR4 HR5 HZP HZN HZI HZF HZX hz1 hz2 hz3 hz4 hz5 himg HEL HHD ⊢
  obtain ⟨n1, hn1⟩ : ∃ n, places.length = n := ⟨_, rfl⟩
  obtain ⟨n2, hn2⟩ : ∃ n, fix.length = n := ⟨_, rfl⟩
  obtain ⟨n3, hn3⟩ : ∃ n, imps.length = n := ⟨_, rfl⟩
  obtain ⟨n4, hn4⟩ : ∃ n, exps.length = n := ⟨_, rfl⟩
  obtain ⟨n5, hn5⟩ : ∃ n, notes.length = n := ⟨_, rfl⟩
  have HL1 := Lib.hid hn1
  have HL2 := Lib.hid hn2
  have HL3 := Lib.hid hn3
  have HL4 := Lib.hid hn4
  have HL5 := Lib.hid hn5
  rw [hn1, hn2, hn3, hn4, hn5] at BX hnX HC ⊢
  rw [hn2, hn3, hn4, hn5] at HEL
  rw [hn1] at HHD HR1 hz1
  rw [hn2] at HR2 hz2
  rw [hn3] at HR3 hz3
  rw [hn4] at HR4 hz4
  rw [hn5] at HR5 hz5
  clear hn1 hn2 hn3 hn4 hn5
  cases cv
  · have hx : X = ([], 1) := HX.out
    subst hx
    go_enter Tryz.func13, Tryz.ntmps13
    go_wp2_with (go_at_call 15; (with_reducible refine (HC.out _ hnX).mono ?_); rintro e w1 ⟨rfl, k1⟩)
    exact bodyPost_ret (v := .tuple #[.string (S []), .int .i64 1]) (by simp [results, Tryz.results13, go_sem, S]) rfl ⟨rfl, hnX.trans k1⟩
  · have HX2 : Hid (X = if EL.length ≤ 65536 then (EL, 0) else ([], 10)) := Lib.hid HX.out
    obtain ⟨hk1, hk2, hk3, hk4⟩ := HWF.out rfl
    have HWP := Lib.hid hk4
    clear HX HWF hk4
    go_enter Tryz.func13, Tryz.ntmps13
    go_wp2_with (go_at_call 15; (with_reducible refine (HC.out _ hnX).mono ?_); rintro e w1 ⟨rfl, k1⟩; have c0 := (BX.new k1).cell' 0 _ rfl)
    have BC := BX.new k1
    have d0 := BC.cell' 0 _ rfl
    have d1 := BC.cell' 1 _ rfl
    have d2 := BC.cell' 2 _ rfl
    have d3 := BC.cell' 3 _ rfl
    have d4 := BC.cell' 4 _ rfl
    have d5 := BC.cell' 5 _ rfl
    have d6 := BC.cell' 6 _ rfl
    have d7 := BC.cell' 7 _ rfl
    have wa : IntKind.i64.wrap (entry + 1) = entry + 1 := IntWalk.i64_in _ (by omega)
    have H_p1 := Lib.hid (fun w => rtxt_any ⟨#[98, 105, 110, 97, 114, 121]⟩ w (by decide))
    have l_p1 : (S (txtB ⟨#[98, 105, 110, 97, 114, 121]⟩)).size ≤ 65559 := by rw [size_S]; exact txtB_len _
    obtain ⟨p1, h_p1⟩ : ∃ t, S (txtB ⟨#[98, 105, 110, 97, 114, 121]⟩) = t := ⟨_, rfl⟩
    rw [h_p1] at H_p1 l_p1
    have E_p1 := Lib.hid h_p1
    clear h_p1
    have H_p2 := Lib.hid (fun w => rnum_any kind w (by unfold W64; omega))
    have l_p2 : (S (numB kind)).size ≤ 22 := by rw [size_S]; exact numB_len _
    obtain ⟨p2, h_p2⟩ : ∃ t, S (numB kind) = t := ⟨_, rfl⟩
    rw [h_p2] at H_p2 l_p2
    have E_p2 := Lib.hid h_p2
    clear h_p2
    have H_p3 := Lib.hid (fun w => rnum_any (entry + 1) w (by unfold W64; omega))
    have l_p3 : (S (numB (entry + 1))).size ≤ 22 := by rw [size_S]; exact numB_len _
    obtain ⟨p3, h_p3⟩ : ∃ t, S (numB (entry + 1)) = t := ⟨_, rfl⟩
    rw [h_p3] at H_p3 l_p3
    have E_p3 := Lib.hid h_p3
    clear h_p3
    have H_p4 := Lib.hid (fun w => rtxt_any image w (himg))
    have l_p4 : (S (txtB image)).size ≤ 65559 := by rw [size_S]; exact txtB_len _
    obtain ⟨p4, h_p4⟩ : ∃ t, S (txtB image) = t := ⟨_, rfl⟩
    rw [h_p4] at H_p4 l_p4
    have E_p4 := Lib.hid h_p4
    clear h_p4
    have H_p5 := Lib.hid (fun w => rnum_any (n1 : Int) w (by unfold W64; omega))
    have l_p5 : (S (numB (n1 : Int))).size ≤ 22 := by rw [size_S]; exact numB_len _
    obtain ⟨p5, h_p5⟩ : ∃ t, S (numB (n1 : Int)) = t := ⟨_, rfl⟩
    rw [h_p5] at H_p5 l_p5
    have E_p5 := Lib.hid h_p5
    clear h_p5
    have s1 : ¬ (9223372036854775807 < p1.size + p2.size) := by omega
    have s2 : ¬ (9223372036854775807 < p1.size + p2.size + p3.size) := by omega
    have s3 : ¬ (9223372036854775807 < p1.size + p2.size + p3.size + p4.size) := by omega
    have s4 : ¬ (9223372036854775807 < p1.size + p2.size + p3.size + p4.size + p5.size) := by omega
    go_wp2_with (fail)
    refine wp_region_held_drew (S := (New _)) (by kernel_rfl) ((New.refl _).drew) (fun hS => ?_)
    refine tkQ (i := 1) (oi := ?o1) (v := ?v1) ?h1 ?q1 ?y1 hS ?_; (case h1 => (simp only [gqA, gqB, gqC]; rfl)); (case q1 => exact fun _ _ _ h => h); (case y1 => (refine Or.inl ⟨by kernel_rfl, ?_⟩; intro wq hSq; clear hSq; go_simp; (try with_reducible rfl))); simp only [Act.put, List.setIfInBounds_toArray, List.set_cons_zero, List.set_cons_succ]
    refine tkQ (i := 2) (oi := ?o2) (v := ?v2) ?h2 ?q2 ?y2 hS ?_; (case h2 => (simp only [gqA, gqB, gqC]; rfl)); (case q2 => exact fun _ _ _ h => h); (case y2 => (refine Or.inl ⟨by kernel_rfl, ?_⟩; intro wq hSq; have hf0 := cell_new hSq d0; have hf1 := cell_new hSq d1; have hf2 := cell_new hSq d2; have hf3 := cell_new hSq d3; have hf4 := cell_new hSq d4; have hf5 := cell_new hSq d5; have hf6 := cell_new hSq d6; have hf7 := cell_new hSq d7; clear hSq; go_simp; (try with_reducible rfl))); simp only [Act.put, List.setIfInBounds_toArray, List.set_cons_zero, List.set_cons_succ]
    refine tkQ (i := 5) (oi := ?o3) (v := ?v3) ?h3 ?q3 ?y3 hS ?_; (case h3 => (simp only [gqA, gqB, gqC]; rfl)); (case q3 => exact fun _ _ _ h => h); (case y3 => (refine Or.inl ⟨by kernel_rfl, ?_⟩; intro wq hSq; clear hSq; go_simp; (try with_reducible rfl))); simp only [Act.put, List.setIfInBounds_toArray, List.set_cons_zero, List.set_cons_succ]
    refine tkQ (i := 6) (oi := ?o4) (v := ?v4) ?h4 ?q4 ?y4 hS ?_; (case h4 => (simp only [gqA, gqB, gqC]; rfl)); (case q4 => exact fun _ _ _ h => h); (case y4 => (refine Or.inl ⟨by kernel_rfl, ?_⟩; intro wq hSq; have hf0 := cell_new hSq d0; have hf1 := cell_new hSq d1; have hf2 := cell_new hSq d2; have hf3 := cell_new hSq d3; have hf4 := cell_new hSq d4; have hf5 := cell_new hSq d5; have hf6 := cell_new hSq d6; have hf7 := cell_new hSq d7; clear hSq; go_simp; (try with_reducible rfl))); simp only [Act.put, List.setIfInBounds_toArray, List.set_cons_zero, List.set_cons_succ]
    refine tkQ (i := 7) (oi := ?o5) (v := ?v5) ?h5 ?q5 ?y5 hS ?_; (case h5 => (simp only [gqA, gqB, gqC]; rfl)); (case q5 => exact fun _ _ _ h => h); (case y5 => (refine Or.inl ⟨by kernel_rfl, ?_⟩; intro wq hSq; clear hSq; go_simp; (try with_reducible rfl))); simp only [Act.put, List.setIfInBounds_toArray, List.set_cons_zero, List.set_cons_succ]
    refine tkQ (i := 10) (oi := ?o6) (v := ?v6) ?h6 ?q6 ?y6 hS ?_; (case h6 => (simp only [gqA, gqB, gqC]; rfl)); (case q6 => exact fun _ _ _ h => h); (case y6 => (refine Or.inl ⟨by kernel_rfl, ?_⟩; intro wq hSq; clear hSq; go_simp; (try with_reducible rfl))); simp only [Act.put, List.setIfInBounds_toArray, List.set_cons_zero, List.set_cons_succ]
    refine tkQ (i := 11) (oi := ?o7) (v := ?v7) ?h7 ?q7 ?y7 hS ?_; (case h7 => (simp only [gqA, gqB, gqC]; rfl)); (case q7 => exact fun _ _ _ h => h); (case y7 => (refine Or.inl ⟨by kernel_rfl, ?_⟩; intro wq hSq; have hf0 := cell_new hSq d0; have hf1 := cell_new hSq d1; have hf2 := cell_new hSq d2; have hf3 := cell_new hSq d3; have hf4 := cell_new hSq d4; have hf5 := cell_new hSq d5; have hf6 := cell_new hSq d6; have hf7 := cell_new hSq d7; clear hSq; go_simp; (try with_reducible rfl))); simp only [Act.put, List.setIfInBounds_toArray, List.set_cons_zero, List.set_cons_succ]
    refine wpAnyH_ready (rs := [0]) (by kernel_rfl) (by simp) ?_
    refine AllReadyH.cons (o := ?oi8) ?hi8 (fun K hK => ?_) AllReadyH.nil
    case hi8 => (simp only [gqA, gqB, gqC]; rfl)
    go_simp
    with_reducible refine (H_p1.out _).mono ?_
    rintro e x1 ⟨rfl, m1⟩
    refine hK.out _ _ (hS.trans m1) (fun hS => ?_)
    clear hK K
    refine wpAnyH_ready (rs := [3]) (by kernel_rfl) (by simp) ?_
    refine AllReadyH.cons (o := ?oi9) ?hi9 (fun K hK => ?_) AllReadyH.nil
    case hi9 => (simp only [gqA, gqB, gqC]; rfl)
    go_simp
    with_reducible refine (H_p2.out _).mono ?_
    rintro e x2 ⟨rfl, m2⟩
    refine hK.out _ _ (hS.trans m2) (fun hS => ?_)
    clear hK K
    refine tkQ (i := 4) (oi := ?o10) (v := ?v10) ?h10 ?q10 ?y10 hS ?_; (case h10 => (simp only [gqA, gqB, gqC]; rfl)); (case q10 => exact fun _ _ _ h => h); (case y10 => (refine Or.inl ⟨by kernel_rfl, ?_⟩; intro wq hSq; clear hSq; go_simp; (try with_reducible rfl))); simp only [Act.put, List.setIfInBounds_toArray, List.set_cons_zero, List.set_cons_succ]
    refine wpAnyH_ready (rs := [8]) (by kernel_rfl) (by simp) ?_
    refine AllReadyH.cons (o := ?oi11) ?hi11 (fun K hK => ?_) AllReadyH.nil
    case hi11 => (simp only [gqA, gqB, gqC]; rfl)
    go_simp
    with_reducible refine (H_p3.out _).mono ?_
    rintro e x3 ⟨rfl, m3⟩
    refine hK.out _ _ (hS.trans m3) (fun hS => ?_)
    clear hK K
    refine tkQ (i := 9) (oi := ?o12) (v := ?v12) ?h12 ?q12 ?y12 hS ?_; (case h12 => (simp only [gqA, gqB, gqC]; rfl)); (case q12 => exact fun _ _ _ h => h); (case y12 => (refine Or.inl ⟨by kernel_rfl, ?_⟩; intro wq hSq; clear hSq; go_simp; (try with_reducible rfl))); simp only [Act.put, List.setIfInBounds_toArray, List.set_cons_zero, List.set_cons_succ]
    refine wpAnyH_ready (rs := [12]) (by kernel_rfl) (by simp) ?_
    refine AllReadyH.cons (o := ?oi13) ?hi13 (fun K hK => ?_) AllReadyH.nil
    case hi13 => (simp only [gqA, gqB, gqC]; rfl)
    go_simp
    with_reducible refine (H_p4.out _).mono ?_
    rintro e x4 ⟨rfl, m4⟩
    refine hK.out _ _ (hS.trans m4) (fun hS => ?_)
    clear hK K
    refine tkQ (i := 13) (oi := ?o14) (v := ?v14) ?h14 ?q14 ?y14 hS ?_; (case h14 => (simp only [gqA, gqB, gqC]; rfl)); (case q14 => exact fun _ _ _ h => h); (case y14 => (refine Or.inl ⟨by kernel_rfl, ?_⟩; intro wq hSq; clear hSq; go_simp; (try with_reducible rfl))); simp only [Act.put, List.setIfInBounds_toArray, List.set_cons_zero, List.set_cons_succ]
    refine tkQ (i := 14) (oi := ?o15) (v := ?v15) ?h15 ?q15 ?y15 hS ?_; (case h15 => (simp only [gqA, gqB, gqC]; rfl)); (case q15 => exact fun _ _ _ h => h); (case y15 => (refine Or.inl ⟨by kernel_rfl, ?_⟩; intro wq hSq; clear hSq; go_simp; (try with_reducible rfl))); simp only [Act.put, List.setIfInBounds_toArray, List.set_cons_zero, List.set_cons_succ]
    refine wpAnyH_done (by kernel_rfl) ?_ _
    have m5 := ((((New.refl w1).drew.trans m1).trans m2).trans m3).trans m4
    have BD := BC.new m5
    have e3 := BD.cell' 3 _ rfl
    go_wp2_with (go_at_call 45; (with_reducible refine (H_p5.out _).mono ?_); rintro e x5 ⟨rfl, m6⟩; have g3 := (BD.new m6).cell' 3 _ rfl)
    have BE := BD.new m6
    have nE : New w x5 := (hnX.trans k1).trans (m5.trans m6)
    obtain ⟨s0, hs0⟩ : ∃ s, ((((p1 ++ p2) ++ p3) ++ p4) ++ p5) = s := ⟨_, rfl⟩
    have hz0 : s0.size ≤ 300000 := by rw [← hs0]; simp only [ByteArray.size_append]; omega
    have ES0 : Hid (s0 = S (headE ⟨kind, entry, image, places, fix, imps, exps, notes⟩)) := Lib.hid (by
      rw [← hs0, HHD.out, ← E_p1.out, ← E_p2.out, ← E_p3.out, ← E_p4.out, ← E_p5.out, S_app, S_app, S_app, S_app]
      simp)
    rw [hs0]
    clear hs0 s1 s2 s3 s4 l_p1 l_p2 l_p3 l_p4 l_p5 BC BD m5 m6 m1 m2 m3 m4 k1 d0 d1 d2 d3 d4 d5 d6 d7 e3
    have NB9 : New w _ := nE
    have BB9 := BE
    have HS9 : Hid (s0 = S ((headE ⟨kind, entry, image, places, fix, imps, exps, notes⟩) ++ (places.take 0).flatMap plE)) := Lib.hid (by simpa using ES0.out)
    go_loopw [4, 41] (fun v4 v41 wr => ∃ (i : Nat) (so : ByteArray), v41 = .int .i64 i ∧ v4 = .string so ∧ i ≤ n1 ∧ so.size ≤ 300000 + i * 200000 ∧ New w wr ∧ Blk wr w.heap.size 28 #[.int .i64 kind, .int .i64 entry, .string image, .slice a1 n1 c1, .slice a2 n2 c2, .slice a3 n3 c3, .slice a4 n4 c4, .slice a5 n5 c5] ∧ Hid (so = S ((headE ⟨kind, entry, image, places, fix, imps, exps, notes⟩) ++ (places.take i).flatMap plE))) (fun _ v41 _ => n1 - (intOf v41).toNat)
    case atStart => exact ⟨0, _, rfl, rfl, by omega, by omega, NB9, BB9, HS9⟩
    case round =>
      clear NB9 BB9 HS9
      obtain ⟨i, so, rfl, rfl, hi9, hso, hnr, BR, HS⟩ := hrel
      by_cases hlt : i < n1
      · obtain ⟨bk, o, rfl, hbk, x, hx, hcell⟩ := rd_row (f := plC) (k := 5) (fun _ => rfl) HL1.out (HR1.out.below hnr) hlt
        have hzx := HZP.out x (List.mem_of_getElem? hx)
        have hzp := HWP.out x (List.mem_of_getElem? hx)
        have HT : Hid (places.take (i + 1) = places.take i ++ [x]) := Lib.hid (by
          obtain ⟨h1, h2⟩ := List.getElem?_eq_some_iff.1 hx
          rw [List.take_succ_eq_append_getElem h1, h2])
        obtain ⟨po, ps, pk, pa, pz⟩ := x
        have q0 := hcell 0 (.string po) (by omega) rfl
        have q1 := hcell 1 (.string ps) (by omega) rfl
        have q2 := hcell 2 (.int .i64 pk) (by omega) rfl
        have q3 := hcell 3 (.int .i64 pa) (by omega) rfl
        have q4 := hcell 4 (.int .i64 pz) (by omega) rfl
        simp only [Nat.add_zero] at q0
        rw [← Nat.add_assoc] at q1 q2 q3 q4
        simp only at hzx
        simp only at hzp
        have BP := Blk.made wr 60 #[.string po, .string ps, .int .i64 pk, .int .i64 pa, .int .i64 pz]
        have nX := (New.refl wr).alloc (.cells #[.string po, .string ps, .int .i64 pk, .int .i64 pa, .int .i64 pz] 60)
        have z0 := BP.cell' 0 _ rfl
        have z1 := BP.cell' 1 _ rfl
        have z2 := BP.cell' 2 _ rfl
        have z3 := BP.cell' 3 _ rfl
        have z4 := BP.cell' 4 _ rfl
        have i0 : (0 : Int) ≤ (i : Int) := by omega
        have i1 : (i : Int) < (n1 : Int) := by omega
        have H_t1 := Lib.hid (fun w => rtxt_any po w (hzx.1))
        have l_t1 : (S (txtB po)).size ≤ 65559 := by rw [size_S]; exact txtB_len _
        obtain ⟨t1, h_t1⟩ : ∃ t, S (txtB po) = t := ⟨_, rfl⟩
        rw [h_t1] at H_t1 l_t1
        have E_t1 := Lib.hid h_t1
        clear h_t1
        have H_t2 := Lib.hid (fun w => rtxt_any ps w (hzx.2))
        have l_t2 : (S (txtB ps)).size ≤ 65559 := by rw [size_S]; exact txtB_len _
        obtain ⟨t2, h_t2⟩ : ∃ t, S (txtB ps) = t := ⟨_, rfl⟩
        rw [h_t2] at H_t2 l_t2
        have E_t2 := Lib.hid h_t2
        clear h_t2
        have H_t3 := Lib.hid (fun w => rnum_any pk w (hzp.1))
        have l_t3 : (S (numB pk)).size ≤ 22 := by rw [size_S]; exact numB_len _
        obtain ⟨t3, h_t3⟩ : ∃ t, S (numB pk) = t := ⟨_, rfl⟩
        rw [h_t3] at H_t3 l_t3
        have E_t3 := Lib.hid h_t3
        clear h_t3
        have H_t4 := Lib.hid (fun w => rnum_any pa w (hzp.2.1))
        have l_t4 : (S (numB pa)).size ≤ 22 := by rw [size_S]; exact numB_len _
        obtain ⟨t4, h_t4⟩ : ∃ t, S (numB pa) = t := ⟨_, rfl⟩
        rw [h_t4] at H_t4 l_t4
        have E_t4 := Lib.hid h_t4
        clear h_t4
        have H_t5 := Lib.hid (fun w => rnum_any pz w (hzp.2.2))
        have l_t5 : (S (numB pz)).size ≤ 22 := by rw [size_S]; exact numB_len _
        obtain ⟨t5, h_t5⟩ : ∃ t, S (numB pz) = t := ⟨_, rfl⟩
        rw [h_t5] at H_t5 l_t5
        have E_t5 := Lib.hid h_t5
        clear h_t5
        have s0 : ¬ (9223372036854775807 < so.size + t1.size) := by omega
        have s1 : ¬ (9223372036854775807 < so.size + t1.size + t2.size) := by omega
        have s2 : ¬ (9223372036854775807 < so.size + t1.size + t2.size + t3.size) := by omega
        have s3 : ¬ (9223372036854775807 < so.size + t1.size + t2.size + t3.size + t4.size) := by omega
        have s4 : ¬ (9223372036854775807 < so.size + t1.size + t2.size + t3.size + t4.size + t5.size) := by omega
        clear hcell hx
        go_wp2_with (fail)
        refine wp_region_held_drew (S := (New _)) (by kernel_rfl) ((New.refl _).drew) (fun hS => ?_)
        refine tkQ (i := 0) (oi := ?o16) (v := ?v16) ?h16 ?q16 ?y16 hS ?_; (case h16 => (simp only [gqA, gqB, gqC]; rfl)); (case q16 => exact fun _ _ _ h => h); (case y16 => (refine Or.inl ⟨by kernel_rfl, ?_⟩; intro wq hSq; clear hSq; go_simp; (try with_reducible rfl))); simp only [Act.put, List.setIfInBounds_toArray, List.set_cons_zero, List.set_cons_succ]
        refine tkQ (i := 1) (oi := ?o17) (v := ?v17) ?h17 ?q17 ?y17 hS ?_; (case h17 => (simp only [gqA, gqB, gqC]; rfl)); (case q17 => exact fun _ _ _ h => h); (case y17 => (refine Or.inl ⟨by kernel_rfl, ?_⟩; intro wq hSq; clear hSq; go_simp; (try with_reducible rfl))); simp only [Act.put, List.setIfInBounds_toArray, List.set_cons_zero, List.set_cons_succ]
        refine tkQ (i := 2) (oi := ?o18) (v := ?v18) ?h18 ?q18 ?y18 hS ?_; (case h18 => (simp only [gqA, gqB, gqC]; rfl)); (case q18 => exact fun _ _ _ h => h); (case y18 => (refine Or.inl ⟨by kernel_rfl, ?_⟩; intro wq hSq; have hf0 := cell_new hSq z0; have hf1 := cell_new hSq z1; have hf2 := cell_new hSq z2; have hf3 := cell_new hSq z3; have hf4 := cell_new hSq z4; clear hSq; go_simp; (try with_reducible rfl))); simp only [Act.put, List.setIfInBounds_toArray, List.set_cons_zero, List.set_cons_succ]
        refine tkQ (i := 5) (oi := ?o19) (v := ?v19) ?h19 ?q19 ?y19 hS ?_; (case h19 => (simp only [gqA, gqB, gqC]; rfl)); (case q19 => exact fun _ _ _ h => h); (case y19 => (refine Or.inl ⟨by kernel_rfl, ?_⟩; intro wq hSq; clear hSq; go_simp; (try with_reducible rfl))); simp only [Act.put, List.setIfInBounds_toArray, List.set_cons_zero, List.set_cons_succ]
        refine tkQ (i := 6) (oi := ?o20) (v := ?v20) ?h20 ?q20 ?y20 hS ?_; (case h20 => (simp only [gqA, gqB, gqC]; rfl)); (case q20 => exact fun _ _ _ h => h); (case y20 => (refine Or.inl ⟨by kernel_rfl, ?_⟩; intro wq hSq; have hf0 := cell_new hSq z0; have hf1 := cell_new hSq z1; have hf2 := cell_new hSq z2; have hf3 := cell_new hSq z3; have hf4 := cell_new hSq z4; clear hSq; go_simp; (try with_reducible rfl))); simp only [Act.put, List.setIfInBounds_toArray, List.set_cons_zero, List.set_cons_succ]
        refine tkQ (i := 9) (oi := ?o21) (v := ?v21) ?h21 ?q21 ?y21 hS ?_; (case h21 => (simp only [gqA, gqB, gqC]; rfl)); (case q21 => exact fun _ _ _ h => h); (case y21 => (refine Or.inl ⟨by kernel_rfl, ?_⟩; intro wq hSq; clear hSq; go_simp; (try with_reducible rfl))); simp only [Act.put, List.setIfInBounds_toArray, List.set_cons_zero, List.set_cons_succ]
        refine tkQ (i := 10) (oi := ?o22) (v := ?v22) ?h22 ?q22 ?y22 hS ?_; (case h22 => (simp only [gqA, gqB, gqC]; rfl)); (case q22 => exact fun _ _ _ h => h); (case y22 => (refine Or.inl ⟨by kernel_rfl, ?_⟩; intro wq hSq; have hf0 := cell_new hSq z0; have hf1 := cell_new hSq z1; have hf2 := cell_new hSq z2; have hf3 := cell_new hSq z3; have hf4 := cell_new hSq z4; clear hSq; go_simp; (try with_reducible rfl))); simp only [Act.put, List.setIfInBounds_toArray, List.set_cons_zero, List.set_cons_succ]
        refine tkQ (i := 13) (oi := ?o23) (v := ?v23) ?h23 ?q23 ?y23 hS ?_; (case h23 => (simp only [gqA, gqB, gqC]; rfl)); (case q23 => exact fun _ _ _ h => h); (case y23 => (refine Or.inl ⟨by kernel_rfl, ?_⟩; intro wq hSq; clear hSq; go_simp; (try with_reducible rfl))); simp only [Act.put, List.setIfInBounds_toArray, List.set_cons_zero, List.set_cons_succ]
        refine tkQ (i := 14) (oi := ?o24) (v := ?v24) ?h24 ?q24 ?y24 hS ?_; (case h24 => (simp only [gqA, gqB, gqC]; rfl)); (case q24 => exact fun _ _ _ h => h); (case y24 => (refine Or.inl ⟨by kernel_rfl, ?_⟩; intro wq hSq; have hf0 := cell_new hSq z0; have hf1 := cell_new hSq z1; have hf2 := cell_new hSq z2; have hf3 := cell_new hSq z3; have hf4 := cell_new hSq z4; clear hSq; go_simp; (try with_reducible rfl))); simp only [Act.put, List.setIfInBounds_toArray, List.set_cons_zero, List.set_cons_succ]
        refine tkQ (i := 17) (oi := ?o25) (v := ?v25) ?h25 ?q25 ?y25 hS ?_; (case h25 => (simp only [gqA, gqB, gqC]; rfl)); (case q25 => exact fun _ _ _ h => h); (case y25 => (refine Or.inl ⟨by kernel_rfl, ?_⟩; intro wq hSq; clear hSq; go_simp; (try with_reducible rfl))); simp only [Act.put, List.setIfInBounds_toArray, List.set_cons_zero, List.set_cons_succ]
        refine tkQ (i := 18) (oi := ?o26) (v := ?v26) ?h26 ?q26 ?y26 hS ?_; (case h26 => (simp only [gqA, gqB, gqC]; rfl)); (case q26 => exact fun _ _ _ h => h); (case y26 => (refine Or.inl ⟨by kernel_rfl, ?_⟩; intro wq hSq; have hf0 := cell_new hSq z0; have hf1 := cell_new hSq z1; have hf2 := cell_new hSq z2; have hf3 := cell_new hSq z3; have hf4 := cell_new hSq z4; clear hSq; go_simp; (try with_reducible rfl))); simp only [Act.put, List.setIfInBounds_toArray, List.set_cons_zero, List.set_cons_succ]
        refine wpAnyH_ready (rs := [3]) (by kernel_rfl) (by simp) ?_
        refine AllReadyH.cons (o := ?oi27) ?hi27 (fun K hK => ?_) AllReadyH.nil
        case hi27 => (simp only [gqA, gqB, gqC]; rfl)
        go_simp
        with_reducible refine (H_t1.out _).mono ?_
        rintro e y1 ⟨rfl, m1⟩
        refine hK.out _ _ (hS.trans m1) (fun hS => ?_)
        clear hK K
        refine tkQ (i := 4) (oi := ?o28) (v := ?v28) ?h28 ?q28 ?y28 hS ?_; (case h28 => (simp only [gqA, gqB, gqC]; rfl)); (case q28 => exact fun _ _ _ h => h); (case y28 => (refine Or.inl ⟨by kernel_rfl, ?_⟩; intro wq hSq; clear hSq; go_simp; (try with_reducible rfl))); simp only [Act.put, List.setIfInBounds_toArray, List.set_cons_zero, List.set_cons_succ]
        refine wpAnyH_ready (rs := [7]) (by kernel_rfl) (by simp) ?_
        refine AllReadyH.cons (o := ?oi29) ?hi29 (fun K hK => ?_) AllReadyH.nil
        case hi29 => (simp only [gqA, gqB, gqC]; rfl)
        go_simp
        with_reducible refine (H_t2.out _).mono ?_
        rintro e y2 ⟨rfl, m2⟩
        refine hK.out _ _ (hS.trans m2) (fun hS => ?_)
        clear hK K
        refine tkQ (i := 8) (oi := ?o30) (v := ?v30) ?h30 ?q30 ?y30 hS ?_; (case h30 => (simp only [gqA, gqB, gqC]; rfl)); (case q30 => exact fun _ _ _ h => h); (case y30 => (refine Or.inl ⟨by kernel_rfl, ?_⟩; intro wq hSq; clear hSq; go_simp; (try with_reducible rfl))); simp only [Act.put, List.setIfInBounds_toArray, List.set_cons_zero, List.set_cons_succ]
        refine wpAnyH_ready (rs := [11]) (by kernel_rfl) (by simp) ?_
        refine AllReadyH.cons (o := ?oi31) ?hi31 (fun K hK => ?_) AllReadyH.nil
        case hi31 => (simp only [gqA, gqB, gqC]; rfl)
        go_simp
        with_reducible refine (H_t3.out _).mono ?_
        rintro e y3 ⟨rfl, m3⟩
        refine hK.out _ _ (hS.trans m3) (fun hS => ?_)
        clear hK K
        refine tkQ (i := 12) (oi := ?o32) (v := ?v32) ?h32 ?q32 ?y32 hS ?_; (case h32 => (simp only [gqA, gqB, gqC]; rfl)); (case q32 => exact fun _ _ _ h => h); (case y32 => (refine Or.inl ⟨by kernel_rfl, ?_⟩; intro wq hSq; clear hSq; go_simp; (try with_reducible rfl))); simp only [Act.put, List.setIfInBounds_toArray, List.set_cons_zero, List.set_cons_succ]
        refine wpAnyH_ready (rs := [15]) (by kernel_rfl) (by simp) ?_
        refine AllReadyH.cons (o := ?oi33) ?hi33 (fun K hK => ?_) AllReadyH.nil
        case hi33 => (simp only [gqA, gqB, gqC]; rfl)
        go_simp
        with_reducible refine (H_t4.out _).mono ?_
        rintro e y4 ⟨rfl, m4⟩
        refine hK.out _ _ (hS.trans m4) (fun hS => ?_)
        clear hK K
        refine tkQ (i := 16) (oi := ?o34) (v := ?v34) ?h34 ?q34 ?y34 hS ?_; (case h34 => (simp only [gqA, gqB, gqC]; rfl)); (case q34 => exact fun _ _ _ h => h); (case y34 => (refine Or.inl ⟨by kernel_rfl, ?_⟩; intro wq hSq; clear hSq; go_simp; (try with_reducible rfl))); simp only [Act.put, List.setIfInBounds_toArray, List.set_cons_zero, List.set_cons_succ]
        refine wpAnyH_ready (rs := [19]) (by kernel_rfl) (by simp) ?_
        refine AllReadyH.cons (o := ?oi35) ?hi35 (fun K hK => ?_) AllReadyH.nil
        case hi35 => (simp only [gqA, gqB, gqC]; rfl)
        go_simp
        with_reducible refine (H_t5.out _).mono ?_
        rintro e y5 ⟨rfl, m5⟩
        refine hK.out _ _ (hS.trans m5) (fun hS => ?_)
        clear hK K
        refine tkQ (i := 20) (oi := ?o36) (v := ?v36) ?h36 ?q36 ?y36 hS ?_; (case h36 => (simp only [gqA, gqB, gqC]; rfl)); (case q36 => exact fun _ _ _ h => h); (case y36 => (refine Or.inl ⟨by kernel_rfl, ?_⟩; intro wq hSq; clear hSq; go_simp; (try with_reducible rfl))); simp only [Act.put, List.setIfInBounds_toArray, List.set_cons_zero, List.set_cons_succ]
        refine tkQ (i := 21) (oi := ?o37) (v := ?v37) ?h37 ?q37 ?y37 hS ?_; (case h37 => (simp only [gqA, gqB, gqC]; rfl)); (case q37 => exact fun _ _ _ h => h); (case y37 => (refine Or.inl ⟨by kernel_rfl, ?_⟩; intro wq hSq; clear hSq; go_simp; (try with_reducible rfl))); simp only [Act.put, List.setIfInBounds_toArray, List.set_cons_zero, List.set_cons_succ]
        refine wpAnyH_done (by kernel_rfl) ?_ _
        have nz : New wr _ := nX.trans ((((((New.refl _).drew.trans m1).trans m2).trans m3).trans m4).trans m5)
        go_wp2
        have HF : Hid ((((((so ++ t1) ++ t2) ++ t3) ++ t4) ++ t5) = S ((headE ⟨kind, entry, image, places, fix, imps, exps, notes⟩) ++ (places.take (i + 1)).flatMap plE)) := Lib.hid (by
          rw [HT.out, List.flatMap_append, ← List.append_assoc, ← S_app, ← HS.out]
          have e : S ([(⟨po, ps, pk, pa, pz⟩ : PlD)].flatMap plE) = ((((t1 ++ t2) ++ t3) ++ t4) ++ t5) := by
            rw [← E_t1.out, ← E_t2.out, ← E_t3.out, ← E_t4.out, ← E_t5.out]
            simp only [S_app]
            congr 1
            simp [plE]
          rw [e]
          simp only [ByteArray.append_assoc])
        go_roundw
        case rel => exact ⟨i + 1, _, by go_num, rfl, by omega, by simp only [ByteArray.size_append]; omega, New.trans hnr nz, BR.new nz, HF⟩
        case measure => simp [intOf]; omega
      · obtain rfl : n1 = i := by omega
        have E_s1 : Hid (so = S ((headE ⟨kind, entry, image, places, fix, imps, exps, notes⟩) ++ places.flatMap plE)) := Lib.hid (by have := HS.out; rwa [List.take_of_length_le (by rw [HL1.out]; exact Nat.le_refl _)] at this)
        obtain ⟨s1, rfl⟩ : ∃ s : ByteArray, s = so := ⟨_, rfl⟩
        have hz_s1 : s1.size ≤ 200000300000 := by omega
        clear HS hlt hi9 hso
        obtain ⟨wx_s1, rfl⟩ : ∃ wx : World, wx = wr := ⟨_, rfl⟩
        have H_p6 := Lib.hid (fun w => rnum_any (n2 : Int) w (by unfold W64; omega))
        have l_p6 : (S (numB (n2 : Int))).size ≤ 22 := by rw [size_S]; exact numB_len _
        obtain ⟨p6, h_p6⟩ : ∃ t, S (numB (n2 : Int)) = t := ⟨_, rfl⟩
        rw [h_p6] at H_p6 l_p6
        have E_p6 := Lib.hid h_p6
        clear h_p6
        have g4 := BR.cell' 4 _ rfl
        have s9 : ¬ (9223372036854775807 < s1.size + p6.size) := by omega
        go_wp2_with (go_at_call 45; (with_reducible refine (H_p6.out _).mono ?_); rintro e x9 ⟨rfl, m9⟩; have h4 := (BR.new m9).cell' 4 _ rfl)
        have BE := BR.new m9
        have nE := New.trans hnr m9
        obtain ⟨s2, hs9⟩ : ∃ s, s1 ++ p6 = s := ⟨_, rfl⟩
        have hz_s2 : s2.size ≤ 200000301000 := by rw [← hs9]; simp only [ByteArray.size_append]; omega
        have E_s2 : Hid (s2 = S (((headE ⟨kind, entry, image, places, fix, imps, exps, notes⟩) ++ places.flatMap plE) ++ [(n2 : Int)].flatMap numB)) := Lib.hid (by
          rw [← hs9, E_s1.out, ← E_p6.out, S_app]; simp)
        rw [hs9]
        clear hs9 s9 l_p6 g4 BR hnr m9 H_p6 E_p6
        have NB9 : New w _ := nE
        have BB9 := BE
        have HS9 : Hid (s2 = S ((((headE ⟨kind, entry, image, places, fix, imps, exps, notes⟩) ++ places.flatMap plE) ++ [(n2 : Int)].flatMap numB) ++ (fix.take 0).flatMap numB)) := Lib.hid (by simpa using E_s2.out)
        go_loopw [4, 76] (fun v4 v76 wr => ∃ (i : Nat) (so : ByteArray), v76 = .int .i64 i ∧ v4 = .string so ∧ i ≤ n2 ∧ so.size ≤ 200000301000 + i * 200000 ∧ New w wr ∧ Blk wr w.heap.size 28 #[.int .i64 kind, .int .i64 entry, .string image, .slice a1 n1 c1, .slice a2 n2 c2, .slice a3 n3 c3, .slice a4 n4 c4, .slice a5 n5 c5] ∧ Hid (so = S ((((headE ⟨kind, entry, image, places, fix, imps, exps, notes⟩) ++ places.flatMap plE) ++ [(n2 : Int)].flatMap numB) ++ (fix.take i).flatMap numB))) (fun _ v76 _ => n2 - (intOf v76).toNat)
        case atStart => exact ⟨0, _, rfl, rfl, by omega, by omega, NB9, BB9, HS9⟩
        case round =>
          clear NB9 BB9 HS9
          obtain ⟨i, so, rfl, rfl, hi9, hso, hnr, BR, HS⟩ := hrel
          by_cases hlt : i < n2
          · have hil : i < fix.length := by rw [HL2.out]; exact hlt
            obtain ⟨bk, o, rfl, hbk, hcell⟩ := (HR2.out.below hnr).2 (by omega)
            obtain ⟨x, hx⟩ : ∃ x, fix[i]? = some x := ⟨_, List.getElem?_eq_getElem hil⟩
            have q0 := hcell i (.int .i64 x) (by rw [flat_one, hx]; rfl)
            have hzx := HZF.out x (List.mem_of_getElem? hx)
            have HT : Hid (fix.take (i + 1) = fix.take i ++ [x]) := Lib.hid (by
              obtain ⟨h1, h2⟩ := List.getElem?_eq_some_iff.1 hx
              rw [List.take_succ_eq_append_getElem h1, h2])
            have i0 : (0 : Int) ≤ (i : Int) := by omega
            have i1 : (i : Int) < (n2 : Int) := by omega
            have H_t1 := Lib.hid (fun w => rnum_any x w (hzx))
            have l_t1 : (S (numB x)).size ≤ 22 := by rw [size_S]; exact numB_len _
            obtain ⟨t1, h_t1⟩ : ∃ t, S (numB x) = t := ⟨_, rfl⟩
            rw [h_t1] at H_t1 l_t1
            have E_t1 := Lib.hid h_t1
            clear h_t1
            have s0 : ¬ (9223372036854775807 < so.size + t1.size) := by omega
            clear hcell hx
            go_wp2_with (go_at_call 45; (with_reducible refine (H_t1.out _).mono ?_); rintro e x1 ⟨rfl, m1⟩)
            have nz : New wr x1 := m1
            have HF : Hid ((so ++ t1) = S ((((headE ⟨kind, entry, image, places, fix, imps, exps, notes⟩) ++ places.flatMap plE) ++ [(n2 : Int)].flatMap numB) ++ (fix.take (i + 1)).flatMap numB)) := Lib.hid (by
              rw [HT.out, List.flatMap_append, ← List.append_assoc, ← S_app, ← HS.out]
              rw [← E_t1.out]; simp)
            go_roundw
            case rel => exact ⟨i + 1, _, by go_num, rfl, by omega, by simp only [ByteArray.size_append]; omega, New.trans hnr nz, BR.new nz, HF⟩
            case measure => simp [intOf]; omega
          · obtain rfl : n2 = i := by omega
            have E_s3 : Hid (so = S ((((headE ⟨kind, entry, image, places, fix, imps, exps, notes⟩) ++ places.flatMap plE) ++ [(n2 : Int)].flatMap numB) ++ fix.flatMap numB)) := Lib.hid (by have := HS.out; rwa [List.take_of_length_le (by rw [HL2.out]; exact Nat.le_refl _)] at this)
            obtain ⟨s3, rfl⟩ : ∃ s : ByteArray, s = so := ⟨_, rfl⟩
            have hz_s3 : s3.size ≤ 400000301000 := by omega
            clear HS hlt hi9 hso
            obtain ⟨wx_s3, rfl⟩ : ∃ wx : World, wx = wr := ⟨_, rfl⟩
            have H_p7 := Lib.hid (fun w => rnum_any (n3 : Int) w (by unfold W64; omega))
            have l_p7 : (S (numB (n3 : Int))).size ≤ 22 := by rw [size_S]; exact numB_len _
            obtain ⟨p7, h_p7⟩ : ∃ t, S (numB (n3 : Int)) = t := ⟨_, rfl⟩
            rw [h_p7] at H_p7 l_p7
            have E_p7 := Lib.hid h_p7
            clear h_p7
            have g5 := BR.cell' 5 _ rfl
            have s9 : ¬ (9223372036854775807 < s3.size + p7.size) := by omega
            go_wp2_with (go_at_call 45; (with_reducible refine (H_p7.out _).mono ?_); rintro e x9 ⟨rfl, m9⟩; have h5 := (BR.new m9).cell' 5 _ rfl)
            have BE := BR.new m9
            have nE := New.trans hnr m9
            obtain ⟨s4, hs9⟩ : ∃ s, s3 ++ p7 = s := ⟨_, rfl⟩
            have hz_s4 : s4.size ≤ 400000302000 := by rw [← hs9]; simp only [ByteArray.size_append]; omega
            have E_s4 : Hid (s4 = S (((((headE ⟨kind, entry, image, places, fix, imps, exps, notes⟩) ++ places.flatMap plE) ++ [(n2 : Int)].flatMap numB) ++ fix.flatMap numB) ++ [(n3 : Int)].flatMap numB)) := Lib.hid (by
              rw [← hs9, E_s3.out, ← E_p7.out, S_app]; simp)
            rw [hs9]
            clear hs9 s9 l_p7 g5 BR hnr m9 H_p7 E_p7
            have NB9 : New w _ := nE
            have BB9 := BE
            have HS9 : Hid (s4 = S ((((((headE ⟨kind, entry, image, places, fix, imps, exps, notes⟩) ++ places.flatMap plE) ++ [(n2 : Int)].flatMap numB) ++ fix.flatMap numB) ++ [(n3 : Int)].flatMap numB) ++ (imps.take 0).flatMap imE)) := Lib.hid (by simpa using E_s4.out)
            go_loopw [4, 94] (fun v4 v94 wr => ∃ (i : Nat) (so : ByteArray), v94 = .int .i64 i ∧ v4 = .string so ∧ i ≤ n3 ∧ so.size ≤ 400000302000 + i * 200000 ∧ New w wr ∧ Blk wr w.heap.size 28 #[.int .i64 kind, .int .i64 entry, .string image, .slice a1 n1 c1, .slice a2 n2 c2, .slice a3 n3 c3, .slice a4 n4 c4, .slice a5 n5 c5] ∧ Hid (so = S ((((((headE ⟨kind, entry, image, places, fix, imps, exps, notes⟩) ++ places.flatMap plE) ++ [(n2 : Int)].flatMap numB) ++ fix.flatMap numB) ++ [(n3 : Int)].flatMap numB) ++ (imps.take i).flatMap imE))) (fun _ v94 _ => n3 - (intOf v94).toNat)
            case atStart => exact ⟨0, _, rfl, rfl, by omega, by omega, NB9, BB9, HS9⟩
            case round =>
              clear NB9 BB9 HS9
              obtain ⟨i, so, rfl, rfl, hi9, hso, hnr, BR, HS⟩ := hrel
              by_cases hlt : i < n3
              · obtain ⟨bk, o, rfl, hbk, x, hx, hcell⟩ := rd_row (f := imC) (k := 3) (fun _ => rfl) HL3.out (HR3.out.below hnr) hlt
                have hzx := HZI.out x (List.mem_of_getElem? hx)
                have HT : Hid (imps.take (i + 1) = imps.take i ++ [x]) := Lib.hid (by
                  obtain ⟨h1, h2⟩ := List.getElem?_eq_some_iff.1 hx
                  rw [List.take_succ_eq_append_getElem h1, h2])
                obtain ⟨xl, xs, xp⟩ := x
                have q0 := hcell 0 (.string xl) (by omega) rfl
                have q1 := hcell 1 (.string xs) (by omega) rfl
                have q2 := hcell 2 (.int .i64 xp) (by omega) rfl
                simp only [Nat.add_zero] at q0
                rw [← Nat.add_assoc] at q1 q2
                simp only at hzx
                have BP := Blk.made wr 81 #[.string xl, .string xs, .int .i64 xp]
                have nX := (New.refl wr).alloc (.cells #[.string xl, .string xs, .int .i64 xp] 81)
                have z0 := BP.cell' 0 _ rfl
                have z1 := BP.cell' 1 _ rfl
                have z2 := BP.cell' 2 _ rfl
                have i0 : (0 : Int) ≤ (i : Int) := by omega
                have i1 : (i : Int) < (n3 : Int) := by omega
                have H_t1 := Lib.hid (fun w => rtxt_any xl w (hzx.1))
                have l_t1 : (S (txtB xl)).size ≤ 65559 := by rw [size_S]; exact txtB_len _
                obtain ⟨t1, h_t1⟩ : ∃ t, S (txtB xl) = t := ⟨_, rfl⟩
                rw [h_t1] at H_t1 l_t1
                have E_t1 := Lib.hid h_t1
                clear h_t1
                have H_t2 := Lib.hid (fun w => rtxt_any xs w (hzx.2.1))
                have l_t2 : (S (txtB xs)).size ≤ 65559 := by rw [size_S]; exact txtB_len _
                obtain ⟨t2, h_t2⟩ : ∃ t, S (txtB xs) = t := ⟨_, rfl⟩
                rw [h_t2] at H_t2 l_t2
                have E_t2 := Lib.hid h_t2
                clear h_t2
                have H_t3 := Lib.hid (fun w => rnum_any xp w (hzx.2.2))
                have l_t3 : (S (numB xp)).size ≤ 22 := by rw [size_S]; exact numB_len _
                obtain ⟨t3, h_t3⟩ : ∃ t, S (numB xp) = t := ⟨_, rfl⟩
                rw [h_t3] at H_t3 l_t3
                have E_t3 := Lib.hid h_t3
                clear h_t3
                have s0 : ¬ (9223372036854775807 < so.size + t1.size) := by omega
                have s1 : ¬ (9223372036854775807 < so.size + t1.size + t2.size) := by omega
                have s2 : ¬ (9223372036854775807 < so.size + t1.size + t2.size + t3.size) := by omega
                clear hcell hx
                go_wp2_with (fail)
                refine wp_region_held_drew (S := (New _)) (by kernel_rfl) ((New.refl _).drew) (fun hS => ?_)
                refine tkQ (i := 0) (oi := ?o38) (v := ?v38) ?h38 ?q38 ?y38 hS ?_; (case h38 => (simp only [gqA, gqB, gqC]; rfl)); (case q38 => exact fun _ _ _ h => h); (case y38 => (refine Or.inl ⟨by kernel_rfl, ?_⟩; intro wq hSq; clear hSq; go_simp; (try with_reducible rfl))); simp only [Act.put, List.setIfInBounds_toArray, List.set_cons_zero, List.set_cons_succ]
                refine tkQ (i := 1) (oi := ?o39) (v := ?v39) ?h39 ?q39 ?y39 hS ?_; (case h39 => (simp only [gqA, gqB, gqC]; rfl)); (case q39 => exact fun _ _ _ h => h); (case y39 => (refine Or.inl ⟨by kernel_rfl, ?_⟩; intro wq hSq; clear hSq; go_simp; (try with_reducible rfl))); simp only [Act.put, List.setIfInBounds_toArray, List.set_cons_zero, List.set_cons_succ]
                refine tkQ (i := 2) (oi := ?o40) (v := ?v40) ?h40 ?q40 ?y40 hS ?_; (case h40 => (simp only [gqA, gqB, gqC]; rfl)); (case q40 => exact fun _ _ _ h => h); (case y40 => (refine Or.inl ⟨by kernel_rfl, ?_⟩; intro wq hSq; have hf0 := cell_new hSq z0; have hf1 := cell_new hSq z1; have hf2 := cell_new hSq z2; clear hSq; go_simp; (try with_reducible rfl))); simp only [Act.put, List.setIfInBounds_toArray, List.set_cons_zero, List.set_cons_succ]
                refine tkQ (i := 5) (oi := ?o41) (v := ?v41) ?h41 ?q41 ?y41 hS ?_; (case h41 => (simp only [gqA, gqB, gqC]; rfl)); (case q41 => exact fun _ _ _ h => h); (case y41 => (refine Or.inl ⟨by kernel_rfl, ?_⟩; intro wq hSq; clear hSq; go_simp; (try with_reducible rfl))); simp only [Act.put, List.setIfInBounds_toArray, List.set_cons_zero, List.set_cons_succ]
                refine tkQ (i := 6) (oi := ?o42) (v := ?v42) ?h42 ?q42 ?y42 hS ?_; (case h42 => (simp only [gqA, gqB, gqC]; rfl)); (case q42 => exact fun _ _ _ h => h); (case y42 => (refine Or.inl ⟨by kernel_rfl, ?_⟩; intro wq hSq; have hf0 := cell_new hSq z0; have hf1 := cell_new hSq z1; have hf2 := cell_new hSq z2; clear hSq; go_simp; (try with_reducible rfl))); simp only [Act.put, List.setIfInBounds_toArray, List.set_cons_zero, List.set_cons_succ]
                refine tkQ (i := 9) (oi := ?o43) (v := ?v43) ?h43 ?q43 ?y43 hS ?_; (case h43 => (simp only [gqA, gqB, gqC]; rfl)); (case q43 => exact fun _ _ _ h => h); (case y43 => (refine Or.inl ⟨by kernel_rfl, ?_⟩; intro wq hSq; clear hSq; go_simp; (try with_reducible rfl))); simp only [Act.put, List.setIfInBounds_toArray, List.set_cons_zero, List.set_cons_succ]
                refine tkQ (i := 10) (oi := ?o44) (v := ?v44) ?h44 ?q44 ?y44 hS ?_; (case h44 => (simp only [gqA, gqB, gqC]; rfl)); (case q44 => exact fun _ _ _ h => h); (case y44 => (refine Or.inl ⟨by kernel_rfl, ?_⟩; intro wq hSq; have hf0 := cell_new hSq z0; have hf1 := cell_new hSq z1; have hf2 := cell_new hSq z2; clear hSq; go_simp; (try with_reducible rfl))); simp only [Act.put, List.setIfInBounds_toArray, List.set_cons_zero, List.set_cons_succ]
                refine wpAnyH_ready (rs := [3]) (by kernel_rfl) (by simp) ?_
                refine AllReadyH.cons (o := ?oi45) ?hi45 (fun K hK => ?_) AllReadyH.nil
                case hi45 => (simp only [gqA, gqB, gqC]; rfl)
                go_simp
                with_reducible refine (H_t1.out _).mono ?_
                rintro e y1 ⟨rfl, m1⟩
                refine hK.out _ _ (hS.trans m1) (fun hS => ?_)
                clear hK K
                refine tkQ (i := 4) (oi := ?o46) (v := ?v46) ?h46 ?q46 ?y46 hS ?_; (case h46 => (simp only [gqA, gqB, gqC]; rfl)); (case q46 => exact fun _ _ _ h => h); (case y46 => (refine Or.inl ⟨by kernel_rfl, ?_⟩; intro wq hSq; clear hSq; go_simp; (try with_reducible rfl))); simp only [Act.put, List.setIfInBounds_toArray, List.set_cons_zero, List.set_cons_succ]
                refine wpAnyH_ready (rs := [7]) (by kernel_rfl) (by simp) ?_
                refine AllReadyH.cons (o := ?oi47) ?hi47 (fun K hK => ?_) AllReadyH.nil
                case hi47 => (simp only [gqA, gqB, gqC]; rfl)
                go_simp
                with_reducible refine (H_t2.out _).mono ?_
                rintro e y2 ⟨rfl, m2⟩
                refine hK.out _ _ (hS.trans m2) (fun hS => ?_)
                clear hK K
                refine tkQ (i := 8) (oi := ?o48) (v := ?v48) ?h48 ?q48 ?y48 hS ?_; (case h48 => (simp only [gqA, gqB, gqC]; rfl)); (case q48 => exact fun _ _ _ h => h); (case y48 => (refine Or.inl ⟨by kernel_rfl, ?_⟩; intro wq hSq; clear hSq; go_simp; (try with_reducible rfl))); simp only [Act.put, List.setIfInBounds_toArray, List.set_cons_zero, List.set_cons_succ]
                refine wpAnyH_ready (rs := [11]) (by kernel_rfl) (by simp) ?_
                refine AllReadyH.cons (o := ?oi49) ?hi49 (fun K hK => ?_) AllReadyH.nil
                case hi49 => (simp only [gqA, gqB, gqC]; rfl)
                go_simp
                with_reducible refine (H_t3.out _).mono ?_
                rintro e y3 ⟨rfl, m3⟩
                refine hK.out _ _ (hS.trans m3) (fun hS => ?_)
                clear hK K
                refine tkQ (i := 12) (oi := ?o50) (v := ?v50) ?h50 ?q50 ?y50 hS ?_; (case h50 => (simp only [gqA, gqB, gqC]; rfl)); (case q50 => exact fun _ _ _ h => h); (case y50 => (refine Or.inl ⟨by kernel_rfl, ?_⟩; intro wq hSq; clear hSq; go_simp; (try with_reducible rfl))); simp only [Act.put, List.setIfInBounds_toArray, List.set_cons_zero, List.set_cons_succ]
                refine tkQ (i := 13) (oi := ?o51) (v := ?v51) ?h51 ?q51 ?y51 hS ?_; (case h51 => (simp only [gqA, gqB, gqC]; rfl)); (case q51 => exact fun _ _ _ h => h); (case y51 => (refine Or.inl ⟨by kernel_rfl, ?_⟩; intro wq hSq; clear hSq; go_simp; (try with_reducible rfl))); simp only [Act.put, List.setIfInBounds_toArray, List.set_cons_zero, List.set_cons_succ]
                refine wpAnyH_done (by kernel_rfl) ?_ _
                have nz : New wr _ := nX.trans ((((New.refl _).drew.trans m1).trans m2).trans m3)
                go_wp2
                have HF : Hid ((((so ++ t1) ++ t2) ++ t3) = S ((((((headE ⟨kind, entry, image, places, fix, imps, exps, notes⟩) ++ places.flatMap plE) ++ [(n2 : Int)].flatMap numB) ++ fix.flatMap numB) ++ [(n3 : Int)].flatMap numB) ++ (imps.take (i + 1)).flatMap imE)) := Lib.hid (by
                  rw [HT.out, List.flatMap_append, ← List.append_assoc, ← S_app, ← HS.out]
                  have e : S ([(⟨xl, xs, xp⟩ : ImD)].flatMap imE) = ((t1 ++ t2) ++ t3) := by
                    rw [← E_t1.out, ← E_t2.out, ← E_t3.out]
                    simp only [S_app]
                    congr 1
                    simp [imE]
                  rw [e]
                  simp only [ByteArray.append_assoc])
                go_roundw
                case rel => exact ⟨i + 1, _, by go_num, rfl, by omega, by simp only [ByteArray.size_append]; omega, New.trans hnr nz, BR.new nz, HF⟩
                case measure => simp [intOf]; omega
              · obtain rfl : n3 = i := by omega
                have E_s5 : Hid (so = S ((((((headE ⟨kind, entry, image, places, fix, imps, exps, notes⟩) ++ places.flatMap plE) ++ [(n2 : Int)].flatMap numB) ++ fix.flatMap numB) ++ [(n3 : Int)].flatMap numB) ++ imps.flatMap imE)) := Lib.hid (by have := HS.out; rwa [List.take_of_length_le (by rw [HL3.out]; exact Nat.le_refl _)] at this)
                obtain ⟨s5, rfl⟩ : ∃ s : ByteArray, s = so := ⟨_, rfl⟩
                have hz_s5 : s5.size ≤ 600000302000 := by omega
                clear HS hlt hi9 hso
                obtain ⟨wx_s5, rfl⟩ : ∃ wx : World, wx = wr := ⟨_, rfl⟩
                have H_p8 := Lib.hid (fun w => rnum_any (n4 : Int) w (by unfold W64; omega))
                have l_p8 : (S (numB (n4 : Int))).size ≤ 22 := by rw [size_S]; exact numB_len _
                obtain ⟨p8, h_p8⟩ : ∃ t, S (numB (n4 : Int)) = t := ⟨_, rfl⟩
                rw [h_p8] at H_p8 l_p8
                have E_p8 := Lib.hid h_p8
                clear h_p8
                have g6 := BR.cell' 6 _ rfl
                have s9 : ¬ (9223372036854775807 < s5.size + p8.size) := by omega
                go_wp2_with (go_at_call 45; (with_reducible refine (H_p8.out _).mono ?_); rintro e x9 ⟨rfl, m9⟩; have h6 := (BR.new m9).cell' 6 _ rfl)
                have BE := BR.new m9
                have nE := New.trans hnr m9
                obtain ⟨s6, hs9⟩ : ∃ s, s5 ++ p8 = s := ⟨_, rfl⟩
                have hz_s6 : s6.size ≤ 600000303000 := by rw [← hs9]; simp only [ByteArray.size_append]; omega
                have E_s6 : Hid (s6 = S (((((((headE ⟨kind, entry, image, places, fix, imps, exps, notes⟩) ++ places.flatMap plE) ++ [(n2 : Int)].flatMap numB) ++ fix.flatMap numB) ++ [(n3 : Int)].flatMap numB) ++ imps.flatMap imE) ++ [(n4 : Int)].flatMap numB)) := Lib.hid (by
                  rw [← hs9, E_s5.out, ← E_p8.out, S_app]; simp)
                rw [hs9]
                clear hs9 s9 l_p8 g6 BR hnr m9 H_p8 E_p8
                have NB9 : New w _ := nE
                have BB9 := BE
                have HS9 : Hid (s6 = S ((((((((headE ⟨kind, entry, image, places, fix, imps, exps, notes⟩) ++ places.flatMap plE) ++ [(n2 : Int)].flatMap numB) ++ fix.flatMap numB) ++ [(n3 : Int)].flatMap numB) ++ imps.flatMap imE) ++ [(n4 : Int)].flatMap numB) ++ (exps.take 0).flatMap exE)) := Lib.hid (by simpa using E_s6.out)
                go_loopw [4, 121] (fun v4 v121 wr => ∃ (i : Nat) (so : ByteArray), v121 = .int .i64 i ∧ v4 = .string so ∧ i ≤ n4 ∧ so.size ≤ 600000303000 + i * 200000 ∧ New w wr ∧ Blk wr w.heap.size 28 #[.int .i64 kind, .int .i64 entry, .string image, .slice a1 n1 c1, .slice a2 n2 c2, .slice a3 n3 c3, .slice a4 n4 c4, .slice a5 n5 c5] ∧ Hid (so = S ((((((((headE ⟨kind, entry, image, places, fix, imps, exps, notes⟩) ++ places.flatMap plE) ++ [(n2 : Int)].flatMap numB) ++ fix.flatMap numB) ++ [(n3 : Int)].flatMap numB) ++ imps.flatMap imE) ++ [(n4 : Int)].flatMap numB) ++ (exps.take i).flatMap exE))) (fun _ v121 _ => n4 - (intOf v121).toNat)
                case atStart => exact ⟨0, _, rfl, rfl, by omega, by omega, NB9, BB9, HS9⟩
                case round =>
                  clear NB9 BB9 HS9
                  obtain ⟨i, so, rfl, rfl, hi9, hso, hnr, BR, HS⟩ := hrel
                  by_cases hlt : i < n4
                  · obtain ⟨bk, o, rfl, hbk, x, hx, hcell⟩ := rd_row (f := exC) (k := 2) (fun _ => rfl) HL4.out (HR4.out.below hnr) hlt
                    have hzx := HZX.out x (List.mem_of_getElem? hx)
                    have HT : Hid (exps.take (i + 1) = exps.take i ++ [x]) := Lib.hid (by
                      obtain ⟨h1, h2⟩ := List.getElem?_eq_some_iff.1 hx
                      rw [List.take_succ_eq_append_getElem h1, h2])
                    obtain ⟨xs, xp⟩ := x
                    have q0 := hcell 0 (.string xs) (by omega) rfl
                    have q1 := hcell 1 (.int .i64 xp) (by omega) rfl
                    simp only [Nat.add_zero] at q0
                    rw [← Nat.add_assoc] at q1
                    simp only at hzx
                    have BP := Blk.made wr 83 #[.string xs, .int .i64 xp]
                    have nX := (New.refl wr).alloc (.cells #[.string xs, .int .i64 xp] 83)
                    have z0 := BP.cell' 0 _ rfl
                    have z1 := BP.cell' 1 _ rfl
                    have i0 : (0 : Int) ≤ (i : Int) := by omega
                    have i1 : (i : Int) < (n4 : Int) := by omega
                    have H_t1 := Lib.hid (fun w => rtxt_any xs w (hzx.1))
                    have l_t1 : (S (txtB xs)).size ≤ 65559 := by rw [size_S]; exact txtB_len _
                    obtain ⟨t1, h_t1⟩ : ∃ t, S (txtB xs) = t := ⟨_, rfl⟩
                    rw [h_t1] at H_t1 l_t1
                    have E_t1 := Lib.hid h_t1
                    clear h_t1
                    have H_t2 := Lib.hid (fun w => rnum_any xp w (hzx.2))
                    have l_t2 : (S (numB xp)).size ≤ 22 := by rw [size_S]; exact numB_len _
                    obtain ⟨t2, h_t2⟩ : ∃ t, S (numB xp) = t := ⟨_, rfl⟩
                    rw [h_t2] at H_t2 l_t2
                    have E_t2 := Lib.hid h_t2
                    clear h_t2
                    have s0 : ¬ (9223372036854775807 < so.size + t1.size) := by omega
                    have s1 : ¬ (9223372036854775807 < so.size + t1.size + t2.size) := by omega
                    clear hcell hx
                    go_wp2_with (fail)
                    refine wp_region_held_drew (S := (New _)) (by kernel_rfl) ((New.refl _).drew) (fun hS => ?_)
                    refine tkQ (i := 0) (oi := ?o52) (v := ?v52) ?h52 ?q52 ?y52 hS ?_; (case h52 => (simp only [gqA, gqB, gqC]; rfl)); (case q52 => exact fun _ _ _ h => h); (case y52 => (refine Or.inl ⟨by kernel_rfl, ?_⟩; intro wq hSq; clear hSq; go_simp; (try with_reducible rfl))); simp only [Act.put, List.setIfInBounds_toArray, List.set_cons_zero, List.set_cons_succ]
                    refine tkQ (i := 1) (oi := ?o53) (v := ?v53) ?h53 ?q53 ?y53 hS ?_; (case h53 => (simp only [gqA, gqB, gqC]; rfl)); (case q53 => exact fun _ _ _ h => h); (case y53 => (refine Or.inl ⟨by kernel_rfl, ?_⟩; intro wq hSq; clear hSq; go_simp; (try with_reducible rfl))); simp only [Act.put, List.setIfInBounds_toArray, List.set_cons_zero, List.set_cons_succ]
                    refine tkQ (i := 2) (oi := ?o54) (v := ?v54) ?h54 ?q54 ?y54 hS ?_; (case h54 => (simp only [gqA, gqB, gqC]; rfl)); (case q54 => exact fun _ _ _ h => h); (case y54 => (refine Or.inl ⟨by kernel_rfl, ?_⟩; intro wq hSq; have hf0 := cell_new hSq z0; have hf1 := cell_new hSq z1; clear hSq; go_simp; (try with_reducible rfl))); simp only [Act.put, List.setIfInBounds_toArray, List.set_cons_zero, List.set_cons_succ]
                    refine tkQ (i := 5) (oi := ?o55) (v := ?v55) ?h55 ?q55 ?y55 hS ?_; (case h55 => (simp only [gqA, gqB, gqC]; rfl)); (case q55 => exact fun _ _ _ h => h); (case y55 => (refine Or.inl ⟨by kernel_rfl, ?_⟩; intro wq hSq; clear hSq; go_simp; (try with_reducible rfl))); simp only [Act.put, List.setIfInBounds_toArray, List.set_cons_zero, List.set_cons_succ]
                    refine tkQ (i := 6) (oi := ?o56) (v := ?v56) ?h56 ?q56 ?y56 hS ?_; (case h56 => (simp only [gqA, gqB, gqC]; rfl)); (case q56 => exact fun _ _ _ h => h); (case y56 => (refine Or.inl ⟨by kernel_rfl, ?_⟩; intro wq hSq; have hf0 := cell_new hSq z0; have hf1 := cell_new hSq z1; clear hSq; go_simp; (try with_reducible rfl))); simp only [Act.put, List.setIfInBounds_toArray, List.set_cons_zero, List.set_cons_succ]
                    refine wpAnyH_ready (rs := [3]) (by kernel_rfl) (by simp) ?_
                    refine AllReadyH.cons (o := ?oi57) ?hi57 (fun K hK => ?_) AllReadyH.nil
                    case hi57 => (simp only [gqA, gqB, gqC]; rfl)
                    go_simp
                    with_reducible refine (H_t1.out _).mono ?_
                    rintro e y1 ⟨rfl, m1⟩
                    refine hK.out _ _ (hS.trans m1) (fun hS => ?_)
                    clear hK K
                    refine tkQ (i := 4) (oi := ?o58) (v := ?v58) ?h58 ?q58 ?y58 hS ?_; (case h58 => (simp only [gqA, gqB, gqC]; rfl)); (case q58 => exact fun _ _ _ h => h); (case y58 => (refine Or.inl ⟨by kernel_rfl, ?_⟩; intro wq hSq; clear hSq; go_simp; (try with_reducible rfl))); simp only [Act.put, List.setIfInBounds_toArray, List.set_cons_zero, List.set_cons_succ]
                    refine wpAnyH_ready (rs := [7]) (by kernel_rfl) (by simp) ?_
                    refine AllReadyH.cons (o := ?oi59) ?hi59 (fun K hK => ?_) AllReadyH.nil
                    case hi59 => (simp only [gqA, gqB, gqC]; rfl)
                    go_simp
                    with_reducible refine (H_t2.out _).mono ?_
                    rintro e y2 ⟨rfl, m2⟩
                    refine hK.out _ _ (hS.trans m2) (fun hS => ?_)
                    clear hK K
                    refine tkQ (i := 8) (oi := ?o60) (v := ?v60) ?h60 ?q60 ?y60 hS ?_; (case h60 => (simp only [gqA, gqB, gqC]; rfl)); (case q60 => exact fun _ _ _ h => h); (case y60 => (refine Or.inl ⟨by kernel_rfl, ?_⟩; intro wq hSq; clear hSq; go_simp; (try with_reducible rfl))); simp only [Act.put, List.setIfInBounds_toArray, List.set_cons_zero, List.set_cons_succ]
                    refine tkQ (i := 9) (oi := ?o61) (v := ?v61) ?h61 ?q61 ?y61 hS ?_; (case h61 => (simp only [gqA, gqB, gqC]; rfl)); (case q61 => exact fun _ _ _ h => h); (case y61 => (refine Or.inl ⟨by kernel_rfl, ?_⟩; intro wq hSq; clear hSq; go_simp; (try with_reducible rfl))); simp only [Act.put, List.setIfInBounds_toArray, List.set_cons_zero, List.set_cons_succ]
                    refine wpAnyH_done (by kernel_rfl) ?_ _
                    have nz : New wr _ := nX.trans (((New.refl _).drew.trans m1).trans m2)
                    go_wp2
                    have HF : Hid (((so ++ t1) ++ t2) = S ((((((((headE ⟨kind, entry, image, places, fix, imps, exps, notes⟩) ++ places.flatMap plE) ++ [(n2 : Int)].flatMap numB) ++ fix.flatMap numB) ++ [(n3 : Int)].flatMap numB) ++ imps.flatMap imE) ++ [(n4 : Int)].flatMap numB) ++ (exps.take (i + 1)).flatMap exE)) := Lib.hid (by
                      rw [HT.out, List.flatMap_append, ← List.append_assoc, ← S_app, ← HS.out]
                      have e : S ([(⟨xs, xp⟩ : ExD)].flatMap exE) = (t1 ++ t2) := by
                        rw [← E_t1.out, ← E_t2.out]
                        simp only [S_app]
                        congr 1
                        simp [exE]
                      rw [e]
                      simp only [ByteArray.append_assoc])
                    go_roundw
                    case rel => exact ⟨i + 1, _, by go_num, rfl, by omega, by simp only [ByteArray.size_append]; omega, New.trans hnr nz, BR.new nz, HF⟩
                    case measure => simp [intOf]; omega
                  · obtain rfl : n4 = i := by omega
                    have E_s7 : Hid (so = S ((((((((headE ⟨kind, entry, image, places, fix, imps, exps, notes⟩) ++ places.flatMap plE) ++ [(n2 : Int)].flatMap numB) ++ fix.flatMap numB) ++ [(n3 : Int)].flatMap numB) ++ imps.flatMap imE) ++ [(n4 : Int)].flatMap numB) ++ exps.flatMap exE)) := Lib.hid (by have := HS.out; rwa [List.take_of_length_le (by rw [HL4.out]; exact Nat.le_refl _)] at this)
                    obtain ⟨s7, rfl⟩ : ∃ s : ByteArray, s = so := ⟨_, rfl⟩
                    have hz_s7 : s7.size ≤ 800000303000 := by omega
                    clear HS hlt hi9 hso
                    obtain ⟨wx_s7, rfl⟩ : ∃ wx : World, wx = wr := ⟨_, rfl⟩
                    have H_p9 := Lib.hid (fun w => rnum_any (n5 : Int) w (by unfold W64; omega))
                    have l_p9 : (S (numB (n5 : Int))).size ≤ 22 := by rw [size_S]; exact numB_len _
                    obtain ⟨p9, h_p9⟩ : ∃ t, S (numB (n5 : Int)) = t := ⟨_, rfl⟩
                    rw [h_p9] at H_p9 l_p9
                    have E_p9 := Lib.hid h_p9
                    clear h_p9
                    have g7 := BR.cell' 7 _ rfl
                    have s9 : ¬ (9223372036854775807 < s7.size + p9.size) := by omega
                    go_wp2_with (go_at_call 45; (with_reducible refine (H_p9.out _).mono ?_); rintro e x9 ⟨rfl, m9⟩; have h7 := (BR.new m9).cell' 7 _ rfl)
                    have BE := BR.new m9
                    have nE := New.trans hnr m9
                    obtain ⟨s8, hs9⟩ : ∃ s, s7 ++ p9 = s := ⟨_, rfl⟩
                    have hz_s8 : s8.size ≤ 800000304000 := by rw [← hs9]; simp only [ByteArray.size_append]; omega
                    have E_s8 : Hid (s8 = S (((((((((headE ⟨kind, entry, image, places, fix, imps, exps, notes⟩) ++ places.flatMap plE) ++ [(n2 : Int)].flatMap numB) ++ fix.flatMap numB) ++ [(n3 : Int)].flatMap numB) ++ imps.flatMap imE) ++ [(n4 : Int)].flatMap numB) ++ exps.flatMap exE) ++ [(n5 : Int)].flatMap numB)) := Lib.hid (by
                      rw [← hs9, E_s7.out, ← E_p9.out, S_app]; simp)
                    rw [hs9]
                    clear hs9 s9 l_p9 g7 BR hnr m9 H_p9 E_p9
                    have NB9 : New w _ := nE
                    have BB9 := BE
                    have HS9 : Hid (s8 = S ((((((((((headE ⟨kind, entry, image, places, fix, imps, exps, notes⟩) ++ places.flatMap plE) ++ [(n2 : Int)].flatMap numB) ++ fix.flatMap numB) ++ [(n3 : Int)].flatMap numB) ++ imps.flatMap imE) ++ [(n4 : Int)].flatMap numB) ++ exps.flatMap exE) ++ [(n5 : Int)].flatMap numB) ++ (notes.take 0).flatMap ntE)) := Lib.hid (by simpa using E_s8.out)
                    go_loopw [4, 144] (fun v4 v144 wr => ∃ (i : Nat) (so : ByteArray), v144 = .int .i64 i ∧ v4 = .string so ∧ i ≤ n5 ∧ so.size ≤ 800000304000 + i * 200000 ∧ New w wr ∧ Blk wr w.heap.size 28 #[.int .i64 kind, .int .i64 entry, .string image, .slice a1 n1 c1, .slice a2 n2 c2, .slice a3 n3 c3, .slice a4 n4 c4, .slice a5 n5 c5] ∧ Hid (so = S ((((((((((headE ⟨kind, entry, image, places, fix, imps, exps, notes⟩) ++ places.flatMap plE) ++ [(n2 : Int)].flatMap numB) ++ fix.flatMap numB) ++ [(n3 : Int)].flatMap numB) ++ imps.flatMap imE) ++ [(n4 : Int)].flatMap numB) ++ exps.flatMap exE) ++ [(n5 : Int)].flatMap numB) ++ (notes.take i).flatMap ntE))) (fun _ v144 _ => n5 - (intOf v144).toNat)
                    case atStart => exact ⟨0, _, rfl, rfl, by omega, by omega, NB9, BB9, HS9⟩
                    case round =>
                      clear NB9 BB9 HS9
                      obtain ⟨i, so, rfl, rfl, hi9, hso, hnr, BR, HS⟩ := hrel
                      by_cases hlt : i < n5
                      · obtain ⟨bk, o, rfl, hbk, x, hx, hcell⟩ := rd_row (f := ntC) (k := 2) (fun _ => rfl) HL5.out (HR5.out.below hnr) hlt
                        have hzx := HZN.out x (List.mem_of_getElem? hx)
                        have HT : Hid (notes.take (i + 1) = notes.take i ++ [x]) := Lib.hid (by
                          obtain ⟨h1, h2⟩ := List.getElem?_eq_some_iff.1 hx
                          rw [List.take_succ_eq_append_getElem h1, h2])
                        obtain ⟨xs, xt⟩ := x
                        have q0 := hcell 0 (.string xs) (by omega) rfl
                        have q1 := hcell 1 (.string xt) (by omega) rfl
                        simp only [Nat.add_zero] at q0
                        rw [← Nat.add_assoc] at q1
                        simp only at hzx
                        have BP := Blk.made wr 40 #[.string xs, .string xt]
                        have nX := (New.refl wr).alloc (.cells #[.string xs, .string xt] 40)
                        have z0 := BP.cell' 0 _ rfl
                        have z1 := BP.cell' 1 _ rfl
                        have i0 : (0 : Int) ≤ (i : Int) := by omega
                        have i1 : (i : Int) < (n5 : Int) := by omega
                        have H_t1 := Lib.hid (fun w => rtxt_any xs w (hzx.1))
                        have l_t1 : (S (txtB xs)).size ≤ 65559 := by rw [size_S]; exact txtB_len _
                        obtain ⟨t1, h_t1⟩ : ∃ t, S (txtB xs) = t := ⟨_, rfl⟩
                        rw [h_t1] at H_t1 l_t1
                        have E_t1 := Lib.hid h_t1
                        clear h_t1
                        have H_t2 := Lib.hid (fun w => rtxt_any xt w (hzx.2))
                        have l_t2 : (S (txtB xt)).size ≤ 65559 := by rw [size_S]; exact txtB_len _
                        obtain ⟨t2, h_t2⟩ : ∃ t, S (txtB xt) = t := ⟨_, rfl⟩
                        rw [h_t2] at H_t2 l_t2
                        have E_t2 := Lib.hid h_t2
                        clear h_t2
                        have s0 : ¬ (9223372036854775807 < so.size + t1.size) := by omega
                        have s1 : ¬ (9223372036854775807 < so.size + t1.size + t2.size) := by omega
                        clear hcell hx
                        go_wp2_with (fail)
                        refine wp_region_held_drew (S := (New _)) (by kernel_rfl) ((New.refl _).drew) (fun hS => ?_)
                        refine tkQ (i := 0) (oi := ?o62) (v := ?v62) ?h62 ?q62 ?y62 hS ?_; (case h62 => (simp only [gqA, gqB, gqC]; rfl)); (case q62 => exact fun _ _ _ h => h); (case y62 => (refine Or.inl ⟨by kernel_rfl, ?_⟩; intro wq hSq; clear hSq; go_simp; (try with_reducible rfl))); simp only [Act.put, List.setIfInBounds_toArray, List.set_cons_zero, List.set_cons_succ]
                        refine tkQ (i := 1) (oi := ?o63) (v := ?v63) ?h63 ?q63 ?y63 hS ?_; (case h63 => (simp only [gqA, gqB, gqC]; rfl)); (case q63 => exact fun _ _ _ h => h); (case y63 => (refine Or.inl ⟨by kernel_rfl, ?_⟩; intro wq hSq; clear hSq; go_simp; (try with_reducible rfl))); simp only [Act.put, List.setIfInBounds_toArray, List.set_cons_zero, List.set_cons_succ]
                        refine tkQ (i := 2) (oi := ?o64) (v := ?v64) ?h64 ?q64 ?y64 hS ?_; (case h64 => (simp only [gqA, gqB, gqC]; rfl)); (case q64 => exact fun _ _ _ h => h); (case y64 => (refine Or.inl ⟨by kernel_rfl, ?_⟩; intro wq hSq; have hf0 := cell_new hSq z0; have hf1 := cell_new hSq z1; clear hSq; go_simp; (try with_reducible rfl))); simp only [Act.put, List.setIfInBounds_toArray, List.set_cons_zero, List.set_cons_succ]
                        refine tkQ (i := 5) (oi := ?o65) (v := ?v65) ?h65 ?q65 ?y65 hS ?_; (case h65 => (simp only [gqA, gqB, gqC]; rfl)); (case q65 => exact fun _ _ _ h => h); (case y65 => (refine Or.inl ⟨by kernel_rfl, ?_⟩; intro wq hSq; clear hSq; go_simp; (try with_reducible rfl))); simp only [Act.put, List.setIfInBounds_toArray, List.set_cons_zero, List.set_cons_succ]
                        refine tkQ (i := 6) (oi := ?o66) (v := ?v66) ?h66 ?q66 ?y66 hS ?_; (case h66 => (simp only [gqA, gqB, gqC]; rfl)); (case q66 => exact fun _ _ _ h => h); (case y66 => (refine Or.inl ⟨by kernel_rfl, ?_⟩; intro wq hSq; have hf0 := cell_new hSq z0; have hf1 := cell_new hSq z1; clear hSq; go_simp; (try with_reducible rfl))); simp only [Act.put, List.setIfInBounds_toArray, List.set_cons_zero, List.set_cons_succ]
                        refine wpAnyH_ready (rs := [3]) (by kernel_rfl) (by simp) ?_
                        refine AllReadyH.cons (o := ?oi67) ?hi67 (fun K hK => ?_) AllReadyH.nil
                        case hi67 => (simp only [gqA, gqB, gqC]; rfl)
                        go_simp
                        with_reducible refine (H_t1.out _).mono ?_
                        rintro e y1 ⟨rfl, m1⟩
                        refine hK.out _ _ (hS.trans m1) (fun hS => ?_)
                        clear hK K
                        refine tkQ (i := 4) (oi := ?o68) (v := ?v68) ?h68 ?q68 ?y68 hS ?_; (case h68 => (simp only [gqA, gqB, gqC]; rfl)); (case q68 => exact fun _ _ _ h => h); (case y68 => (refine Or.inl ⟨by kernel_rfl, ?_⟩; intro wq hSq; clear hSq; go_simp; (try with_reducible rfl))); simp only [Act.put, List.setIfInBounds_toArray, List.set_cons_zero, List.set_cons_succ]
                        refine wpAnyH_ready (rs := [7]) (by kernel_rfl) (by simp) ?_
                        refine AllReadyH.cons (o := ?oi69) ?hi69 (fun K hK => ?_) AllReadyH.nil
                        case hi69 => (simp only [gqA, gqB, gqC]; rfl)
                        go_simp
                        with_reducible refine (H_t2.out _).mono ?_
                        rintro e y2 ⟨rfl, m2⟩
                        refine hK.out _ _ (hS.trans m2) (fun hS => ?_)
                        clear hK K
                        refine tkQ (i := 8) (oi := ?o70) (v := ?v70) ?h70 ?q70 ?y70 hS ?_; (case h70 => (simp only [gqA, gqB, gqC]; rfl)); (case q70 => exact fun _ _ _ h => h); (case y70 => (refine Or.inl ⟨by kernel_rfl, ?_⟩; intro wq hSq; clear hSq; go_simp; (try with_reducible rfl))); simp only [Act.put, List.setIfInBounds_toArray, List.set_cons_zero, List.set_cons_succ]
                        refine tkQ (i := 9) (oi := ?o71) (v := ?v71) ?h71 ?q71 ?y71 hS ?_; (case h71 => (simp only [gqA, gqB, gqC]; rfl)); (case q71 => exact fun _ _ _ h => h); (case y71 => (refine Or.inl ⟨by kernel_rfl, ?_⟩; intro wq hSq; clear hSq; go_simp; (try with_reducible rfl))); simp only [Act.put, List.setIfInBounds_toArray, List.set_cons_zero, List.set_cons_succ]
                        refine wpAnyH_done (by kernel_rfl) ?_ _
                        have nz : New wr _ := nX.trans (((New.refl _).drew.trans m1).trans m2)
                        go_wp2
                        have HF : Hid (((so ++ t1) ++ t2) = S ((((((((((headE ⟨kind, entry, image, places, fix, imps, exps, notes⟩) ++ places.flatMap plE) ++ [(n2 : Int)].flatMap numB) ++ fix.flatMap numB) ++ [(n3 : Int)].flatMap numB) ++ imps.flatMap imE) ++ [(n4 : Int)].flatMap numB) ++ exps.flatMap exE) ++ [(n5 : Int)].flatMap numB) ++ (notes.take (i + 1)).flatMap ntE)) := Lib.hid (by
                          rw [HT.out, List.flatMap_append, ← List.append_assoc, ← S_app, ← HS.out]
                          have e : S ([(⟨xs, xt⟩ : NtD)].flatMap ntE) = (t1 ++ t2) := by
                            rw [← E_t1.out, ← E_t2.out]
                            simp only [S_app]
                            congr 1
                            simp [ntE]
                          rw [e]
                          simp only [ByteArray.append_assoc])
                        go_roundw
                        case rel => exact ⟨i + 1, _, by go_num, rfl, by omega, by simp only [ByteArray.size_append]; omega, New.trans hnr nz, BR.new nz, HF⟩
                        case measure => simp [intOf]; omega
                      · obtain rfl : n5 = i := by omega
                        have E_s9f : Hid (so = S ((((((((((headE ⟨kind, entry, image, places, fix, imps, exps, notes⟩) ++ places.flatMap plE) ++ [(n2 : Int)].flatMap numB) ++ fix.flatMap numB) ++ [(n3 : Int)].flatMap numB) ++ imps.flatMap imE) ++ [(n4 : Int)].flatMap numB) ++ exps.flatMap exE) ++ [(n5 : Int)].flatMap numB) ++ notes.flatMap ntE)) := Lib.hid (by have := HS.out; rwa [List.take_of_length_le (by rw [HL5.out]; exact Nat.le_refl _)] at this)
                        obtain ⟨s9f, rfl⟩ : ∃ s : ByteArray, s = so := ⟨_, rfl⟩
                        have hz_s9f : s9f.size ≤ 1000000304000 := by omega
                        clear HS hlt hi9 hso
                        obtain ⟨wx_s9f, rfl⟩ : ∃ wx : World, wx = wr := ⟨_, rfl⟩
                        have HEO : Hid (s9f = S EL) := Lib.hid (by rw [HEL.out]; exact E_s9f.out)
                        have hsz : EL.length = s9f.size := by rw [HEO.out, size_S]
                        by_cases hbig : s9f.size ≤ 65536
                        · have hx : X = (EL, 0) := by rw [HX2.out, if_pos (by omega)]
                          subst hx
                          have t9 : ¬ (65536 : Int) < (s9f.size : Int) := by omega
                          clear hsz
                          go_wp2
                          exact bodyPost_ret (v := .tuple #[.string s9f, .int .i64 0]) (by simp [results, Tryz.results13, go_sem]) rfl ⟨by rw [HEO.out], hnr⟩
                        · have hx : X = ([], 10) := by rw [HX2.out, if_neg (by omega)]
                          subst hx
                          have t9 : (65536 : Int) < (s9f.size : Int) := by omega
                          clear hsz
                          go_wp2
                          exact bodyPost_ret (v := .tuple #[.string ⟨#[]⟩, .int .i64 10]) (by simp [results, Tryz.results13, go_sem]) rfl ⟨rfl, hnr⟩
end Go.Proofs.YtnknmpcgbfmfjaaGreatDoor

