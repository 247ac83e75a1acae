/- The reference's Print. No conditions but the lengths' own. -/
import Derived.Test.YtlecocmopeainaaDoorR1
import Derived.Test.YtlecocmopeainaaDoorR2
namespace Go.Proofs.YtlecocmopeainaaDoor
open Go Go.RowKit Go.Joins Go.Shelf
set_option linter.unusedSimpArgs false
set_option linter.unusedVariables false

theorem S_one (a : List UInt8) (c : UInt8) : S a ++ ByteArray.mk #[c] = S (a ++ [c]) := by
  apply ByteArray.ext; simp [S]
theorem S_str (a : List UInt8) (x : ByteArray) : S a ++ x = S (a ++ x.data.toList) := by
  apply ByteArray.ext; simp [S]
theorem S_dat (l : List UInt8) : (S l).data.toList = l := by simp [S]
theorem printV_end {p : ByteArray} {ws : List Lz} (h : validV p ws = true) : printV p ws = (S (prGo none ws ++ (if ws = [] then [] else [10])), 0) := by rw [printV, if_neg (by rw [h]; decide)]

theorem decimal_int (x : Int) (h : 0 ≤ x) (h2 : x ≤ 9223372036854775807) (w : World) : Calls Tryd.prog 55 #[.int .i64 x] w fun e w' => e = .returned (.string (S (Lib.itoa x))) ∧ New w w' := by
  have h3 := decimal_any x.toNat (by omega) w
  rwa [Int.toNat_of_nonneg h] at h3
set_option maxRecDepth 100000 in
set_option maxHeartbeats 8000000 in
theorem rprint_any (v : Value) (p : ByteArray) (ws : List Lz) (w : World) (h : ZText w v p ws) (hf : Fit p ws) (hs : Small ws) :
    Calls Tryd.prog 22 #[v] w fun e w' => e = .returned (.tuple #[.string (printV p ws).1, .int .i64 (printV p ws).2]) ∧ New w w' := by
  obtain ⟨A, c, rfl, hc1, hc2, hr⟩ := id h
  have hnS : New w (w.alloc (.cells #[.string p, .slice A ws.length c] 25)) := (New.refl w).alloc _
  cases g5 : validV p ws
  · have hv : printV p ws = (S [], 1) := if_pos g5
    rw [hv]
    have H5 := Lib.hid g5
    clear hv g5
    go_enter Tryd.func22, Tryd.ntmps22
    go_wp2_with (go_at_call 25; refine (rvalid_any _ p ws _ (h.new hnS) hf.words).mono ?_; rw [H5.out]; rintro e w1 ⟨rfl, hn1⟩; have B1 := (Blk.made _ _ _).new hn1; have e10 := B1.cell' 0 _ rfl; have e11 := B1.cell' 1 _ rfl)
    go_ret2
    exact ⟨rfl, hnS.trans hn1⟩
  have hsm := valid_lines g5
  have H5 := Lib.hid g5
  rw [printV_end g5]
  obtain ⟨F, hF⟩ : ∃ F, S (prGo none ws ++ (if ws = [] then [] else [10])) = F := ⟨_, rfl⟩
  rw [hF]
  have HF := Lib.hid hF
  clear hF
  have hall : ∀ x ∈ ws, x.1.size ≤ 100 ∧ 0 ≤ x.2 ∧ x.2 < 1024 := fun x hx => ⟨hs.2 x hx, (hsm x hx).2, (hsm x hx).1⟩
  have hlen : ∀ i, (prGo none (ws.take i)).length ≤ 26000 := fun i => by
    have h1 := prGo_len (ws := ws.take i) none (fun x hx => hall x (List.mem_of_mem_take hx))
    have h2 : (ws.take i).length ≤ 200 := by have := hs.1; simp; omega
    omega
  have HALL := Lib.hid hall
  have HLEN := Lib.hid hlen
  have HUP := Lib.hid (fun (k : Nat) (x y : Lz) h1 h2 => valid_next g5 (k := k) (x := x) (y := y) h1 h2)
  have hs1 := hs.1
  clear g5 hall hlen hsm hs
  have hz : (ws.length : Int) ≤ 9223372036854775807 := by omega
  go_enter Tryd.func22, Tryd.ntmps22
  go_wp2_with (go_at_call 25; refine (rvalid_any _ p ws _ (h.new hnS) hf.words).mono ?_; rw [H5.out]; rintro e w1 ⟨rfl, hn1⟩; have B1 := (Blk.made _ _ _).new hn1; have e10 := B1.cell' 0 _ rfl; have e11 := B1.cell' 1 _ rfl; have hwl := B1.lt)
  have hw1 : New w w1 := hnS.trans hn1
  go_loopw [4, 5] (fun v4 v5 wr => ∃ (i : Nat) (s : ByteArray), v4 = .string s ∧ v5 = .int .i64 i ∧ i ≤ ws.length ∧ New w1 wr ∧ Hid (s = S (prGo none (ws.take i)))) (fun _ v5 _ => ws.length - (intOf v5).toNat)
  case atStart => exact ⟨0, _, rfl, rfl, by omega, New.refl w1, Lib.hid rfl⟩
  case round =>
    obtain ⟨i, s, rfl, rfl, hi, hn, HS⟩ := hrel
    have c0 := (B1.new hn).cell' 0 _ rfl
    have c1 := (B1.new hn).cell' 1 _ rfl
    have hws : w.heap.size < wr.heap.size := (B1.new hn).lt
    have hss : s.size ≤ 26000 := by rw [HS.out, size_S]; exact HLEN.out i
    by_cases hlt : i < ws.length
    · obtain ⟨bk, o, rfl, hbk, hc⟩ := hr.2 (by omega)
      have hx : ws[i]? = some ws[i] := List.getElem?_eq_getElem hlt
      have hxa := HALL.out ws[i] (List.getElem_mem hlt)
      have hnx := prGo_take hx
      obtain ⟨q1, q2⟩ := zCells_at ws i hlt
      have d1 : wr.cell? ⟨bk, o + i * 2, none⟩ = some (.string ws[i].1) := ((hw1.trans hn).cell (p := ⟨bk, o + i * 2, none⟩) hbk).trans (hc _ _ q1)
      have d2 : wr.cell? ⟨bk, o + i * 2 + 1, none⟩ = some (.int .i64 ws[i].2) := ((hw1.trans hn).cell (p := ⟨bk, o + i * 2 + 1, none⟩) hbk).trans (hc _ _ q2)
      have hbr : bk < wr.heap.size := Nat.lt_of_lt_of_le hbk (hw1.trans hn).size
      have d1d : ∀ W, New wr W → W.cell? ⟨bk, o + i * 2, none⟩ = some (.string ws[i].1) := fun W hW => (hW.cell (p := ⟨bk, o + i * 2, none⟩) hbr).trans d1
      have c1d : ∀ W, New wr W → W.cell? ⟨w.heap.size, 1, none⟩ = some (.slice (some ⟨bk, o, none⟩) ws.length c) := fun W hW => (hW.cell (p := ⟨w.heap.size, 1, none⟩) hws).trans c1
      have D1 := Lib.hid d1d
      have C1 := Lib.hid c1d
      have i0' : (0 : Int) ≤ (i : Int) := by omega
      have i1' : (i : Int) < (ws.length : Int) := by omega
      clear q1 q2 d1d c1d
      by_cases hi0 : i = 0
      · subst hi0
        generalize ws[0] = x at *
        simp only [Nat.zero_mul, Nat.add_zero, Nat.zero_add] at d1 d2 D1
        rw [lastL_zero, prStep_first] at hnx
        obtain ⟨hxa1, hxa2, hxa3⟩ := hxa
        have HN := Lib.hid hnx
        clear hnx hx hc
        have HDEC := Lib.hid (decimal_int x.2 hxa2 (by omega))
        have hdl := Lib.itoa_length_le x.2 (by omega) (by omega)
        obtain ⟨dl, hdl2⟩ : ∃ dl, S (Lib.itoa x.2) = dl := ⟨_, rfl⟩
        have hds : dl.size ≤ 30 := by rw [← hdl2, size_S]; omega
        rw [hdl2] at HDEC
        have HD := Lib.hid hdl2
        clear hdl2 hdl
        have k0 : ¬ (9223372036854775807 < s.size + dl.size) := by omega
        have k1 : ¬ (9223372036854775807 < s.size + dl.size + 1) := by omega
        have k2 : ¬ (9223372036854775807 < s.size + dl.size + 1 + 1) := by omega
        have k3 : ¬ (9223372036854775807 < s.size + dl.size + 1 + 1 + x.1.size) := by omega
        go_wp2_with (fail)
        go_quiet (fail)
        go_wp2_with (fail)
        go_at_call 55
        refine (HDEC.out _).mono ?_
        rintro e w2 ⟨rfl, hn2⟩
        have hn3 : New wr w2 := ((New.refl wr).drewN _).trans hn2
        have d1' := D1.out _ hn3
        have c1' := C1.out _ hn3
        go_wp2
        go_roundw
        case rel => exact ⟨0 + 1, _, rfl, by go_num, by omega, hn.trans hn3, Lib.hid (by rw [HN.out, HS.out, ← HD.out]; simp only [S_one, S_str, ← S_append, S_dat]; simp)⟩
        case measure => simp [intOf]; omega
      · obtain ⟨k, rfl⟩ : ∃ k, i = k + 1 := ⟨i - 1, by omega⟩
        have hy : ws[k]? = some ws[k] := List.getElem?_eq_getElem (by omega)
        have hup := HUP.out k ws[k] ws[k + 1] hy hx
        rw [lastL_succ hy] at hnx
        obtain ⟨q1, q2⟩ := zCells_at ws k (by omega)
        have d4 : wr.cell? ⟨bk, o + k * 2 + 1, none⟩ = some (.int .i64 ws[k].2) := ((hw1.trans hn).cell (p := ⟨bk, o + k * 2 + 1, none⟩) hbk).trans (hc _ _ q2)
        clear q1 q2 hy hx hc
        generalize ws[k + 1] = x at *
        generalize ws[k] = y at *
        have k6 : IntKind.i64.wrap (((k + 1 : Nat) : Int) - 1) = (k : Int) := by rw [IntWalk.i64_in _ (by omega)]; omega
        have k7 : IntKind.i64.wrap ((k : Int) + 1 - 1) = (k : Int) := by rw [IntWalk.i64_in _ (by omega)]; omega
        have k8 : (((k + 1 : Nat) : Int) == 0) = false := beq_eq_false_iff_ne.2 (by omega)
        have k9 : (((k : Int) + 1) == 0) = false := beq_eq_false_iff_ne.2 (by omega)
        have k10 : (0 : Int) < (k : Int) + 1 := by omega
        have k11 : (0 : Int) ≤ (k : Int) := by omega
        have k12 : (k : Int) < (ws.length : Int) := by omega
        have k13 : (k : Int).toNat = k := by omega
        obtain ⟨hxa1, hxa2, hxa3⟩ := hxa
        by_cases hxy : y.2 < x.2
        · have t2 : decide (y.2 < x.2) = true := decide_eq_true hxy
          rw [prStep_next x (by omega)] at hnx
          have HN := Lib.hid hnx
          clear hnx
          have HDEC := Lib.hid (decimal_int x.2 hxa2 (by omega))
          have hdl := Lib.itoa_length_le x.2 (by omega) (by omega)
          obtain ⟨dl, hdl2⟩ : ∃ dl, S (Lib.itoa x.2) = dl := ⟨_, rfl⟩
          have hds : dl.size ≤ 30 := by rw [← hdl2, size_S]; omega
          rw [hdl2] at HDEC
          have HD := Lib.hid hdl2
          clear hdl2 hdl
          have k0 : ¬ (9223372036854775807 < s.size + 1) := by omega
          have k1 : ¬ (9223372036854775807 < s.size + 1 + dl.size) := by omega
          have k2 : ¬ (9223372036854775807 < s.size + 1 + dl.size + 1) := by omega
          have k3 : ¬ (9223372036854775807 < s.size + 1 + dl.size + 1 + 1) := by omega
          have k4 : ¬ (9223372036854775807 < s.size + 1 + dl.size + 1 + 1 + x.1.size) := by omega
          go_wp2_with (fail)
          go_quiet (fail)
          go_wp2_with (fail)
          go_at_call 55
          refine (HDEC.out _).mono ?_
          rintro e w2 ⟨rfl, hn2⟩
          have hn3 : New wr w2 := ((New.refl wr).drewN _).trans hn2
          have d1' := D1.out _ hn3
          have c1' := C1.out _ hn3
          go_wp2
          go_roundw
          case rel => exact ⟨k + 1 + 1, _, rfl, by go_num, by omega, hn.trans hn3, Lib.hid (by rw [HN.out, HS.out, ← HD.out]; simp only [S_one, S_str, ← S_append, S_dat]; simp)⟩
          case measure => simp [intOf]; omega
        · have t2 : decide (y.2 < x.2) = false := decide_eq_false hxy
          rw [prStep_same x (by omega)] at hnx
          have HN := Lib.hid hnx
          clear hnx
          have k0 : ¬ (9223372036854775807 < s.size + 1) := by omega
          have k1 : ¬ (9223372036854775807 < s.size + 1 + x.1.size) := by omega
          go_wp2_with (fail)
          go_quiet (fail)
          go_wp2
          go_roundw
          case rel => exact ⟨k + 1 + 1, _, rfl, by go_num, by omega, hn.drewN _, Lib.hid (by rw [HN.out, HS.out]; simp only [S_one, S_str, S_dat]; simp)⟩
          case measure => simp [intOf]; omega
    · obtain rfl : i = ws.length := by omega
      have hS : s = S (prGo none ws) := by have := HS.out; rwa [List.take_length] at this
      by_cases h0 : ws = []
      · have hE0 : s.toList.isEmpty = true := by rw [(str_lit s (prGo none ws)).2 hS, h0]; rfl
        have hF2 : F = s := by rw [← HF.out, hS, if_pos h0, List.append_nil]
        have HS2 := Lib.hid hF2
        clear hS h0 hF2
        go_wp2
        go_ret2
        rw [HS2.out]
        exact ⟨rfl, hw1.trans hn⟩
      · have h2 : prGo none ws ≠ [] := fun e => h0 (prGo_nil.1 e)
        have h3 : s.toList.isEmpty = false := by
          have h4 := (str_lit s (prGo none ws)).2 hS
          rw [h4]
          cases hp : prGo none ws with
          | nil => exact absurd hp h2
          | cons a b => rfl
        have hF2 : F = s ++ ByteArray.mk #[10] := by rw [hS, S_one, ← HF.out, if_neg h0]
        have HS2 := Lib.hid hF2
        have k0 : ¬ (9223372036854775807 < s.size + 1) := by omega
        clear hS h0 h2 hF2
        go_wp2
        go_ret2
        rw [HS2.out]
        exact ⟨rfl, hw1.trans hn⟩
end Go.Proofs.YtlecocmopeainaaDoor
