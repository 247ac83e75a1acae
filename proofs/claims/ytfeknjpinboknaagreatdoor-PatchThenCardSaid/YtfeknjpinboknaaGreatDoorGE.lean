/- The form of a hunk (hunk), tree.Join. Conditions: sizes. (Printed by mk-e.py.) strings.Builder at a dump whose copyCheck ends in a place that the loader refuses: copyCheck, WriteByte, WriteString. No conditions but Go's own limit on a length. Hexadecimal texts of digests: both sides' Hex. No conditions. Appending to a row of strings, and to a captured one. No conditions. -/
import Derived.Test.YtfeknjpinboknaaGreatDoorGA
import Derived.Test.YtfeknjpinboknaaGreatDoorGBase
import Derived.Test.YtfeknjpinboknaaGreatDoorGSh
import Derived.Below
import Derived.Shelf.Strings.BuilderX
import Derived.Lib.Builder
import Derived.Lib.AppendStr
import Derived.Lib.UnsafeStr
import Derived.Lib.OthersKept
import Derived.Laws.Externs
import Derived.Outline
import Derived.Laws.BitsLemmas
import Derived.Deep.AppendLies
import Derived.Deep.RegionHeld3
import Derived.Deep.DrawnRows
import Derived.Lib.ItoaLen
import Derived.Maps.AppendAt

namespace Go.Proofs.YtfeknjpinboknaaGreatDoor
open Go Go.RowKit Go.Joins
set_option linter.unusedSimpArgs false
set_option linter.unusedVariables false

theorem clos82 (s : ByteArray) (w : World) (hE : Env w) (hs : s.size < 4294967281) : Calls Tryz.prog 82 #[.string s] w fun e w' => e = .returned (.bool (lfB s)) ∧ New w w' := by
  go_enter Tryz.func82, Tryz.ntmps82
  go_wp2_with (go_at_call 83; (with_reducible refine (contains_lfB _ _ hE hs).mono ?_); rintro e w' ⟨rfl, rfl⟩)
  go_ret
  exact ⟨rfl, New.refl _⟩
set_option maxRecDepth 100000 in
set_option maxHeartbeats 1000000 in
theorem index82 (A : Option Addr) (n c : Nat) (ws : List ByteArray) (w : World) (hE : Env w) (hl : ws.length = n) (hnn : n ≤ 4294967295) (hr : Rd w 1 A n (sCells ws)) (hz : ∀ s ∈ ws, s.size ≤ 1000000) :
    Calls Tryz.prog 106 #[.slice A n c, .func (.func 82) #[] #[]] w fun e w' => (∃ i : Int, e = .returned (.int .i64 i) ∧ decide (0 ≤ i) = ws.any lfB) ∧ New w w' := by
  have HL := Lib.hid hl
  have HZ := Lib.hid hz
  have HR := Lib.hid hr
  clear hl hz hr
  go_enter Tryz.func106, Tryz.ntmps106
  go_wp2
  go_loopw [8] (fun v wr => ∃ k : Nat, k ≤ n ∧ v = .int .i64 k ∧ New w wr ∧ Hid ((ws.take k).any lfB = false)) (fun v _ => n - (intOf v).toNat)
  case atStart => exact ⟨0, Nat.zero_le _, rfl, New.refl _, Lib.hid (by simp)⟩
  case round =>
    obtain ⟨k, hk, rfl, hn, H⟩ := hrel
    by_cases hlt : k < n
    · obtain ⟨bk, o, rfl, _, hc⟩ := (HR.out.below hn).2 (by omega)
      have hkl : k < ws.length := by rw [HL.out]; exact hlt
      have hck : wr.cell? ⟨bk, o + k, none⟩ = some (.string ws[k]) := hc k _ (by simp [sCells, hkl])
      have ht : (ws.take (k + 1)).any lfB = (lfB ws[k]) := by
        rw [List.take_succ_eq_append_getElem hkl, List.any_append, H.out]; simp
      have hsz := HZ.out ws[k] (List.getElem_mem hkl)
      have HA := Lib.hid (fun h : (ws.take (k + 1)).any lfB = true => (show ws.any lfB = true from by
        rw [← List.take_append_drop (k + 1) ws, List.any_append, h]; rfl))
      generalize hs : ws[k] = s at *
      have HT := Lib.hid ht
      clear hc hs ht
      have i0 : (0 : Int) ≤ (k : Int) := by omega
      have i1 : (k : Int) < (n : Int) := by omega
      cases hb : lfB s
      · have HB := Lib.hid hb; clear hb
        go_wp2_with (go_at_call 82; (with_reducible refine (clos82 _ _ (hE.new hn) (by omega)).mono ?_); rw [HB.out]; rintro e w' ⟨rfl, hn2⟩)
        go_roundw
        case rel => exact ⟨k + 1, by omega, by go_num, hn.trans hn2, Lib.hid (by rw [HT.out, HB.out])⟩
        case measure => simp [intOf]; omega
      · have HB := Lib.hid hb; clear hb
        go_wp2_with (go_at_call 82; (with_reducible refine (clos82 _ _ (hE.new hn) (by omega)).mono ?_); rw [HB.out]; rintro e w' ⟨rfl, hn2⟩)
        go_ret
        refine ⟨⟨k, rfl, ?_⟩, hn.trans hn2⟩
        rw [HA.out (by rw [HT.out, HB.out])]; simp
    · obtain rfl : k = n := by omega
      go_wp2
      go_ret
      exact ⟨⟨-1, rfl, by have := H.out; rw [List.take_of_length_le (by rw [HL.out]; exact Nat.le_refl _)] at this; rw [this]; rfl⟩, hn⟩
theorem containsF82 (A : Option Addr) (n c : Nat) (ws : List ByteArray) (bb : Bool) (w : World) (hbb : Hid (ws.any lfB = bb)) (hE : Env w) (hl : ws.length = n) (hn : n ≤ 4294967295) (hr : Rd w 1 A n (sCells ws)) (hz : ∀ s ∈ ws, s.size ≤ 1000000) :
    Calls Tryz.prog 81 #[.slice A n c, .func (.func 82) #[] #[]] w fun e w' => e = .returned (.bool bb) ∧ New w w' := by
  have H := Lib.hid (index82 A n c ws w hE hl hn hr hz)
  clear hl hr hz
  go_enter Tryz.func81, Tryz.ntmps81
  go_wp2_with (go_at_call 106; (with_reducible refine H.out.mono ?_); rintro e w' ⟨⟨i, rfl, hi⟩, hn⟩; have HI := Lib.hid hi; clear hi)
  go_ret
  exact ⟨ret_b (HI.out.trans hbb.out), hn⟩

theorem clos84 (s : ByteArray) (w : World) (hE : Env w) (hs : s.size < 4294967281) : Calls Tryz.prog 84 #[.string s] w fun e w' => e = .returned (.bool (lfB s)) ∧ New w w' := by
  go_enter Tryz.func84, Tryz.ntmps84
  go_wp2_with (go_at_call 83; (with_reducible refine (contains_lfB _ _ hE hs).mono ?_); rintro e w' ⟨rfl, rfl⟩)
  go_ret
  exact ⟨rfl, New.refl _⟩
set_option maxRecDepth 100000 in
set_option maxHeartbeats 1000000 in
theorem index84 (A : Option Addr) (n c : Nat) (ws : List ByteArray) (w : World) (hE : Env w) (hl : ws.length = n) (hnn : n ≤ 4294967295) (hr : Rd w 1 A n (sCells ws)) (hz : ∀ s ∈ ws, s.size ≤ 1000000) :
    Calls Tryz.prog 106 #[.slice A n c, .func (.func 84) #[] #[]] w fun e w' => (∃ i : Int, e = .returned (.int .i64 i) ∧ decide (0 ≤ i) = ws.any lfB) ∧ New w w' := by
  have HL := Lib.hid hl
  have HZ := Lib.hid hz
  have HR := Lib.hid hr
  clear hl hz hr
  go_enter Tryz.func106, Tryz.ntmps106
  go_wp2
  go_loopw [8] (fun v wr => ∃ k : Nat, k ≤ n ∧ v = .int .i64 k ∧ New w wr ∧ Hid ((ws.take k).any lfB = false)) (fun v _ => n - (intOf v).toNat)
  case atStart => exact ⟨0, Nat.zero_le _, rfl, New.refl _, Lib.hid (by simp)⟩
  case round =>
    obtain ⟨k, hk, rfl, hn, H⟩ := hrel
    by_cases hlt : k < n
    · obtain ⟨bk, o, rfl, _, hc⟩ := (HR.out.below hn).2 (by omega)
      have hkl : k < ws.length := by rw [HL.out]; exact hlt
      have hck : wr.cell? ⟨bk, o + k, none⟩ = some (.string ws[k]) := hc k _ (by simp [sCells, hkl])
      have ht : (ws.take (k + 1)).any lfB = (lfB ws[k]) := by
        rw [List.take_succ_eq_append_getElem hkl, List.any_append, H.out]; simp
      have hsz := HZ.out ws[k] (List.getElem_mem hkl)
      have HA := Lib.hid (fun h : (ws.take (k + 1)).any lfB = true => (show ws.any lfB = true from by
        rw [← List.take_append_drop (k + 1) ws, List.any_append, h]; rfl))
      generalize hs : ws[k] = s at *
      have HT := Lib.hid ht
      clear hc hs ht
      have i0 : (0 : Int) ≤ (k : Int) := by omega
      have i1 : (k : Int) < (n : Int) := by omega
      cases hb : lfB s
      · have HB := Lib.hid hb; clear hb
        go_wp2_with (go_at_call 84; (with_reducible refine (clos84 _ _ (hE.new hn) (by omega)).mono ?_); rw [HB.out]; rintro e w' ⟨rfl, hn2⟩)
        go_roundw
        case rel => exact ⟨k + 1, by omega, by go_num, hn.trans hn2, Lib.hid (by rw [HT.out, HB.out])⟩
        case measure => simp [intOf]; omega
      · have HB := Lib.hid hb; clear hb
        go_wp2_with (go_at_call 84; (with_reducible refine (clos84 _ _ (hE.new hn) (by omega)).mono ?_); rw [HB.out]; rintro e w' ⟨rfl, hn2⟩)
        go_ret
        refine ⟨⟨k, rfl, ?_⟩, hn.trans hn2⟩
        rw [HA.out (by rw [HT.out, HB.out])]; simp
    · obtain rfl : k = n := by omega
      go_wp2
      go_ret
      exact ⟨⟨-1, rfl, by have := H.out; rw [List.take_of_length_le (by rw [HL.out]; exact Nat.le_refl _)] at this; rw [this]; rfl⟩, hn⟩
theorem containsF84 (A : Option Addr) (n c : Nat) (ws : List ByteArray) (bb : Bool) (w : World) (hbb : Hid (ws.any lfB = bb)) (hE : Env w) (hl : ws.length = n) (hn : n ≤ 4294967295) (hr : Rd w 1 A n (sCells ws)) (hz : ∀ s ∈ ws, s.size ≤ 1000000) :
    Calls Tryz.prog 81 #[.slice A n c, .func (.func 84) #[] #[]] w fun e w' => e = .returned (.bool bb) ∧ New w w' := by
  have H := Lib.hid (index84 A n c ws w hE hl hn hr hz)
  clear hl hr hz
  go_enter Tryz.func81, Tryz.ntmps81
  go_wp2_with (go_at_call 106; (with_reducible refine H.out.mono ?_); rintro e w' ⟨⟨i, rfl, hi⟩, hn⟩; have HI := Lib.hid hi; clear hi)
  go_ret
  exact ⟨ret_b (HI.out.trans hbb.out), hn⟩

set_option maxRecDepth 100000 in
set_option maxHeartbeats 2000000 in
theorem hunk_any (h : Hm) (w : World) (hE : Env w) (hl : h.lines.length ≤ 9223372036854775807) (hr : Rd w 1 h.adr h.lines.length (sCells h.lines)) (hz : ∀ s ∈ h.lines, s.size ≤ 1000000) :
    Calls Tryz.prog 59 #[.agg #[.int .i64 h.kind, .int .i64 h.n, .slice h.adr h.lines.length h.cap]] w fun e w' => e = .returned (.bool (formH h.d)) ∧ New w w' := by
  obtain ⟨pk, pn, pl, pa, pc⟩ := h
  simp only at hl hr hz ⊢
  have hnX := (New.refl w).alloc (.cells #[.int .i64 pk, .int .i64 pn, .slice pa pl.length pc] 55)
  obtain ⟨bb, hbb⟩ : ∃ bb, pl.any lfB = bb := ⟨_, rfl⟩
  have hv : formH (Hm.d ⟨pk, pn, pl, pa, pc⟩) = (decide (1 ≤ pk) && decide (pk ≤ 3) && decide (1 ≤ pn) && decide (pn ≤ 1024) && (if pk = 3 then decide ((pl.length : Int) = pn) else decide (pl.length = 0)) && !bb) := by rw [← hbb]; rfl
  have hb0 : pl.length = 0 → bb = false := fun h => by rw [List.eq_nil_of_length_eq_zero h] at hbb; rw [← hbb]; rfl
  have HB0 := Lib.hid hb0
  obtain ⟨n, hn⟩ : ∃ n, pl.length = n := ⟨_, rfl⟩
  have HC := Lib.hid (fun W (hN : New w W) (hq : n ≤ 100000) => containsF82 pa n pc pl bb W (Lib.hid hbb) (hE.new hN) hn (by omega) (hn ▸ hr.below hN) hz)
  rw [hn] at hv hnX HB0 hl ⊢
  obtain ⟨X, hX⟩ : ∃ X, formH (Hm.d ⟨pk, pn, pl, pa, pc⟩) = X := ⟨_, rfl⟩
  rw [hX] at hv ⊢
  have HV := Lib.hid hv
  clear hv hbb hb0 hr hz hn hX
  by_cases a1 : pk < 1
  · have hx : X = false := by rw [HV.out]; simp; omega
    subst hx
    go_enter Tryz.func59, Tryz.ntmps59
    go_wp2
    go_ret
    exact ⟨rfl, hnX⟩
  by_cases a2 : 3 < pk
  · have hx : X = false := by rw [HV.out]; simp; omega
    subst hx
    go_enter Tryz.func59, Tryz.ntmps59
    go_wp2
    go_ret
    exact ⟨rfl, hnX⟩
  by_cases a3 : pn < 1
  · have hx : X = false := by rw [HV.out]; simp; omega
    subst hx
    go_enter Tryz.func59, Tryz.ntmps59
    go_wp2
    go_ret
    exact ⟨rfl, hnX⟩
  by_cases a4 : 1024 < pn
  · have hx : X = false := by rw [HV.out]; simp; omega
    subst hx
    go_enter Tryz.func59, Tryz.ntmps59
    go_wp2
    go_ret
    exact ⟨rfl, hnX⟩
  have b1 : 1 ≤ pk := by omega
  have b2 : pk ≤ 3 := by omega
  have b3 : 1 ≤ pn := by omega
  have b4 : pn ≤ 1024 := by omega
  by_cases a5 : pk = 3
  · subst a5
    by_cases a6 : (n : Int) = pn
    · subst a6
      have hx : X = !bb := by rw [HV.out]; simp; omega
      subst hx
      go_enter Tryz.func59, Tryz.ntmps59
      go_wp2_with (go_at_call 81; (with_reducible refine (HC.out _ hnX (by omega)).mono ?_); rintro e w' ⟨rfl, hn2⟩)
      go_ret
      exact ⟨rfl, hnX.trans hn2⟩
    · have hx : X = false := by rw [HV.out]; simp [a6]
      subst hx
      have a7 : ((n : Int) == pn) = false := by simpa using a6
      go_enter Tryz.func59, Tryz.ntmps59
      go_wp2
      go_ret
      exact ⟨rfl, hnX⟩
  · have a7 : (pk == 3) = false := by simpa using a5
    by_cases a6 : n = 0
    · subst a6
      have hx : X = true := by rw [HV.out, HB0.out rfl, if_neg a5]; simp; omega
      subst hx
      go_enter Tryz.func59, Tryz.ntmps59
      go_wp2
      go_ret
      exact ⟨rfl, hnX⟩
    · have hx : X = false := by rw [HV.out, if_neg a5]; simp [a6]
      subst hx
      have a8 : ((n : Int) == 0) = false := by simp; omega
      go_enter Tryz.func59, Tryz.ntmps59
      go_wp2
      go_ret
      exact ⟨rfl, hnX⟩
theorem szL_take {ws : List ByteArray} {k : Nat} {s : ByteArray} (h : ws[k]? = some s) : szL (ws.take (k + 1)) = szL (ws.take k) + s.size := by
  obtain ⟨hk, rfl⟩ := List.getElem?_eq_some_iff.1 h
  rw [List.take_succ_eq_append_getElem hk, szL_snoc]
theorem szL_take_le (ws : List ByteArray) (k : Nat) (hz : ∀ s ∈ ws, s.size ≤ 1000000) (hk : k ≤ 100000) : szL (ws.take k) ≤ 100000000000 := by
  have h1 := szL_le 1000000 (ws.take k) (fun x hx => hz x (List.mem_of_mem_take hx))
  have h2 : (ws.take k).length * 1000000 ≤ 100000 * 1000000 := Nat.mul_le_mul_right _ (Nat.le_trans (List.length_take_le _ _) hk)
  omega
set_option maxRecDepth 100000 in
set_option maxHeartbeats 2000000 in
theorem join_any (A : Option Addr) (n c : Nat) (ws : List ByteArray) (w : World) (hE : Env w) (hl : ws.length = n) (hn : n ≤ 100000) (hc : n ≤ c) (hr : Rd w 1 A n (sCells ws)) (hz : ∀ s ∈ ws, s.size ≤ 1000000) :
    Calls Tryz.prog 60 #[.slice A n c] w fun e w' => e = .returned (.tuple #[.string (joinT ws), .int .i64 (joinE ws)]) ∧ New w w' := by
  have HJ := Lib.hid (fun W (hN : New w W) => join_strings A n c ws hl W (hr.below hN) hc hn hz)
  obtain ⟨bb, hbb⟩ : ∃ bb, ws.any lfB = bb := ⟨_, rfl⟩
  have HC := Lib.hid (fun W (hN : New w W) => containsF84 A n c ws bb W (Lib.hid hbb) (hE.new hN) hl (by omega) (hr.below hN) hz)
  have HV : Hid (joinE ws = if n = 0 ∨ bb = true then 1 else if 1024 < n ∨ 65536 < n - 1 + szL ws then 10 else 0) := Lib.hid (by
    unfold joinE
    rw [hbb, hl]
    have : ws = [] ↔ n = 0 := by rw [← hl]; exact List.length_eq_zero_iff.symm
    simp only [this])
  obtain ⟨X, hX⟩ : ∃ X, joinE ws = X := ⟨_, rfl⟩
  have HT : Hid (joinT ws = if X = 0 then joinV ws else ⟨#[]⟩) := Lib.hid (by rw [← hX]; rfl)
  rw [hX] at HV ⊢
  obtain ⟨T, hT⟩ : ∃ T, joinT ws = T := ⟨_, rfl⟩
  rw [hT] at HT ⊢
  have HR := Lib.hid hr
  have HL := Lib.hid hl
  have HZ := Lib.hid hz
  have HSZ := Lib.hid (fun k hk => szL_take_le ws k hz hk)
  clear hbb hX hT hr hl hz
  by_cases h0 : n = 0
  · subst h0
    have hx : X = 1 := by rw [HV.out]; simp
    subst hx
    have ht : T = ⟨#[]⟩ := by rw [HT.out]; simp
    subst ht
    go_enter Tryz.func60, Tryz.ntmps60
    go_wp2
    go_ret2
    exact ⟨rfl, New.refl _⟩
  have h0' : ((n : Int) == 0) = false := by simp; omega
  cases bb
  · have HX : Hid (X = if 1024 < n ∨ 65536 < n - 1 + szL ws then 10 else 0) := Lib.hid (by rw [HV.out, if_neg (by simp; exact h0)])
    clear HV
    go_enter Tryz.func60, Tryz.ntmps60
    go_wp2_with (go_at_call 81; (with_reducible refine (HC.out _ (New.refl w)).mono ?_); rintro e w1 ⟨rfl, hn1⟩)
    go_loopw [4, 19] (fun v4 v19 wr => ∃ k : Nat, k ≤ n ∧ v19 = .int .i64 k ∧ New w wr ∧ v4 = .int .i64 (((n - 1 + szL (ws.take k) : Nat)) : Int)) (fun _ v _ => n - (intOf v).toNat)
    case atStart => exact ⟨0, Nat.zero_le _, rfl, hn1, by simp [szL]; omega⟩
    case round =>
      obtain ⟨k, hk, rfl, hnr, rfl⟩ := hrel
      have hsz1 := HSZ.out k (by omega)
      by_cases hlt : k < n
      · obtain ⟨bk, o, rfl, _, hcl⟩ := (HR.out.below hnr).2 (by omega)
        have hkl : k < ws.length := by rw [HL.out]; exact hlt
        have hck : wr.cell? ⟨bk, o + k, none⟩ = some (.string ws[k]) := hcl k _ (by simp [sCells, hkl])
        have hsk := HZ.out ws[k] (List.getElem_mem hkl)
        have HTK := Lib.hid (szL_take (List.getElem?_eq_getElem hkl))
        generalize ws[k] = s at *
        generalize szL (ws.take k) = q at *
        have i0 : (0 : Int) ≤ (k : Int) := by omega
        have i1 : (k : Int) < (n : Int) := by omega
        clear hcl
        go_wp2
        go_roundw
        case rel => exact ⟨k + 1, by omega, by go_num, hnr, by rw [HTK.out]; go_num⟩
        case measure => simp [intOf]; omega
      · obtain rfl : k = n := by omega
        have e : ws.take k = ws := List.take_of_length_le (by rw [HL.out]; exact Nat.le_refl _)
        rw [e] at hsz1 ⊢
        by_cases g1 : 1024 < k
        · have hx : X = 10 := by rw [HX.out, if_pos (Or.inl g1)]
          subst hx
          have ht : T = ⟨#[]⟩ := by rw [HT.out]; simp
          subst ht
          have g1' : (1024 : Int) < (k : Int) := by omega
          clear HX HT
          go_wp2
          go_ret2
          exact ⟨rfl, hnr⟩
        · have g1' : ¬ (1024 : Int) < (k : Int) := by omega
          by_cases g2 : 65536 < k - 1 + szL ws
          · have hx : X = 10 := by rw [HX.out, if_pos (Or.inr g2)]
            subst hx
            have ht : T = ⟨#[]⟩ := by rw [HT.out]; simp
            subst ht
            have g2' : (65536 : Int) < ((k - 1 + szL ws : Nat) : Int) := by omega
            clear HX HT
            generalize k - 1 + szL ws = q at *
            go_wp2
            go_ret2
            exact ⟨rfl, hnr⟩
          · have hx : X = 0 := by rw [HX.out, if_neg (by omega)]
            subst hx
            have ht : T = joinV ws := by rw [HT.out]; simp
            subst ht
            have g2' : ¬ (65536 : Int) < ((k - 1 + szL ws : Nat) : Int) := by omega
            clear HX HT
            generalize k - 1 + szL ws = q at *
            go_wp2_with (go_at_call 50; (with_reducible refine (HJ.out _ hnr).mono ?_); rintro e w2 ⟨rfl, hn2⟩)
            go_ret2
            exact ⟨rfl, hnr.trans hn2⟩
  · have hx : X = 1 := by rw [HV.out]; simp
    subst hx
    have ht : T = ⟨#[]⟩ := by rw [HT.out]; simp
    subst ht
    go_enter Tryz.func60, Tryz.ntmps60
    go_wp2_with (go_at_call 81; (with_reducible refine (HC.out _ (New.refl w)).mono ?_); rintro e w1 ⟨rfl, hn1⟩)
    go_ret2
    exact ⟨rfl, hn1⟩
end Go.Proofs.YtfeknjpinboknaaGreatDoor

namespace Go.Proofs.YtfeknjpinboknaaGreatDoor
open Go Go.RowKit Go.Shelf
set_option linter.unusedSimpArgs false
set_option linter.unusedVariables false

theorem Tryz.bldInfo : (Tryz.prog.info? 101).map (·.size) = some 2 := by kernel_rfl
theorem Tryz.bldLies : liesAt Tryz.prog Tryz.prog.depth 101 (2 / Tryz.prog.cellsOf 101) 0 101 1 = true := by kernel_rfl
theorem Tryz.byteInfo : (Tryz.prog.info? 5).map (fun i => (i.zero, i.size, i.bytes)) = some (some (.int .u8 0), 1, 1) := by kernel_rfl

def IsB (B b : Nat) (l : List UInt8) (w : World) : Prop := Lib.IsBuilder 101 5 B b (Lib.byteCells l) w
def AtB (B b : Nat) (l : List UInt8) (w : World) : Prop := Lib.BuilderAt 101 5 B b (.pointer (some ⟨b, 0, none⟩)) (Lib.byteCells l) w
theorem AtB.is {B b : Nat} {l : List UInt8} {w : World} (h : AtB B b l w) : IsB B b l w := Or.inr h
theorem IsB.fresh {B : Nat} (w : World) (hB : B ≤ w.heap.size) : IsB B w.heap.size [] (w.alloc (.cells #[.pointer none, .slice none 0 0] 101)) :=
  Or.inl ⟨hB, .slice none 0 0, heap_alloc_new w _, World.ownsRow_nil _ _ _ _, by simp [Value.ownBlock]⟩
theorem bldAt_alloc {T e : TypeId} {B b : Nat} {p : Value} {bs : List Value} {w : World} (h : Lib.BuilderAt T e B b p bs w) (o : Obj) : Lib.BuilderAt T e B b p bs (w.alloc o) := by
  have hlt := h.lt
  obtain ⟨h1, v, h2, h3, h4⟩ := h
  exact ⟨h1, v, (Lib.alloc_old w o b hlt).trans h2, h3.alloc o, h4⟩
theorem IsB.alloc {B b : Nat} {l : List UInt8} {w : World} (h : IsB B b l w) (o : Obj) : IsB B b l (w.alloc o) := h.imp (fun h => bldAt_alloc h o) (fun h => bldAt_alloc h o)
theorem IsB.drewN {B b : Nat} {l : List UInt8} {w : World} (h : IsB B b l w) (n : Nat) : IsB B b l (w.drewN n) := h
theorem IsB.lt {B b : Nat} {l : List UInt8} {w : World} (h : IsB B b l w) : b < w.heap.size := h.elim (·.lt) (·.lt)
theorem own_kind {w : World} {B : Nat} {e : TypeId} {v : Value} {n : Nat} {xs : List Value} (h : w.ownsRow B e 1 v n xs) : ∀ g, v.ownBlock = some g → ∃ c fz, w.heap[g]? = some (.cells c e fz) := by
  intro g hg
  rcases h.2 with ⟨rfl, _⟩ | ⟨g', cap, cur, rfl, _, hgg, _⟩
  · simp [Value.ownBlock] at hg
  · simp [Value.ownBlock] at hg
    subst hg
    exact ⟨cur, _, hgg⟩
theorem IsB.new {B b : Nat} {l : List UInt8} {w w' : World} (h : IsB B b l w) (hn : New w w') : IsB B b l w' := by
  have hlt := h.lt
  have key : ∀ p, Lib.BuilderAt 101 5 B b p (Lib.byteCells l) w → Lib.BuilderAt 101 5 B b p (Lib.byteCells l) w' := by
    rintro p ⟨h1, v, h2, h3, h4⟩
    refine ⟨h1, v, (hn.block b hlt).trans h2, h3.kept (hn.grown_ none) ?_, h4⟩
    cases h5 : v.ownBlock
    · exact Or.inl rfl
    · exact Or.inr (by simp)
  exact h.imp (key _) (key _)
theorem Blk.keptB {w w' : World} {g b : Nat} {t e : TypeId} {cs : Array Value} (h : Blk w g t cs) (hk : Lib.OthersKept e (some b) w w') (hg : g ≠ b) (ht : t ≠ e) : Blk w' g t cs :=
  hk g _ h (by simpa using hg) (fun c fz e2 => ht (by simpa using congrArg (fun o => match o with | .cells _ t _ => t | _ => t) e2))

set_option maxHeartbeats 1000000 in
set_option maxRecDepth 100000 in
theorem copyCheck_any (B b : Nat) (l : List UInt8) (w : World) (h : IsB B b l w) :
    Calls Tryz.prog 100 #[.pointer (some ⟨b, 0, none⟩)] w fun e w' => e = .returned (.tuple #[]) ∧ AtB B b l w' ∧ Below B w w' ∧ Lib.OthersKept 5 (some b) w w' := by
  obtain ⟨j, hj, hjs⟩ := Option.map_eq_some_iff.1 Tryz.bldInfo
  rcases h with h | h
  · have h0 := h.cell0
    have hsh := h.shape
    have hfz := h.frozen0
    have hto := Lib.run_to_unsafe (P := Tryz.prog) (src := 99) (dst := 136) w ⟨b, 0, none⟩ Tryz.underlying99 Tryz.underlying136 hj (by rw [hjs]; decide) hsh (Nat.zero_lt_succ 1)
    have hfrom := Lib.run_from_unsafe (P := Tryz.prog) (src := 136) (dst := 99) w ⟨b, 0, none⟩ Tryz.underlying136 Tryz.underlying99 hj hsh Tryz.bldLies
    go_enter Tryz.func100, Tryz.ntmps100
    go_wp2
    rw [run_callFunc_extern Tryz.func118 (by kernel_rfl) (by kernel_rfl) (by kernel_rfl) (e := Extern.AbiNoEscape.same) (by kernel_rfl)]
    rw [Lib.run_noEscape]
    simp only [Result.andThen]
    rw [Oper.upon_value]
    go_wp2
    go_end0
    exact ⟨rfl, h.used _, (Below.refl B w).setCell (p := ⟨b, 0, none⟩) h.1 _, (Lib.OthersKept.refl _ _ w).setCell ⟨b, 0, none⟩ rfl _⟩
  · have h0 := h.cell0
    have hneq := Lib.run_neq_ptr_same (P := Tryz.prog) (tp := 99) w ⟨b, 0, none⟩ Tryz.underlying99 hj
    go_enter Tryz.func100, Tryz.ntmps100
    go_wp2
    go_end0
    exact ⟨rfl, h, Below.refl B _, Lib.OthersKept.refl _ _ w⟩

set_option maxHeartbeats 2000000 in
set_option maxRecDepth 100000 in
theorem writeByte_any (B b : Nat) (l : List UInt8) (c : UInt8) (w : World) (h : IsB B b l w) (hl : l.length + 1 ≤ 140737488355328) (hBw : B ≤ w.heap.size) :
    Calls Tryz.prog 108 #[.pointer (some ⟨b, 0, none⟩), .int .u8 c.toNat] w fun e w' => e = .returned .nilIface ∧ AtB B b (l ++ [c]) w' ∧ Below B w w' ∧ Lib.OthersKept 5 (some b) w w' := by
  obtain ⟨i0, hi, hz0, hz1, hz2⟩ := info_parts Tryz.byteInfo
  go_enter Tryz.func108, Tryz.ntmps108
  go_wp2_with (go_at_call 100; refine (copyCheck_any B b l _ h).mono ?_)
  rintro e w1 ⟨rfl, h1, hb1, hk1⟩
  obtain ⟨hB, v, hbk, hown, hne⟩ := h1
  have c0 : w1.cell? ⟨b, 0, none⟩ = some (.pointer (some ⟨b, 0, none⟩)) := by rw [Lib.cell_of_heap hbk]; rfl
  have c1 : w1.cell? ⟨b, 1, none⟩ = some v := by rw [Lib.cell_of_heap hbk]; rfl
  rw [Lib.byteCells_length] at hown
  obtain ⟨A, cp, rfl, _, _, _⟩ := own_form hown
  go_wp2_with (at_builtin; refine wpList_append_own _ rfl _ _ 92 rfl B 5 i0 (.int .u8 0) 1 1 Tryz.underlying92 hi hz0 hz1 hz2 rfl (by decide) _ _ _ rfl (hown.alloc _) ⟨w1.heap.size, 0, none⟩ 1 1 [.int .u8 c.toNat] rfl rfl ?c1 ?c2 ?c3 ?c4 ?c5 ?_)
  case c1 =>
    intro j u hj
    match j, hj with
    | 0, hj => simp at hj; subst hj; simp [Addr.add]
  case c2 => intro u hu; simp at hu; subst hu; rfl
  case c3 => unfold maxLen; omega
  case c4 => omega
  case c5 => have := hb1.size; simp; omega
  intro v' w2 hown' hgrow _
  have hlt : b < w1.heap.size := (show AtB B b l w1 from ⟨hB, .slice A l.length cp, hbk, by rw [Lib.byteCells_length]; exact hown, hne⟩).lt
  have hb2 : w2.heap[b]? = some (.cells #[.pointer (some ⟨b, 0, none⟩), .slice A l.length cp] 101 (0, 0)) := by
    rw [hgrow.block b (by simp; omega) (fun e => hne e.symm), Lib.alloc_old w1 _ b hlt]
    exact hbk
  have d0 : w2.cell? ⟨b, 0, none⟩ = some (.pointer (some ⟨b, 0, none⟩)) := by rw [Lib.cell_of_heap hb2]; rfl
  have d1 : w2.cell? ⟨b, 1, none⟩ = some (.slice A l.length cp) := by rw [Lib.cell_of_heap hb2]; rfl
  have f1 : w2.frozen? ⟨b, 1, none⟩ = false := Lib.frozen_of_heap hb2 1
  obtain ⟨g, cap, rfl⟩ : ∃ g cap, v' = .slice (some ⟨g, 0, none⟩) (l.length + 1) cap := by
    rcases hown'.2 with ⟨_, h0⟩ | ⟨g, cap, cur, hv, _⟩
    · omega
    · exact ⟨g, cap, hv⟩
  go_wp2
  go_ret
  refine ⟨rfl, ?_, ?_, ((hk1.alloc _).grown hgrow (own_kind (hown.alloc _))).setCell ⟨b, 1, none⟩ rfl _⟩
  · exact Lib.BuilderAt.put (T := 101) (e := 5) hB hb2 (bs' := Lib.byteCells (l ++ [c])) (by simpa [Lib.byteCells] using hown') (by decide)
  · exact ((hb1.alloc (by have := hb1.size; omega) _).grown hgrow (by have := hb1.size; simp; omega) (fun k hk => (hown.lt k hk).1)).setCell (p := ⟨b, 1, none⟩) hB _

set_option maxHeartbeats 2000000 in
set_option maxRecDepth 100000 in
theorem writeString_any (B b : Nat) (l : List UInt8) (s : ByteArray) (w : World) (h : IsB B b l w) (hl : l.length + s.size ≤ 140737488355328) (hBw : B ≤ w.heap.size) :
    Calls Tryz.prog 74 #[.pointer (some ⟨b, 0, none⟩), .string s] w fun e w' => e = .returned (.tuple #[.int .i64 s.size, .nilIface]) ∧ AtB B b (l ++ s.data.toList) w' ∧ Below B w w' ∧ Lib.OthersKept 5 (some b) w w' := by
  obtain ⟨i0, hi, hz0, hz1, hz2⟩ := info_parts Tryz.byteInfo
  go_enter Tryz.func74, Tryz.ntmps74
  go_wp2_with (go_at_call 100; refine (copyCheck_any B b l _ h).mono ?_)
  rintro e w1 ⟨rfl, h1, hb1, hk1⟩
  obtain ⟨hB, v, hbk, hown, hne⟩ := h1
  have c0 : w1.cell? ⟨b, 0, none⟩ = some (.pointer (some ⟨b, 0, none⟩)) := by rw [Lib.cell_of_heap hbk]; rfl
  have c1 : w1.cell? ⟨b, 1, none⟩ = some v := by rw [Lib.cell_of_heap hbk]; rfl
  rw [Lib.byteCells_length] at hown
  obtain ⟨A, cp, rfl, _, _, _⟩ := own_form hown
  go_wp2_with (at_builtin; refine Lib.wpList_append_own_string _ rfl _ _ 92 9 rfl B 5 i0 Tryz.underlying92 Tryz.underlying9 hi hz0 hz1 hz2 _ _ _ rfl hown s rfl ?c3 ?c4 ?c5 ?_)
  case c3 => unfold maxLen; omega
  case c4 => omega
  case c5 => have := hb1.size; omega
  intro v' w2 hown' hgrow _
  have hlt : b < w1.heap.size := (show AtB B b l w1 from ⟨hB, .slice A l.length cp, hbk, by rw [Lib.byteCells_length]; exact hown, hne⟩).lt
  have hb2 : w2.heap[b]? = some (.cells #[.pointer (some ⟨b, 0, none⟩), .slice A l.length cp] 101 (0, 0)) := by
    rw [hgrow.block b hlt (fun e => hne e.symm)]
    exact hbk
  have d0 : w2.cell? ⟨b, 0, none⟩ = some (.pointer (some ⟨b, 0, none⟩)) := by rw [Lib.cell_of_heap hb2]; rfl
  have d1 : w2.cell? ⟨b, 1, none⟩ = some (.slice A l.length cp) := by rw [Lib.cell_of_heap hb2]; rfl
  have f1 : w2.frozen? ⟨b, 1, none⟩ = false := Lib.frozen_of_heap hb2 1
  obtain ⟨ao, n', cap, rfl⟩ : ∃ ao n' cap, v' = .slice ao n' cap := by
    rcases hown'.2 with ⟨hv, _⟩ | ⟨g, cap, cur, hv, _⟩
    · exact ⟨_, _, _, hv⟩
    · exact ⟨_, _, _, hv⟩
  go_wp2
  go_ret2
  refine ⟨rfl, ?_, ?_, (hk1.grown hgrow (own_kind hown)).setCell ⟨b, 1, none⟩ rfl _⟩
  · exact Lib.BuilderAt.put (T := 101) (e := 5) hB hb2 (bs' := Lib.byteCells (l ++ s.data.toList)) (by rw [Lib.byteCells_append, ← Lib.strCells_eq]; simpa [Lib.strCells_length, Lib.byteCells_length] using hown') (by decide)
  · exact (hb1.grown hgrow (by have := hb1.size; omega) (fun k hk => (hown.lt k hk).1)).setCell (p := ⟨b, 1, none⟩) hB _
end Go.Proofs.YtfeknjpinboknaaGreatDoor

namespace Go.Proofs.YtfeknjpinboknaaGreatDoor
open Go Go.RowKit Go.Joins Go.Shelf
set_option linter.unusedSimpArgs false
set_option linter.unusedVariables false

theorem hexS_fin : ∀ k : Fin 16, (#[48, 49, 50, 51, 52, 53, 54, 55, 56, 57, 97, 98, 99, 100, 101, 102] : Array UInt8)[k.val]'(k.isLt) = hexd k.val := by decide
theorem hexS_at (k : Nat) (h : k < (⟨#[48, 49, 50, 51, 52, 53, 54, 55, 56, 57, 97, 98, 99, 100, 101, 102]⟩ : ByteArray).size) : (⟨#[48, 49, 50, 51, 52, 53, 54, 55, 56, 57, 97, 98, 99, 100, 101, 102]⟩ : ByteArray)[k]'h = hexd k := hexS_fin ⟨k, h⟩
theorem hexL_take (s : ByteArray) (i : Nat) (h : i < s.size) : hexL (s.data.toList.take (i + 1)) = hexL (s.data.toList.take i) ++ [hexd ((s[i]'h).toNat / 16), hexd ((s[i]'h).toNat % 16)] := by
  have hl : i < s.data.toList.length := by rw [← size_eq]; exact h
  rw [get_eq s i h, List.take_succ_eq_append_getElem hl]
  generalize s.data.toList[i] = c
  induction s.data.toList.take i with
  | nil => rfl
  | cons b r ih => simp only [List.cons_append, hexL, ih]
theorem hexL_take_len (s : ByteArray) (i : Nat) : (hexL (s.data.toList.take i)).length ≤ 2 * s.size := by
  rw [hexL_length, size_eq]; have := List.length_take_le' i s.data.toList; omega
set_option maxRecDepth 100000 in
set_option maxHeartbeats 2000000 in
theorem hexClos (B b k : Nat) (l : List UInt8) (w : World) (hk : k < 16) (h : IsB B b l w) (hl : l.length ≤ 100000) (hBw : B ≤ w.heap.size) :
    Calls Tryz.prog 107 #[.int .u8 k, .pointer (some ⟨b, 0, none⟩)] w fun e w' => e = .returned (.tuple #[]) ∧ AtB B b (l ++ [hexd k]) w' ∧ Below B w w' ∧ Lib.OthersKept 5 (some b) w w' := by
  have i0 : (0 : Int) ≤ (k : Int) := by omega
  have i1 : (k : Int) < 16 := by omega
  have HW := Lib.hid (writeByte_any B b l (hexd k) w h (by omega) hBw)
  go_enter Tryz.func107, Tryz.ntmps107
  go_wp2_with (fail)
  rw [hexS_at]
  with_reducible refine HW.out.mono ?_
  rintro e w1 ⟨rfl, h1, h2, h3⟩
  go_wp2
  go_end0
  exact ⟨rfl, h1, h2, h3⟩
theorem u8_mod (x : UInt8) : ((x.toNat : Int) % 16) = ((x.toNat % 16 : Nat) : Int) := by omega
theorem IsB.to {B b : Nat} {l l' : List UInt8} {w : World} (h : IsB B b l w) (e : l' = l) : IsB B b l' w := e ▸ h
theorem u8_shr (x : UInt8) : ((x.toNat : Int) / 16) = ((x.toNat / 16 : Nat) : Int) := by omega
set_option maxRecDepth 100000 in
set_option maxHeartbeats 2000000 in
theorem hex_any (s : ByteArray) (w : World) (hs : s.size = 32) :
    Calls Tryz.prog 86 #[.string s] w fun e w' => e = .returned (.tuple #[.string (S (hexL s.data.toList)), .int .i64 0]) ∧ New w w' := by
  have HS := Lib.hid hs
  have hs1 : s.size ≤ 32 := by omega
  have hs2 : ((s.size : Int) == 32) = true := by rw [hs]; rfl
  have hs3 : ((s.size : Int) != 32) = false := by rw [hs]; rfl
  have hs4 : (s.size : Int) = 32 := by omega
  clear hs
  go_enter Tryz.func86, Tryz.ntmps86
  go_wp2
  go_loopw [6] (fun v6 wr => ∃ i : Nat, v6 = .int .i64 i ∧ i ≤ s.size ∧ New w wr ∧ IsB w.heap.size w.heap.size (hexL (s.data.toList.take i)) wr) (fun v _ => s.size - (intOf v).toNat)
  case atStart => exact ⟨0, rfl, by omega, (New.refl w).alloc _, IsB.fresh w (Nat.le_refl _)⟩
  case round =>
    obtain ⟨i, rfl, hi, hn, hb⟩ := hrel
    have hln := hexL_take_len s i
    by_cases hlt : i < s.size
    · have HT := Lib.hid (hexL_take s i hlt)
      generalize hexL (s.data.toList.take i) = l at *
      have hb8 := UInt8.toNat_lt s[i]
      have i0 : (0 : Int) ≤ (i : Int) := by omega
      have hz := hn.size
      go_wp2_with (fail)
      rw [u8_shr]
      with_reducible refine (hexClos w.heap.size w.heap.size _ l wr (by omega) hb (by omega) hz).mono ?_
      rintro e w1 ⟨rfl, h1, h2, h3⟩
      have hz1 := h2.size
      go_wp2_with (fail)
      rw [u8_mod]
      with_reducible refine (hexClos w.heap.size w.heap.size _ _ w1 (by omega) h1.is (by simp; omega) (by omega)).mono ?_
      rintro e w2 ⟨rfl, k1, k2, k3⟩
      go_wp2
      go_roundw
      case rel => exact ⟨i + 1, by go_num, by omega, Below.trans (Below.trans hn h2) k2, k1.is.to (by rw [HT.out]; simp)⟩
      case measure => simp [intOf]; omega
    · obtain rfl : i = s.size := by omega
      have e : s.data.toList.take s.size = s.data.toList := List.take_of_length_le (by rw [size_eq]; exact Nat.le_refl _)
      rw [e] at hb
      have HB := Lib.hid (Tryz.Builder_String_any w.heap.size w.heap.size (hexL s.data.toList) wr hb hn.size)
      go_wp2_with (go_at_call 75; (with_reducible refine HB.out.mono ?_); rintro e w3 ⟨rfl, hn3⟩)
      go_ret2
      exact ⟨rfl, Below.trans hn hn3⟩

theorem Tryz.info5' : (Tryz.prog.info? 5).map (fun i => (i.zero, i.size, i.bytes)) = some (some (.int .u8 0), 1, 1) := by kernel_rfl
def bCells (l : List UInt8) : List Value := l.map fun b => Value.int .u8 (b.toNat : Nat)
theorem bCells_app (a b : List UInt8) : bCells (a ++ b) = bCells a ++ bCells b := List.map_append
theorem add_none {a : Addr} (h : a.spot = none) (i : Nat) : a.add i = ⟨a.block, a.off + i, none⟩ := by
  unfold Addr.add
  split
  · rename_i h0; subst h0; cases a; simp_all
  · rfl
theorem conv_bytes (W : World) (A : Option Addr) (n c : Nat) (l : List UInt8) (hl : l.length = n) (hr : Rd W 1 A n (bCells l)) (h0 : 0 < n) :
    (convert 92 9 (.slice A n c)).run Tryz.prog W = .ok (.string (S l)) W := by
  obtain ⟨b, o, rfl, _, hc⟩ := hr.2 h0
  subst hl
  refine run_convert_bytes_back (P := Tryz.prog) W 92 9 5 ⟨b, o, none⟩ c l Tryz.underlying92 Tryz.underlying5 Tryz.underlying9 (fun j hj => ?_)
  rw [add_none rfl]
  exact hc j _ (by simp [bCells, hj])
set_option maxRecDepth 100000 in
set_option maxHeartbeats 4000000 in
theorem rhex_any (s : ByteArray) (w : World) (hs : s.size = 32) :
    Calls Tryz.prog 62 #[.string s] w fun e w' => e = .returned (.tuple #[.string (S (hexL s.data.toList)), .int .i64 0]) ∧ New w w' := by
  obtain ⟨j0, hinf, hz0, hz1, hz2⟩ := info_parts Tryz.info5'
  have HS := Lib.hid hs
  have hs1 : s.size ≤ 32 := by omega
  have hs2 : ((s.size : Int) == 32) = true := by rw [hs]; rfl
  have hs3 : ((s.size : Int) != 32) = false := by rw [hs]; rfl
  have hs4 : (s.size : Int) = 32 := by omega
  have HL : Hid ((hexL s.data.toList).length = 64) := Lib.hid (by rw [hexL_length, ← size_eq, hs])
  clear hs
  go_enter Tryz.func62, Tryz.ntmps62
  go_wp2
  go_loopw [5, 6] (fun v5 v6 wr => ∃ (i n : Nat), v6 = .int .i64 i ∧ i ≤ s.size ∧ New w wr ∧ n = 2 * i ∧ wr.ownsRow w.heap.size 5 1 v5 n (bCells (hexL (s.data.toList.take i)))) (fun _ v _ => s.size - (intOf v).toNat)
  case atStart => exact ⟨0, 0, rfl, by omega, New.refl w, rfl, World.ownsRow_nil _ _ _ _⟩
  case round =>
    obtain ⟨i, n, rfl, hi, hn, hni, own⟩ := hrel
    have HNI := Lib.hid hni
    have hn64 : n ≤ 64 := by omega
    by_cases hlt : i < s.size
    · have HT := Lib.hid (hexL_take s i hlt)
      generalize hexL (s.data.toList.take i) = l at *
      have hb8 := UInt8.toNat_lt s[i]
      have i0 : (0 : Int) ≤ (i : Int) := by omega
      have i1 : (i : Int) < (s.size : Int) := by omega
      have i2 : (i : Int) < 32 := by omega
      obtain ⟨a, ha, haN⟩ : ∃ a : Nat, ((s[i].toNat : Int) / 16) = (a : Int) ∧ Hid (s[i].toNat / 16 = a) := ⟨_, u8_shr _, Lib.hid rfl⟩
      obtain ⟨b, hb, hbN⟩ : ∃ a : Nat, ((s[i].toNat : Int) % 16) = (a : Int) ∧ Hid (s[i].toNat % 16 = a) := ⟨_, u8_mod _, Lib.hid rfl⟩
      have j1 : (a : Int) < 16 := by omega
      have j2 : (0 : Int) ≤ (a : Int) := by omega
      have j3 : (b : Int) < 16 := by omega
      have j4 : (0 : Int) ≤ (b : Int) := by omega
      have j5 : a < 16 := by omega
      have j6 : b < 16 := by omega
      have j7 : (a : Int).toNat = a := by omega
      have j8 : (b : Int).toNat = b := by omega
      have j9 : (i : Int).toNat = i := by omega
      have j10 : bits .and .u8 (s[i].toNat : Int) 15 = (b : Int) := (u8_and15 (x := (s[i].toNat : Int)) (by omega) (by omega)).trans hb
      have hz := hn.size
      clear hni
      go_wp2_with (fail)
      go_region_held3 (fun _ => True) (trivial) ((refine step_append_lies _ (by rfl) _ _ _ (by rfl) w.heap.size 5 j0 (.int .u8 0) 1 1 Tryz.underlying92 hinf hz0 hz1 hz2 rfl (by omega) _ _ _ (by rfl) ((own.alloc _).drew) ⟨wr.heap.size, 0, none⟩ 2 2 [.int .u8 ((⟨#[48, 49, 50, 51, 52, 53, 54, 55, 56, 57, 97, 98, 99, 100, 101, 102]⟩ : ByteArray)[a].toNat : Nat), .int .u8 ((⟨#[48, 49, 50, 51, 52, 53, 54, 55, 56, 57, 97, 98, 99, 100, 101, 102]⟩ : ByteArray)[b].toNat : Nat)] (by rfl) (by rfl) (World.news_of_block (cs := #[.int .u8 ((⟨#[48, 49, 50, 51, 52, 53, 54, 55, 56, 57, 97, 98, 99, 100, 101, 102]⟩ : ByteArray)[a].toNat : Nat), .int .u8 ((⟨#[48, 49, 50, 51, 52, 53, 54, 55, 56, 57, 97, 98, 99, 100, 101, 102]⟩ : ByteArray)[b].toNat : Nat)]) (t := 5) (fr := (0, 0)) (heap_alloc_new _ _)) (by simp [Value.oneCell']) (by omega) (by simp [maxLen]; try omega) (by omega) (by simp; omega) (wr.heap.size + 1) (by simp) ?_; intro gg cap2 w2 hown2 hgrow hat hlt2))
      all_goals
        go_wp2
        go_roundw
        case rel => exact ⟨i + 1, n + 2, by go_num, by omega, Below.grown (hn.alloc _).drew hgrow (by have := hn.size; simp; omega) (fun k hk => (own.lt k hk).1), by have := HNI.out; omega, by
          rw [HT.out, bCells_app]
          have e : bCells [hexd (s[i].toNat / 16), hexd (s[i].toNat % 16)] = [.int .u8 (hexd a).toNat, .int .u8 (hexd b).toNat] := by rw [haN.out, hbN.out]; rfl
          rw [e, ← hexS_at a j5, ← hexS_at b j6]
          exact hown2⟩
        case measure => simp [intOf]; omega
    · obtain rfl : i = s.size := by omega
      have e : s.data.toList.take s.size = s.data.toList := List.take_of_length_le (by rw [size_eq]; exact Nat.le_refl _)
      rw [e] at own
      have h64 : n = 64 := by rw [hni, HS.out]
      subst h64
      obtain ⟨A, c, rfl, _, _, hr⟩ := own_form own
      have hcv := Lib.hid (conv_bytes wr A 64 c (hexL s.data.toList) HL.out hr (by omega))
      have hcv2 := hcv.out
      clear HNI hni
      go_wp2
      go_ret2
      exact ⟨rfl, hn⟩
end Go.Proofs.YtfeknjpinboknaaGreatDoor

namespace Go.Proofs.YtfeknjpinboknaaGreatDoor
open Go Go.RowKit Go.Joins Go.Shelf
set_option linter.unusedSimpArgs false
set_option linter.unusedVariables false

theorem Tryz.info9' : (Tryz.prog.info? 9).map (fun i => (i.zero, i.size, i.bytes)) = some (some (.string ⟨#[]⟩), 1, 16) := by kernel_rfl
theorem app_nothing {w : World} {base n : Nat} {v : Value} {xs : List Value} (h : w.ownsRow base 9 1 v n xs) (A : Option Addr) (c : Nat) (ty : TypeId) : (Builtin.append_ #[49, 49] ty #[v, .slice A 0 c]).run Tryz.prog w = .ok v w := by
  have hi : ∃ i0, Tryz.prog.info? 9 = some i0 := by
    obtain ⟨i0, hi, _⟩ := info_parts Tryz.info9'
    exact ⟨i0, hi⟩
  obtain ⟨i0, hi⟩ := hi
  have hlc : ∀ ad : Addr, (loadCells ad 0).run Tryz.prog w = .ok #[] w := fun ad => rfl
  rcases h.2 with ⟨rfl, rfl⟩ | ⟨g, cap, cur, rfl, _, _, hnc, _⟩
  · cases A <;> simp [Builtin.append_, run_underlying Tryz.underlying49, sizeOf, typeInfo, hi, Builtin.lenOf, Builtin.firstCells, hlc, Result.andThen]
  · cases A <;> simp [Builtin.append_, run_underlying Tryz.underlying49, sizeOf, typeInfo, hi, Builtin.lenOf, Builtin.firstCells, hlc, Result.andThen, hnc, storeCells]

theorem step_app_nothing {w : World} {base n : Nat} {v : Value} {xs : List Value} {ops : Array Oper} {o : Oper} {a : Act} {K : Act → World → Prop} {Q : Exit → Act → World → Prop} {E : Prop} (hgd : o.guard = none) (s x : Operand)
    (ho : o.op = .call { callee := .builtin .append, args := #[s, x], argTypes := #[49, 49] }) (h : w.ownsRow base 9 1 v n xs) (A : Option Addr) (c : Nat) (hs : a.eval s = v) (hx : a.eval x = .slice A 0 c) (hK : K (a.put o.dst v) w) :
    if Region.wanted o (yielded ops a.tmps) = true then Oper.wp Tryz.prog o a w K Q else E := by
  have hw : Region.wanted o (yielded ops a.tmps) = true := by simp [Region.wanted, hgd]
  rw [if_pos hw]
  have hrun := app_nothing h A c o.type
  unfold Oper.wp
  simp [execOp, ho, resolve, invoke, builtin, hs, hx, hrun, Result.andThen]
  exact hK

theorem wpList_append_rd {w : World} {ops : Array Oper} {rest : List Oper} {o : Oper} {a : Act} {Q : Exit → Act → World → Prop} (hgd : o.guard = none) (s x : Operand)
    (ho : o.op = .call { callee := .builtin .append, args := #[s, x], argTypes := #[49, 49] })
    (base : Nat) (v : Value) (n : Nat) (xs : List Value) (hs : a.eval s = v) (hown : w.ownsRow base 9 1 v n xs)
    (A : Option Addr) (m c : Nat) (ws : List ByteArray) (hx : a.eval x = .slice A m c) (hr : Rd w 1 A m (sCells ws))
    (h63 : n + m ≤ 1000000000) (hbase : base ≤ w.heap.size)
    (h : ∀ v' w', w'.ownsRow base 9 1 v' (n + m) (xs ++ sCells ws) → w.grownBy w' v.ownBlock → wpList Tryz.prog ops Q rest (a.put o.dst v') w') : wpList Tryz.prog ops Q (o :: rest) a w := by
  obtain ⟨j0, hi0, hz0, hz1, hz2⟩ := info_parts Tryz.info9'
  by_cases hm : 0 < m
  · obtain ⟨b, q, rfl, hb, hc⟩ := hr.2 hm
    exact wpList_append_own _ hgd s x 49 ho base 9 j0 (.string ⟨#[]⟩) 1 16 Tryz.underlying49 hi0 hz0 hz1 hz2 rfl (by decide) v n xs hs hown ⟨b, q, none⟩ m c (sCells ws) hx hr.1 (fun j u hu => by rw [add_none rfl]; exact hc j u hu) (by simp [sCells, Value.oneCell'])
      (by simp only [maxLen]; omega) (by omega) hbase (fun v' w' h1 h2 _ => h v' w' h1 h2)
  · obtain rfl : m = 0 := by omega
    have hw : ws = [] := by have := hr.1; rw [sCells, List.length_map] at this; exact List.eq_nil_of_length_eq_zero (by omega)
    subst hw
    have hrun := app_nothing hown A c o.type
    refine wpList_plain hgd fun K hK => ?_
    unfold Oper.wp
    simp [execOp, ho, resolve, invoke, builtin, hs, hx, hrun, Result.andThen]
    exact hK _ _ (h v w (by simpa [sCells] using hown) ⟨rfl, rfl, rfl, Nat.le_refl _, fun _ _ _ => rfl⟩)


theorem wpList_append_rd_at {w : World} {ops : Array Oper} {rest : List Oper} {o : Oper} {a : Act} {Q : Exit → Act → World → Prop} (hgd : o.guard = none) (s x : Operand)
    (ho : o.op = .call { callee := .builtin .append, args := #[s, x], argTypes := #[49, 49] })
    (base : Nat) (v : Value) (n : Nat) (xs : List Value) (hs : a.eval s = v) (hown : w.ownsRow base 9 1 v n xs)
    (A : Option Addr) (m c : Nat) (ws : List ByteArray) (hx : a.eval x = .slice A m c) (hr : Rd w 1 A m (sCells ws))
    (h63 : n + m ≤ 1000000000) (hbase : base ≤ w.heap.size)
    (h : ∀ v' w', w'.ownsRow base 9 1 v' (n + m) (xs ++ sCells ws) → w.grownBy w' v.ownBlock → (v'.ownBlock = v.ownBlock ∨ v'.ownBlock = some w.heap.size) → wpList Tryz.prog ops Q rest (a.put o.dst v') w') : wpList Tryz.prog ops Q (o :: rest) a w := by
  obtain ⟨j0, hi0, hz0, hz1, hz2⟩ := info_parts Tryz.info9'
  by_cases hm : 0 < m
  · obtain ⟨b, q, rfl, hb, hc⟩ := hr.2 hm
    exact wpList_append_own_at _ hgd s x 49 ho base 9 j0 (.string ⟨#[]⟩) 1 16 Tryz.underlying49 hi0 hz0 hz1 hz2 rfl (by decide) v n xs hs hown ⟨b, q, none⟩ m c (sCells ws) hx hr.1 (fun j u hu => by rw [add_none rfl]; exact hc j u hu) (by simp [sCells, Value.oneCell'])
      (by simp only [maxLen]; omega) (by omega) hbase (fun v' w' h1 h2 _ h3 => h v' w' h1 h2 h3)
  · obtain rfl : m = 0 := by omega
    have hw : ws = [] := by have := hr.1; rw [sCells, List.length_map] at this; exact List.eq_nil_of_length_eq_zero (by omega)
    subst hw
    have hrun := app_nothing hown A c o.type
    refine wpList_plain hgd fun K hK => ?_
    unfold Oper.wp
    simp [execOp, ho, resolve, invoke, builtin, hs, hx, hrun, Result.andThen]
    exact hK _ _ (h v w (by simpa [sCells] using hown) ⟨rfl, rfl, rfl, Nat.le_refl _, fun _ _ _ => rfl⟩ (Or.inl rfl))


theorem grown_set (w : World) (g i : Nat) (v : Value) : w.grownBy (w.setCell ⟨g, i, none⟩ v) (some g) :=
  ⟨rfl, rfl, rfl, by simp [World.setCell], fun k hk hne => Below.heap_setCell w ⟨g, i, none⟩ v k (fun e => hne (by rw [e]))⟩
set_option maxHeartbeats 1000000 in
def LS (w : World) (base g : Nat) (ws : List ByteArray) : Prop := ∃ v, Blk w g 49 #[v] ∧ w.ownsRow base 9 1 v ws.length (sCells ws) ∧ base ≤ g
theorem LS.new {w w' : World} {base g : Nat} {ws : List ByteArray} (h : LS w base g ws) (hn : New w w') : LS w' base g ws := by
  obtain ⟨v, h1, h2, h3⟩ := h
  refine ⟨v, h1.new hn, h2.kept (hn.grown_ none) ?_, h3⟩
  cases v.ownBlock
  · exact Or.inl rfl
  · exact Or.inr (by simp)
theorem own_kind9 {w : World} {base g n : Nat} {v a : Value} {xs : List Value} (h : w.ownsRow base 9 1 v n xs) (hB : Blk w g 49 #[a]) : v.ownBlock ≠ some g := by
  intro e
  obtain ⟨c, fz, hc⟩ := own_kind h g e
  unfold Blk at hB
  rw [hc] at hB
  simp at hB
set_option maxRecDepth 100000 in
set_option maxHeartbeats 2000000 in
theorem putClos (base g : Nat) (xs ws : List ByteArray) (A : Option Addr) (m c : Nat) (w : World) (h : LS w base g xs) (hm : ws.length = m) (hr : Rd w 1 A m (sCells ws)) (h63 : xs.length + m ≤ 1000000000) (hbase : base ≤ w.heap.size) :
    Calls Tryz.prog 85 #[.slice A m c, .pointer (some ⟨g, 0, none⟩)] w fun e w' => e = .returned (.tuple #[]) ∧ LS w' base g (xs ++ ws) ∧ Below base w w' ∧ Lib.OthersKept 9 (some g) w w' := by
  obtain ⟨v, hB, hown, hbg⟩ := h
  have b0 := hB.cell' 0 _ rfl
  have hne := own_kind9 hown hB
  have hsl : (xs ++ ws).length = xs.length + m := by rw [List.length_append, hm]
  have HSL := Lib.hid hsl
  have hlt := hB.lt
  clear hm hsl
  obtain ⟨A0, c0, rfl, _, _, _⟩ := own_form hown
  generalize hxn : xs.length = xn at *
  have HXN := Lib.hid hxn
  clear hxn
  go_enter Tryz.func85, Tryz.ntmps85
  go_wp2_with (at_builtin; refine wpList_append_rd rfl _ _ rfl base _ xn (sCells xs) rfl hown A m c ws rfl hr h63 hbase ?_)
  intro v' w1 hown1 hg1
  have B1 := hB.grown hg1 (fun e => hne e.symm)
  have f1 := B1.free 0
  have b1 := B1.cell' 0 _ rfl
  obtain ⟨A1, c1, rfl, _, _, _⟩ := own_form hown1
  go_wp2
  go_end0
  refine ⟨rfl, ⟨_, (B1.put 0 _).same rfl, ?_, hbg⟩, (Below.grown (Below.refl _ _) hg1 hbase (fun k hk => (hown.lt k hk).1)).setCell (p := ⟨g, 0, none⟩) hbg _, ((Lib.OthersKept.refl 9 (some g) w).grown hg1 (own_kind hown)).setCell ⟨g, 0, none⟩ rfl _⟩
  rw [HSL.out, sCells_app]
  exact hown1.kept (grown_set _ _ _ _) (Or.inr (own_kind9 hown1 B1))
end Go.Proofs.YtfeknjpinboknaaGreatDoor

