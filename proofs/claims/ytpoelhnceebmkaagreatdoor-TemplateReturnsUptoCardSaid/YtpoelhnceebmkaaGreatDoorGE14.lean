/- licitref31.SameTexts and licitref35.Same at equal arguments. No conditions but the lists' lengths. licitref31.Number at one or two bytes. Condition: the string's size. licitref35.hole: the walk and its plain law. Conditions: the text's size. The reference's hole answers as the program's does. No conditions. -/
import Derived.Test.YtpoelhnceebmkaaGreatDoorGE4
import Derived.Test.YtpoelhnceebmkaaGreatDoorGE8

namespace Go.Proofs.YtpoelhnceebmkaaGreatDoor
open Go Go.RowKit Go.Shelf
set_option linter.unusedSimpArgs false
set_option linter.unusedVariables false

theorem new_drewN (w : World) (k : Nat) : New w (w.drewN k) := (New.refl w).drewN k
set_option maxRecDepth 100000 in
set_option maxHeartbeats 2000000 in
theorem sameTexts_self (v v' : Value) (ws : List ByteArray) (w : World) (h : WRd w v ws) (h' : WRd w v' ws) (hz : ws.length ≤ 4294967295) :
    Calls Tryz.prog 33 #[v, v'] w fun e w' => e = .returned (.bool true) ∧ ∃ q, w' = w.drewN q := by
  obtain ⟨A, c, rfl, hc1, hc2, hr⟩ := h
  obtain ⟨A', c', rfl, hc1', hc2', hr'⟩ := h'
  obtain ⟨n, hn⟩ : ∃ n, ws.length = n := ⟨_, rfl⟩
  rw [hn] at hr hr' hc1 hc1' hz ⊢
  have HN := Lib.hid hn
  clear hn
  go_enter Tryz.func33, Tryz.ntmps33
  go_wp2
  go_loopw [5] (fun v5 wr => ∃ (i q : Nat), v5 = .int .i64 i ∧ i ≤ n ∧ Hid (wr = w.drewN q)) (fun v5 _ => n - (intOf v5).toNat)
  case atStart => exact ⟨0, 0, rfl, by omega, Lib.hid rfl⟩
  case round =>
    obtain ⟨i, q, rfl, hi, HQ⟩ := hrel
    have hra : Rd wr 1 A n (ws.map Value.string) := by rw [HQ.out]; exact hr.drewN q
    have hrb : Rd wr 1 A' n (ws.map Value.string) := by rw [HQ.out]; exact hr'.drewN q
    by_cases hlt : i < n
    · obtain ⟨b, o, rfl, _, hc⟩ := hra.2 (by omega)
      obtain ⟨b', o', rfl, _, hc'⟩ := hrb.2 (by omega)
      have l1 : i < ws.length := by rw [HN.out]; exact hlt
      have d1 : wr.cell? ⟨b, o + i, none⟩ = some (.string ws[i]) := hc i _ (by simp [l1])
      have d2 : wr.cell? ⟨b', o' + i, none⟩ = some (.string ws[i]) := hc' i _ (by simp [l1])
      clear hc hc'
      generalize ws[i] = x at *
      have i0 : (0 : Int) ≤ (i : Int) := by omega
      have i1 : (i : Int) < (n : Int) := by omega
      have c1 : (x.toList == x.toList) = true := beq_self_eq_true _
      go_wp2
      go_quiet (fail)
      go_wp2
      go_roundw
      case rel => exact ⟨i + 1, q + nq, by go_num, by omega, Lib.hid (by rw [HQ.out, World.drewN_drewN])⟩
      case measure => simp [intOf]; omega
    · obtain rfl : i = n := by omega
      go_wp2
      go_ret
      exact ⟨rfl, q, HQ.out⟩

set_option maxRecDepth 100000 in
set_option maxHeartbeats 4000000 in
theorem same_self (v v' : Value) (nm : ByteArray) (ps : List Pt) (w : World) (h : TRd w v nm ps) (h' : TRd w v' nm ps) (hz : ps.length ≤ 4294967295) (hzp : ∀ p ∈ ps, p.2.length ≤ 4294967295) :
    Calls Tryz.prog 12 #[v, v'] w fun e w' => e = .returned (.bool true) ∧ New w w' := by
  obtain ⟨A, c, rfl, hc1, hc2, hr⟩ := h
  obtain ⟨A', c', rfl, hc1', hc2', hr'⟩ := h'
  obtain ⟨n, hn⟩ : ∃ n, ps.length = n := ⟨_, rfl⟩
  rw [hn] at hr hr' hc1 hc1' hz ⊢
  have HZ := Lib.hid hzp
  clear hn hzp
  have c0 : (nm.toList == nm.toList) = true := beq_self_eq_true _
  go_enter Tryz.func12, Tryz.ntmps12
  go_wp2
  obtain ⟨wS, hwS⟩ : ∃ x, x = (w.alloc (.cells #[.string nm, .slice A n c] 25)).alloc (.cells #[.string nm, .slice A' n c'] 25) := ⟨_, rfl⟩
  rw [← hwS]
  have hnS : New w wS := by rw [hwS]; exact ((New.refl w).alloc _).alloc _
  have B0 : Blk wS w.heap.size 25 #[.string nm, .slice A n c] := by rw [hwS]; exact (Blk.made w _ _).alloc _
  have B1 : Blk wS (w.heap.size + 1) 25 #[.string nm, .slice A' n c'] := by rw [hwS]; have := Blk.made (w.alloc (.cells #[.string nm, .slice A n c] 25)) 25 #[.string nm, .slice A' n c']; rw [World.size_alloc] at this; exact this
  have HR := Lib.hid (hr.new hnS)
  have HR' := Lib.hid (hr'.new hnS)
  clear hwS hr hr'
  go_loopw [5] (fun v5 wr => ∃ i : Nat, v5 = .int .i64 i ∧ i ≤ n ∧ New wS wr) (fun v5 _ => n - (intOf v5).toNat)
  case atStart => exact ⟨0, rfl, by omega, New.refl _⟩
  case round =>
    obtain ⟨i, rfl, hi, hn⟩ := hrel
    have k1 := (B0.new hn).cell' 1 _ rfl
    have k2 := (B1.new hn).cell' 1 _ rfl
    by_cases hlt : i < n
    · obtain ⟨b, o, vp, p, rfl, hp, d1, d2, hw⟩ := (HR.out.new hn).at hlt
      obtain ⟨b', o', vp', p', rfl, hp', d1', d2', hw'⟩ := (HR'.out.new hn).at hlt
      obtain rfl : p = p' := by rw [hp] at hp'; exact Option.some.inj hp'
      obtain ⟨Ap, cp, rfl, hq1, hq2, hq3⟩ := id hw
      obtain ⟨Ap', cp', rfl, hq1', hq2', hq3'⟩ := id hw'
      have hzz := HZ.out p (List.mem_of_getElem? hp)
      have HS : Hid (∀ k, Calls Tryz.prog 33 #[.slice Ap p.2.length cp, .slice Ap' p.2.length cp'] (wr.drewN k) fun e w' => e = .returned (.bool true) ∧ ∃ q, w' = (wr.drewN k).drewN q) := Lib.hid (fun k => sameTexts_self _ _ p.2 _ (hw.new (new_drewN wr k)) (hw'.new (new_drewN wr k)) hzz)
      obtain ⟨m, hm⟩ : ∃ m, p.2.length = m := ⟨_, rfl⟩
      rw [hm] at HS d2 d2'
      have i0 : (0 : Int) ≤ (i : Int) := by omega
      have i1 : (i : Int) < (n : Int) := by omega
      have c1 : (p.1 != p.1) = false := by simp
      clear hw hw' hq3 hq3' hp hp' hm
      go_wp2
      go_quiet ((go_at_call 33; exact Calls.quiet_of (HS.out _)))
      go_wp2
      go_roundw
      case rel => exact ⟨i + 1, by go_num, by omega, hn.drewN nq⟩
      case measure => simp [intOf]; omega
    · obtain rfl : i = n := by omega
      go_wp2
      go_ret
      exact ⟨rfl, hnS.trans hn⟩
end Go.Proofs.YtpoelhnceebmkaaGreatDoor

namespace Go.Proofs.YtpoelhnceebmkaaGreatDoor
open Go Go.RowKit Go.Shelf
set_option linter.unusedSimpArgs false
set_option linter.unusedVariables false

def foldD : Nat → List UInt8 → Option Nat
  | acc, [] => some acc
  | acc, c :: r => if 48 ≤ c.toNat ∧ c.toNat ≤ 57 then foldD (10 * acc + (c.toNat - 48)) r else none
def numR (l : List UInt8) : Int := if 1 < l.length ∧ l.head? = some 48 then -1 else optI (foldD 0 l)
theorem foldD_at {s : ByteArray} {acc i : Nat} (h : i < s.size) : foldD acc (s.data.toList.drop i) = if 48 ≤ s[i].toNat ∧ s[i].toNat ≤ 57 then foldD (10 * acc + (s[i].toNat - 48)) (s.data.toList.drop (i + 1)) else none := by
  have hl : i < s.data.toList.length := by rw [← size_eq]; exact h
  rw [List.drop_eq_getElem_cons hl, foldD, ← get_eq s i h]

set_option maxRecDepth 100000 in
set_option maxHeartbeats 2000000 in
theorem number_any (s : ByteArray) (w : World) (h0 : 1 ≤ s.size) (h3 : s.size ≤ 3) : Calls Tryz.prog 67 #[.string s] w fun e w' => e = .returned (.int .i64 (numR s.data.toList)) ∧ w' = w := by
  have t1 : decide ((s.size : Int) < 1) = false := decide_eq_false (by omega)
  have t2 : decide ((3 : Int) < (s.size : Int)) = false := decide_eq_false (by omega)
  have t1n : decide (s.size < 1) = false := decide_eq_false (by omega)
  have t2n : decide (3 < s.size) = false := decide_eq_false (by omega)
  have z0 : 0 < s.size := by omega
  have hhd : s.data.toList.head? = some s[0] := by
    rw [get_eq s 0 z0, List.head?_eq_getElem?, List.getElem?_eq_getElem]
  have hx := UInt8.toNat_lt s[0]
  have hR : numR s.data.toList = if 1 < s.size ∧ s[0].toNat = 48 then -1 else optI (foldD 0 s.data.toList) := by
    unfold numR
    rw [hhd, ← size_eq]
    have : (some s[0] = some (48 : UInt8)) ↔ s[0].toNat = 48 := by
      rw [Option.some.injEq, ← UInt8.toNat_inj]; rfl
    simp only [this]
  have HR := Lib.hid hR
  clear hR hhd
  by_cases g : 1 < s.size ∧ s[0].toNat = 48
  · have HV := Lib.hid (HR.out.trans (if_pos g))
    obtain ⟨ga, gb⟩ := g
    have t3 : decide ((1 : Int) < (s.size : Int)) = true := decide_eq_true (by omega)
    have t3n : decide (1 < s.size) = true := decide_eq_true (by omega)
    have t4 : ((s[0].toNat : Int) == 48) = true := beq_iff_eq.2 (by omega)
    clear gb
    go_enter Tryz.func67, Tryz.ntmps67
    go_wp2
    exact bodyPost_ret (v := .int .i64 (-1)) (by simp [results, Tryz.results67, go_sem]) rfl ⟨by rw [HV.out], rfl⟩
  · have HV := Lib.hid (HR.out.trans (if_neg g))
    have HTE : (1 < s.size ∧ ((s[0].toNat : Int) == 48) = false) ∨ s.size ≤ 1 := by
      by_cases q : 1 < s.size
      · exact Or.inl ⟨q, beq_eq_false_iff_ne.2 (fun e => g ⟨q, by omega⟩)⟩
      · exact Or.inr (by omega)
    clear g
    rcases HTE with ⟨ga, gb⟩ | ga
    · have t3 : decide ((1 : Int) < (s.size : Int)) = true := decide_eq_true (by omega)
      have t3n : decide (1 < s.size) = true := decide_eq_true (by omega)
      go_enter Tryz.func67, Tryz.ntmps67
      go_wp2
      go_loopw [3, 4] (fun v3 v4 wr => ∃ (i acc : Nat), v4 = .int .i64 i ∧ v3 = .int .i64 acc ∧ i ≤ s.size ∧ acc < 10 ^ i ∧ wr = w ∧ Hid (optI (foldD acc (s.data.toList.drop i)) = optI (foldD 0 s.data.toList))) (fun _ v4 _ => s.size - (intOf v4).toNat)
      case atStart => exact ⟨0, 0, rfl, rfl, by omega, by simp, rfl, Lib.hid rfl⟩
      case round =>
        obtain ⟨i, acc, rfl, rfl, hi, hacc, rfl, H⟩ := hrel
        by_cases hlt : i < s.size
        · have hfd := foldD_at (acc := acc) hlt
          have hc2 := UInt8.toNat_lt s[i]
          have hac2 : acc < 100 := by
            have : i = 0 ∨ i = 1 ∨ i = 2 := by omega
            rcases this with rfl | rfl | rfl <;> simp at hacc <;> omega
          have hpow : 10 * acc + (s[i].toNat - 48) < 10 ^ (i + 1) ∨ ¬ (48 ≤ s[i].toNat ∧ s[i].toNat ≤ 57) := by
            by_cases q : 48 ≤ s[i].toNat ∧ s[i].toNat ≤ 57
            · left
              rw [Nat.pow_succ]
              omega
            · right; exact q
          have HFD := Lib.hid hfd
          clear hfd hacc
          by_cases q1 : s[i].toNat < 48
          · have HN := Lib.hid (H.out.symm.trans (by rw [HFD.out, if_neg (by omega)]))
            have y1 : decide ((s[i].toNat : Int) < 48) = true := decide_eq_true (by omega)
            go_wp2
            exact bodyPost_ret (v := .int .i64 (-1)) (by simp [results, Tryz.results67, go_sem]) rfl ⟨by rw [HV.out, HN.out]; rfl, rfl⟩
          · have y1 : decide ((s[i].toNat : Int) < 48) = false := decide_eq_false (by omega)
            by_cases q2 : 57 < s[i].toNat
            · have HN := Lib.hid (H.out.symm.trans (by rw [HFD.out, if_neg (by omega)]))
              have y2 : decide ((57 : Int) < (s[i].toNat : Int)) = true := decide_eq_true (by omega)
              go_wp2
              exact bodyPost_ret (v := .int .i64 (-1)) (by simp [results, Tryz.results67, go_sem]) rfl ⟨by rw [HV.out, HN.out]; rfl, rfl⟩
            · have y2 : decide ((57 : Int) < (s[i].toNat : Int)) = false := decide_eq_false (by omega)
              have HN := Lib.hid (H.out.symm.trans (by rw [HFD.out, if_pos ⟨by omega, by omega⟩]))
              have hp2 := hpow.resolve_right (fun h => h ⟨by omega, by omega⟩)
              obtain ⟨d, hd⟩ : ∃ d : Nat, s[i].toNat - 48 = d := ⟨_, rfl⟩
              have u1 : IntKind.u8.wrap ((s[i].toNat : Int) - 48) = (d : Int) := by rw [IntWalk.u8_in _ (by omega)]; omega
              have u2 : IntKind.i64.wrap (10 * (acc : Int)) = 10 * (acc : Int) := IntWalk.i64_in _ (by omega)
              have u3 : IntKind.i64.wrap (10 * (acc : Int) + (d : Int)) = ((10 * acc + d : Nat) : Int) := by rw [IntWalk.i64_in _ (by omega)]; omega
              have u4 : IntKind.i64.wrap (d : Int) = (d : Int) := IntWalk.i64_in _ (by omega)
              rw [hd] at HN hp2
              clear hpow
              go_wp2
              go_roundw
              case rel =>
                first
                  | exact ⟨i + 1, 10 * acc + d, by go_num, by go_num, by omega, hp2, trivial, Lib.hid HN.out.symm⟩
                  | ((repeat apply Exists.intro); refine ⟨⟨i + 1, 10 * acc + d, ?_, ?_, by omega, hp2, trivial, Lib.hid HN.out.symm⟩, rfl⟩ <;> go_num)
              case measure => simp [intOf]; omega
        · obtain rfl : i = s.size := by omega
          have HN := H.out
          rw [List.drop_of_length_le (by rw [← size_eq]; exact Nat.le_refl _), foldD] at HN
          have HN2 := Lib.hid HN
          go_wp2
          go_ret
          exact ⟨by rw [HV.out, ← HN2.out]; rfl, rfl⟩
    · have t3 : decide ((1 : Int) < (s.size : Int)) = false := decide_eq_false (by omega)
      have t3n : decide (1 < s.size) = false := decide_eq_false (by omega)
      go_enter Tryz.func67, Tryz.ntmps67
      go_wp2
      go_loopw [3, 4] (fun v3 v4 wr => ∃ (i acc : Nat), v4 = .int .i64 i ∧ v3 = .int .i64 acc ∧ i ≤ s.size ∧ acc < 10 ^ i ∧ wr = w ∧ Hid (optI (foldD acc (s.data.toList.drop i)) = optI (foldD 0 s.data.toList))) (fun _ v4 _ => s.size - (intOf v4).toNat)
      case atStart => exact ⟨0, 0, rfl, rfl, by omega, by simp, rfl, Lib.hid rfl⟩
      case round =>
        obtain ⟨i, acc, rfl, rfl, hi, hacc, rfl, H⟩ := hrel
        by_cases hlt : i < s.size
        · have hfd := foldD_at (acc := acc) hlt
          have hc2 := UInt8.toNat_lt s[i]
          have hac2 : acc < 100 := by
            have : i = 0 ∨ i = 1 ∨ i = 2 := by omega
            rcases this with rfl | rfl | rfl <;> simp at hacc <;> omega
          have hpow : 10 * acc + (s[i].toNat - 48) < 10 ^ (i + 1) ∨ ¬ (48 ≤ s[i].toNat ∧ s[i].toNat ≤ 57) := by
            by_cases q : 48 ≤ s[i].toNat ∧ s[i].toNat ≤ 57
            · left
              rw [Nat.pow_succ]
              omega
            · right; exact q
          have HFD := Lib.hid hfd
          clear hfd hacc
          by_cases q1 : s[i].toNat < 48
          · have HN := Lib.hid (H.out.symm.trans (by rw [HFD.out, if_neg (by omega)]))
            have y1 : decide ((s[i].toNat : Int) < 48) = true := decide_eq_true (by omega)
            go_wp2
            exact bodyPost_ret (v := .int .i64 (-1)) (by simp [results, Tryz.results67, go_sem]) rfl ⟨by rw [HV.out, HN.out]; rfl, rfl⟩
          · have y1 : decide ((s[i].toNat : Int) < 48) = false := decide_eq_false (by omega)
            by_cases q2 : 57 < s[i].toNat
            · have HN := Lib.hid (H.out.symm.trans (by rw [HFD.out, if_neg (by omega)]))
              have y2 : decide ((57 : Int) < (s[i].toNat : Int)) = true := decide_eq_true (by omega)
              go_wp2
              exact bodyPost_ret (v := .int .i64 (-1)) (by simp [results, Tryz.results67, go_sem]) rfl ⟨by rw [HV.out, HN.out]; rfl, rfl⟩
            · have y2 : decide ((57 : Int) < (s[i].toNat : Int)) = false := decide_eq_false (by omega)
              have HN := Lib.hid (H.out.symm.trans (by rw [HFD.out, if_pos ⟨by omega, by omega⟩]))
              have hp2 := hpow.resolve_right (fun h => h ⟨by omega, by omega⟩)
              obtain ⟨d, hd⟩ : ∃ d : Nat, s[i].toNat - 48 = d := ⟨_, rfl⟩
              have u1 : IntKind.u8.wrap ((s[i].toNat : Int) - 48) = (d : Int) := by rw [IntWalk.u8_in _ (by omega)]; omega
              have u2 : IntKind.i64.wrap (10 * (acc : Int)) = 10 * (acc : Int) := IntWalk.i64_in _ (by omega)
              have u3 : IntKind.i64.wrap (10 * (acc : Int) + (d : Int)) = ((10 * acc + d : Nat) : Int) := by rw [IntWalk.i64_in _ (by omega)]; omega
              have u4 : IntKind.i64.wrap (d : Int) = (d : Int) := IntWalk.i64_in _ (by omega)
              rw [hd] at HN hp2
              clear hpow
              go_wp2
              go_roundw
              case rel =>
                first
                  | exact ⟨i + 1, 10 * acc + d, by go_num, by go_num, by omega, hp2, trivial, Lib.hid HN.out.symm⟩
                  | ((repeat apply Exists.intro); refine ⟨⟨i + 1, 10 * acc + d, ?_, ?_, by omega, hp2, trivial, Lib.hid HN.out.symm⟩, rfl⟩ <;> go_num)
              case measure => simp [intOf]; omega
        · obtain rfl : i = s.size := by omega
          have HN := H.out
          rw [List.drop_of_length_le (by rw [← size_eq]; exact Nat.le_refl _), foldD] at HN
          have HN2 := Lib.hid HN
          go_wp2
          go_ret
          exact ⟨by rw [HV.out, ← HN2.out]; rfl, rfl⟩
end Go.Proofs.YtpoelhnceebmkaaGreatDoor

namespace Go.Proofs.YtpoelhnceebmkaaGreatDoor
open Go Go.RowKit Go.Shelf
set_option linter.unusedSimpArgs false
set_option linter.unusedVariables false

/-- From the try with n bytes on. -/
def rhV (s : ByteArray) (a : Nat) : Nat → Int × Int
  | 0 => (0, 0)
  | m + 1 => if s.data.toList[a + (2 - m) + 1]? = some 125 ∧ 0 < numR (s.extract (a + 1) (a + (2 - m) + 1)).data.toList then (numR (s.extract (a + 1) (a + (2 - m) + 1)).data.toList, ((a + (2 - m) + 2 : Nat) : Int)) else rhV s a m
theorem rhV_at {s : ByteArray} {a n : Nat} (h1 : 1 ≤ n) (h2 : n ≤ 2) : rhV s a (3 - n) = if s.data.toList[a + n + 1]? = some 125 ∧ 0 < numR (s.extract (a + 1) (a + n + 1)).data.toList then (numR (s.extract (a + 1) (a + n + 1)).data.toList, ((a + n + 2 : Nat) : Int)) else rhV s a (3 - (n + 1)) := by
  have : n = 1 ∨ n = 2 := by omega
  rcases this with rfl | rfl <;> rfl

set_option maxRecDepth 100000 in
set_option maxHeartbeats 2000000 in
theorem rhole_any (s : ByteArray) (a : Nat) (w : World) (hs : s.size ≤ 10000) (ha : a < s.size) : Calls Tryz.prog 40 #[.string s, .int .i64 a] w fun e w' => e = .returned (.tuple #[.int .i64 (rhV s a 2).1, .int .i64 (rhV s a 2).2]) ∧ w' = w := by
  obtain ⟨R, hR⟩ : ∃ R, rhV s a 2 = R := ⟨_, rfl⟩
  rw [hR]
  have HR : Hid (rhV s a (3 - 1) = R) := Lib.hid hR
  clear hR
  go_enter Tryz.func40, Tryz.ntmps40
  go_wp2
  go_loopw [6] (fun v6 wr => ∃ n : Nat, v6 = .int .i64 n ∧ 1 ≤ n ∧ n ≤ 3 ∧ wr = w ∧ Hid (rhV s a (3 - n) = R)) (fun v6 _ => 3 - (intOf v6).toNat)
  case atStart => exact ⟨1, rfl, by omega, by omega, rfl, HR⟩
  case round =>
    obtain ⟨n, rfl, h1, h2, rfl, H⟩ := hrel
    by_cases hn : n ≤ 2
    · have hat := rhV_at (s := s) (a := a) h1 hn
      rw [H.out] at hat
      have u1 : IntKind.i64.wrap ((a : Int) + (n : Int)) = ((a + n : Nat) : Int) := by rw [IntWalk.i64_in _ (by omega)]; omega
      have u2 : IntKind.i64.wrap (((a + n : Nat) : Int) + 1) = ((a + n + 1 : Nat) : Int) := by rw [IntWalk.i64_in _ (by omega)]; omega
      have u3 : IntKind.i64.wrap (((a + n : Nat) : Int) + 2) = ((a + n + 2 : Nat) : Int) := by rw [IntWalk.i64_in _ (by omega)]; omega
      have u4 : IntKind.i64.wrap ((a : Int) + 1) = ((a + 1 : Nat) : Int) := by rw [IntWalk.i64_in _ (by omega)]; omega
      by_cases hl : a + n + 1 < s.size
      · have t1 : decide (((a + n + 1 : Nat) : Int) < (s.size : Int)) = true := decide_eq_true (by omega)
        have i0 : (0 : Int) ≤ ((a + n + 1 : Nat) : Int) := by omega
        have hl2 : a + n + 1 < s.data.toList.length := by rw [← size_eq]; exact hl
        have hget : s.data.toList[a + n + 1]? = some s[a + n + 1] := by rw [get_eq s _ hl]; exact List.getElem?_eq_getElem hl2
        rw [hget] at hat
        have HAT := Lib.hid hat
        have hxx := UInt8.toNat_lt s[a + n + 1]
        have h125 : (some s[a + n + 1] = some (125 : UInt8)) ↔ s[a + n + 1].toNat = 125 := by
          rw [Option.some.injEq, ← UInt8.toNat_inj]; rfl
        clear hat hget
        by_cases hc : s[a + n + 1].toNat = 125
        · have c1 : ((s[a + n + 1].toNat : Int) == 125) = true := beq_iff_eq.2 (by omega)
          have hsz : (s.extract (a + 1) (a + n + 1)).size = n := by simp; omega
          have HNU := Lib.hid (number_any (s.extract (a + 1) (a + n + 1)) wr (by omega) (by omega))
          have HAT2 := Lib.hid (HAT.out)
          have H125 := Lib.hid (h125.2 hc)
          generalize numR (s.extract (a + 1) (a + n + 1)).data.toList = k at *
          have j1 : ((a + 1 : Nat) : Int) ≤ ((a + n + 1 : Nat) : Int) := by omega
          have j2 : ((a + n + 1 : Nat) : Int) ≤ (s.size : Int) := by omega
          have j3 : a + 1 ≤ a + n + 1 := by omega
          have j4 : a + n + 1 ≤ s.size := by omega
          clear hc h125 hxx HAT
          by_cases hk : 0 < k
          · have e := HAT2.out
            rw [if_pos ⟨H125.out, hk⟩] at e
            subst e
            go_wp2_with (go_at_call 67; refine HNU.out.mono ?_; rintro e w' ⟨rfl, rfl⟩)
            exact bodyPost_ret (v := .tuple #[.int .i64 k, .int .i64 (a + n + 2 : Nat)]) (by simp [results, Tryz.results40, go_sem]) rfl ⟨rfl, rfl⟩
          · have e := HAT2.out
            rw [if_neg (fun h => hk h.2)] at e
            have HE := Lib.hid e.symm
            clear e
            go_wp2_with (go_at_call 67; refine HNU.out.mono ?_; rintro e w' ⟨rfl, rfl⟩)
            go_roundw
            case rel =>
              first
                | exact ⟨n + 1, by go_num, by omega, by omega, trivial, HE⟩
                | ((repeat apply Exists.intro); refine ⟨⟨n + 1, ?_, by omega, by omega, trivial, HE⟩, rfl⟩; go_num)
            case measure => simp [intOf]; omega
        · have c1 : ((s[a + n + 1].toNat : Int) == 125) = false := beq_eq_false_iff_ne.2 (by omega)
          have e := HAT.out
          rw [if_neg (fun h => hc (h125.1 h.1))] at e
          have HE := Lib.hid e.symm
          clear e hc h125 hxx HAT
          go_wp2
          go_roundw
          case rel =>
            first
              | exact ⟨n + 1, by go_num, by omega, by omega, trivial, HE⟩
              | ((repeat apply Exists.intro); refine ⟨⟨n + 1, ?_, by omega, by omega, trivial, HE⟩, rfl⟩; go_num)
          case measure => simp [intOf]; omega
      · have t1 : decide (((a + n + 1 : Nat) : Int) < (s.size : Int)) = false := decide_eq_false (by omega)
        rw [if_neg (fun h => by rw [List.getElem?_eq_none (by rw [← size_eq]; omega)] at h; cases h.1)] at hat
        have HE := Lib.hid hat.symm
        clear hat
        go_wp2
        go_roundw
        case rel =>
          first
            | exact ⟨n + 1, by go_num, by omega, by omega, trivial, HE⟩
            | ((repeat apply Exists.intro); refine ⟨⟨n + 1, ?_, by omega, by omega, trivial, HE⟩, rfl⟩; go_num)
        case measure => simp [intOf]; omega
    · obtain rfl : n = 3 := by omega
      have e : ((0 : Int), (0 : Int)) = R := H.out
      subst e
      go_wp2
      exact bodyPost_ret (v := .tuple #[.int .i64 0, .int .i64 0]) (by simp [results, Tryz.results40, go_sem]) rfl ⟨rfl, rfl⟩
end Go.Proofs.YtpoelhnceebmkaaGreatDoor

namespace Go.Proofs.YtpoelhnceebmkaaGreatDoor
open Go Go.RowKit Go.Shelf
set_option linter.unusedSimpArgs false
set_option linter.unusedVariables false

theorem dg_iff (x : UInt8) : dgs.contains x = true ↔ 48 ≤ x.toNat ∧ x.toNat ≤ 57 := by
  constructor
  · intro h
    obtain ⟨k, rfl⟩ := dg_val h
    have := k.2
    simp [UInt8.toNat_ofNat]; omega
  · intro h
    have : x = UInt8.ofNat x.toNat := by simp
    have hk : ∀ k : Fin 10, dgs.contains (UInt8.ofNat (48 + k.1)) = true := by decide
    have := hk ⟨x.toNat - 48, by omega⟩
    rw [show 48 + (x.toNat - 48) = x.toNat by omega] at this
    simpa using this
theorem num1 (x : UInt8) : numR [x] = if 48 ≤ x.toNat ∧ x.toNat ≤ 57 then ((x.toNat - 48 : Nat) : Int) else -1 := by
  unfold numR
  rw [if_neg (by simp), foldD]
  split
  · rw [foldD, optI]; simp
  · rfl
theorem num2 (x y : UInt8) : numR [x, y] = if x.toNat = 48 then -1 else if (48 ≤ x.toNat ∧ x.toNat ≤ 57) ∧ 48 ≤ y.toNat ∧ y.toNat ≤ 57 then (((x.toNat - 48) * 10 + (y.toNat - 48) : Nat) : Int) else -1 := by
  unfold numR
  by_cases h : x.toNat = 48
  · have hx : x = 48 := UInt8.toNat_inj.1 h
    rw [if_pos ⟨by simp, by rw [hx]; rfl⟩, if_pos h]
  · have hx : x ≠ 48 := fun e => h (by rw [e]; rfl)
    rw [if_neg (fun q => hx (by simpa using q.2)), if_neg h, foldD]
    split
    · rename_i h1
      rw [foldD]
      split
      · rename_i h2
        rw [if_pos ⟨h1, h2⟩, foldD, optI]
        congr 1; omega
      · rename_i h2
        rw [if_neg (fun q => h2 q.2)]; rfl
    · rename_i h1
      rw [if_neg (fun q => h1 q.1)]; rfl
theorem hole1_eq (x : UInt8) : hole1 x = if 49 ≤ x.toNat ∧ x.toNat ≤ 57 then (x.toNat - 48, 3) else (0, 0) := by
  unfold hole1
  have h1 := dg_iff x
  have h2 : (x != 48) = true ↔ x.toNat ≠ 48 := by
    rw [bne_iff_ne, Ne, ← UInt8.toNat_inj]; rfl
  by_cases h : 49 ≤ x.toNat ∧ x.toNat ≤ 57
  · rw [if_pos h, if_pos (by rw [Bool.and_eq_true]; exact ⟨h1.2 (by omega), h2.2 (by omega)⟩)]
  · rw [if_neg h, if_neg (by rw [Bool.and_eq_true]; intro q; have := h1.1 q.1; have := h2.1 q.2; omega)]
theorem hole2_eq (x y : UInt8) : hole2 x y = if (49 ≤ x.toNat ∧ x.toNat ≤ 57) ∧ 48 ≤ y.toNat ∧ y.toNat ≤ 57 then ((x.toNat - 48) * 10 + (y.toNat - 48), 4) else (0, 0) := by
  unfold hole2
  have h1 := dg_iff x
  have h3 := dg_iff y
  have h2 : (x != 48) = true ↔ x.toNat ≠ 48 := by
    rw [bne_iff_ne, Ne, ← UInt8.toNat_inj]; rfl
  by_cases h : (49 ≤ x.toNat ∧ x.toNat ≤ 57) ∧ 48 ≤ y.toNat ∧ y.toNat ≤ 57
  · rw [if_pos h, if_pos (by rw [Bool.and_eq_true, Bool.and_eq_true]; exact ⟨⟨h1.2 (by omega), h2.2 (by omega)⟩, h3.2 h.2⟩)]
  · rw [if_neg h, if_neg (by rw [Bool.and_eq_true, Bool.and_eq_true]; intro q; have := h1.1 q.1.1; have := h2.1 q.1.2; have := h3.1 q.2; exact h ⟨by omega, this⟩)]
def rhL (l : List UInt8) (a : Nat) : Int × Int :=
  if l[2]? = some 125 ∧ 0 < numR ((l.drop 1).take 1) then (numR ((l.drop 1).take 1), ((a + 3 : Nat) : Int))
  else if l[3]? = some 125 ∧ 0 < numR ((l.drop 1).take 2) then (numR ((l.drop 1).take 2), ((a + 4 : Nat) : Int)) else (0, 0)
theorem rhV_list (s : ByteArray) (a : Nat) : rhV s a 2 = rhL (s.data.toList.drop a) a := by
  have e1 : (s.extract (a + 1) (a + 1 + 1)).data.toList = ((s.data.toList.drop a).drop 1).take 1 := by rw [ext_take, List.drop_drop]
  have e2 : (s.extract (a + 1) (a + 2 + 1)).data.toList = ((s.data.toList.drop a).drop 1).take 2 := by rw [show a + 2 + 1 = a + 1 + 2 by omega, ext_take, List.drop_drop]
  have e3 : s.data.toList[a + 1 + 1]? = (s.data.toList.drop a)[2]? := by rw [List.getElem?_drop]
  have e4 : s.data.toList[a + 2 + 1]? = (s.data.toList.drop a)[3]? := by rw [List.getElem?_drop]
  unfold rhL
  rw [← e1, ← e2, ← e3, ← e4]
  rfl
def holeOut (v : Nat × Nat) (a : Nat) : Int × Int := if v.2 = 0 then (0, 0) else ((v.1 : Int), ((a + v.2 : Nat) : Int))
theorem idx_hit (l : List UInt8) : Lib.indexByte (125 :: l) 125 = 0 := by rw [Lib.indexByte]; rfl
theorem idx_skip {b : UInt8} {l : List UInt8} (h : b ≠ 125) : (Lib.indexByte l 125 = -1 ∧ Lib.indexByte (b :: l) 125 = -1) ∨ (0 ≤ Lib.indexByte l 125 ∧ Lib.indexByte (b :: l) 125 = Lib.indexByte l 125 + 1) := by
  have hg := Lib.indexByte_ge l 125
  have hb : (b == 125) = false := by simpa using h
  have e : Lib.indexByte (b :: l) 125 = if Lib.indexByte l 125 == -1 then -1 else Lib.indexByte l 125 + 1 := by rw [Lib.indexByte, hb]; rfl
  by_cases hq : Lib.indexByte l 125 = -1
  · left; exact ⟨hq, by rw [e, hq]; rfl⟩
  · right
    refine ⟨by omega, ?_⟩
    have hb2 : (Lib.indexByte l 125 == -1) = false := by simpa using hq
    rw [e, hb2]; rfl
theorem holeV_other {l : List UInt8} (h2 : Lib.indexByte l 125 ≠ 2) (h3 : Lib.indexByte l 125 ≠ 3) : holeV l = (0, 0) := by
  unfold holeV
  rw [if_neg (fun q => h2 q.1), if_neg (fun q => h3 q.1)]
theorem num1_pos {x : UInt8} : 0 < numR [x] ↔ 49 ≤ x.toNat ∧ x.toNat ≤ 57 := by
  rw [num1]
  split <;> constructor <;> intro h <;> omega
theorem num2_pos {x y : UInt8} : 0 < numR [x, y] ↔ (49 ≤ x.toNat ∧ x.toNat ≤ 57) ∧ 48 ≤ y.toNat ∧ y.toNat ≤ 57 := by
  rw [num2]
  split
  · constructor <;> intro h <;> omega
  · split <;> constructor <;> intro h <;> omega
theorem rhL_none {x : UInt8} {l : List UInt8} {a : Nat} (h2 : l[2]? = some 125 → ¬ 0 < numR ((l.drop 1).take 1)) (h3 : l[3]? = some 125 → ¬ 0 < numR ((l.drop 1).take 2)) : rhL l a = (0, 0) := by
  unfold rhL
  rw [if_neg (fun q => h2 q.1 q.2), if_neg (fun q => h3 q.1 q.2)]
theorem rhL_hole (r : List UInt8) (a : Nat) : rhL (123 :: r) a = holeOut (holeV (123 :: r)) a := by
  have h123 : (123 : UInt8) ≠ 125 := by decide
  have n125 : (125 : UInt8).toNat = 125 := rfl
  have out0 : holeOut (0, 0) a = (0, 0) := rfl
  match r with
  | [] =>
    have : holeV [123] = (0, 0) := by decide
    rw [this, out0]
    exact rhL_none (x := 0) (fun h => by simp at h) (fun h => by simp at h)
  | [x] =>
    rw [rhL_none (x := 0) (fun h => by simp at h) (fun h => by simp at h), holeV_other, out0]
    · intro h
      obtain ⟨p, q, t, e⟩ := idx_two h
      simp at e
    · intro h
      obtain ⟨p, q, t, u, e⟩ := idx_three h
      simp at e
  | [x, y] =>
    by_cases hx : x = 125
    · subst hx
      have hi : Lib.indexByte [123, 125, y] 125 = 1 := by
        rcases idx_skip (l := [125, y]) h123 with ⟨q, _⟩ | ⟨_, q⟩
        · rw [idx_hit] at q; omega
        · rw [q, idx_hit]; rfl
      rw [holeV_other (by omega) (by omega), out0]
      exact rhL_none (x := 0) (fun _ h => by have := num1_pos.1 h; omega) (fun h => by simp at h)
    · by_cases hy : y = 125
      · subst hy
        have hi : Lib.indexByte [123, x, 125] 125 = 2 := by
          rcases idx_skip (l := [125]) hx with ⟨q, _⟩ | ⟨_, q⟩
          · rw [idx_hit] at q; omega
          · rw [idx_hit] at q
            rcases idx_skip (l := [x, 125]) h123 with ⟨q', _⟩ | ⟨_, q'⟩ <;> omega
        have hv : holeV [123, x, 125] = hole1 x := by unfold holeV; rw [if_pos ⟨hi, rfl⟩]; rfl
        rw [hv, hole1_eq]
        by_cases hd : 49 ≤ x.toNat ∧ x.toNat ≤ 57
        · rw [if_pos hd]
          unfold rhL
          rw [if_pos ⟨rfl, num1_pos.2 hd⟩]
          show (numR [x], _) = _
          rw [num1, if_pos ⟨by omega, by omega⟩]; rfl
        · rw [if_neg hd, out0]
          exact rhL_none (x := 0) (fun _ h => hd (num1_pos.1 h)) (fun h => by simp at h)
      · rw [rhL_none (x := 0) (l := [123, x, y]) (fun h => absurd (by simpa using h) hy) (fun h => by simp at h), holeV_other, out0]
        · intro h
          obtain ⟨p, q, t, e⟩ := idx_two h
          simp at e
          exact hy e.2.2.1
        · intro h
          obtain ⟨p, q, t, u, e⟩ := idx_three h
          simp at e
  | x :: y :: z :: t =>
    by_cases hx : x = 125
    · subst hx
      have hi : Lib.indexByte (123 :: 125 :: y :: z :: t) 125 = 1 := by
        rcases idx_skip (l := 125 :: y :: z :: t) h123 with ⟨q, _⟩ | ⟨_, q⟩
        · rw [idx_hit] at q; omega
        · rw [q, idx_hit]; rfl
      rw [holeV_other (by omega) (by omega), out0]
      exact rhL_none (x := 0) (fun _ h => by have := num1_pos.1 h; omega) (fun _ h => by have := num2_pos.1 h; omega)
    · by_cases hy : y = 125
      · subst hy
        have hi : Lib.indexByte (123 :: x :: 125 :: z :: t) 125 = 2 := by
          rcases idx_skip (l := 125 :: z :: t) hx with ⟨q, _⟩ | ⟨_, q⟩
          · rw [idx_hit] at q; omega
          · rw [idx_hit] at q
            rcases idx_skip (l := x :: 125 :: z :: t) h123 with ⟨q', _⟩ | ⟨_, q'⟩ <;> omega
        have hv : holeV (123 :: x :: 125 :: z :: t) = hole1 x := by unfold holeV; rw [if_pos ⟨hi, rfl⟩]; rfl
        rw [hv, hole1_eq]
        by_cases hd : 49 ≤ x.toNat ∧ x.toNat ≤ 57
        · rw [if_pos hd]
          unfold rhL
          rw [if_pos ⟨rfl, num1_pos.2 hd⟩]
          show (numR [x], _) = _
          rw [num1, if_pos ⟨by omega, by omega⟩]; rfl
        · rw [if_neg hd, out0]
          exact rhL_none (x := 0) (fun _ h => hd (num1_pos.1 h)) (fun _ h => by have := num2_pos.1 h; omega)
      · by_cases hz : z = 125
        · subst hz
          have hi : Lib.indexByte (123 :: x :: y :: 125 :: t) 125 = 3 := by
            rcases idx_skip (l := 125 :: t) hy with ⟨q, _⟩ | ⟨_, q⟩
            · rw [idx_hit] at q; omega
            · rw [idx_hit] at q
              rcases idx_skip (l := y :: 125 :: t) hx with ⟨q', _⟩ | ⟨_, q'⟩
              · omega
              · rcases idx_skip (l := x :: y :: 125 :: t) h123 with ⟨q'', _⟩ | ⟨_, q''⟩ <;> omega
          have hv : holeV (123 :: x :: y :: 125 :: t) = hole2 x y := by unfold holeV; rw [if_neg (fun q => by omega), if_pos ⟨hi, rfl⟩]; rfl
          rw [hv, hole2_eq]
          unfold rhL
          rw [if_neg (fun q => hy (by simpa using q.1))]
          by_cases hd : (49 ≤ x.toNat ∧ x.toNat ≤ 57) ∧ 48 ≤ y.toNat ∧ y.toNat ≤ 57
          · rw [if_pos hd, if_pos ⟨rfl, num2_pos.2 hd⟩]
            show (numR [x, y], _) = _
            rw [num2, if_neg (by omega), if_pos ⟨by omega, by omega⟩]; rfl
          · rw [if_neg hd, out0, if_neg (fun q => hd (num2_pos.1 q.2))]
        · rw [rhL_none (x := 0) (fun h => absurd (by simpa using h) hy) (fun h => absurd (by simpa using h) hz), holeV_other, out0]
          · intro h
            obtain ⟨p, q, t', e⟩ := idx_two h
            simp at e
            exact hy e.2.2.1
          · intro h
            obtain ⟨p, q, t', u, e⟩ := idx_three h
            simp at e
            exact hz e.2.2.2.1
end Go.Proofs.YtpoelhnceebmkaaGreatDoor

