/- licitref31.Number at one or two bytes. Condition: the string's size. -/
import Derived.Test.YtpoelhnceebmkaaGreatDoorE11
import Derived.Test.YtpoelhnceebmkaaGreatDoorE8
namespace Go.Proofs.YtpoelhnceebmkaaGreatDoor
open Go Go.RowKit Go.Shelf
set_option linter.unusedSimpArgs false
set_option linter.unusedVariables false

def foldD : Nat → List UInt8 → Option Nat
  | acc, [] => some acc
  | acc, c :: r => if 48 ≤ c.toNat ∧ c.toNat ≤ 57 then foldD (10 * acc + (c.toNat - 48)) r else none
def numR (l : List UInt8) : Int := if 1 < l.length ∧ l.head? = some 48 then -1 else optI (foldD 0 l)
theorem foldD_at {s : ByteArray} {acc i : Nat} (h : i < s.size) : foldD acc (s.data.toList.drop i) = if 48 ≤ s[i].toNat ∧ s[i].toNat ≤ 57 then foldD (10 * acc + (s[i].toNat - 48)) (s.data.toList.drop (i + 1)) else none := by
  have hl : i < s.data.toList.length := by rw [← size_eq]; exact h
  rw [List.drop_eq_getElem_cons hl, foldD, ← get_eq s i h]

set_option maxRecDepth 100000 in
set_option maxHeartbeats 2000000 in
theorem number_any (s : ByteArray) (w : World) (h0 : 1 ≤ s.size) (h3 : s.size ≤ 3) : Calls Tryz.prog 67 #[.string s] w fun e w' => e = .returned (.int .i64 (numR s.data.toList)) ∧ w' = w := by
  have t1 : decide ((s.size : Int) < 1) = false := decide_eq_false (by omega)
  have t2 : decide ((3 : Int) < (s.size : Int)) = false := decide_eq_false (by omega)
  have t1n : decide (s.size < 1) = false := decide_eq_false (by omega)
  have t2n : decide (3 < s.size) = false := decide_eq_false (by omega)
  have z0 : 0 < s.size := by omega
  have hhd : s.data.toList.head? = some s[0] := by
    rw [get_eq s 0 z0, List.head?_eq_getElem?, List.getElem?_eq_getElem]
  have hx := UInt8.toNat_lt s[0]
  have hR : numR s.data.toList = if 1 < s.size ∧ s[0].toNat = 48 then -1 else optI (foldD 0 s.data.toList) := by
    unfold numR
    rw [hhd, ← size_eq]
    have : (some s[0] = some (48 : UInt8)) ↔ s[0].toNat = 48 := by
      rw [Option.some.injEq, ← UInt8.toNat_inj]; rfl
    simp only [this]
  have HR := Lib.hid hR
  clear hR hhd
  by_cases g : 1 < s.size ∧ s[0].toNat = 48
  · have HV := Lib.hid (HR.out.trans (if_pos g))
    obtain ⟨ga, gb⟩ := g
    have t3 : decide ((1 : Int) < (s.size : Int)) = true := decide_eq_true (by omega)
    have t3n : decide (1 < s.size) = true := decide_eq_true (by omega)
    have t4 : ((s[0].toNat : Int) == 48) = true := beq_iff_eq.2 (by omega)
    clear gb
    go_enter Tryz.func67, Tryz.ntmps67
    go_wp2
    exact bodyPost_ret (v := .int .i64 (-1)) (by simp [results, Tryz.results67, go_sem]) rfl ⟨by rw [HV.out], rfl⟩
  · have HV := Lib.hid (HR.out.trans (if_neg g))
    have HTE : (1 < s.size ∧ ((s[0].toNat : Int) == 48) = false) ∨ s.size ≤ 1 := by
      by_cases q : 1 < s.size
      · exact Or.inl ⟨q, beq_eq_false_iff_ne.2 (fun e => g ⟨q, by omega⟩)⟩
      · exact Or.inr (by omega)
    clear g
    rcases HTE with ⟨ga, gb⟩ | ga
    · have t3 : decide ((1 : Int) < (s.size : Int)) = true := decide_eq_true (by omega)
      have t3n : decide (1 < s.size) = true := decide_eq_true (by omega)
      go_enter Tryz.func67, Tryz.ntmps67
      go_wp2
      go_loopw [3, 4] (fun v3 v4 wr => ∃ (i acc : Nat), v4 = .int .i64 i ∧ v3 = .int .i64 acc ∧ i ≤ s.size ∧ acc < 10 ^ i ∧ wr = w ∧ Hid (optI (foldD acc (s.data.toList.drop i)) = optI (foldD 0 s.data.toList))) (fun _ v4 _ => s.size - (intOf v4).toNat)
      case atStart => exact ⟨0, 0, rfl, rfl, by omega, by simp, rfl, Lib.hid rfl⟩
      case round =>
        obtain ⟨i, acc, rfl, rfl, hi, hacc, rfl, H⟩ := hrel
        by_cases hlt : i < s.size
        · have hfd := foldD_at (acc := acc) hlt
          have hc2 := UInt8.toNat_lt s[i]
          have hac2 : acc < 100 := by
            have : i = 0 ∨ i = 1 ∨ i = 2 := by omega
            rcases this with rfl | rfl | rfl <;> simp at hacc <;> omega
          have hpow : 10 * acc + (s[i].toNat - 48) < 10 ^ (i + 1) ∨ ¬ (48 ≤ s[i].toNat ∧ s[i].toNat ≤ 57) := by
            by_cases q : 48 ≤ s[i].toNat ∧ s[i].toNat ≤ 57
            · left
              rw [Nat.pow_succ]
              omega
            · right; exact q
          have HFD := Lib.hid hfd
          clear hfd hacc
          by_cases q1 : s[i].toNat < 48
          · have HN := Lib.hid (H.out.symm.trans (by rw [HFD.out, if_neg (by omega)]))
            have y1 : decide ((s[i].toNat : Int) < 48) = true := decide_eq_true (by omega)
            go_wp2
            exact bodyPost_ret (v := .int .i64 (-1)) (by simp [results, Tryz.results67, go_sem]) rfl ⟨by rw [HV.out, HN.out]; rfl, rfl⟩
          · have y1 : decide ((s[i].toNat : Int) < 48) = false := decide_eq_false (by omega)
            by_cases q2 : 57 < s[i].toNat
            · have HN := Lib.hid (H.out.symm.trans (by rw [HFD.out, if_neg (by omega)]))
              have y2 : decide ((57 : Int) < (s[i].toNat : Int)) = true := decide_eq_true (by omega)
              go_wp2
              exact bodyPost_ret (v := .int .i64 (-1)) (by simp [results, Tryz.results67, go_sem]) rfl ⟨by rw [HV.out, HN.out]; rfl, rfl⟩
            · have y2 : decide ((57 : Int) < (s[i].toNat : Int)) = false := decide_eq_false (by omega)
              have HN := Lib.hid (H.out.symm.trans (by rw [HFD.out, if_pos ⟨by omega, by omega⟩]))
              have hp2 := hpow.resolve_right (fun h => h ⟨by omega, by omega⟩)
              obtain ⟨d, hd⟩ : ∃ d : Nat, s[i].toNat - 48 = d := ⟨_, rfl⟩
              have u1 : IntKind.u8.wrap ((s[i].toNat : Int) - 48) = (d : Int) := by rw [IntWalk.u8_in _ (by omega)]; omega
              have u2 : IntKind.i64.wrap (10 * (acc : Int)) = 10 * (acc : Int) := IntWalk.i64_in _ (by omega)
              have u3 : IntKind.i64.wrap (10 * (acc : Int) + (d : Int)) = ((10 * acc + d : Nat) : Int) := by rw [IntWalk.i64_in _ (by omega)]; omega
              have u4 : IntKind.i64.wrap (d : Int) = (d : Int) := IntWalk.i64_in _ (by omega)
              rw [hd] at HN hp2
              clear hpow
              go_wp2
              go_roundw
              case rel =>
                first
                  | exact ⟨i + 1, 10 * acc + d, by go_num, by go_num, by omega, hp2, trivial, Lib.hid HN.out.symm⟩
                  | ((repeat apply Exists.intro); refine ⟨⟨i + 1, 10 * acc + d, ?_, ?_, by omega, hp2, trivial, Lib.hid HN.out.symm⟩, rfl⟩ <;> go_num)
              case measure => simp [intOf]; omega
        · obtain rfl : i = s.size := by omega
          have HN := H.out
          rw [List.drop_of_length_le (by rw [← size_eq]; exact Nat.le_refl _), foldD] at HN
          have HN2 := Lib.hid HN
          go_wp2
          go_ret
          exact ⟨by rw [HV.out, ← HN2.out]; rfl, rfl⟩
    · have t3 : decide ((1 : Int) < (s.size : Int)) = false := decide_eq_false (by omega)
      have t3n : decide (1 < s.size) = false := decide_eq_false (by omega)
      go_enter Tryz.func67, Tryz.ntmps67
      go_wp2
      go_loopw [3, 4] (fun v3 v4 wr => ∃ (i acc : Nat), v4 = .int .i64 i ∧ v3 = .int .i64 acc ∧ i ≤ s.size ∧ acc < 10 ^ i ∧ wr = w ∧ Hid (optI (foldD acc (s.data.toList.drop i)) = optI (foldD 0 s.data.toList))) (fun _ v4 _ => s.size - (intOf v4).toNat)
      case atStart => exact ⟨0, 0, rfl, rfl, by omega, by simp, rfl, Lib.hid rfl⟩
      case round =>
        obtain ⟨i, acc, rfl, rfl, hi, hacc, rfl, H⟩ := hrel
        by_cases hlt : i < s.size
        · have hfd := foldD_at (acc := acc) hlt
          have hc2 := UInt8.toNat_lt s[i]
          have hac2 : acc < 100 := by
            have : i = 0 ∨ i = 1 ∨ i = 2 := by omega
            rcases this with rfl | rfl | rfl <;> simp at hacc <;> omega
          have hpow : 10 * acc + (s[i].toNat - 48) < 10 ^ (i + 1) ∨ ¬ (48 ≤ s[i].toNat ∧ s[i].toNat ≤ 57) := by
            by_cases q : 48 ≤ s[i].toNat ∧ s[i].toNat ≤ 57
            · left
              rw [Nat.pow_succ]
              omega
            · right; exact q
          have HFD := Lib.hid hfd
          clear hfd hacc
          by_cases q1 : s[i].toNat < 48
          · have HN := Lib.hid (H.out.symm.trans (by rw [HFD.out, if_neg (by omega)]))
            have y1 : decide ((s[i].toNat : Int) < 48) = true := decide_eq_true (by omega)
            go_wp2
            exact bodyPost_ret (v := .int .i64 (-1)) (by simp [results, Tryz.results67, go_sem]) rfl ⟨by rw [HV.out, HN.out]; rfl, rfl⟩
          · have y1 : decide ((s[i].toNat : Int) < 48) = false := decide_eq_false (by omega)
            by_cases q2 : 57 < s[i].toNat
            · have HN := Lib.hid (H.out.symm.trans (by rw [HFD.out, if_neg (by omega)]))
              have y2 : decide ((57 : Int) < (s[i].toNat : Int)) = true := decide_eq_true (by omega)
              go_wp2
              exact bodyPost_ret (v := .int .i64 (-1)) (by simp [results, Tryz.results67, go_sem]) rfl ⟨by rw [HV.out, HN.out]; rfl, rfl⟩
            · have y2 : decide ((57 : Int) < (s[i].toNat : Int)) = false := decide_eq_false (by omega)
              have HN := Lib.hid (H.out.symm.trans (by rw [HFD.out, if_pos ⟨by omega, by omega⟩]))
              have hp2 := hpow.resolve_right (fun h => h ⟨by omega, by omega⟩)
              obtain ⟨d, hd⟩ : ∃ d : Nat, s[i].toNat - 48 = d := ⟨_, rfl⟩
              have u1 : IntKind.u8.wrap ((s[i].toNat : Int) - 48) = (d : Int) := by rw [IntWalk.u8_in _ (by omega)]; omega
              have u2 : IntKind.i64.wrap (10 * (acc : Int)) = 10 * (acc : Int) := IntWalk.i64_in _ (by omega)
              have u3 : IntKind.i64.wrap (10 * (acc : Int) + (d : Int)) = ((10 * acc + d : Nat) : Int) := by rw [IntWalk.i64_in _ (by omega)]; omega
              have u4 : IntKind.i64.wrap (d : Int) = (d : Int) := IntWalk.i64_in _ (by omega)
              rw [hd] at HN hp2
              clear hpow
              go_wp2
              go_roundw
              case rel =>
                first
                  | exact ⟨i + 1, 10 * acc + d, by go_num, by go_num, by omega, hp2, trivial, Lib.hid HN.out.symm⟩
                  | ((repeat apply Exists.intro); refine ⟨⟨i + 1, 10 * acc + d, ?_, ?_, by omega, hp2, trivial, Lib.hid HN.out.symm⟩, rfl⟩ <;> go_num)
              case measure => simp [intOf]; omega
        · obtain rfl : i = s.size := by omega
          have HN := H.out
          rw [List.drop_of_length_le (by rw [← size_eq]; exact Nat.le_refl _), foldD] at HN
          have HN2 := Lib.hid HN
          go_wp2
          go_ret
          exact ⟨by rw [HV.out, ← HN2.out]; rfl, rfl⟩
end Go.Proofs.YtpoelhnceebmkaaGreatDoor
