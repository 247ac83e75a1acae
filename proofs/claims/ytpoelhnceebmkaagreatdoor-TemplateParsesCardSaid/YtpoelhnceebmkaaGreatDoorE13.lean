/- licitref35.hole: the walk and its plain law. Conditions: the text's size. -/
import Derived.Test.YtpoelhnceebmkaaGreatDoorE12
namespace Go.Proofs.YtpoelhnceebmkaaGreatDoor
open Go Go.RowKit Go.Shelf
set_option linter.unusedSimpArgs false
set_option linter.unusedVariables false

/-- From the try with n bytes on. -/
def rhV (s : ByteArray) (a : Nat) : Nat → Int × Int
  | 0 => (0, 0)
  | m + 1 => if s.data.toList[a + (2 - m) + 1]? = some 125 ∧ 0 < numR (s.extract (a + 1) (a + (2 - m) + 1)).data.toList then (numR (s.extract (a + 1) (a + (2 - m) + 1)).data.toList, ((a + (2 - m) + 2 : Nat) : Int)) else rhV s a m
theorem rhV_at {s : ByteArray} {a n : Nat} (h1 : 1 ≤ n) (h2 : n ≤ 2) : rhV s a (3 - n) = if s.data.toList[a + n + 1]? = some 125 ∧ 0 < numR (s.extract (a + 1) (a + n + 1)).data.toList then (numR (s.extract (a + 1) (a + n + 1)).data.toList, ((a + n + 2 : Nat) : Int)) else rhV s a (3 - (n + 1)) := by
  have : n = 1 ∨ n = 2 := by omega
  rcases this with rfl | rfl <;> rfl

set_option maxRecDepth 100000 in
set_option maxHeartbeats 2000000 in
theorem rhole_any (s : ByteArray) (a : Nat) (w : World) (hs : s.size ≤ 10000) (ha : a < s.size) : Calls Tryz.prog 40 #[.string s, .int .i64 a] w fun e w' => e = .returned (.tuple #[.int .i64 (rhV s a 2).1, .int .i64 (rhV s a 2).2]) ∧ w' = w := by
  obtain ⟨R, hR⟩ : ∃ R, rhV s a 2 = R := ⟨_, rfl⟩
  rw [hR]
  have HR : Hid (rhV s a (3 - 1) = R) := Lib.hid hR
  clear hR
  go_enter Tryz.func40, Tryz.ntmps40
  go_wp2
  go_loopw [6] (fun v6 wr => ∃ n : Nat, v6 = .int .i64 n ∧ 1 ≤ n ∧ n ≤ 3 ∧ wr = w ∧ Hid (rhV s a (3 - n) = R)) (fun v6 _ => 3 - (intOf v6).toNat)
  case atStart => exact ⟨1, rfl, by omega, by omega, rfl, HR⟩
  case round =>
    obtain ⟨n, rfl, h1, h2, rfl, H⟩ := hrel
    by_cases hn : n ≤ 2
    · have hat := rhV_at (s := s) (a := a) h1 hn
      rw [H.out] at hat
      have u1 : IntKind.i64.wrap ((a : Int) + (n : Int)) = ((a + n : Nat) : Int) := by rw [IntWalk.i64_in _ (by omega)]; omega
      have u2 : IntKind.i64.wrap (((a + n : Nat) : Int) + 1) = ((a + n + 1 : Nat) : Int) := by rw [IntWalk.i64_in _ (by omega)]; omega
      have u3 : IntKind.i64.wrap (((a + n : Nat) : Int) + 2) = ((a + n + 2 : Nat) : Int) := by rw [IntWalk.i64_in _ (by omega)]; omega
      have u4 : IntKind.i64.wrap ((a : Int) + 1) = ((a + 1 : Nat) : Int) := by rw [IntWalk.i64_in _ (by omega)]; omega
      by_cases hl : a + n + 1 < s.size
      · have t1 : decide (((a + n + 1 : Nat) : Int) < (s.size : Int)) = true := decide_eq_true (by omega)
        have i0 : (0 : Int) ≤ ((a + n + 1 : Nat) : Int) := by omega
        have hl2 : a + n + 1 < s.data.toList.length := by rw [← size_eq]; exact hl
        have hget : s.data.toList[a + n + 1]? = some s[a + n + 1] := by rw [get_eq s _ hl]; exact List.getElem?_eq_getElem hl2
        rw [hget] at hat
        have HAT := Lib.hid hat
        have hxx := UInt8.toNat_lt s[a + n + 1]
        have h125 : (some s[a + n + 1] = some (125 : UInt8)) ↔ s[a + n + 1].toNat = 125 := by
          rw [Option.some.injEq, ← UInt8.toNat_inj]; rfl
        clear hat hget
        by_cases hc : s[a + n + 1].toNat = 125
        · have c1 : ((s[a + n + 1].toNat : Int) == 125) = true := beq_iff_eq.2 (by omega)
          have hsz : (s.extract (a + 1) (a + n + 1)).size = n := by simp; omega
          have HNU := Lib.hid (number_any (s.extract (a + 1) (a + n + 1)) wr (by omega) (by omega))
          have HAT2 := Lib.hid (HAT.out)
          have H125 := Lib.hid (h125.2 hc)
          generalize numR (s.extract (a + 1) (a + n + 1)).data.toList = k at *
          have j1 : ((a + 1 : Nat) : Int) ≤ ((a + n + 1 : Nat) : Int) := by omega
          have j2 : ((a + n + 1 : Nat) : Int) ≤ (s.size : Int) := by omega
          have j3 : a + 1 ≤ a + n + 1 := by omega
          have j4 : a + n + 1 ≤ s.size := by omega
          clear hc h125 hxx HAT
          by_cases hk : 0 < k
          · have e := HAT2.out
            rw [if_pos ⟨H125.out, hk⟩] at e
            subst e
            go_wp2_with (go_at_call 67; refine HNU.out.mono ?_; rintro e w' ⟨rfl, rfl⟩)
            exact bodyPost_ret (v := .tuple #[.int .i64 k, .int .i64 (a + n + 2 : Nat)]) (by simp [results, Tryz.results40, go_sem]) rfl ⟨rfl, rfl⟩
          · have e := HAT2.out
            rw [if_neg (fun h => hk h.2)] at e
            have HE := Lib.hid e.symm
            clear e
            go_wp2_with (go_at_call 67; refine HNU.out.mono ?_; rintro e w' ⟨rfl, rfl⟩)
            go_roundw
            case rel =>
              first
                | exact ⟨n + 1, by go_num, by omega, by omega, trivial, HE⟩
                | ((repeat apply Exists.intro); refine ⟨⟨n + 1, ?_, by omega, by omega, trivial, HE⟩, rfl⟩; go_num)
            case measure => simp [intOf]; omega
        · have c1 : ((s[a + n + 1].toNat : Int) == 125) = false := beq_eq_false_iff_ne.2 (by omega)
          have e := HAT.out
          rw [if_neg (fun h => hc (h125.1 h.1))] at e
          have HE := Lib.hid e.symm
          clear e hc h125 hxx HAT
          go_wp2
          go_roundw
          case rel =>
            first
              | exact ⟨n + 1, by go_num, by omega, by omega, trivial, HE⟩
              | ((repeat apply Exists.intro); refine ⟨⟨n + 1, ?_, by omega, by omega, trivial, HE⟩, rfl⟩; go_num)
          case measure => simp [intOf]; omega
      · have t1 : decide (((a + n + 1 : Nat) : Int) < (s.size : Int)) = false := decide_eq_false (by omega)
        rw [if_neg (fun h => by rw [List.getElem?_eq_none (by rw [← size_eq]; omega)] at h; cases h.1)] at hat
        have HE := Lib.hid hat.symm
        clear hat
        go_wp2
        go_roundw
        case rel =>
          first
            | exact ⟨n + 1, by go_num, by omega, by omega, trivial, HE⟩
            | ((repeat apply Exists.intro); refine ⟨⟨n + 1, ?_, by omega, by omega, trivial, HE⟩, rfl⟩; go_num)
        case measure => simp [intOf]; omega
    · obtain rfl : n = 3 := by omega
      have e : ((0 : Int), (0 : Int)) = R := H.out
      subst e
      go_wp2
      exact bodyPost_ret (v := .tuple #[.int .i64 0, .int .i64 0]) (by simp [results, Tryz.results40, go_sem]) rfl ⟨rfl, rfl⟩
end Go.Proofs.YtpoelhnceebmkaaGreatDoor
