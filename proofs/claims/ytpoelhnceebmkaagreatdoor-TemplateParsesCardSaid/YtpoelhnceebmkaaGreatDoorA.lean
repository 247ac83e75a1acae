/- Small functions of package template and of its reference, on one byte or rune. No conditions. -/
import Derived.Test.YtpoelhnceebmkaaGreatDoorBlk
import Derived.Test.YtpoelhnceebmkaaGreatDoorShelf
namespace Go.Proofs.YtpoelhnceebmkaaGreatDoor
open Go Go.RowKit Go.Shelf
set_option linter.unusedSimpArgs false
set_option linter.unusedVariables false

/-- What a byte of a word stands for; 0 for other bytes. -/
def smN (n : Nat) : Nat := if 65 ≤ n ∧ n ≤ 90 then n + 32 else if (97 ≤ n ∧ n ≤ 122) ∨ (48 ≤ n ∧ n ≤ 57) then n else 0
def sm (c : UInt8) : UInt8 := UInt8.ofNat (smN c.toNat)
theorem smN_lt (n : Nat) (h : n < 256) : smN n < 128 := by unfold smN; split <;> (try split) <;> omega
theorem sm_nat (c : UInt8) : (sm c).toNat = smN c.toNat := by
  have := smN_lt c.toNat c.toNat_lt
  simp [sm]; omega
theorem sm_zero (c : UInt8) : sm c = 0 ↔ smN c.toNat = 0 := by
  rw [← sm_nat, ← UInt8.toNat_inj]; rfl
/-- mapped of a rune. -/
def mapR (r : Int) : Int := if 65 ≤ r ∧ r ≤ 90 then r + 32 else if (97 ≤ r ∧ r ≤ 122) ∨ (48 ≤ r ∧ r ≤ 57) then r else -1
theorem mapR_byte (n : Nat) : mapR n = if smN n = 0 then -1 else (smN n : Int) := by
  unfold mapR smN
  by_cases h1 : 65 ≤ n ∧ n ≤ 90
  · rw [if_pos (by omega), if_pos h1, if_neg (by omega)]; omega
  · rw [if_neg (by omega), if_neg h1]
    by_cases h2 : (97 ≤ n ∧ n ≤ 122) ∨ (48 ≤ n ∧ n ≤ 57)
    · rw [if_pos (by omega), if_pos h2, if_neg (by omega)]
    · rw [if_neg (by omega), if_neg h2, if_pos rfl]

set_option maxRecDepth 100000 in
set_option maxHeartbeats 1000000 in
theorem mapped_any (r : Int) (w : World) (h0 : 0 ≤ r) (h1 : r ≤ 1114111) : Calls Tryz.prog 59 #[.int .i32 r] w fun e w' => e = .returned (.int .i32 (mapR r)) ∧ w = w' := by
  unfold mapR
  by_cases a1 : 65 ≤ r
  · by_cases a2 : r ≤ 90
    · rw [if_pos ⟨a1, a2⟩]
      have u1 : IntKind.i32.wrap (r - 65) = r - 65 := IntWalk.i32_in _ (by omega)
      have u2 : IntKind.i32.wrap (r - 65 + 97) = r + 32 := by rw [show r - 65 + 97 = r + 32 by omega]; exact IntWalk.i32_in _ (by omega)
      go_enter Tryz.func59, Tryz.ntmps59
      go_wp2
      go_ret
      exact ⟨rfl, rfl⟩
    · rw [if_neg (by omega)]
      by_cases a3 : 97 ≤ r
      · by_cases a4 : r ≤ 122
        · rw [if_pos (.inl ⟨a3, a4⟩)]
          go_enter Tryz.func59, Tryz.ntmps59
          go_wp2
          go_ret
          exact ⟨rfl, rfl⟩
        · rw [if_neg (by omega)]
          have a5 : ¬ r ≤ 57 := by omega
          have a6 : 48 ≤ r := by omega
          go_enter Tryz.func59, Tryz.ntmps59
          go_wp2
          go_ret
          exact ⟨rfl, rfl⟩
      · rw [if_neg (by omega)]
        have a5 : ¬ r ≤ 57 := by omega
        have a6 : 48 ≤ r := by omega
        go_enter Tryz.func59, Tryz.ntmps59
        go_wp2
        go_ret
        exact ⟨rfl, rfl⟩
  · rw [if_neg (by omega)]
    have a3 : ¬ 97 ≤ r := by omega
    by_cases a6 : 48 ≤ r
    · by_cases a5 : r ≤ 57
      · rw [if_pos (.inr ⟨a6, a5⟩)]
        go_enter Tryz.func59, Tryz.ntmps59
        go_wp2
        go_ret
        exact ⟨rfl, rfl⟩
      · rw [if_neg (by omega)]
        go_enter Tryz.func59, Tryz.ntmps59
        go_wp2
        go_ret
        exact ⟨rfl, rfl⟩
    · rw [if_neg (by omega)]
      go_enter Tryz.func59, Tryz.ntmps59
      go_wp2
      go_ret
      exact ⟨rfl, rfl⟩
set_option maxRecDepth 100000 in
set_option maxHeartbeats 1000000 in
theorem small_any (n : Nat) (hn : n < 256) (w : World) : Calls Tryz.prog 68 #[.int .u8 n] w fun e w' => e = .returned (.int .u8 (smN n)) ∧ w = w' := by
  unfold smN
  have hz : (0 : Int) ≤ (n : Int) := by omega
  by_cases a1 : 65 ≤ n
  · have b1 : (65 : Int) ≤ (n : Int) := by omega
    by_cases a2 : n ≤ 90
    · have b2 : (n : Int) ≤ 90 := by omega
      rw [if_pos ⟨a1, a2⟩]
      have u1 : IntKind.u8.wrap ((n : Int) + 32) = (n : Int) + 32 := IntWalk.u8_in _ (by omega)
      go_enter Tryz.func68, Tryz.ntmps68
      go_wp2
      go_ret
      exact ⟨by simp, rfl⟩
    · have b2 : ¬ (n : Int) ≤ 90 := by omega
      rw [if_neg (by omega)]
      by_cases a3 : 97 ≤ n
      · have b3 : (97 : Int) ≤ (n : Int) := by omega
        by_cases a4 : n ≤ 122
        · have b4 : (n : Int) ≤ 122 := by omega
          rw [if_pos (.inl ⟨a3, a4⟩)]
          go_enter Tryz.func68, Tryz.ntmps68
          go_wp2
          go_ret
          exact ⟨rfl, rfl⟩
        · have b4 : ¬ (n : Int) ≤ 122 := by omega
          rw [if_neg (by omega)]
          have a5 : ¬ (n : Int) ≤ 57 := by omega
          have a6 : (48 : Int) ≤ (n : Int) := by omega
          go_enter Tryz.func68, Tryz.ntmps68
          go_wp2
          go_ret
          exact ⟨rfl, rfl⟩
      · have b3 : ¬ (97 : Int) ≤ (n : Int) := by omega
        rw [if_neg (by omega)]
        have a5 : ¬ (n : Int) ≤ 57 := by omega
        have a6 : (48 : Int) ≤ (n : Int) := by omega
        go_enter Tryz.func68, Tryz.ntmps68
        go_wp2
        go_ret
        exact ⟨rfl, rfl⟩
  · have b1 : ¬ (65 : Int) ≤ (n : Int) := by omega
    rw [if_neg (by omega)]
    have a3 : ¬ (97 : Int) ≤ (n : Int) := by omega
    by_cases a6 : 48 ≤ n
    · have b6 : (48 : Int) ≤ (n : Int) := by omega
      by_cases a5 : n ≤ 57
      · have b5 : (n : Int) ≤ 57 := by omega
        rw [if_pos (.inr ⟨a6, a5⟩)]
        go_enter Tryz.func68, Tryz.ntmps68
        go_wp2
        go_ret
        exact ⟨rfl, rfl⟩
      · have b5 : ¬ (n : Int) ≤ 57 := by omega
        rw [if_neg (by omega)]
        go_enter Tryz.func68, Tryz.ntmps68
        go_wp2
        go_ret
        exact ⟨rfl, rfl⟩
    · have b6 : ¬ (48 : Int) ≤ (n : Int) := by omega
      rw [if_neg (by omega)]
      go_enter Tryz.func68, Tryz.ntmps68
      go_wp2
      go_ret
      exact ⟨rfl, rfl⟩
end Go.Proofs.YtpoelhnceebmkaaGreatDoor
