/- expr.Unary and expr.Binary: each operation on words. Conditions: the operation's number, words below 2^32. -/
import Derived.Test.YtnjampfhkojbnaaGreatDoorGP
import Derived.Test.YtnjampfhkojbnaaGreatDoorGBase
import Derived.Test.YtnjampfhkojbnaaGreatDoorProg
import Derived.Deep.RegionWith
import Derived.Deep.QuietTactic
import Derived.BigQuiet
import Derived.Lib.SmallJoins
import Derived.Lib.Hide
import Derived.IntWalk
import Derived.Laws.BitsAllLaws

namespace Go.Proofs.YtnjampfhkojbnaaGreatDoor
open Go Go.RowKit
set_option linter.unusedSimpArgs false
set_option linter.unusedVariables false

def unS (k : Nat) : ByteArray := match k with
  | 0 => ⟨#[45]⟩
  | 1 => ⟨#[126]⟩
  | _ => ⟨#[33]⟩
def binS (k : Nat) : ByteArray := match k with
  | 0 => ⟨#[124, 124]⟩
  | 1 => ⟨#[38, 38]⟩
  | 2 => ⟨#[124]⟩
  | 3 => ⟨#[94]⟩
  | 4 => ⟨#[38]⟩
  | 5 => ⟨#[61, 61]⟩
  | 6 => ⟨#[33, 61]⟩
  | 7 => ⟨#[60]⟩
  | 8 => ⟨#[60, 61]⟩
  | 9 => ⟨#[62]⟩
  | 10 => ⟨#[62, 61]⟩
  | 11 => ⟨#[60, 60]⟩
  | 12 => ⟨#[62, 62]⟩
  | 13 => ⟨#[43]⟩
  | 14 => ⟨#[45]⟩
  | 15 => ⟨#[42]⟩
  | 16 => ⟨#[47]⟩
  | _ => ⟨#[37]⟩
theorem wrap_sgn (x : Nat) (hx : x < 4294967296) : wrap32 (x : Int) = sgn x := by unfold wrap32 sgn; split <;> omega
theorem mod_w32 (n : Int) : n % 4294967296 = ((w32 n : Nat) : Int) := by unfold w32; omega
theorem wrap_w32 (n : Int) : wrap32 n % 4294967296 = ((w32 n : Nat) : Int) := by unfold w32 wrap32; omega
theorem w32_wrap (n : Int) : w32 (wrap32 n) = w32 n := by unfold w32 wrap32; omega
theorem sgn_zero {x : Nat} (hx : x < 4294967296) (h : x ≠ 0) : sgn x ≠ 0 := by unfold sgn; split <;> omega
theorem ieq (x y : Nat) : ((x : Int) == (y : Int)) = (x == y) := by rw [Bool.eq_iff_iff, beq_iff_eq, beq_iff_eq]; omega
theorem ine (x y : Nat) : ((x : Int) != (y : Int)) = (x != y) := by unfold bne; rw [ieq]
theorem ieq0 (x : Nat) : ((x : Int) == 0) = (x == 0) := ieq x 0
theorem ine0 (x : Nat) : ((x : Int) != 0) = (x != 0) := ine x 0
theorem notN (x : Nat) (hx : x < 4294967296) : bits .xor .u32 IntKind.u32.max (x : Int) = ((4294967295 - x : Nat) : Int) := by
  show bits .xor .u32 ((4294967295 : Nat) : Int) (x : Int) = _
  rw [u32_xor_nat 4294967295 x (by decide) hx]
  have h1 : 4294967295 ^^^ x = 4294967295 - x := by
    apply Nat.eq_of_testBit_eq
    intro i
    rw [Nat.testBit_xor, show 4294967295 = 2 ^ 32 - 1 from rfl, show 2 ^ 32 - 1 - x = 2 ^ 32 - (x + 1) by omega, show 2 ^ 32 - 1 = 2 ^ 32 - (0 + 1) by omega, Nat.testBit_two_pow_sub_succ (by decide), Nat.testBit_two_pow_sub_succ (by omega)]
    by_cases hi : i < 32
    · simp [hi]
    · simp only [hi, decide_false, Bool.false_xor, Bool.false_and]
      exact Nat.testBit_lt_two_pow (Nat.lt_of_lt_of_le (show x < 2 ^ 32 by omega) (Nat.pow_le_pow_right (by decide) (by omega)))
  rw [h1]
theorem truth_any (b : Bool) (w : World) : Calls Tryz.prog 144 #[.bool b] w fun e w' => e = .returned (.int .u32 (boolW b : Int)) ∧ w' = w := by
  cases b
  · go_enter Tryz.func144, Tryz.ntmps144
    go_wp2
    go_ret
    exact ⟨rfl, rfl⟩
  · go_enter Tryz.func144, Tryz.ntmps144
    go_wp2
    go_ret
    exact ⟨rfl, rfl⟩
set_option maxHeartbeats 1000000 in
theorem un0 (x : Nat) (w : World) (hx : x < 4294967296) : Calls Tryz.prog 125 #[.string ⟨#[45]⟩, .int .u32 (x : Int)] w fun e w' => e = .returned (.tuple #[.int .u32 (unV 0 x : Int), .bool true]) ∧ w' = w := by
  obtain ⟨V, hV⟩ : ∃ V : Int, V = (unV 0 x : Int) := ⟨_, rfl⟩
  rw [← hV]
  have HV := Lib.hid hV
  clear hV
  go_enter Tryz.func125, Tryz.ntmps125
  go_wp2_with ((go_at_call 144; refine (truth_any _ _).mono ?_; rintro e w1 ⟨rfl, rfl⟩))
  all_goals refine bodyPost_ret (v := .tuple #[.int .u32 V, .bool true]) (by simp [results, Tryz.results125, go_sem, HV.out, unV, mod_w32]) rfl ⟨rfl, rfl⟩
set_option maxHeartbeats 1000000 in
theorem un1 (x : Nat) (w : World) (hx : x < 4294967296) : Calls Tryz.prog 125 #[.string ⟨#[126]⟩, .int .u32 (x : Int)] w fun e w' => e = .returned (.tuple #[.int .u32 (unV 1 x : Int), .bool true]) ∧ w' = w := by
  obtain ⟨V, hV⟩ : ∃ V : Int, V = (unV 1 x : Int) := ⟨_, rfl⟩
  rw [← hV]
  have HV := Lib.hid hV
  clear hV
  go_enter Tryz.func125, Tryz.ntmps125
  go_wp2_with ((go_at_call 144; refine (truth_any _ _).mono ?_; rintro e w1 ⟨rfl, rfl⟩))
  all_goals refine bodyPost_ret (v := .tuple #[.int .u32 V, .bool true]) (by simp [results, Tryz.results125, go_sem, HV.out, unV, notN x hx]) rfl ⟨rfl, rfl⟩
set_option maxHeartbeats 1000000 in
theorem un2 (x : Nat) (w : World) (hx : x < 4294967296) : Calls Tryz.prog 125 #[.string ⟨#[33]⟩, .int .u32 (x : Int)] w fun e w' => e = .returned (.tuple #[.int .u32 (unV 2 x : Int), .bool true]) ∧ w' = w := by
  obtain ⟨V, hV⟩ : ∃ V : Int, V = (unV 2 x : Int) := ⟨_, rfl⟩
  rw [← hV]
  have HV := Lib.hid hV
  clear hV
  go_enter Tryz.func125, Tryz.ntmps125
  go_wp2_with ((go_at_call 144; refine (truth_any _ _).mono ?_; rintro e w1 ⟨rfl, rfl⟩))
  all_goals refine bodyPost_ret (v := .tuple #[.int .u32 V, .bool true]) (by simp [results, Tryz.results125, go_sem, HV.out, unV, ieq0]) rfl ⟨rfl, rfl⟩
set_option maxHeartbeats 1000000 in
theorem bin0 (x y : Nat) (w : World) (hx : x < 4294967296) (hy : y < 4294967296) : Calls Tryz.prog 126 #[.string ⟨#[124, 124]⟩, .int .u32 (x : Int), .int .u32 (y : Int)] w fun e w' => e = .returned (.tuple #[.int .u32 (binV 0 x y : Int), .bool true]) ∧ w' = w := by
  obtain ⟨V, hV⟩ : ∃ V : Int, V = (binV 0 x y : Int) := ⟨_, rfl⟩
  rw [← hV]
  have HV := Lib.hid hV
  clear hV
  have q0 : V = ((boolW (x != 0 || y != 0) : Nat) : Int) := HV.out
  clear HV
  have q1 := ine0 x
  have q2 := ine0 y
  cases h1 : (x != 0) <;> cases h2 : (y != 0)
  all_goals
    rw [h1] at q0 q1
    rw [h2] at q0 q2
    simp only [Bool.or_self, Bool.and_self, Bool.or_true, Bool.true_or, Bool.or_false, Bool.false_or, Bool.and_true, Bool.true_and, Bool.and_false, Bool.false_and] at q0
    have HV := Lib.hid q0
    clear q0 h1 h2
    go_enter Tryz.func126, Tryz.ntmps126
    go_wp2_with ((go_at_call 144; refine (truth_any _ _).mono ?_; rintro e w1 ⟨rfl, rfl⟩))
    all_goals refine bodyPost_ret (v := .tuple #[.int .u32 V, .bool true]) (by simp [results, Tryz.results126, go_sem, HV.out, q1, q2]) rfl ⟨rfl, rfl⟩
set_option maxHeartbeats 1000000 in
theorem bin1 (x y : Nat) (w : World) (hx : x < 4294967296) (hy : y < 4294967296) : Calls Tryz.prog 126 #[.string ⟨#[38, 38]⟩, .int .u32 (x : Int), .int .u32 (y : Int)] w fun e w' => e = .returned (.tuple #[.int .u32 (binV 1 x y : Int), .bool true]) ∧ w' = w := by
  obtain ⟨V, hV⟩ : ∃ V : Int, V = (binV 1 x y : Int) := ⟨_, rfl⟩
  rw [← hV]
  have HV := Lib.hid hV
  clear hV
  have q0 : V = ((boolW (x != 0 && y != 0) : Nat) : Int) := HV.out
  clear HV
  have q1 := ine0 x
  have q2 := ine0 y
  cases h1 : (x != 0) <;> cases h2 : (y != 0)
  all_goals
    rw [h1] at q0 q1
    rw [h2] at q0 q2
    simp only [Bool.or_self, Bool.and_self, Bool.or_true, Bool.true_or, Bool.or_false, Bool.false_or, Bool.and_true, Bool.true_and, Bool.and_false, Bool.false_and] at q0
    have HV := Lib.hid q0
    clear q0 h1 h2
    go_enter Tryz.func126, Tryz.ntmps126
    go_wp2_with ((go_at_call 144; refine (truth_any _ _).mono ?_; rintro e w1 ⟨rfl, rfl⟩))
    all_goals refine bodyPost_ret (v := .tuple #[.int .u32 V, .bool true]) (by simp [results, Tryz.results126, go_sem, HV.out, q1, q2]) rfl ⟨rfl, rfl⟩
set_option maxHeartbeats 1000000 in
theorem bin2 (x y : Nat) (w : World) (hx : x < 4294967296) (hy : y < 4294967296) : Calls Tryz.prog 126 #[.string ⟨#[124]⟩, .int .u32 (x : Int), .int .u32 (y : Int)] w fun e w' => e = .returned (.tuple #[.int .u32 (binV 2 x y : Int), .bool true]) ∧ w' = w := by
  obtain ⟨V, hV⟩ : ∃ V : Int, V = (binV 2 x y : Int) := ⟨_, rfl⟩
  rw [← hV]
  have HV := Lib.hid hV
  clear hV
  go_enter Tryz.func126, Tryz.ntmps126
  go_wp2_with ((go_at_call 144; refine (truth_any _ _).mono ?_; rintro e w1 ⟨rfl, rfl⟩))
  all_goals refine bodyPost_ret (v := .tuple #[.int .u32 V, .bool true]) (by simp [results, Tryz.results126, go_sem, HV.out, binV, u32_or_nat x y hx hy]) rfl ⟨rfl, rfl⟩
set_option maxHeartbeats 1000000 in
theorem bin3 (x y : Nat) (w : World) (hx : x < 4294967296) (hy : y < 4294967296) : Calls Tryz.prog 126 #[.string ⟨#[94]⟩, .int .u32 (x : Int), .int .u32 (y : Int)] w fun e w' => e = .returned (.tuple #[.int .u32 (binV 3 x y : Int), .bool true]) ∧ w' = w := by
  obtain ⟨V, hV⟩ : ∃ V : Int, V = (binV 3 x y : Int) := ⟨_, rfl⟩
  rw [← hV]
  have HV := Lib.hid hV
  clear hV
  go_enter Tryz.func126, Tryz.ntmps126
  go_wp2_with ((go_at_call 144; refine (truth_any _ _).mono ?_; rintro e w1 ⟨rfl, rfl⟩))
  all_goals refine bodyPost_ret (v := .tuple #[.int .u32 V, .bool true]) (by simp [results, Tryz.results126, go_sem, HV.out, binV, u32_xor_nat x y hx hy]) rfl ⟨rfl, rfl⟩
set_option maxHeartbeats 1000000 in
theorem bin4 (x y : Nat) (w : World) (hx : x < 4294967296) (hy : y < 4294967296) : Calls Tryz.prog 126 #[.string ⟨#[38]⟩, .int .u32 (x : Int), .int .u32 (y : Int)] w fun e w' => e = .returned (.tuple #[.int .u32 (binV 4 x y : Int), .bool true]) ∧ w' = w := by
  obtain ⟨V, hV⟩ : ∃ V : Int, V = (binV 4 x y : Int) := ⟨_, rfl⟩
  rw [← hV]
  have HV := Lib.hid hV
  clear hV
  go_enter Tryz.func126, Tryz.ntmps126
  go_wp2_with ((go_at_call 144; refine (truth_any _ _).mono ?_; rintro e w1 ⟨rfl, rfl⟩))
  all_goals refine bodyPost_ret (v := .tuple #[.int .u32 V, .bool true]) (by simp [results, Tryz.results126, go_sem, HV.out, binV, u32_and_nat x y hx hy]) rfl ⟨rfl, rfl⟩
set_option maxHeartbeats 1000000 in
theorem bin5 (x y : Nat) (w : World) (hx : x < 4294967296) (hy : y < 4294967296) : Calls Tryz.prog 126 #[.string ⟨#[61, 61]⟩, .int .u32 (x : Int), .int .u32 (y : Int)] w fun e w' => e = .returned (.tuple #[.int .u32 (binV 5 x y : Int), .bool true]) ∧ w' = w := by
  obtain ⟨V, hV⟩ : ∃ V : Int, V = (binV 5 x y : Int) := ⟨_, rfl⟩
  rw [← hV]
  have HV := Lib.hid hV
  clear hV
  go_enter Tryz.func126, Tryz.ntmps126
  go_wp2_with ((go_at_call 144; refine (truth_any _ _).mono ?_; rintro e w1 ⟨rfl, rfl⟩))
  all_goals refine bodyPost_ret (v := .tuple #[.int .u32 V, .bool true]) (by simp [results, Tryz.results126, go_sem, HV.out, binV, ieq]) rfl ⟨rfl, rfl⟩
set_option maxHeartbeats 1000000 in
theorem bin6 (x y : Nat) (w : World) (hx : x < 4294967296) (hy : y < 4294967296) : Calls Tryz.prog 126 #[.string ⟨#[33, 61]⟩, .int .u32 (x : Int), .int .u32 (y : Int)] w fun e w' => e = .returned (.tuple #[.int .u32 (binV 6 x y : Int), .bool true]) ∧ w' = w := by
  obtain ⟨V, hV⟩ : ∃ V : Int, V = (binV 6 x y : Int) := ⟨_, rfl⟩
  rw [← hV]
  have HV := Lib.hid hV
  clear hV
  go_enter Tryz.func126, Tryz.ntmps126
  go_wp2_with ((go_at_call 144; refine (truth_any _ _).mono ?_; rintro e w1 ⟨rfl, rfl⟩))
  all_goals refine bodyPost_ret (v := .tuple #[.int .u32 V, .bool true]) (by simp [results, Tryz.results126, go_sem, HV.out, binV, ine]) rfl ⟨rfl, rfl⟩
set_option maxHeartbeats 1000000 in
theorem bin7 (x y : Nat) (w : World) (hx : x < 4294967296) (hy : y < 4294967296) : Calls Tryz.prog 126 #[.string ⟨#[60]⟩, .int .u32 (x : Int), .int .u32 (y : Int)] w fun e w' => e = .returned (.tuple #[.int .u32 (binV 7 x y : Int), .bool true]) ∧ w' = w := by
  obtain ⟨V, hV⟩ : ∃ V : Int, V = (binV 7 x y : Int) := ⟨_, rfl⟩
  rw [← hV]
  have HV := Lib.hid hV
  clear hV
  go_enter Tryz.func126, Tryz.ntmps126
  go_wp2_with ((go_at_call 144; refine (truth_any _ _).mono ?_; rintro e w1 ⟨rfl, rfl⟩))
  all_goals refine bodyPost_ret (v := .tuple #[.int .u32 V, .bool true]) (by simp [results, Tryz.results126, go_sem, HV.out, binV, wrap_sgn x hx, wrap_sgn y hy]) rfl ⟨rfl, rfl⟩
set_option maxHeartbeats 1000000 in
theorem bin8 (x y : Nat) (w : World) (hx : x < 4294967296) (hy : y < 4294967296) : Calls Tryz.prog 126 #[.string ⟨#[60, 61]⟩, .int .u32 (x : Int), .int .u32 (y : Int)] w fun e w' => e = .returned (.tuple #[.int .u32 (binV 8 x y : Int), .bool true]) ∧ w' = w := by
  obtain ⟨V, hV⟩ : ∃ V : Int, V = (binV 8 x y : Int) := ⟨_, rfl⟩
  rw [← hV]
  have HV := Lib.hid hV
  clear hV
  go_enter Tryz.func126, Tryz.ntmps126
  go_wp2_with ((go_at_call 144; refine (truth_any _ _).mono ?_; rintro e w1 ⟨rfl, rfl⟩))
  all_goals refine bodyPost_ret (v := .tuple #[.int .u32 V, .bool true]) (by simp [results, Tryz.results126, go_sem, HV.out, binV, wrap_sgn x hx, wrap_sgn y hy]) rfl ⟨rfl, rfl⟩
set_option maxHeartbeats 1000000 in
theorem bin9 (x y : Nat) (w : World) (hx : x < 4294967296) (hy : y < 4294967296) : Calls Tryz.prog 126 #[.string ⟨#[62]⟩, .int .u32 (x : Int), .int .u32 (y : Int)] w fun e w' => e = .returned (.tuple #[.int .u32 (binV 9 x y : Int), .bool true]) ∧ w' = w := by
  obtain ⟨V, hV⟩ : ∃ V : Int, V = (binV 9 x y : Int) := ⟨_, rfl⟩
  rw [← hV]
  have HV := Lib.hid hV
  clear hV
  go_enter Tryz.func126, Tryz.ntmps126
  go_wp2_with ((go_at_call 144; refine (truth_any _ _).mono ?_; rintro e w1 ⟨rfl, rfl⟩))
  all_goals refine bodyPost_ret (v := .tuple #[.int .u32 V, .bool true]) (by simp [results, Tryz.results126, go_sem, HV.out, binV, wrap_sgn x hx, wrap_sgn y hy]) rfl ⟨rfl, rfl⟩
set_option maxHeartbeats 1000000 in
theorem bin10 (x y : Nat) (w : World) (hx : x < 4294967296) (hy : y < 4294967296) : Calls Tryz.prog 126 #[.string ⟨#[62, 61]⟩, .int .u32 (x : Int), .int .u32 (y : Int)] w fun e w' => e = .returned (.tuple #[.int .u32 (binV 10 x y : Int), .bool true]) ∧ w' = w := by
  obtain ⟨V, hV⟩ : ∃ V : Int, V = (binV 10 x y : Int) := ⟨_, rfl⟩
  rw [← hV]
  have HV := Lib.hid hV
  clear hV
  go_enter Tryz.func126, Tryz.ntmps126
  go_wp2_with ((go_at_call 144; refine (truth_any _ _).mono ?_; rintro e w1 ⟨rfl, rfl⟩))
  all_goals refine bodyPost_ret (v := .tuple #[.int .u32 V, .bool true]) (by simp [results, Tryz.results126, go_sem, HV.out, binV, wrap_sgn x hx, wrap_sgn y hy]) rfl ⟨rfl, rfl⟩
set_option maxHeartbeats 1000000 in
theorem bin11 (x y : Nat) (w : World) (hx : x < 4294967296) (hy : y < 4294967296) : Calls Tryz.prog 126 #[.string ⟨#[60, 60]⟩, .int .u32 (x : Int), .int .u32 (y : Int)] w fun e w' => e = .returned (.tuple #[.int .u32 (binV 11 x y : Int), .bool true]) ∧ w' = w := by
  obtain ⟨V, hV⟩ : ∃ V : Int, V = (binV 11 x y : Int) := ⟨_, rfl⟩
  rw [← hV]
  have HV := Lib.hid hV
  clear hV
  go_enter Tryz.func126, Tryz.ntmps126
  go_wp2_with ((go_at_call 144; refine (truth_any _ _).mono ?_; rintro e w1 ⟨rfl, rfl⟩))
  all_goals refine bodyPost_ret (v := .tuple #[.int .u32 V, .bool true]) (by simp [results, Tryz.results126, go_sem, HV.out, binV, mod_w32]) rfl ⟨rfl, rfl⟩
set_option maxHeartbeats 1000000 in
theorem bin12 (x y : Nat) (w : World) (hx : x < 4294967296) (hy : y < 4294967296) : Calls Tryz.prog 126 #[.string ⟨#[62, 62]⟩, .int .u32 (x : Int), .int .u32 (y : Int)] w fun e w' => e = .returned (.tuple #[.int .u32 (binV 12 x y : Int), .bool true]) ∧ w' = w := by
  obtain ⟨V, hV⟩ : ∃ V : Int, V = (binV 12 x y : Int) := ⟨_, rfl⟩
  rw [← hV]
  have HV := Lib.hid hV
  clear hV
  go_enter Tryz.func126, Tryz.ntmps126
  go_wp2_with ((go_at_call 144; refine (truth_any _ _).mono ?_; rintro e w1 ⟨rfl, rfl⟩))
  all_goals refine bodyPost_ret (v := .tuple #[.int .u32 V, .bool true]) (by simp [results, Tryz.results126, go_sem, HV.out, binV, mod_w32, wrap_sgn x hx, wrap_sgn y hy]) rfl ⟨rfl, rfl⟩
set_option maxHeartbeats 1000000 in
theorem bin13 (x y : Nat) (w : World) (hx : x < 4294967296) (hy : y < 4294967296) : Calls Tryz.prog 126 #[.string ⟨#[43]⟩, .int .u32 (x : Int), .int .u32 (y : Int)] w fun e w' => e = .returned (.tuple #[.int .u32 (binV 13 x y : Int), .bool true]) ∧ w' = w := by
  obtain ⟨V, hV⟩ : ∃ V : Int, V = (binV 13 x y : Int) := ⟨_, rfl⟩
  rw [← hV]
  have HV := Lib.hid hV
  clear hV
  go_enter Tryz.func126, Tryz.ntmps126
  go_wp2_with ((go_at_call 144; refine (truth_any _ _).mono ?_; rintro e w1 ⟨rfl, rfl⟩))
  all_goals refine bodyPost_ret (v := .tuple #[.int .u32 V, .bool true]) (by simp [results, Tryz.results126, go_sem, HV.out, binV, mod_w32]) rfl ⟨rfl, rfl⟩
set_option maxHeartbeats 1000000 in
theorem bin14 (x y : Nat) (w : World) (hx : x < 4294967296) (hy : y < 4294967296) : Calls Tryz.prog 126 #[.string ⟨#[45]⟩, .int .u32 (x : Int), .int .u32 (y : Int)] w fun e w' => e = .returned (.tuple #[.int .u32 (binV 14 x y : Int), .bool true]) ∧ w' = w := by
  obtain ⟨V, hV⟩ : ∃ V : Int, V = (binV 14 x y : Int) := ⟨_, rfl⟩
  rw [← hV]
  have HV := Lib.hid hV
  clear hV
  go_enter Tryz.func126, Tryz.ntmps126
  go_wp2_with ((go_at_call 144; refine (truth_any _ _).mono ?_; rintro e w1 ⟨rfl, rfl⟩))
  all_goals refine bodyPost_ret (v := .tuple #[.int .u32 V, .bool true]) (by simp [results, Tryz.results126, go_sem, HV.out, binV, mod_w32]) rfl ⟨rfl, rfl⟩
set_option maxHeartbeats 1000000 in
theorem bin15 (x y : Nat) (w : World) (hx : x < 4294967296) (hy : y < 4294967296) : Calls Tryz.prog 126 #[.string ⟨#[42]⟩, .int .u32 (x : Int), .int .u32 (y : Int)] w fun e w' => e = .returned (.tuple #[.int .u32 (binV 15 x y : Int), .bool true]) ∧ w' = w := by
  obtain ⟨V, hV⟩ : ∃ V : Int, V = (binV 15 x y : Int) := ⟨_, rfl⟩
  rw [← hV]
  have HV := Lib.hid hV
  clear hV
  go_enter Tryz.func126, Tryz.ntmps126
  go_wp2_with ((go_at_call 144; refine (truth_any _ _).mono ?_; rintro e w1 ⟨rfl, rfl⟩))
  all_goals refine bodyPost_ret (v := .tuple #[.int .u32 V, .bool true]) (by simp [results, Tryz.results126, go_sem, HV.out, binV, mod_w32]) rfl ⟨rfl, rfl⟩
set_option maxHeartbeats 1000000 in
theorem bin16 (x y : Nat) (w : World) (hx : x < 4294967296) (hy : y < 4294967296) : Calls Tryz.prog 126 #[.string ⟨#[47]⟩, .int .u32 (x : Int), .int .u32 (y : Int)] w fun e w' => e = .returned (.tuple #[.int .u32 (binV 16 x y : Int), .bool true]) ∧ w' = w := by
  obtain ⟨V, hV⟩ : ∃ V : Int, V = (binV 16 x y : Int) := ⟨_, rfl⟩
  rw [← hV]
  have HV := Lib.hid hV
  clear hV
  by_cases h0 : y = 0
  · subst h0
    have HW := Lib.hid (show V = 0 from HV.out)
    clear HV
    go_enter Tryz.func126, Tryz.ntmps126
    go_wp2_with ((go_at_call 144; refine (truth_any _ _).mono ?_; rintro e w1 ⟨rfl, rfl⟩))
    all_goals refine bodyPost_ret (v := .tuple #[.int .u32 V, .bool true]) (by simp [results, Tryz.results126, go_sem, HW.out]) rfl ⟨rfl, rfl⟩
  · have q0 : V = ((w32 ((sgn x).tdiv (sgn y)) : Nat) : Int) := by rw [HV.out]; show (((if y = 0 then _ else _ : Nat)) : Int) = _; rw [if_neg h0]
    have HW := Lib.hid q0
    clear q0 HV
    have q1 : ((y : Int) == 0) = false := by rw [ieq0]; exact beq_false_of_ne h0
    have q2 : ¬ wrap32 (y : Int) = 0 := by rw [wrap_sgn y hy]; exact sgn_zero hy h0
    go_enter Tryz.func126, Tryz.ntmps126
    go_wp2_with ((go_at_call 144; refine (truth_any _ _).mono ?_; rintro e w1 ⟨rfl, rfl⟩))
    all_goals refine bodyPost_ret (v := .tuple #[.int .u32 V, .bool true]) (by simp [results, Tryz.results126, go_sem, HW.out, wrap_sgn x hx, wrap_sgn y hy, mod_w32, w32_wrap]) rfl ⟨rfl, rfl⟩
set_option maxHeartbeats 1000000 in
theorem bin17 (x y : Nat) (w : World) (hx : x < 4294967296) (hy : y < 4294967296) : Calls Tryz.prog 126 #[.string ⟨#[37]⟩, .int .u32 (x : Int), .int .u32 (y : Int)] w fun e w' => e = .returned (.tuple #[.int .u32 (binV 17 x y : Int), .bool true]) ∧ w' = w := by
  obtain ⟨V, hV⟩ : ∃ V : Int, V = (binV 17 x y : Int) := ⟨_, rfl⟩
  rw [← hV]
  have HV := Lib.hid hV
  clear hV
  by_cases h0 : y = 0
  · subst h0
    have HW := Lib.hid (show V = (x : Int) from HV.out)
    clear HV
    go_enter Tryz.func126, Tryz.ntmps126
    go_wp2_with ((go_at_call 144; refine (truth_any _ _).mono ?_; rintro e w1 ⟨rfl, rfl⟩))
    all_goals refine bodyPost_ret (v := .tuple #[.int .u32 V, .bool true]) (by simp [results, Tryz.results126, go_sem, HW.out]) rfl ⟨rfl, rfl⟩
  · have q0 : V = ((w32 ((sgn x).tmod (sgn y)) : Nat) : Int) := by rw [HV.out]; show (((if y = 0 then _ else _ : Nat)) : Int) = _; rw [if_neg h0]
    have HW := Lib.hid q0
    clear q0 HV
    have q1 : ((y : Int) == 0) = false := by rw [ieq0]; exact beq_false_of_ne h0
    have q2 : ¬ wrap32 (y : Int) = 0 := by rw [wrap_sgn y hy]; exact sgn_zero hy h0
    go_enter Tryz.func126, Tryz.ntmps126
    go_wp2_with ((go_at_call 144; refine (truth_any _ _).mono ?_; rintro e w1 ⟨rfl, rfl⟩))
    all_goals refine bodyPost_ret (v := .tuple #[.int .u32 V, .bool true]) (by simp [results, Tryz.results126, go_sem, HW.out, wrap_sgn x hx, wrap_sgn y hy, mod_w32, w32_wrap]) rfl ⟨rfl, rfl⟩
theorem unary_any (k x : Nat) (w : World) (hk : k < 3) (hx : x < 4294967296) : Calls Tryz.prog 125 #[.string (unS k), .int .u32 (x : Int)] w fun e w' => e = .returned (.tuple #[.int .u32 (unV k x : Int), .bool true]) ∧ w' = w := by
  match k, hk with
  | 0, _ => exact un0 x w hx
  | 1, _ => exact un1 x w hx
  | 2, _ => exact un2 x w hx
theorem binary_any (k x y : Nat) (w : World) (hk : k < 18) (hx : x < 4294967296) (hy : y < 4294967296) : Calls Tryz.prog 126 #[.string (binS k), .int .u32 (x : Int), .int .u32 (y : Int)] w fun e w' => e = .returned (.tuple #[.int .u32 (binV k x y : Int), .bool true]) ∧ w' = w := by
  match k, hk with
  | 0, _ => exact bin0 x y w hx hy
  | 1, _ => exact bin1 x y w hx hy
  | 2, _ => exact bin2 x y w hx hy
  | 3, _ => exact bin3 x y w hx hy
  | 4, _ => exact bin4 x y w hx hy
  | 5, _ => exact bin5 x y w hx hy
  | 6, _ => exact bin6 x y w hx hy
  | 7, _ => exact bin7 x y w hx hy
  | 8, _ => exact bin8 x y w hx hy
  | 9, _ => exact bin9 x y w hx hy
  | 10, _ => exact bin10 x y w hx hy
  | 11, _ => exact bin11 x y w hx hy
  | 12, _ => exact bin12 x y w hx hy
  | 13, _ => exact bin13 x y w hx hy
  | 14, _ => exact bin14 x y w hx hy
  | 15, _ => exact bin15 x y w hx hy
  | 16, _ => exact bin16 x y w hx hy
  | 17, _ => exact bin17 x y w hx hy
  | n + 18, h => exact absurd h (by omega)
end Go.Proofs.YtnjampfhkojbnaaGreatDoor

