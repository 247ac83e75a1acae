/- The reference's decimal digits. No conditions but that the number is one of int and none below 0. -/
import Derived.Test.YtlecocmopeainaaDoorP
import Derived.Test.YtlecocmopeainaaDoorM11
namespace Go.Proofs.YtlecocmopeainaaDoor
open Go Go.RowKit Go.Joins Go.Shelf
set_option linter.unusedSimpArgs false
set_option linter.unusedVariables false

theorem itoa_low {n : Nat} (h : n < 10) : Lib.itoa (n : Int) = [UInt8.ofNat (48 + n)] := by
  rw [Lib.itoa, if_neg (by omega), Int.toNat_natCast, Lib.decDigits, dif_pos h]
theorem itoa_high {n : Nat} (h : 10 ≤ n) : Lib.itoa (n : Int) = Lib.itoa ((n / 10 : Nat) : Int) ++ Lib.itoa ((n % 10 : Nat) : Int) := by
  rw [Lib.itoa, if_neg (by omega), Int.toNat_natCast, Lib.itoa, if_neg (by omega), Int.toNat_natCast, Lib.itoa, if_neg (by omega), Int.toNat_natCast]
  conv => lhs; rw [Lib.decDigits, dif_neg (by omega)]
  rw [Lib.decDigits_one (i := n % 10) (by omega)]
theorem S_append (a b : List UInt8) : S (a ++ b) = S a ++ S b := by
  apply ByteArray.ext
  simp [S]
theorem convD (W : World) (g k : Nat) (hk : k < 10) (h : W.cell? ⟨g, 0, none⟩ = some (.int .u8 (48 + (k : Int)))) : (convert 60 9 (.slice (some ⟨g, 0, none⟩) 1 1)).run Tryd.prog W = .ok (.string (S (Lib.itoa (k : Int)))) W := by
  rw [itoa_low hk]
  have h8 : (UInt8.ofNat (48 + k)).toNat = 48 + k := by
    show (48 + k) % 256 = _; omega
  refine run_convert_bytes_back (P := Tryd.prog) W 60 9 5 ⟨g, 0, none⟩ 1 [UInt8.ofNat (48 + k)] Tryd.underlying60 Tryd.underlying5 Tryd.underlying9 (fun j hj => ?_)
  obtain rfl : j = 0 := by simpa using hj
  rw [add_none rfl, Nat.zero_add, h]
  show _ = some (Value.int .u8 ((UInt8.ofNat (48 + k)).toNat : Int))
  rw [h8]; simp

set_option maxRecDepth 100000 in
set_option maxHeartbeats 4000000 in
theorem decimal_low (n : Nat) (hn : n < 10) (w : World) :
    Calls Tryd.prog 55 #[.int .i64 n] w fun e w' => e = .returned (.string (S (Lib.itoa (n : Int)))) ∧ New w w' := by
  have CV : ∀ W g, W.cell? ⟨g, 0, none⟩ = some (.int .u8 (48 + (n : Int))) → (convert 60 9 (.slice (some ⟨g, 0, none⟩) 1 1)).run Tryd.prog W = .ok (.string (S (Lib.itoa (n : Int)))) W := fun W g h => convD W g n hn h
  have v0 : IntKind.i64.wrap (48 + (n : Int)) = 48 + (n : Int) := IntWalk.i64_in _ (by omega)
  have v1 : IntKind.u8.wrap (48 + (n : Int)) = 48 + (n : Int) := IntWalk.u8_in _ (by omega)
  have v2 : (n : Int) < 10 := by omega
  go_enter Tryd.func55, Tryd.ntmps55
  go_wp2
  go_ret
  exact ⟨rfl, (New.refl w).alloc _⟩

set_option maxRecDepth 100000 in
set_option maxHeartbeats 4000000 in
theorem decimal_step (n q r : Nat) (a b : List UInt8) (hn : n ≤ 9223372036854775807) (v2 : ¬ (n : Int) < 10) (d1 : (n : Int) / 10 = (q : Int)) (d2 : (n : Int) % 10 = (r : Int)) (h1 : a.length ≤ 21) (h2 : b.length ≤ 21)
    (ih : ∀ w, Calls Tryd.prog 55 #[.int .i64 q] w fun e w' => e = .returned (.string (S a)) ∧ New w w')
    (ih2 : ∀ w, Calls Tryd.prog 55 #[.int .i64 r] w fun e w' => e = .returned (.string (S b)) ∧ New w w') (w : World) :
    Calls Tryd.prog 55 #[.int .i64 n] w fun e w' => e = .returned (.string (S (a ++ b))) ∧ New w w' := by
  have k0 : ¬ (9223372036854775807 < a.length + b.length) := by omega
  have k1 : ¬ (9223372036854775807 < (S a).size + (S b).size) := by simp only [size_S]; omega
  rw [S_append]
  have IH := Lib.hid ih
  have IH2 := Lib.hid ih2
  clear ih ih2
  go_enter Tryd.func55, Tryd.ntmps55
  go_wp2_with (first | (go_at_call 55; have hnx := hn1; refine (IH2.out _).mono ?_; rintro e w2 ⟨rfl, hn2⟩) | (go_at_call 55; refine (IH.out _).mono ?_; rintro e w1 ⟨rfl, hn1⟩))
  go_ret
  exact ⟨rfl, hn1.trans hn2⟩

theorem decimal_any (n : Nat) (hn : n ≤ 9223372036854775807) (w : World) :
    Calls Tryd.prog 55 #[.int .i64 n] w fun e w' => e = .returned (.string (S (Lib.itoa (n : Int)))) ∧ New w w' := by
  by_cases h : n < 10
  · exact decimal_low n h w
  rw [itoa_high (by omega)]
  exact decimal_step n (n / 10) (n % 10) _ _ hn (by omega) (by omega) (by omega) (Lib.itoa_length_le _ (by omega) (by omega)) (Lib.itoa_length_le _ (by omega) (by omega)) (fun w => decimal_any (n / 10) (by omega) w) (fun w => decimal_low (n % 10) (by omega) w) w
termination_by n
decreasing_by omega
end Go.Proofs.YtlecocmopeainaaDoor
