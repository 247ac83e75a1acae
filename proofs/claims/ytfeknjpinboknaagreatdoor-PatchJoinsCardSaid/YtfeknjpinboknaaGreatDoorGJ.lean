/- The reference's Split and decimal digits, as the program's. Conditions: sizes. Print and Cost of the program; the reference's Join and lines. Conditions: sizes. The reference's Join and lines. Conditions: sizes; the hunks are in form. -/
import Derived.Test.YtfeknjpinboknaaGreatDoorGI

namespace Go.Proofs.YtfeknjpinboknaaGreatDoor
open Go Go.RowKit Go.Joins
set_option linter.unusedSimpArgs false
set_option linter.unusedVariables false

theorem cut_hit {c : UInt8} : ∀ (l : List UInt8) (n : Nat) (hn : n < l.length), (∀ j (h : j < l.length), j < n → l[j] ≠ c) → l[n] = c → cut c l = l.take n :: cut c (l.drop (n + 1))
  | [], n, h, _, _ => by simp at h
  | b :: r, 0, _, _, h2 => by
    have hb : b = c := h2
    simp [cut, hb]
  | b :: r, n + 1, h, h1, h2 => by
    have hb : b ≠ c := h1 0 (by simp) (by omega)
    have ih := cut_hit r n (by simpa using h) (fun j hj hjn => h1 (j + 1) (by simpa using hj) (by omega)) h2
    conv => lhs; unfold cut
    rw [if_neg hb, ih]
    simp
theorem cut_last {c : UInt8} : ∀ (l : List UInt8), (∀ j (h : j < l.length), l[j] ≠ c) → cut c l = [l]
  | [], _ => rfl
  | b :: r, h => by
    have hb : b ≠ c := h 0 (by simp)
    have ih := cut_last r (fun j hj => h (j + 1) (by simpa using hj))
    unfold cut
    rw [if_neg hb, ih]
def pt (c : UInt8) (s : ByteArray) (i : Nat) : List ByteArray := (cut c (s.data.toList.drop i)).map S
theorem pt_zero (c : UInt8) (s : ByteArray) : pt c s 0 = parts c s := by simp [pt, parts]
theorem pt_hit {c : UInt8} {s : ByteArray} {f i : Nat} (hf : f ≤ i) (hi : i < s.size) (h : ∀ j (hj : j < s.size), f ≤ j → j < i → s[j] ≠ c) (hc : s[i] = c) : pt c s f = s.extract f i :: pt c s (i + 1) := by
  have hl := size_eq s
  have := cut_hit (c := c) (s.data.toList.drop f) (i - f) (by rw [List.length_drop]; omega)
    (fun j hj hjn => by
      rw [List.length_drop] at hj
      have := h (f + j) (by omega) (by omega) (by omega)
      rw [get_eq] at this
      simpa using this)
    (by
      rw [get_eq] at hc
      have e : f + (i - f) = i := by omega
      simpa [e] using hc)
  rw [pt, this, List.drop_drop, show f + (i - f + 1) = i + 1 by omega, List.map_cons, extract_S]; rfl
theorem pt_last {c : UInt8} {s : ByteArray} {f : Nat} (hf : f ≤ s.size) (h : ∀ j (hj : j < s.size), f ≤ j → s[j] ≠ c) : pt c s f = [s.extract f s.size] := by
  have hl := size_eq s
  have := cut_last (c := c) (s.data.toList.drop f)
    (fun j hj => by
      rw [List.length_drop] at hj
      have := h (f + j) (by omega) (by omega)
      rw [get_eq] at this
      simpa using this)
  rw [pt, this, ext_from]; rfl
theorem u8_ne {a b : UInt8} : ((a.toNat : Int) == (b.toNat : Int)) = false ↔ a ≠ b := by
  rw [beq_eq_false_iff_ne]
  constructor
  · rintro h rfl; exact h rfl
  · intro h e; exact h (UInt8.toNat_inj.1 (by omega))
theorem u8_eq {a b : UInt8} : ((a.toNat : Int) == (b.toNat : Int)) = true ↔ a = b := by
  rw [beq_iff_eq]
  constructor
  · intro e; exact UInt8.toNat_inj.1 (by omega)
  · rintro rfl; rfl

set_option maxHeartbeats 2000000 in
set_option maxRecDepth 100000 in
theorem rsplit_any (s : ByteArray) (c : UInt8) (w : World) (hs : s.size ≤ 4294967280) :
    Calls Tryz.prog 58 #[.string s, .int .u8 (c.toNat : Nat)] w fun e w' => ∃ v, e = .returned v ∧ w'.ownsRow w.heap.size 9 1 v (parts c s).length ((parts c s).map Value.string) ∧ New w w' := by
  obtain ⟨i0, hi, hz0, hz1, hz2⟩ := info_parts Tryz.info9'
  obtain ⟨cn, hcn⟩ : ∃ cn : Int, (c.toNat : Int) = cn := ⟨_, rfl⟩
  rw [hcn]
  have hcn := Lib.hid hcn
  go_enter Tryz.func58, Tryz.ntmps58
  go_wp2
  go_loopw [5, 6, 7] (fun v5 v6 v7 wr => ∃ (f i : Nat) (ws : List ByteArray), v6 = .int .i64 f ∧ v7 = .int .i64 i ∧ f ≤ i ∧ i ≤ s.size ∧ ws.length ≤ i ∧ wr.ownsRow w.heap.size 9 1 v5 ws.length (ws.map Value.string) ∧ New w wr ∧ Hid (ws ++ pt c s f = parts c s) ∧ Hid (∀ j (hj : j < s.size), f ≤ j → j < i → s[j] ≠ c))
    (fun _ _ v7 _ => s.size - (intOf v7).toNat)
  case atStart => exact ⟨0, 0, [], rfl, rfl, by omega, by omega, by simp, World.ownsRow_nil .., New.refl w, Lib.hid (by rw [pt_zero]; rfl), Lib.hid (fun j hj h1 h2 => absurd h2 (by omega))⟩
  case round =>
    obtain ⟨f, i, ws, rfl, rfl, hfi, hle, hl, hown, hn, H1, HA⟩ := hrel
    by_cases hlt : i < s.size
    · by_cases hb : ((s[i].toNat : Int) == cn) = true
      · have HR := Lib.hid (pt_hit hfi hlt HA.out (u8_eq.1 (hcn.out ▸ hb)))
        have hb' : (s[i].toNat : Int) = cn := by simpa using hb
        go_wp2_with (at_builtin; refine wpList_append_own _ rfl (.tmp 19) (.tmp 24) 49 rfl w.heap.size 9 i0 (.string ⟨#[]⟩) 1 16 Tryz.underlying49 hi hz0 hz1 hz2 rfl (by decide) _ _ _ rfl (hown.alloc _) ⟨wr.heap.size, 0, none⟩ 1 1 [.string (s.extract f i)] rfl rfl ?c1 ?c2 ?c3 ?c4 ?c5 ?_)
        case c1 => exact cell_one_new _ _ _
        case c2 => simp [Value.oneCell']
        case c3 => simp [maxLen]; omega
        case c4 => omega
        case c5 => have := hn.size; simp; omega
        intro v' w1 hown1 hg1 _
        go_wp2
        go_roundw
        case rel => exact ⟨i + 1, i + 1, ws ++ [s.extract f i], by go_num, by go_num, by omega, by omega, by simp; omega, by simpa using hown1, Below.grown (hn.alloc _) hg1 (by have := hn.size; simp; omega) (fun k hk => (hown.lt k hk).1), Lib.hid (by rw [List.append_assoc, List.singleton_append, ← HR.out]; exact H1.out), Lib.hid (fun j hj h1 h2 => absurd h2 (by omega))⟩
        case measure => simp [intOf]; omega
      · have hb : ((s[i].toNat : Int) == cn) = false := by simpa using hb
        have HB := Lib.hid hb
        have hb' : ¬ (s[i].toNat : Int) = cn := by simpa using hb
        go_wp2
        go_roundw
        case rel => exact ⟨f, i + 1, ws, by go_num, by go_num, by omega, by omega, by omega, hown, hn, H1, Lib.hid (fun j hj h1 h2 => by
          by_cases h : j = i
          · subst h; exact u8_ne.1 (hcn.out ▸ HB.out)
          · exact HA.out j hj h1 (by omega))⟩
        case measure => simp [intOf]; omega
    · obtain rfl : i = s.size := by omega
      have HR := Lib.hid (pt_last hfi (fun j hj h1 => HA.out j hj h1 hj))
      have i1 : (f : Int) ≤ (s.size : Int) := by omega
      go_wp2_with (at_builtin; refine wpList_append_own _ rfl (.tmp 28) (.tmp 32) 49 rfl w.heap.size 9 i0 (.string ⟨#[]⟩) 1 16 Tryz.underlying49 hi hz0 hz1 hz2 rfl (by decide) _ _ _ rfl (hown.alloc _) ⟨wr.heap.size, 0, none⟩ 1 1 [.string (s.extract f s.size)] rfl rfl ?c6 ?c7 ?c8 ?c9 ?c10 ?_)
      case c6 => exact cell_one_new _ _ _
      case c7 => simp [Value.oneCell']
      case c8 => simp [maxLen]; omega
      case c9 => omega
      case c10 => have := hn.size; simp; omega
      intro v' w1 hown1 hg1 _
      go_wp2
      go_ret
      refine ⟨_, rfl, ?_, Below.grown (hn.alloc _) hg1 (by have := hn.size; simp; omega) (fun k hk => (hown.lt k hk).1)⟩
      have e : parts c s = ws ++ [s.extract f s.size] := by rw [← H1.out, HR.out]
      rw [e]
      simpa using hown1
theorem itoa_low {n : Nat} (h : n < 10) : Lib.itoa (n : Int) = [UInt8.ofNat (48 + n)] := by
  rw [Lib.itoa, if_neg (by omega), Int.toNat_natCast, Lib.decDigits, dif_pos h]
theorem itoa_high {n : Nat} (h : 10 ≤ n) : Lib.itoa (n : Int) = Lib.itoa ((n / 10 : Nat) : Int) ++ Lib.itoa ((n % 10 : Nat) : Int) := by
  rw [Lib.itoa, if_neg (by omega), Int.toNat_natCast, Lib.itoa, if_neg (by omega), Int.toNat_natCast, Lib.itoa, if_neg (by omega), Int.toNat_natCast]
  conv => lhs; rw [Lib.decDigits, dif_neg (by omega)]
  rw [Lib.decDigits_one (i := n % 10) (by omega)]
theorem convD (W : World) (g k : Nat) (hk : k < 10) (h : W.cell? ⟨g, 0, none⟩ = some (.int .u8 (48 + (k : Int)))) : (convert 92 9 (.slice (some ⟨g, 0, none⟩) 1 1)).run Tryz.prog W = .ok (.string (S (Lib.itoa (k : Int)))) W := by
  rw [itoa_low hk]
  have h8 : (UInt8.ofNat (48 + k)).toNat = 48 + k := by
    show (48 + k) % 256 = _; omega
  refine run_convert_bytes_back (P := Tryz.prog) W 92 9 5 ⟨g, 0, none⟩ 1 [UInt8.ofNat (48 + k)] Tryz.underlying92 Tryz.underlying5 Tryz.underlying9 (fun j hj => ?_)
  obtain rfl : j = 0 := by simpa using hj
  have hadd : (⟨g, 0, none⟩ : Addr).add 0 = ⟨g, 0 + 0, none⟩ := by unfold Addr.add; split <;> simp_all
  rw [hadd, Nat.zero_add, h]
  show _ = some (Value.int .u8 ((UInt8.ofNat (48 + k)).toNat : Int))
  rw [h8]; simp
set_option maxRecDepth 100000 in
set_option maxHeartbeats 4000000 in
theorem decimal_low (n : Nat) (hn : n < 10) (w : World) :
    Calls Tryz.prog 63 #[.int .i64 n] w fun e w' => e = .returned (.string (S (Lib.itoa (n : Int)))) ∧ New w w' := by
  have CV : ∀ W g, W.cell? ⟨g, 0, none⟩ = some (.int .u8 (48 + (n : Int))) → (convert 92 9 (.slice (some ⟨g, 0, none⟩) 1 1)).run Tryz.prog W = .ok (.string (S (Lib.itoa (n : Int)))) W := fun W g h => convD W g n hn h
  have v0 : IntKind.i64.wrap (48 + (n : Int)) = 48 + (n : Int) := IntWalk.i64_in _ (by omega)
  have v1 : IntKind.u8.wrap (48 + (n : Int)) = 48 + (n : Int) := IntWalk.u8_in _ (by omega)
  have v2 : (n : Int) < 10 := by omega
  go_enter Tryz.func63, Tryz.ntmps63
  go_wp2
  go_ret
  exact ⟨rfl, (New.refl w).alloc _⟩
set_option maxRecDepth 100000 in
set_option maxHeartbeats 4000000 in
theorem decimal_step (n q r : Nat) (a : List UInt8) (hn : n ≤ 9223372036854775807) (hr : r < 10) (v2 : ¬ (n : Int) < 10) (d1 : (n : Int) / 10 = (q : Int)) (d2 : (n : Int) % 10 = (r : Int)) (h1 : a.length ≤ 21)
    (ih : ∀ w, Calls Tryz.prog 63 #[.int .i64 q] w fun e w' => e = .returned (.string (S a)) ∧ New w w') (w : World) :
    Calls Tryz.prog 63 #[.int .i64 n] w fun e w' => e = .returned (.string (S a ++ S (Lib.itoa (r : Int)))) ∧ New w w' := by
  have hlr : (Lib.itoa (r : Int)).length = 1 := by rw [itoa_low hr]; rfl
  have CV : ∀ W g, W.cell? ⟨g, 0, none⟩ = some (.int .u8 (48 + (r : Int))) → (convert 92 9 (.slice (some ⟨g, 0, none⟩) 1 1)).run Tryz.prog W = .ok (.string (S (Lib.itoa (r : Int)))) W := fun W g h => convD W g r hr h
  have k1 : ¬ (9223372036854775807 < (S a).size + (S (Lib.itoa (r : Int))).size) := by simp only [size_S]; omega
  generalize S (Lib.itoa (r : Int)) = sr at *
  generalize S a = sa at *
  have v0 : IntKind.i64.wrap (48 + (r : Int)) = 48 + (r : Int) := IntWalk.i64_in _ (by omega)
  have v1 : IntKind.u8.wrap (48 + (r : Int)) = 48 + (r : Int) := IntWalk.u8_in _ (by omega)
  have wq : IntKind.i64.wrap (q : Int) = (q : Int) := IntWalk.i64_in _ (by omega)
  have d3 : (n : Int).tmod 10 = (r : Int) := by rw [Int.tmod_eq_emod_of_nonneg (by omega)]; exact d2
  have IH := Lib.hid ih
  clear ih hlr
  go_enter Tryz.func63, Tryz.ntmps63
  go_wp2
  go_region_with (go_at_call 63; (with_reducible refine (IH.out _).mono ?_); rintro e w2 ⟨rfl, n2⟩; (try (have f0 : w2.cell? ⟨w.heap.size, 0, none⟩ = some (.int .u8 (48 + (r : Int))) := ((Blk.made w.drew 5 #[.int .u8 (48 + (r : Int))]).new n2).cell' 0 _ rfl)))
  all_goals go_wp2
  all_goals go_ret
  all_goals first
    | exact ⟨rfl, New.trans (New.refl _).drew (New.alloc n2 _)⟩
    | exact ⟨rfl, New.trans ((New.refl _).drew.alloc _) n2⟩
theorem decimal_any (n : Nat) (hn : n ≤ 9223372036854775807) (w : World) :
    Calls Tryz.prog 63 #[.int .i64 n] w fun e w' => e = .returned (.string (S (Lib.itoa (n : Int)))) ∧ New w w' := by
  by_cases h : n < 10
  · exact decimal_low n h w
  rw [itoa_high (by omega), S_append]
  exact decimal_step n (n / 10) (n % 10) _ hn (by omega) (by omega) (by omega) (by omega) (Lib.itoa_length_le _ (by omega) (by omega)) (fun w => decimal_any (n / 10) (by omega) w) w
termination_by n
decreasing_by omega
end Go.Proofs.YtfeknjpinboknaaGreatDoor

namespace Go.Proofs.YtfeknjpinboknaaGreatDoor
open Go Go.RowKit Go.Joins Go.Shelf
set_option linter.unusedSimpArgs false
set_option linter.unusedVariables false

def errV (base : ByteArray) (l : List Hk) : Int := if validV base l = true then 0 else 1
def costV (base : ByteArray) (l : List Hk) : Int := if validV base l = true then cnt 2 l + cnt 3 l else 0
theorem retT {a b : Value} (h : a = b) : Ending.returned a = .returned b := by rw [h]
theorem valid_ok {base : ByteArray} {hs : List Hm} (h : validV base (hs.map Hm.d) = true) : OkA hs ∧ hs.length ≤ 1024 ∧ (base.size = 0 ∨ base.size = 32) ∧ 1 ≤ cnt 1 (hs.map Hm.d) + cnt 2 (hs.map Hm.d) ∧ cnt 1 (hs.map Hm.d) + cnt 2 (hs.map Hm.d) ≤ 1024 ∧ 1 ≤ cnt 1 (hs.map Hm.d) + cnt 3 (hs.map Hm.d) ∧ cnt 1 (hs.map Hm.d) + cnt 3 (hs.map Hm.d) ≤ 1024 := by
  have hl := valid_len h
  rw [List.length_map] at hl
  simp only [validV, sizesOK, Bool.and_eq_true, Bool.or_eq_true, decide_eq_true_eq] at h
  exact ⟨goodGo_okA h.1.1.2, hl, h.1.1.1, h.1.2.1.1.1, h.1.2.1.1.2, h.1.2.1.2, h.1.2.2⟩
set_option maxRecDepth 100000 in
set_option maxHeartbeats 2000000 in
theorem print_any (base : ByteArray) (A : Option Addr) (n c : Nat) (hs : List Hm) (w : World) (hr : PRd w A n hs) (hz : SzH hs) (hb : base.size ≤ 1000000) (hE : Env w) :
    Calls Tryz.prog 13 #[.agg #[.string base, .slice A n c]] w fun e w' => e = .returned (.tuple #[.string (chkT base (hs.map Hm.d)), .int .i64 (errV base (hs.map Hm.d))]) ∧ New w w' := by
  have hn0 := (New.refl w).alloc (.cells #[.string base, .slice A n c] 24)
  have H := Lib.hid (check_any base A n c hs _ (hr.new hn0) hz hb (hE.new hn0))
  have HE : Hid (errV base (hs.map Hm.d) = if validV base (hs.map Hm.d) = true then 0 else 1) := Lib.hid rfl
  have HT : Hid (validV base (hs.map Hm.d) = false → chkT base (hs.map Hm.d) = ⟨#[]⟩) := Lib.hid (fun h => chk_bad h)
  generalize errV base (hs.map Hm.d) = E at *
  generalize validV base (hs.map Hm.d) = V at *
  generalize chkT base (hs.map Hm.d) = T at *
  clear hr hz
  cases V
  · have he : E = 1 := by rw [HE.out]; simp
    have ht := HT.out rfl
    subst he
    subst ht
    go_enter Tryz.func13, Tryz.ntmps13
    go_wp2_with (go_at_call 33; (with_reducible refine H.out.mono ?_); rintro e w1 ⟨rfl, n1⟩)
    go_ret2
    exact ⟨rfl, hn0.trans n1⟩
  · have he : E = 0 := by rw [HE.out]; simp
    subst he
    go_enter Tryz.func13, Tryz.ntmps13
    go_wp2_with (go_at_call 33; (with_reducible refine H.out.mono ?_); rintro e w1 ⟨rfl, n1⟩)
    go_ret2
    exact ⟨rfl, hn0.trans n1⟩
set_option maxRecDepth 100000 in
set_option maxHeartbeats 2000000 in
theorem cost_any (base : ByteArray) (A : Option Addr) (n c : Nat) (hs : List Hm) (w : World) (hr : PRd w A n hs) (hz : SzH hs) (hb : base.size ≤ 1000000) (hE : Env w) :
    Calls Tryz.prog 15 #[.agg #[.string base, .slice A n c]] w fun e w' => e = .returned (.tuple #[.int .i64 (costV base (hs.map Hm.d)), .int .i64 (errV base (hs.map Hm.d))]) ∧ New w w' := by
  have hn0 := (New.refl w).alloc (.cells #[.string base, .slice A n c] 24)
  have B0 := Blk.made w 24 #[.string base, .slice A n c]
  have H := Lib.hid (check_any base A n c hs _ (hr.new hn0) hz hb (hE.new hn0))
  have HE : Hid (errV base (hs.map Hm.d) = if validV base (hs.map Hm.d) = true then 0 else 1) := Lib.hid rfl
  have HC : Hid (costV base (hs.map Hm.d) = if validV base (hs.map Hm.d) = true then cnt 2 (hs.map Hm.d) + cnt 3 (hs.map Hm.d) else 0) := Lib.hid rfl
  cases hv : validV base (hs.map Hm.d)
  · have he : errV base (hs.map Hm.d) = 1 := by rw [HE.out, hv]; simp
    have hc : costV base (hs.map Hm.d) = 0 := by rw [HC.out, hv]; simp
    rw [he, hc]
    rw [hv] at H
    clear HE HC hv he hc hr hz
    go_enter Tryz.func15, Tryz.ntmps15
    go_wp2_with (go_at_call 33; (with_reducible refine H.out.mono ?_); rintro e w1 ⟨rfl, n1⟩)
    go_ret2
    exact ⟨rfl, hn0.trans n1⟩
  · have he : errV base (hs.map Hm.d) = 0 := by rw [HE.out, hv]; simp
    have hc : costV base (hs.map Hm.d) = cnt 2 (hs.map Hm.d) + cnt 3 (hs.map Hm.d) := by rw [HC.out, hv]; simp
    obtain ⟨ho, hl, _, _, h2, _, h4⟩ := valid_ok hv
    rw [hr.len] at hl
    have HS := Lib.hid (fun W (hN : New w W) => sizes_any base A n c hs W (hr.new hN) ho (by omega))
    have c1 := cnt_bound 1 (l := hs.map Hm.d) (fun x hx => by obtain ⟨y, hy, rfl⟩ := List.mem_map.1 hx; exact ho y hy)
    have c2 := cnt_bound 2 (l := hs.map Hm.d) (fun x hx => by obtain ⟨y, hy, rfl⟩ := List.mem_map.1 hx; exact ho y hy)
    have c3 := cnt_bound 3 (l := hs.map Hm.d) (fun x hx => by obtain ⟨y, hy, rfl⟩ := List.mem_map.1 hx; exact ho y hy)
    rw [he, hc]
    rw [hv] at H
    generalize cnt 1 (hs.map Hm.d) = s1 at *
    generalize cnt 2 (hs.map Hm.d) = s2 at *
    generalize cnt 3 (hs.map Hm.d) = s3 at *
    obtain ⟨c11, _⟩ := c1
    obtain ⟨c21, _⟩ := c2
    obtain ⟨c31, _⟩ := c3
    have m2 : s2 ≤ 4000 := by omega
    have m3 : s3 ≤ 4000 := by omega
    clear HE HC hv he hc hr hz ho
    go_enter Tryz.func15, Tryz.ntmps15
    go_wp2_with (first | (go_at_call 37; (with_reducible refine (HS.out _ (hn0.trans n1)).mono ?_); rintro e w2 ⟨rfl, n2⟩) | (go_at_call 33; (with_reducible refine H.out.mono ?_); rintro e w1 ⟨rfl, n1⟩; have d0 := (B0.new n1).cell' 0 _ rfl; have d1 := (B0.new n1).cell' 1 _ rfl))
    go_ret2
    exact ⟨rfl, (hn0.trans n1).trans n2⟩
end Go.Proofs.YtfeknjpinboknaaGreatDoor

namespace Go.Proofs.YtfeknjpinboknaaGreatDoor
open Go Go.RowKit Go.Joins Go.Shelf
set_option linter.unusedSimpArgs false
set_option linter.unusedVariables false

theorem own_new {w w' : World} {base n size : Nat} {e : TypeId} {v : Value} {xs : List Value} (h : w.ownsRow base e size v n xs) (hn : New w w') : w'.ownsRow base e size v n xs := by
  refine h.kept (hn.grown_ none) ?_
  cases v.ownBlock
  · exact Or.inl rfl
  · exact Or.inr (by simp)
theorem lf_parts (s : ByteArray) : ((parts 10 s).length = 1) ↔ lfB s = false := by
  rw [parts_length, lfB, Bool.eq_false_iff]
  constructor
  · intro h
    have h0 : s.data.toList.count 10 = 0 := by omega
    intro hc
    have := List.count_pos_iff.2 (List.contains_iff_mem.1 hc)
    omega
  · intro h
    have : s.data.toList.count 10 = 0 := List.count_eq_zero.2 (fun hm => h (List.contains_iff_mem.2 hm))
    omega
theorem joinTail_app : ∀ (a b : List (List UInt8)), Lib.joinTail [10] (a ++ b) = Lib.joinTail [10] a ++ Lib.joinTail [10] b
  | [], b => by simp [Lib.joinTail]
  | x :: a, b => by
    have ih := joinTail_app a b
    have e : ∀ (y : List UInt8) (l : List (List UInt8)), Lib.joinTail [10] (y :: l) = ([10] ++ y) ++ Lib.joinTail [10] l := fun y l => by simp [Lib.joinTail]
    rw [List.cons_append, e, e, ih]; simp only [List.append_assoc]
theorem joinV_snoc {ws : List ByteArray} (h : ws ≠ []) (s : ByteArray) : joinV (ws ++ [s]) = joinV ws ++ ⟨#[10]⟩ ++ s := by
  cases ws with
  | nil => exact absurd rfl h
  | cons x r =>
    apply bytes_ext
    show (S _).data.toList = (S _ ++ S [10] ++ s).data.toList
    rw [← S_data s, ← S_append, ← S_append, S_data s]
    rw [data_S, data_S, List.cons_append, List.map_cons, List.map_cons, Lib.join_cons, Lib.join_cons, List.map_append, joinTail_app]
    simp [Lib.joinTail]
theorem joinV_take {ws : List ByteArray} {k : Nat} {s : ByteArray} (h : ws[k]? = some s) (hk : 0 < k) : joinV (ws.take (k + 1)) = joinV (ws.take k) ++ ⟨#[10]⟩ ++ s := by
  obtain ⟨hi, rfl⟩ := List.getElem?_eq_some_iff.1 h
  rw [List.take_succ_eq_append_getElem hi, joinV_snoc]
  intro e
  have := congrArg List.length e
  rw [List.length_take, List.length_nil] at this
  omega
theorem szL_take_mono (ws : List ByteArray) (k : Nat) : szL (ws.take k) ≤ szL ws := by
  conv => rhs; rw [← List.take_append_drop k ws]
  rw [szL, szL, List.map_append, List.sum_append]
  omega
theorem joinV_one {ws : List ByteArray} {s : ByteArray} (h : ws[0]? = some s) : joinV (ws.take 1) = s := by
  obtain ⟨hi, rfl⟩ := List.getElem?_eq_some_iff.1 h
  cases ws with
  | nil => simp at hi
  | cons x r =>
    show S _ = _
    rw [List.take_succ_cons, List.take_zero, List.map_cons, List.map_nil, Lib.join_cons]
    simp [Lib.joinTail, S_data]
theorem joinV_take_sz (ws : List ByteArray) (k : Nat) (hk : 0 < k) (h0 : k ≤ ws.length) (h1 : ws.length ≤ 1024) (h2 : ws.length - 1 + szL ws ≤ 65536) : (joinV (ws.take k)).size ≤ 65536 := by
  rw [joinV_sz (by intro e; have := congrArg List.length e; rw [List.length_take, List.length_nil] at this; omega), List.length_take]
  have := szL_take_mono ws k
  omega
set_option maxRecDepth 100000 in
set_option maxHeartbeats 4000000 in
theorem rjoin_any (A : Option Addr) (n c : Nat) (ws : List ByteArray) (w : World) (hl : ws.length = n) (hn : n ≤ 100000) (hc : n ≤ c) (hr : Rd w 1 A n (sCells ws)) (hz : ∀ s ∈ ws, s.size ≤ 1000000) :
    Calls Tryz.prog 35 #[.slice A n c] w fun e w' => e = .returned (.tuple #[.string (joinT ws), .int .i64 (joinE ws)]) ∧ New w w' := by
  have HV : Hid (joinE ws = if n = 0 ∨ ws.any lfB = true then 1 else if 1024 < n ∨ 65536 < n - 1 + szL ws then 10 else 0) := Lib.hid (by
    unfold joinE
    rw [hl]
    have : ws = [] ↔ n = 0 := by rw [← hl]; exact List.length_eq_zero_iff.symm
    simp only [this])
  obtain ⟨X, hX⟩ : ∃ X, joinE ws = X := ⟨_, rfl⟩
  have HT : Hid (joinT ws = if X = 0 then joinV ws else ⟨#[]⟩) := Lib.hid (by rw [← hX]; rfl)
  rw [hX] at HV ⊢
  obtain ⟨T, hT⟩ : ∃ T, joinT ws = T := ⟨_, rfl⟩
  rw [hT] at HT ⊢
  have HR := Lib.hid hr
  have HL := Lib.hid hl
  have HZ := Lib.hid hz
  have HSZ := Lib.hid (fun k hk => szL_take_le ws k hz hk)
  clear hX hT hr hl hz
  by_cases h0 : n = 0
  · subst h0
    have hx : X = 1 := by rw [HV.out]; simp
    subst hx
    have ht : T = ⟨#[]⟩ := by rw [HT.out]; simp
    subst ht
    go_enter Tryz.func35, Tryz.ntmps35
    go_wp2
    go_ret2
    exact ⟨rfl, New.refl _⟩
  have h0' : ((n : Int) == 0) = false := by simp; omega
  go_enter Tryz.func35, Tryz.ntmps35
  go_wp2
  go_loopw [4, 18] (fun v4 v18 wr => ∃ k : Nat, k ≤ n ∧ v18 = .int .i64 k ∧ New w wr ∧ v4 = .int .i64 (((n - 1 + szL (ws.take k) : Nat)) : Int) ∧ Hid ((ws.take k).any lfB = false)) (fun _ v _ => n - (intOf v).toNat)
  case atStart => exact ⟨0, Nat.zero_le _, rfl, New.refl w, by simp [szL]; omega, Lib.hid (by simp)⟩
  case round =>
    obtain ⟨k, hk, rfl, hnr, rfl, HN⟩ := hrel
    have hsz1 := HSZ.out k (by omega)
    by_cases hlt : k < n
    · obtain ⟨bk, o, rfl, _, hcl⟩ := (HR.out.below hnr).2 (by omega)
      have hkl : k < ws.length := by rw [HL.out]; exact hlt
      have hck : wr.cell? ⟨bk, o + k, none⟩ = some (.string ws[k]) := hcl k _ (by simp [sCells, hkl])
      have hsk := HZ.out ws[k] (List.getElem_mem hkl)
      have HTK := Lib.hid (szL_take (List.getElem?_eq_getElem hkl))
      have HNK : Hid ((ws.take (k + 1)).any lfB = lfB ws[k]) := Lib.hid (by rw [List.take_succ_eq_append_getElem hkl, List.any_append, HN.out]; simp)
      have HBAD : Hid (lfB ws[k] = true → ws.any lfB = true) := Lib.hid (fun h => List.any_eq_true.2 ⟨_, List.getElem_mem hkl, h⟩)
      have HSP := Lib.hid (show Calls Tryz.prog 58 #[.string ws[k], .int .u8 10] wr _ from rsplit_any ws[k] 10 wr (by omega))
      have HP1 := Lib.hid (lf_parts ws[k])
      generalize ws[k] = s at *
      generalize (parts 10 s).length = pl at *
      generalize szL (ws.take k) = q at *
      have i0 : (0 : Int) ≤ (k : Int) := by omega
      have i1 : (k : Int) < (n : Int) := by omega
      clear hcl
      cases hb : lfB s
      · have h1 : pl = 1 := HP1.out.2 hb
        subst h1
        rw [hb] at HNK
        clear hb HBAD HP1
        go_wp2_with (go_at_call 58; (with_reducible refine HSP.out.mono ?_); rintro e w1 ⟨v, rfl, hown, n1⟩; obtain ⟨A1, c1, rfl, _, _, _⟩ := own_form hown)
        go_roundw
        case rel => exact ⟨k + 1, by omega, by go_num, hnr.trans n1, by rw [HTK.out]; go_num, HNK⟩
        case measure => simp [intOf]; omega
      · have h1 : ¬ pl = 1 := fun e => by have := HP1.out.1 e; rw [hb] at this; cases this
        have h2 : ((pl : Int) == 1) = false := by simp; omega
        have hx : X = 1 := by rw [HV.out, if_pos (Or.inr (HBAD.out hb))]
        subst hx
        have ht : T = ⟨#[]⟩ := by rw [HT.out]; simp
        subst ht
        clear hb HBAD HP1 HV HT
        go_wp2_with (go_at_call 58; (with_reducible refine HSP.out.mono ?_); rintro e w1 ⟨v, rfl, hown, n1⟩; obtain ⟨A1, c1, rfl, _, _, _⟩ := own_form hown)
        go_ret2
        exact ⟨rfl, hnr.trans n1⟩
    · obtain rfl : k = n := by omega
      have e : ws.take k = ws := List.take_of_length_le (by rw [HL.out]; exact Nat.le_refl _)
      rw [e] at hsz1 HN ⊢
      have HX : Hid (X = if 1024 < k ∨ 65536 < k - 1 + szL ws then 10 else 0) := Lib.hid (by rw [HV.out, if_neg (by rw [HN.out]; simp; exact h0)])
      clear HV HN e
      by_cases g1 : 1024 < k
      · have hx : X = 10 := by rw [HX.out, if_pos (Or.inl g1)]
        subst hx
        have ht : T = ⟨#[]⟩ := by rw [HT.out]; simp
        subst ht
        have g1' : (1024 : Int) < (k : Int) := by omega
        clear HX HT
        go_wp2
        go_ret2
        exact ⟨rfl, hnr⟩
      · have g1' : ¬ (1024 : Int) < (k : Int) := by omega
        by_cases g2 : 65536 < k - 1 + szL ws
        · have hx : X = 10 := by rw [HX.out, if_pos (Or.inr g2)]
          subst hx
          have ht : T = ⟨#[]⟩ := by rw [HT.out]; simp
          subst ht
          have g2' : (65536 : Int) < ((k - 1 + szL ws : Nat) : Int) := by omega
          clear HX HT
          generalize k - 1 + szL ws = q at *
          go_wp2
          go_ret2
          exact ⟨rfl, hnr⟩
        · have hx : X = 0 := by rw [HX.out, if_neg (by omega)]
          subst hx
          have ht : T = joinV ws := by rw [HT.out]; simp
          subst ht
          have g2' : ¬ (65536 : Int) < ((k - 1 + szL ws : Nat) : Int) := by omega
          have HJZ := Lib.hid (fun j h0 h1 => joinV_take_sz ws j h0 h1 (by rw [HL.out]; omega) (by rw [HL.out]; omega))
          obtain ⟨bk, o, rfl, hbk, hcl⟩ := HR.out.2 (by omega)
          have hkl : 0 < ws.length := by rw [HL.out]; omega
          have hck : w.cell? ⟨bk, o, none⟩ = some (.string ws[0]) := hcl 0 _ (by simp [sCells, hkl])
          have hck2 := cell_new hnr hck
          have H1 := Lib.hid (joinV_one (List.getElem?_eq_getElem hkl))
          have HTT : Hid (joinV (ws.take k) = joinV ws) := Lib.hid (by rw [List.take_of_length_le (by rw [HL.out]; exact Nat.le_refl _)])
          have HCL := Lib.hid hcl
          have HNR := Lib.hid hnr
          obtain ⟨k', rfl⟩ : ∃ k', k = k' + 1 := ⟨k - 1, by omega⟩
          have j1 : (1 : Int) ≤ ((k' + 1 : Nat) : Int) := by omega
          have j2 : (1 : Int) ≤ (k' : Int) + 1 := by omega
          have j3 : ((k' + 1 : Nat) : Int) ≤ (c : Int) := by omega
          have j4 : (k' : Int) + 1 ≤ (c : Int) := by omega
          clear HX HT hcl hck
          generalize ws[0] = s0 at *
          generalize k' + 1 - 1 + szL ws = q at *
          by_cases hc1 : c = 1
          · obtain rfl : k' = 0 := by omega
            subst hc1
            go_wp2
            go_loopw [7, 44] (fun v7 v44 wq => v44 = .int .i64 0 ∧ wq = wr ∧ v7 = .string (joinV (ws.take (0 + 1)))) (fun _ v _ => 0)
            case atStart => exact ⟨rfl, rfl, by rw [H1.out]⟩
            case round =>
              obtain ⟨rfl, rfl, rfl⟩ := hrel
              rw [HTT.out]
              go_wp2
              go_ret2
              exact ⟨rfl, HNR.out⟩
          · have hc2 : ¬ (c : Int) = 1 := by omega
            go_wp2
            go_loopw [7, 44] (fun v7 v44 wq => ∃ j : Nat, j ≤ k' ∧ v44 = .int .i64 j ∧ wq = wr ∧ v7 = .string (joinV (ws.take (j + 1)))) (fun _ v _ => k' - (intOf v).toNat)
            case atStart => exact ⟨0, Nat.zero_le _, rfl, rfl, by rw [H1.out]⟩
            case round =>
              obtain ⟨j, hj, rfl, rfl, rfl⟩ := hrel
              by_cases hlt2 : j < k'
              · have hjl : j + 1 < ws.length := by rw [HL.out]; omega
                have d0 := cell_new HNR.out (HCL.out (j + 1) (.string ws[j + 1]) (by simp [sCells, hjl]))
                have HS := Lib.hid (joinV_take (List.getElem?_eq_getElem hjl) (by omega))
                have hz1 := HJZ.out (j + 1) (by omega) (by rw [HL.out]; omega)
                have hz2 := HJZ.out (j + 2) (by omega) (by rw [HL.out]; omega)
                rw [HS.out, ByteArray.size_append, ByteArray.size_append] at hz2
                have hz3 : (joinV (ws.take (j + 1))).size + 1 + (ws[j + 1]).size ≤ 65536 := hz2
                generalize ws[j + 1] = s1 at *
                generalize joinV (ws.take (j + 1)) = t1 at *
                have z1 : ¬ (9223372036854775807 < t1.size + 1) := by omega
                have z2 : ¬ (9223372036854775807 < t1.size + 1 + s1.size) := by omega
                have d1 : wr.cell? ⟨bk, o + 1 + j, none⟩ = some (.string s1) := by rw [show o + 1 + j = o + (j + 1) by omega]; exact d0
                have i0 : (0 : Int) ≤ (j : Int) := by omega
                have i1 : (j : Int) < (k' : Int) := by omega
                clear hz2 d0
                go_wp2
                go_roundw
                case rel => exact ⟨j + 1, by omega, by go_num, trivial, by rw [HS.out]⟩
                case measure => simp [intOf]; omega
              · obtain rfl : j = k' := by omega
                rw [HTT.out]
                go_wp2
                go_ret2
                exact ⟨rfl, HNR.out⟩
end Go.Proofs.YtfeknjpinboknaaGreatDoor

