/- The reference's lines (Cut), names and paths. No conditions but the lengths' own. -/
import Derived.Test.YtlecocmopeainaaDoorF
namespace Go.Proofs.YtlecocmopeainaaDoor
open Go Go.RowKit

/-! ### the parts from a place on -/
theorem cut_hit {c : UInt8} : ∀ (l : List UInt8) (n : Nat) (hn : n < l.length), (∀ j (h : j < l.length), j < n → l[j] ≠ c) → l[n] = c → cut c l = l.take n :: cut c (l.drop (n + 1))
  | [], n, h, _, _ => by simp at h
  | b :: r, 0, _, _, h2 => by
    have hb : b = c := h2
    simp [cut, hb]
  | b :: r, n + 1, h, h1, h2 => by
    have hb : b ≠ c := h1 0 (by simp) (by omega)
    have ih := cut_hit r n (by simpa using h) (fun j hj hjn => h1 (j + 1) (by simpa using hj) (by omega)) h2
    conv => lhs; unfold cut
    rw [if_neg hb, ih]
    simp
theorem cut_last {c : UInt8} : ∀ (l : List UInt8), (∀ j (h : j < l.length), l[j] ≠ c) → cut c l = [l]
  | [], _ => rfl
  | b :: r, h => by
    have hb : b ≠ c := h 0 (by simp)
    have ih := cut_last r (fun j hj => h (j + 1) (by simpa using hj))
    unfold cut
    rw [if_neg hb, ih]
def pt (c : UInt8) (s : ByteArray) (i : Nat) : List ByteArray := (cut c (s.data.toList.drop i)).map S
theorem pt_zero (c : UInt8) (s : ByteArray) : pt c s 0 = parts c s := by simp [pt, parts]
theorem pt_hit {c : UInt8} {s : ByteArray} {f i : Nat} (hf : f ≤ i) (hi : i < s.size) (h : ∀ j (hj : j < s.size), f ≤ j → j < i → s[j] ≠ c) (hc : s[i] = c) : pt c s f = s.extract f i :: pt c s (i + 1) := by
  have hl := size_eq s
  have := cut_hit (c := c) (s.data.toList.drop f) (i - f) (by rw [List.length_drop]; omega)
    (fun j hj hjn => by
      rw [List.length_drop] at hj
      have := h (f + j) (by omega) (by omega) (by omega)
      rw [get_eq] at this
      simpa using this)
    (by
      rw [get_eq] at hc
      have e : f + (i - f) = i := by omega
      simpa [e] using hc)
  rw [pt, this, List.drop_drop, show f + (i - f + 1) = i + 1 by omega, List.map_cons, extract_S]; rfl
theorem pt_last {c : UInt8} {s : ByteArray} {f : Nat} (hf : f ≤ s.size) (h : ∀ j (hj : j < s.size), f ≤ j → s[j] ≠ c) : pt c s f = [s.extract f s.size] := by
  have hl := size_eq s
  have := cut_last (c := c) (s.data.toList.drop f)
    (fun j hj => by
      rw [List.length_drop] at hj
      have := h (f + j) (by omega) (by omega)
      rw [get_eq] at this
      simpa using this)
  rw [pt, this, ext_from]; rfl
theorem u8_ne {a b : UInt8} : ((a.toNat : Int) == (b.toNat : Int)) = false ↔ a ≠ b := by
  rw [beq_eq_false_iff_ne]
  constructor
  · rintro h rfl; exact h rfl
  · intro h e; exact h (UInt8.toNat_inj.1 (by omega))
theorem u8_eq {a b : UInt8} : ((a.toNat : Int) == (b.toNat : Int)) = true ↔ a = b := by
  rw [beq_iff_eq]
  constructor
  · intro e; exact UInt8.toNat_inj.1 (by omega)
  · rintro rfl; rfl

set_option maxHeartbeats 2000000 in
set_option maxRecDepth 100000 in
theorem rcut_any (s : ByteArray) (c : UInt8) (w : World) (hs : s.size ≤ 4294967280) :
    Calls Tryd.prog 44 #[.string s, .int .u8 (c.toNat : Nat)] w fun e w' => ∃ v, e = .returned v ∧ w'.ownsRow w.heap.size 9 1 v (parts c s).length ((parts c s).map Value.string) ∧ New w w' := by
  obtain ⟨i0, hi, hz0, hz1, hz2⟩ := info_parts Tryd.info9'
  obtain ⟨cn, hcn⟩ : ∃ cn : Int, (c.toNat : Int) = cn := ⟨_, rfl⟩
  rw [hcn]
  have hcn := Lib.hid hcn
  go_enter Tryd.func44, Tryd.ntmps44
  go_wp2
  go_loopw [5, 6, 7] (fun v5 v6 v7 wr => ∃ (f i : Nat) (ws : List ByteArray), v6 = .int .i64 f ∧ v7 = .int .i64 i ∧ f ≤ i ∧ i ≤ s.size + 1 ∧ ws.length ≤ i ∧ wr.ownsRow w.heap.size 9 1 v5 ws.length (ws.map Value.string) ∧ New w wr ∧ Hid (if i ≤ s.size then ws ++ pt c s f = parts c s else ws = parts c s) ∧ Hid (∀ j (hj : j < s.size), f ≤ j → j < i → s[j] ≠ c))
    (fun _ _ v7 _ => s.size + 1 - (intOf v7).toNat)
  case atStart => exact ⟨0, 0, [], rfl, rfl, by omega, by omega, by simp, World.ownsRow_lit w #[] 0 (Nat.le_refl _) (by simp [maxLen]) rfl, (New.refl w).alloc _, Lib.hid (by rw [if_pos (by omega), pt_zero]; rfl), Lib.hid (fun j hj h1 h2 => absurd h2 (by omega))⟩
  case round =>
    obtain ⟨f, i, ws, rfl, rfl, hfi, hle, hl, hown, hn, H, HA⟩ := hrel
    by_cases hlt : i < s.size
    · have H1 : Hid (ws ++ pt c s f = parts c s) := Lib.hid (by have := H.out; rwa [if_pos (by omega)] at this)
      by_cases hb : ((s[i].toNat : Int) == cn) = true
      · have HR := Lib.hid (pt_hit hfi hlt HA.out (u8_eq.1 (hcn.out ▸ hb)))
        have hb' : (s[i].toNat : Int) = cn := by simpa using hb
        go_wp2_with (at_builtin; refine wpList_append_own _ rfl (.tmp 26) (.tmp 31) 53 rfl w.heap.size 9 i0 (.string ByteArray.empty) 1 16 Tryd.underlying53 hi hz0 hz1 hz2 rfl (by decide) _ _ _ rfl (hown.alloc _) ⟨wr.heap.size, 0, none⟩ 1 1 [.string (s.extract f i)] rfl rfl ?c1 ?c2 ?c3 ?c4 ?c5 ?_)
        case c1 => exact cell_one_new _ _ _
        case c2 => simp [Value.oneCell']
        case c3 => simp [maxLen]; omega
        case c4 => omega
        case c5 => have := hn.size; simp; omega
        intro v' w1 hown1 hg1 _
        go_wp2
        go_roundw
        case rel => exact ⟨i + 1, i + 1, ws ++ [s.extract f i], by go_num, by go_num, by omega, by omega, by simp; omega, by simpa using hown1, Below.grown (hn.alloc _) hg1 (by have := hn.size; simp; omega) (fun k hk => (hown.lt k hk).1), Lib.hid (by rw [if_pos (by omega), List.append_assoc, List.singleton_append, ← HR.out]; exact H1.out), Lib.hid (fun j hj h1 h2 => absurd h2 (by omega))⟩
        case measure => simp [intOf]; omega
      · have hb : ((s[i].toNat : Int) == cn) = false := by simpa using hb
        have HB := Lib.hid hb
        have hb' : ¬ (s[i].toNat : Int) = cn := by simpa using hb
        go_wp2
        go_roundw
        case rel => exact ⟨f, i + 1, ws, by go_num, by go_num, by omega, by omega, by omega, hown, hn, Lib.hid (by rw [if_pos (by omega)]; exact H1.out), Lib.hid (fun j hj h1 h2 => by
          by_cases h : j = i
          · subst h; exact u8_ne.1 (hcn.out ▸ HB.out)
          · exact HA.out j hj h1 (by omega))⟩
        case measure => simp [intOf]; omega
    · by_cases h0 : i = s.size
      · subst h0
        have H1 : Hid (ws ++ pt c s f = parts c s) := Lib.hid (by have := H.out; rwa [if_pos (by omega)] at this)
        have HR := Lib.hid (pt_last hfi (fun j hj h1 => HA.out j hj h1 hj))
        go_wp2_with (at_builtin; refine wpList_append_own _ rfl (.tmp 26) (.tmp 31) 53 rfl w.heap.size 9 i0 (.string ByteArray.empty) 1 16 Tryd.underlying53 hi hz0 hz1 hz2 rfl (by decide) _ _ _ rfl (hown.alloc _) ⟨wr.heap.size, 0, none⟩ 1 1 [.string (s.extract f s.size)] rfl rfl ?c1 ?c2 ?c3 ?c4 ?c5 ?_)
        case c1 => exact cell_one_new _ _ _
        case c2 => simp [Value.oneCell']
        case c3 => simp [maxLen]; omega
        case c4 => omega
        case c5 => have := hn.size; simp; omega
        intro v' w1 hown1 hg1 _
        go_wp2
        go_roundw
        case rel => exact ⟨s.size + 1, s.size + 1, ws ++ [s.extract f s.size], by go_num, by go_num, by omega, by omega, by simp; omega, by simpa using hown1, Below.grown (hn.alloc _) hg1 (by have := hn.size; simp; omega) (fun k hk => (hown.lt k hk).1), Lib.hid (by rw [if_neg (by omega), ← HR.out]; exact H1.out), Lib.hid (fun j hj h1 h2 => absurd h1 (by omega))⟩
        case measure => simp [intOf]
      · have h1 : i = s.size + 1 := by omega
        subst h1
        have H1 : ws = parts c s := by have := H.out; rwa [if_neg (by omega)] at this
        go_wp2
        go_ret
        refine ⟨_, rfl, ?_, hn⟩
        subst H1
        exact hown

set_option maxHeartbeats 2000000 in
set_option maxRecDepth 100000 in
theorem rname_any (s : ByteArray) (w : World) : Calls Tryd.prog 80 #[.string s] w fun e w' => e = .returned (.bool (nameOK s)) ∧ w = w' := by
  by_cases h0 : 0 < s.size
  · have hv : nameOK s = (decide (s.size ≤ 32) && !((s[0].toNat : Int) == 46) && !((s[0].toNat : Int) == 45) && okAll s) := by
      unfold nameOK
      rw [data_cons h0]
    by_cases hg : s.size ≤ 32 ∧ ¬ (s[0].toNat : Int) = 46 ∧ ¬ (s[0].toNat : Int) = 45
    · obtain ⟨g1, g2, g3⟩ := hg
      have hv2 : nameOK s = okAll s := by rw [hv]; simp [g1, g2, g3]
      have HV := Lib.hid hv2; clear hv hv2
      have g0 : ¬ (s.size : Int) < 1 := by omega
      have g2b : ((s[0].toNat : Int) == 46) = false := beq_eq_false_iff_ne.2 g2
      have g3b : ((s[0].toNat : Int) == 45) = false := beq_eq_false_iff_ne.2 g3
      have g1' : ¬ (32 : Int) < (s.size : Int) := by omega
      go_enter Tryd.func80, Tryd.ntmps80
      go_wp2
      go_loopw [3] (fun v3 wr => ∃ i : Nat, v3 = .int .i64 i ∧ i ≤ s.size ∧ wr = w ∧ Hid ((s.data.toList.take i).all okb = true)) (fun v3 _ => s.size - (intOf v3).toNat)
      case atStart => exact ⟨0, rfl, by omega, rfl, Lib.hid (by simp)⟩
      case round =>
        obtain ⟨i, rfl, hi, rfl, H⟩ := hrel
        by_cases hlt : i < s.size
        · have hl : i < s.data.toList.length := by rw [← size_eq]; exact hlt
          cases hc : okc s[i].toNat
          · have HN := Lib.hid (show okAll s = false by
              have : okb (s.data.toList[i]'hl) = false := by rw [← get_eq s i hlt]; exact hc
              unfold okAll
              rw [List.all_eq_false]
              exact ⟨_, List.getElem_mem hl, by rw [this]; decide⟩)
            simp only [okc, Bool.or_eq_false_iff, Bool.and_eq_false_iff, decide_eq_false_iff_not, beq_eq_false_iff_ne] at hc
            obtain ⟨⟨⟨⟨hr1, hr2⟩, h46⟩, h95⟩, h45⟩ := hc
            go_wp2
            all_goals first | (exfalso; omega) | skip
            all_goals try (exfalso; rename_i hx; simp only [bne_eq_false_iff_eq, bne_iff_ne, ne_eq] at hx; omega)
            all_goals go_ret
            all_goals exact ⟨ret_b (by rw [HV.out, HN.out]), rfl⟩
          · have HC := Lib.hid hc
            have hrelN : Hid ((s.data.toList.take (i + 1)).all okb = true) := Lib.hid (by
              have e : okb (s.data.toList[i]'hl) = true := by rw [← get_eq s i hlt]; exact HC.out
              rw [List.take_succ_eq_append_getElem hl, List.all_append, H.out, List.all_cons, e]; rfl)
            simp only [okc, Bool.or_eq_true, Bool.and_eq_true, decide_eq_true_eq] at hc
            rcases hc with (((hc | hc) | hc) | hc) | hc
            all_goals try have hcn := beq_iff_eq.1 hc
            all_goals go_wp2
            all_goals first | (exfalso; omega) | skip
            all_goals try (exfalso; rename_i hx; simp only [bne_eq_false_iff_eq, bne_iff_ne, ne_eq] at hx; omega)
            all_goals refine ⟨⟨i + 1, by go_num, by omega, by trivial, hrelN⟩, by simp [intOf]; omega⟩
        · have h0 : i = s.size := by omega
          subst h0
          go_wp2
          go_ret
          refine ⟨ret_b ?_, rfl⟩
          rw [HV.out]
          have := H.out
          rw [List.take_of_length_le (by rw [← size_eq]; exact Nat.le_refl _)] at this
          exact this.symm
    · have hv2 : nameOK s = false := by rw [hv]; cases h : okAll s <;> simp; omega
      have HV := Lib.hid hv2; clear hv hv2
      have g0 : ¬ (s.size : Int) < 1 := by omega
      by_cases g1 : s.size ≤ 32
      · have g1' : ¬ (32 : Int) < (s.size : Int) := by omega
        by_cases g2 : (s[0].toNat : Int) = 46
        · have g2b : ((s[0].toNat : Int) == 46) = true := beq_iff_eq.2 g2
          clear hg
          go_enter Tryd.func80, Tryd.ntmps80
          go_wp2
          go_ret
          exact ⟨ret_b HV.out.symm, rfl⟩
        · have g2b : ((s[0].toNat : Int) == 46) = false := beq_eq_false_iff_ne.2 g2
          have g3 : (s[0].toNat : Int) = 45 := by omega
          have g3b : ((s[0].toNat : Int) == 45) = true := beq_iff_eq.2 g3
          clear hg
          go_enter Tryd.func80, Tryd.ntmps80
          go_wp2
          go_ret
          exact ⟨ret_b HV.out.symm, rfl⟩
      · have g1' : (32 : Int) < (s.size : Int) := by omega
        clear hg
        go_enter Tryd.func80, Tryd.ntmps80
        go_wp2
        go_ret
        exact ⟨ret_b HV.out.symm, rfl⟩
  · have h0 : s.size = 0 := by omega
    have hd : s.data.toList = [] := List.eq_nil_of_length_eq_zero (by rw [← size_eq]; exact h0)
    have hv : nameOK s = false := by unfold nameOK; rw [hd]
    have HV := Lib.hid hv; clear hv hd
    go_enter Tryd.func80, Tryd.ntmps80
    go_wp2
    go_ret
    exact ⟨ret_b HV.out.symm, rfl⟩
end Go.Proofs.YtlecocmopeainaaDoor
