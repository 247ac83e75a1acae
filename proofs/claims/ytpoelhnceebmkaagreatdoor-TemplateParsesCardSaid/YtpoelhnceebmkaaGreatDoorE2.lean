/- licitref35.count and Word. No conditions but the template's size. -/
import Derived.Test.YtpoelhnceebmkaaGreatDoorE1
import Derived.Deep.QuietTactic
import Derived.BigQuiet
namespace Go.Proofs.YtpoelhnceebmkaaGreatDoor
open Go Go.RowKit Go.Shelf
set_option linter.unusedSimpArgs false
set_option linter.unusedVariables false

set_option maxRecDepth 100000 in
set_option maxHeartbeats 1000000 in
theorem count_any (v : Value) (nm : ByteArray) (ps : List Pt) (w : World) (h : TRd w v nm ps) (hs : SmT ps) :
    Calls Tryz.prog 42 #[v] w fun e w' => e = .returned (.int .i64 (total ps : Nat)) ∧ New w w' := by
  obtain ⟨A, c, rfl, hc1, hc2, hr⟩ := h
  have hnS : New w (w.alloc (.cells #[.string nm, .slice A ps.length c] 25)) := (New.refl w).alloc _
  obtain ⟨hs1, hs2⟩ := hs
  have HTK : Hid (∀ i, total (ps.take i) ≤ 1000000) := Lib.hid (fun i => by
    have := total_le (ps := ps.take i) (fun p hp => hs2 p (List.mem_of_mem_take hp))
    have h3 : (ps.take i).length ≤ 1000 := by simp; omega
    omega)
  obtain ⟨n, hn0⟩ : ∃ n, ps.length = n := ⟨_, rfl⟩
  rw [hn0] at hr hc1 hs1 hnS ⊢
  have HS2 := Lib.hid hs2
  have HN := Lib.hid hn0
  clear hs2 hn0
  go_enter Tryz.func42, Tryz.ntmps42
  go_wp2
  obtain ⟨wS, hwS⟩ : ∃ x, x = w.alloc (.cells #[.string nm, .slice A n c] 25) := ⟨_, rfl⟩
  rw [← hwS]
  have B0 : Blk wS w.heap.size 25 #[.string nm, .slice A n c] := by rw [hwS]; exact Blk.made w _ _
  rw [← hwS] at hnS
  have k1 := B0.cell' 1 _ rfl
  have HR := Lib.hid (hr.new hnS)
  clear hwS hr
  go_loopw [3, 4] (fun v3 v4 wr => ∃ i : Nat, v4 = .int .i64 i ∧ i ≤ n ∧ v3 = .int .i64 (total (ps.take i) : Nat) ∧ wr = wS) (fun _ v4 _ => n - (intOf v4).toNat)
  case atStart => exact ⟨0, rfl, by omega, by simp [total], rfl⟩
  case round =>
    obtain ⟨i, rfl, hi, rfl, rfl⟩ := hrel
    by_cases hlt : i < n
    · obtain ⟨bk, o, vp, p, rfl, hp, d1, d2, hw⟩ := HR.out.at hlt
      obtain ⟨Aw, cw, rfl, hw1, hw2, _⟩ := hw
      have hpl := HS2.out p (List.mem_of_getElem? hp)
      have htt := total_take hp
      have ht1 := HTK.out (i + 1)
      have u1 : IntKind.i64.wrap ((total (ps.take i) : Int) + (p.2.length : Int)) = (total (ps.take (i + 1)) : Int) := by rw [htt, IntWalk.i64_in _ (by omega)]; omega
      have i0 : (0 : Int) ≤ (i : Int) := by omega
      have i1 : (i : Int) < (n : Int) := by omega
      clear htt
      go_wp2
      go_roundw
      case rel => exact ⟨i + 1, by go_num, by omega, rfl, trivial⟩
      case measure => simp [intOf]; omega
    · obtain rfl : i = n := by omega
      have ht : total (ps.take i) = total ps := by rw [List.take_of_length_le (by rw [HN.out]; exact Nat.le_refl _)]
      rw [ht]
      go_wp2
      go_ret
      exact ⟨rfl, hnS⟩

theorem okC_sm (c : UInt8) : okC c = true ↔ smN c.toNat = c.toNat ∧ smN c.toNat ≠ 0 := by
  have h := UInt8.toNat_lt c
  unfold okC smN
  simp only [Bool.or_eq_true, Bool.and_eq_true, decide_eq_true_eq]
  constructor
  · intro h1
    rw [if_neg (by omega), if_pos (by omega)]; omega
  · intro h1
    split at h1
    · omega
    · split at h1 <;> omega
set_option maxRecDepth 100000 in
set_option maxHeartbeats 2000000 in
theorem word_any (s : ByteArray) (w : World) (hs : s.size ≤ 9223372036854775807) : Calls Tryz.prog 52 #[.string s] w fun e w' => e = .returned (.bool (okW s)) ∧ New w w' := by
  have HS := Lib.hid (fun (n : Nat) (hn : n < 256) W => (small_any n hn W).mono fun e w' (h : e = .returned (.int .u8 (smN n)) ∧ W = w') => (⟨h.1, h.2.symm⟩ : e = .returned (.int .u8 (smN n)) ∧ w' = W))
  go_enter Tryz.func52, Tryz.ntmps52
  go_wp2
  go_loopw [3] (fun v3 wr => ∃ i : Nat, v3 = .int .i64 i ∧ i ≤ s.size ∧ New w wr ∧ Hid ((s.data.toList.take i).all okC = true)) (fun v3 _ => s.size - (intOf v3).toNat)
  case atStart => exact ⟨0, rfl, by omega, New.refl _, Lib.hid (by simp)⟩
  case round =>
    obtain ⟨i, rfl, hi, hn, HA⟩ := hrel
    by_cases hlt : i < s.size
    · have hl2 : i < s.data.toList.length := by rw [← size_eq]; exact hlt
      have htk : (s.data.toList.take (i + 1)).all okC = ((s.data.toList.take i).all okC && okC s[i]) := by
        rw [List.take_succ_eq_append_getElem hl2, List.all_append, ← get_eq s i hlt]; simp
      rw [HA.out, Bool.true_and] at htk
      have hin : s[i] ∈ s.data.toList := by rw [get_eq s i hlt]; exact List.getElem_mem hl2
      have hno : okC s[i] = false → okW s = false := fun h => by
        rw [okW]
        cases e : s.data.toList.all okC with
        | false => simp
        | true => rw [List.all_eq_true.1 e _ hin] at h; cases h
      have hc2 := UInt8.toNat_lt s[i]
      have hok := okC_sm s[i]
      have HT := Lib.hid htk
      have HNO := Lib.hid hno
      have hsl := smN_lt s[i].toNat hc2
      have HSI := Lib.hid (HS.out s[i].toNat hc2)
      clear htk hin hno
      obtain ⟨m, hm⟩ : ∃ m, smN s[i].toNat = m := ⟨_, rfl⟩
      rw [hm] at hok hsl HSI
      clear hm
      by_cases h1 : m = s[i].toNat
      · have c1 : ((m : Int) != (s[i].toNat : Int)) = false := by rw [h1]; simp
        by_cases h2 : m = 0
        · have c2 : ((m : Int) == 0) = true := beq_iff_eq.2 (by omega)
          have hf : okC s[i] = false := by
            cases e : okC s[i] with
            | false => rfl
            | true => exact absurd h2 (hok.1 e).2
          have HF := Lib.hid (HNO.out hf)
          clear hf hok h1 h2
          go_wp2
          go_quiet ((go_at_call 68; exact Calls.quiet_of_same (HSI.out _)))
          go_wp2
          rw [HF.out]
          exact bodyPost_ret (v := .bool false) (by simp [results, Tryz.results52, go_sem]) rfl ⟨rfl, hn.drewN nq⟩
        · have c2 : ((m : Int) == 0) = false := beq_eq_false_iff_ne.2 (by omega)
          have HF := Lib.hid (hok.2 ⟨h1, h2⟩)
          clear hok h1 h2
          go_wp2
          go_quiet ((go_at_call 68; exact Calls.quiet_of_same (HSI.out _)))
          go_wp2
          go_roundw
          case rel => exact ⟨i + 1, by go_num, by omega, hn.drewN nq, Lib.hid (by rw [HT.out]; exact HF.out)⟩
          case measure => simp [intOf]; omega
      · have c1 : ((m : Int) != (s[i].toNat : Int)) = true := bne_iff_ne.2 (by omega)
        have hf : okC s[i] = false := by
          cases e : okC s[i] with
          | false => rfl
          | true => exact absurd (hok.1 e).1 h1
        have HF := Lib.hid (HNO.out hf)
        clear hf hok h1
        go_wp2
        go_quiet ((go_at_call 68; exact Calls.quiet_of_same (HSI.out _)))
        go_wp2
        rw [HF.out]
        exact bodyPost_ret (v := .bool false) (by simp [results, Tryz.results52, go_sem]) rfl ⟨rfl, hn.drewN nq⟩
    · obtain rfl : i = s.size := by omega
      have hall := HA.out
      rw [List.take_of_length_le (by rw [← size_eq]; exact Nat.le_refl _)] at hall
      by_cases h0 : 0 < s.size
      · have hv : okW s = true := by rw [okW, hall, decide_eq_true h0]; rfl
        have hne : s.toList.isEmpty = false := by
          rw [toList_eq]
          cases hq : s.data.toList with
          | nil => rw [size_eq, hq] at h0; simp at h0
          | cons a b => rfl
        have HV := Lib.hid hv
        clear hall hv
        go_wp2
        go_ret
        exact ⟨by rw [HV.out]; rfl, hn⟩
      · have hv : okW s = false := by rw [okW, decide_eq_false h0]; rfl
        have hne : s.toList.isEmpty = true := by
          rw [toList_eq]
          cases hq : s.data.toList with
          | nil => rfl
          | cons a b => rw [size_eq, hq] at h0; simp at h0
        have HV := Lib.hid hv
        clear hall hv
        go_wp2
        go_ret
        exact ⟨by rw [HV.out]; rfl, hn⟩
end Go.Proofs.YtpoelhnceebmkaaGreatDoor
