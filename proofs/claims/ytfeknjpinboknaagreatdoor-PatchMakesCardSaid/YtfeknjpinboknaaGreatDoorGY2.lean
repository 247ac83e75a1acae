/- The law's few: every string is short; what the two Makes return. Conditions: none but the model's own sizes. The law PatchMakes: it answers true. Conditions: none but the world's. -/
import Derived.Test.YtfeknjpinboknaaGreatDoorGW30
import Derived.Test.YtfeknjpinboknaaGreatDoorGW9
import Derived.Test.YtfeknjpinboknaaGreatDoorGY1

namespace Go.Proofs.YtfeknjpinboknaaGreatDoor
open Go Go.RowKit Go.Joins Go.Shelf
set_option linter.unusedSimpArgs false
set_option linter.unusedVariables false

set_option maxRecDepth 100000 in
set_option maxHeartbeats 16000000 in
theorem fews_any (A : Option Addr) (n c : Nat) (ls : List ByteArray) (w : World) (hr : Rd w 1 A n (sCells ls)) (hl : ls.length = n) (hn : n ≤ maxLen) :
    Calls Tryz.prog 20 #[.slice A n c] w fun e w' => ∃ b, e = .returned (.bool b) ∧ w' = w ∧ (b = true → ∀ s ∈ ls, s.size ≤ 500) := by
  have HR := Lib.hid hr
  have HL := Lib.hid hl
  have hn' : n ≤ 9223372036854775807 := by simp only [maxLen] at hn; omega
  clear hr hl hn
  go_enter Tryz.func20, Tryz.ntmps20
  go_wp2
  go_loopw [4, 7] (fun _ v7 wr => ∃ k : Nat, v7 = .int .i64 (k : Int) ∧ k ≤ n ∧ wr = w ∧ Hid (∀ s ∈ ls.take k, s.size ≤ 500)) (fun _ v7 _ => n - (intOf v7).toNat)
  case atStart => exact ⟨0, rfl, Nat.zero_le _, rfl, Lib.hid (fun s hs => by simp at hs)⟩
  case round =>
    obtain ⟨k, rfl, hk, rfl, HS⟩ := hrel
    by_cases hlt : k < n
    · obtain ⟨b1, o1, s, rfl, hs1, y0⟩ := rd_str HL.out HR.out hlt
      have HTK : Hid (ls.take (k + 1) = ls.take k ++ [s]) := Lib.hid (by rw [List.take_add_one, hs1]; rfl)
      have i0 : (0 : Int) ≤ (k : Int) := by omega
      have i1 : (k : Int) < (n : Int) := by omega
      clear hs1
      by_cases hs2 : 500 < s.size
      · have x3 : (500 : Int) < (s.size : Int) := by omega
        go_wp2
        go_ret
        exact ⟨false, rfl, rfl, fun h => by cases h⟩
      · have x3 : ¬ (500 : Int) < (s.size : Int) := by omega
        have HS2 : Hid (∀ u ∈ ls.take (k + 1), u.size ≤ 500) := Lib.hid (fun u hu => by
          rw [HTK.out] at hu
          rcases List.mem_append.1 hu with hu | hu
          · exact HS.out u hu
          · rw [List.mem_singleton] at hu; subst hu; omega)
        go_wp2
        go_roundw
        case rel => exact ⟨k + 1, by go_num, by omega, by first | rfl | trivial, HS2⟩
        case measure => simp [intOf]; omega
    · obtain rfl : k = n := by omega
      have HS3 := HS.out
      rw [List.take_of_length_le (by rw [HL.out]; exact Nat.le_refl _)] at HS3
      have HS4 := Lib.hid HS3
      clear HS3
      go_wp2
      go_ret
      exact ⟨true, rfl, rfl, fun _ => HS4.out⟩
def mkD (s1 s2 : ByteArray) : List Hk := if (linesE s1 = 0 ∧ linesE s2 = 0) ∧ validV ⟨#[]⟩ (mkL s1 s2) = true then mkL s1 s2 else []
def mkR (s1 s2 : ByteArray) : Int := if (linesE s1 = 0 ∧ linesE s2 = 0) ∧ validV ⟨#[]⟩ (mkL s1 s2) = true then 0 else 10
theorem mkL_sz {s1 s2 : ByteArray} (h1 : linesE s1 = 0) (h2 : linesE s2 = 0) (hs : s2.size ≤ 1000000) : SzK (mkL s1 s2) ∧ (mkL s1 s2).length ≤ 90000 := by
  have hla := lines_len h1
  have hlb := lines_len h2
  have hk := kept_len (parts 10 s1) (parts 10 s2) 0 0
  have hk2 := (lcs_le (parts 10 s1) (parts 10 s2)).1
  have hb := ofL_bound (parts_sz hs) hlb (keptL (parts 10 s1) (parts 10 s2) 0 0) (fun p hp => by
    have h1 := kept_fst _ _ 0 0 p hp
    have h2 := kept_snd _ _ 0 0 p hp
    exact ⟨by omega, by omega⟩) (by omega)
  refine ⟨?_, ?_⟩
  · rw [mkL, ofV, emit]
    exact (hb.2.1.app (SzK.dropH _)).app (SzK.addH (by simp only [List.length_take, List.length_drop]; omega) (fun s h => parts_sz hs s (List.mem_of_mem_drop (List.mem_of_mem_take h))))
  · rw [mkL, ofV, emit, List.length_append, List.length_append]
    have h3 := hb.2.2.1
    have h4 : (dropH ((parts 10 s1).length - (ofL (parts 10 s2) (keptL (parts 10 s1) (parts 10 s2) 0 0)).2.1)).length ≤ 1 := by unfold dropH; split <;> simp
    have h5 : (addH (((parts 10 s2).drop (ofL (parts 10 s2) (keptL (parts 10 s1) (parts 10 s2) 0 0)).2.2).take ((parts 10 s2).length - (ofL (parts 10 s2) (keptL (parts 10 s1) (parts 10 s2) 0 0)).2.2))).length ≤ 1 := by unfold addH; split <;> simp
    omega
theorem mk_out {s1 s2 : ByteArray} {w w' : World} {e : Ending} (h : MkP s1 s2 w e w') (hs : s2.size ≤ 1000000) : New w w' ∧ ∃ A n c hs', e = .returned (.tuple #[.agg #[.string ⟨#[]⟩, .slice A n c], .int .i64 (mkR s1 s2)]) ∧ n = (mkD s1 s2).length ∧ PRd w' A n hs' ∧ SzH hs' ∧ hs'.map Hm.d = mkD s1 s2 := by
  unfold MkP at h
  by_cases hl : linesE s1 = 0 ∧ linesE s2 = 0
  · rw [if_pos hl] at h
    obtain ⟨hn, h⟩ := h
    refine ⟨hn, ?_⟩
    by_cases hv : validV ⟨#[]⟩ (mkL s1 s2) = true
    · rw [if_pos hv] at h
      obtain ⟨A, c, hs', he, hp, _, _, hm⟩ := h
      have hz := mkL_sz hl.1 hl.2 hs
      rw [mkR, mkD, if_pos ⟨hl, hv⟩, if_pos ⟨hl, hv⟩]
      refine ⟨A, hs'.length, c, hs', he, by rw [← hm, List.length_map], hp, SzK.szh (by rw [hm]; exact hz.1) ?_, hm⟩
      have := hz.2
      rw [← hm, List.length_map] at this
      omega
    · rw [if_neg hv] at h
      rw [mkR, mkD, if_neg (fun q => hv q.2), if_neg (fun q => hv q.2)]
      exact ⟨none, 0, 0, [], h, rfl, prd_nil _, szh_nil, rfl⟩
  · rw [if_neg hl] at h
    refine ⟨h.1, ?_⟩
    rw [mkR, mkD, if_neg (fun q => hl q.1), if_neg (fun q => hl q.1)]
    exact ⟨none, 0, 0, [], h.2, rfl, prd_nil _, szh_nil, rfl⟩
end Go.Proofs.YtfeknjpinboknaaGreatDoor

namespace Go.Proofs.YtfeknjpinboknaaGreatDoor
open Go Go.RowKit Go.Joins Go.Shelf
set_option linter.unusedSimpArgs false
set_option linter.unusedVariables false

set_option maxRecDepth 100000 in
set_option maxHeartbeats 16000000 in
theorem law_makes (s1 s2 : ByteArray) (w : World) (hE : Env w) :
    Calls Tryz.prog 5 #[.string s1, .string s2] w fun e w' => e = .returned (.bool true) ∧ New w w' := by
  have HE := Lib.hid hE
  clear hE
  go_enter Tryz.func5, Tryz.ntmps5
  go_wp2_with (fail)
  with_reducible refine (awake_any _ HE.out).mono ?_
  rintro e w1 ⟨rfl, m1⟩
  have n1 := m1.alloc (.cells #[.string s1, .string s2] 9)
  have HF := Lib.hid (fews_any (some ⟨w1.heap.size, 0, none⟩) 2 2 [s1, s2] (w1.alloc (.cells #[.string s1, .string s2] 9)) (rd_new w1 (sCells [s1, s2]) 9 _ (by simp [sCells])) rfl (by decide))
  go_wp2_with (fail)
  generalize w1.alloc (.cells #[.string s1, .string s2] 9) = w2 at *
  with_reducible refine HF.out.mono ?_
  rintro e w3 ⟨b, rfl, rfl, hb⟩
  cases b
  · go_wp2
    go_ret
    exact ⟨rfl, n1⟩
  have hs1 := hb rfl s1 (by simp)
  have hs2 := hb rfl s2 (by simp)
  have HM := Lib.hid (make_any s1 s2 w3 (by omega) (by omega) (HE.out.new n1))
  clear hb HF
  go_wp2_with (fail)
  with_reducible refine HM.out.mono ?_
  rintro e w4 hmk
  obtain ⟨n4, A, n, c, hA, rfl, hn, hp, hz, hm⟩ := mk_out hmk (by omega)
  have HN := Lib.hid ((n1.trans n4).alloc (.cells #[.string ⟨#[]⟩, .slice A n c] 24))
  have BX := Lib.hid (Blk.made w4 24 #[.string ⟨#[]⟩, .slice A n c])
  have HP := Lib.hid (hp.new ((New.refl w4).alloc (.cells #[.string ⟨#[]⟩, .slice A n c] 24)))
  have HZ := Lib.hid hz
  have HMA := Lib.hid hm
  have HNA := Lib.hid hn
  obtain ⟨gx, hgx⟩ : ∃ gx, w4.heap.size = gx := ⟨_, rfl⟩
  have HGX := Lib.hid hgx
  rw [hgx] at BX
  clear hmk hn hp hz hm hgx n1 n4 HM
  have HM2 := Lib.hid (rmake_any s1 s2 (w4.alloc (.cells #[.string ⟨#[]⟩, .slice A n c] 24)) (by omega) (by omega))
  go_wp2_with (fail)
  rw [HGX.out]
  generalize w4.alloc (.cells #[.string ⟨#[]⟩, .slice A n c] 24) = w5 at *
  with_reducible refine HM2.out.mono ?_
  rintro e w6 hmk
  obtain ⟨n6, A', n', c', hB, rfl, hn', hp', hz', hm'⟩ := mk_out hmk (by omega)
  obtain rfl : n = n' := HNA.out.trans hn'.symm
  have NX := (New.refl w6).alloc (.cells #[.string ⟨#[]⟩, .slice A' n c'] 24)
  have HN7 := Lib.hid ((HN.out.trans n6).trans NX)
  have BX7 := BX.out.new (n6.trans NX)
  have BY7 := Blk.made w6 24 #[.string ⟨#[]⟩, .slice A' n c']
  have HS := Lib.hid (samep_any ⟨#[]⟩ A A' n c c' hA hB (w6.alloc (.cells #[.string ⟨#[]⟩, .slice A' n c'] 24)) (HP.out.new (n6.trans NX)) (hp'.new NX) HZ.out (HMA.out.trans hm'.symm))
  have x0 := BX7.cell' 0 _ rfl
  have x1 := BX7.cell' 1 _ rfl
  have y0 := BY7.cell' 0 _ rfl
  have y1 := BY7.cell' 1 _ rfl
  clear hmk hn' hp' hz' hm' n6 NX BX7 BY7 HM2
  go_wp2_with (fail)
  with_reducible refine HS.out.mono ?_
  rintro e w8 ⟨rfl, n8⟩
  have t1 : (mkR s1 s2 == mkR s1 s2) = true := by simp
  go_wp2
  go_ret
  exact ⟨rfl, HN7.out.trans n8⟩
end Go.Proofs.YtfeknjpinboknaaGreatDoor

