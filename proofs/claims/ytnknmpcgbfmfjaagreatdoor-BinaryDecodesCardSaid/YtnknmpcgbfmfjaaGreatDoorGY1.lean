/- The reader of codec: count, fail, Number, Text, Close, Err, NewReader. Conditions: sizes. (Printed by mk-y1.py.) The reader of codec: Number and Text. Conditions: sizes. -/
import Derived.Test.YtnknmpcgbfmfjaaGreatDoorGX

namespace Go.Proofs.YtnknmpcgbfmfjaaGreatDoor
open Go Go.RowKit Go.Joins
set_option linter.unusedSimpArgs false
set_option linter.unusedVariables false

theorem cnt_at {most i n : Nat} {e : UInt8} {s : ByteArray} (h : i < s.size) : cntGo most e (s.data.toList.drop i) i n =
    if s[i] = e ∧ 0 < i then some (n, i + 1) else if s[i].toNat < 48 ∨ 57 < s[i].toNat ∨ (0 < i ∧ n = 0) then none
    else if most < 10 * n + (s[i].toNat - 48) then none else cntGo most e (s.data.toList.drop (i + 1)) (i + 1) (10 * n + (s[i].toNat - 48)) := by
  rw [get_eq s i h, List.drop_eq_getElem_cons (by rw [← size_eq]; exact h), cntGo]
def CntP (most : Nat) (c : UInt8) (l : List UInt8) (e : Ending) : Prop := match cntGo most c l 0 0 with
  | some (n, k) => e = .returned (.tuple #[.int .i64 (n : Nat), .int .i64 (k : Nat), .int .i64 0])
  | none => ∃ x : Int, x ≠ 0 ∧ e = .returned (.tuple #[.int .i64 0, .int .i64 0, .int .i64 x])
theorem cntP_no {most : Nat} {c : UInt8} {l : List UInt8} {e : Ending} {x : Int} (h : none = cntGo most c l 0 0) (hx : x ≠ 0) (he : e = .returned (.tuple #[.int .i64 0, .int .i64 0, .int .i64 x])) : CntP most c l e := by
  unfold CntP
  rw [← h]
  exact ⟨x, hx, he⟩
theorem cntP_yes {most n k : Nat} {c : UInt8} {l : List UInt8} {e : Ending} (h : some (n, k) = cntGo most c l 0 0) (he : e = .returned (.tuple #[.int .i64 (n : Nat), .int .i64 (k : Nat), .int .i64 0])) : CntP most c l e := by
  unfold CntP
  rw [← h]
  exact he
set_option maxRecDepth 100000 in
set_option maxHeartbeats 8000000 in
theorem count_any (g : Nat) (s : ByteArray) (er : Int) (most : Nat) (c : UInt8) (w : World) (hB : Blk w g 165 #[.string s, .int .i64 er]) (hs : s.size ≤ 1000000) (hm : most ≤ 281474976710656) (hc : digB c = false) :
    Calls Tryz.prog 107 #[.pointer (some ⟨g, 0, none⟩), .int .i64 most, .int .u8 c.toNat] w fun e w' => CntP most c s.data.toList e ∧ w' = w := by
  have hb0 := hB.cell' 0 _ rfl
  have hb1 := hB.cell' 1 _ rfl
  have hcd : ¬ (48 ≤ c.toNat ∧ c.toNat ≤ 57) := by rw [← digB_iff, hc]; decide
  obtain ⟨cn, hcn⟩ : ∃ cn : Int, (c.toNat : Int) = cn := ⟨_, rfl⟩
  rw [hcn]
  have HCN := Lib.hid hcn
  have HCD := Lib.hid hcd
  have HNO := Lib.hid (fun (x : Int) (e : Ending) (h : none = cntGo most c s.data.toList 0 0) (hx : x ≠ 0) he => cntP_no (e := e) h hx he)
  have HYES := Lib.hid (fun (n k : Nat) (e : Ending) (h : some (n, k) = cntGo most c s.data.toList 0 0) he => cntP_yes (e := e) h he)
  obtain ⟨X, hX⟩ : ∃ X, cntGo most c s.data.toList 0 0 = X := ⟨_, rfl⟩
  rw [hX] at HNO HYES
  generalize CntP most c s.data.toList = PP at *
  have H0 : Hid (cntGo most c (s.data.toList.drop 0) 0 0 = X) := Lib.hid hX
  clear hcn hcd hc hX hB
  go_enter Tryz.func107, Tryz.ntmps107
  go_wp2
  go_step3
  go_wp2
  go_step3
  go_wp2
  go_loopw [9, 10] (fun v9 v10 wr => ∃ (i n : Nat), v9 = .int .i64 n ∧ v10 = .int .i64 i ∧ i ≤ s.size ∧ n ≤ most ∧ (2 ≤ i → 0 < n) ∧ wr = w ∧ Hid (cntGo most c (s.data.toList.drop i) i n = X)) (fun _ v10 _ => s.size - (intOf v10).toNat)
  case atStart => exact ⟨0, 0, rfl, rfl, by omega, by omega, by omega, rfl, H0⟩
  case round =>
    clear H0
    obtain ⟨i, n, rfl, rfl, hi, hn, hin, rfl, H⟩ := hrel
    by_cases hlt : i < s.size
    · have HC := Lib.hid (cnt_at (most := most) (e := c) (n := n) hlt)
      have hc2 := UInt8.toNat_lt s[i]
      have HI := Lib.hid hin
      have i0 : (0 : Int) ≤ (i : Int) := by omega
      have i1 : (i : Int) < (s.size : Int) := by omega
      have i2 : ((i : Int) == (s.size : Int)) = false := beq_eq_false_iff_ne.2 (by omega)
      clear hin
      by_cases hce : s[i] = c
      · have y0 : ((s[i].toNat : Int) == cn) = true := by rw [← HCN.out, hce]; simp
        by_cases z0 : 0 < i
        · have z1 : (0 : Int) < (i : Int) := by omega
          have HX : Hid (some (n, i + 1) = X) := Lib.hid (by rw [← H.out, HC.out, if_pos ⟨hce, z0⟩])
          have u1 : IntKind.i64.wrap ((i : Int) + 1) = ((i + 1 : Nat) : Int) := by rw [IntWalk.i64_in _ (by omega)]; omega
          clear hce
          go_wp2
          (try rw [Exit.noGoto_ret]); exact bodyPost_ret (v := .tuple #[.int .i64 (n : Nat), .int .i64 ((i + 1 : Nat) : Int), .int .i64 0]) (by simp [results, Tryz.results107, go_sem]) rfl ⟨HYES.out n (i + 1) _ HX.out rfl, rfl⟩
        · have z1 : ¬ (0 : Int) < (i : Int) := by omega
          have hd : ¬ (48 ≤ s[i].toNat ∧ s[i].toNat ≤ 57) := by rw [hce]; exact HCD.out
          have HX : Hid (none = X) := Lib.hid (by rw [← H.out, HC.out, if_neg (fun h => z0 h.2), if_pos (by omega)])
          clear hce
          by_cases q1 : s[i].toNat < 48
          · have y1 : decide ((s[i].toNat : Int) < 48) = true := decide_eq_true (by omega)
            go_wp2
            (try rw [Exit.noGoto_ret]); exact bodyPost_ret (v := .tuple #[.int .i64 0, .int .i64 0, .int .i64 17]) (by simp [results, Tryz.results107, go_sem]) rfl ⟨HNO.out 17 _ HX.out (by decide) rfl, rfl⟩
          · have q2' : 57 < s[i].toNat := by omega
            have y1 : decide ((s[i].toNat : Int) < 48) = false := decide_eq_false (by omega)
            have y2 : decide ((57 : Int) < (s[i].toNat : Int)) = true := decide_eq_true (by omega)
            go_wp2
            (try rw [Exit.noGoto_ret]); exact bodyPost_ret (v := .tuple #[.int .i64 0, .int .i64 0, .int .i64 17]) (by simp [results, Tryz.results107, go_sem]) rfl ⟨HNO.out 17 _ HX.out (by decide) rfl, rfl⟩
      · have y0 : ((s[i].toNat : Int) == cn) = false := by
          rw [← HCN.out]
          exact beq_eq_false_iff_ne.2 (fun h => hce (UInt8.toNat_inj.1 (by omega)))
        have HCE : Hid (¬ (s[i] = c ∧ 0 < i)) := Lib.hid (fun h => hce h.1)
        clear hce
        by_cases q1 : s[i].toNat < 48
        · have HX : Hid (none = X) := Lib.hid (by rw [← H.out, HC.out, if_neg HCE.out, if_pos (by omega)])
          have y1 : decide ((s[i].toNat : Int) < 48) = true := decide_eq_true (by omega)
          go_wp2
          (try rw [Exit.noGoto_ret]); exact bodyPost_ret (v := .tuple #[.int .i64 0, .int .i64 0, .int .i64 17]) (by simp [results, Tryz.results107, go_sem]) rfl ⟨HNO.out 17 _ HX.out (by decide) rfl, rfl⟩
        · by_cases q2' : 57 < s[i].toNat
          · have HX : Hid (none = X) := Lib.hid (by rw [← H.out, HC.out, if_neg HCE.out, if_pos (by omega)])
            have y1 : decide ((s[i].toNat : Int) < 48) = false := decide_eq_false (by omega)
            have y2 : decide ((57 : Int) < (s[i].toNat : Int)) = true := decide_eq_true (by omega)
            go_wp2
            (try rw [Exit.noGoto_ret]); exact bodyPost_ret (v := .tuple #[.int .i64 0, .int .i64 0, .int .i64 17]) (by simp [results, Tryz.results107, go_sem]) rfl ⟨HNO.out 17 _ HX.out (by decide) rfl, rfl⟩
          · have y1 : decide ((s[i].toNat : Int) < 48) = false := decide_eq_false (by omega)
            have y2 : decide ((57 : Int) < (s[i].toNat : Int)) = false := decide_eq_false (by omega)
            by_cases q3 : i = 1 ∧ n = 0
            · have HX : Hid (none = X) := Lib.hid (by rw [← H.out, HC.out, if_neg HCE.out, if_pos (by omega)])
              have y3 : ((i : Int) == 1) = true := beq_iff_eq.2 (by omega)
              have y4 : ((n : Int) == 0) = true := beq_iff_eq.2 (by omega)
              clear q3
              go_wp2
              (try rw [Exit.noGoto_ret]); exact bodyPost_ret (v := .tuple #[.int .i64 0, .int .i64 0, .int .i64 17]) (by simp [results, Tryz.results107, go_sem]) rfl ⟨HNO.out 17 _ HX.out (by decide) rfl, rfl⟩
            · have HX := Lib.hid (H.out.symm.trans (by rw [HC.out, if_neg HCE.out, if_neg (by have := HI.out; omega)]))
              have y3 : (((i : Int) == 1) = true ∧ ((n : Int) == 0) = false) ∨ ((i : Int) == 1) = false := by
                by_cases h : i = 1
                · exact Or.inl ⟨beq_iff_eq.2 (by omega), beq_eq_false_iff_ne.2 (by omega)⟩
                · exact Or.inr (beq_eq_false_iff_ne.2 (by omega))
              obtain ⟨d, hd⟩ : ∃ d : Nat, s[i].toNat - 48 = d := ⟨_, rfl⟩
              have u1 : IntKind.u8.wrap ((s[i].toNat : Int) - 48) = (d : Int) := by rw [IntWalk.u8_in _ (by omega)]; omega
              have u2 : IntKind.i64.wrap (10 * (n : Int)) = 10 * (n : Int) := IntWalk.i64_in _ (by omega)
              have u3 : IntKind.i64.wrap (10 * (n : Int) + (d : Int)) = ((10 * n + d : Nat) : Int) := by rw [IntWalk.i64_in _ (by omega)]; omega
              have u4 : IntKind.i64.wrap (d : Int) = (d : Int) := IntWalk.i64_in _ (by omega)
              rw [hd] at HX
              have HN0 : Hid (2 ≤ i + 1 → 0 < 10 * n + d) := Lib.hid (fun h => by have := HI.out; omega)
              clear q3
              by_cases q4 : most < 10 * n + d
              · have y5 : (most : Int) < ((10 * n + d : Nat) : Int) := by omega
                have HX2 : Hid (none = X) := Lib.hid (by rw [HX.out, if_pos q4])
                clear q4
                rcases y3 with ⟨y3, y4⟩ | y3
                all_goals
                  go_wp2
                  (try rw [Exit.noGoto_ret]); exact bodyPost_ret (v := .tuple #[.int .i64 0, .int .i64 0, .int .i64 17]) (by simp [results, Tryz.results107, go_sem]) rfl ⟨HNO.out 17 _ HX2.out (by decide) rfl, rfl⟩
              · have y5 : ¬ (most : Int) < ((10 * n + d : Nat) : Int) := by omega
                have HX2 := Lib.hid (HX.out.trans (if_neg q4))
                have HQ := Lib.hid q4
                clear q4
                rcases y3 with ⟨y3, y4⟩ | y3
                all_goals
                  go_wp2
                  go_roundw
                  case rel =>
                    exact ⟨i + 1, 10 * n + d, by go_num, by go_num, by omega, by have := HQ.out; omega, HN0.out, trivial, Lib.hid HX2.out.symm⟩
                  case measure => simp [intOf]; omega
    · obtain rfl : i = s.size := by omega
      have HX : Hid (none = X) := Lib.hid (by rw [← H.out, List.drop_of_length_le (by rw [← size_eq]; exact Nat.le_refl _), cntGo])
      go_wp2
      (try rw [Exit.noGoto_ret]); exact bodyPost_ret (v := .tuple #[.int .i64 0, .int .i64 0, .int .i64 13]) (by simp [results, Tryz.results107, go_sem]) rfl ⟨HNO.out 13 _ HX.out (by decide) rfl, rfl⟩

def RdrP (w : World) (g : Nat) (s : RS) : Prop := match s with
  | some l => Blk w g 165 #[.string (S l), .int .i64 0]
  | none => ∃ x : Int, x ≠ 0 ∧ Blk w g 165 #[.string ⟨#[]⟩, .int .i64 x]
def RSz (s : RS) : Prop := match s with
  | some l => l.length ≤ 1000000
  | none => True
theorem RdrP.far {w w' : World} {g : Nat} {s : RS} {row : Option Nat} (h : RdrP w g s) (hg : w.grownBy w' row) (hr : some g ≠ row) : RdrP w' g s := by
  cases s with
  | some l => exact Blk.grown h hg hr
  | none => obtain ⟨x, hx, hb⟩ := h; exact ⟨x, hx, hb.grown hg hr⟩
theorem RdrP.new {w w' : World} {g : Nat} {s : RS} (h : RdrP w g s) (hg : New w w') : RdrP w' g s := by
  cases s with
  | some l => exact Blk.new h hg
  | none => obtain ⟨x, hx, hb⟩ := h; exact ⟨x, hx, hb.new hg⟩
theorem RdrP.lt {w : World} {g : Nat} {s : RS} (h : RdrP w g s) : g < w.heap.size := by
  cases s with
  | some l => exact Blk.lt h
  | none => obtain ⟨x, hx, hb⟩ := h; exact hb.lt
theorem grown_set (w : World) (g i : Nat) (v : Value) : w.grownBy (w.setCell ⟨g, i, none⟩ v) (some g) :=
  ⟨rfl, rfl, rfl, by simp [World.setCell], fun k hk hne => Below.heap_setCell w ⟨g, i, none⟩ v k (fun e => hne (by rw [e]))⟩
set_option maxHeartbeats 1000000 in
theorem newReader_any (s : ByteArray) (w : World) : Calls Tryz.prog 54 #[.string s] w fun e w' => e = .returned (.pointer (some ⟨w.heap.size, 0, none⟩)) ∧ w' = w.alloc (.cells #[.string s, .int .i64 0] 165) := by
  go_enter Tryz.func54, Tryz.ntmps54
  go_wp2
  exact bodyPost_ret (v := .pointer (some ⟨w.heap.size, 0, none⟩)) (by simp [results, Tryz.results54, go_sem]) rfl ⟨rfl, rfl⟩
set_option maxHeartbeats 1000000 in
theorem rerr_any (g : Nat) (s : RS) (w : World) (h : RdrP w g s) : Calls Tryz.prog 110 #[.pointer (some ⟨g, 0, none⟩)] w fun e w' => (∃ x : Int, e = .returned (.int .i64 x) ∧ (x == 0) = s.isSome) ∧ w' = w := by
  cases s with
  | some l =>
    have hb1 := Blk.cell' h 1 _ rfl
    go_enter Tryz.func110, Tryz.ntmps110
    go_wp2
    exact bodyPost_ret (v := .int .i64 0) (by simp [results, Tryz.results110, go_sem]) rfl ⟨⟨0, rfl, rfl⟩, rfl⟩
  | none =>
    obtain ⟨x, hx, hb⟩ := h
    have hb1 := hb.cell' 1 _ rfl
    have HX := Lib.hid hx
    clear hx
    go_enter Tryz.func110, Tryz.ntmps110
    go_wp2
    exact bodyPost_ret (v := .int .i64 x) (by simp [results, Tryz.results110, go_sem]) rfl ⟨⟨x, rfl, by rw [beq_eq_false_iff_ne.2 HX.out]; rfl⟩, rfl⟩
theorem toList_ne {s : ByteArray} (h : s.data.toList ≠ []) : (s.toList == ([] : List UInt8)) = false := by
  rw [toList_eq]
  exact beq_eq_false_iff_ne.2 h
set_option maxHeartbeats 2000000 in
theorem close_any (g : Nat) (s : RS) (w : World) (h : RdrP w g s) : Calls Tryz.prog 68 #[.pointer (some ⟨g, 0, none⟩)] w fun e w' => (∃ x : Int, e = .returned (.int .i64 x) ∧ (x == 0) = decide (s = some [])) ∧ w' = w := by
  cases s with
  | some l =>
    have hb0 := Blk.cell' h 0 _ rfl
    have hb1 := Blk.cell' h 1 _ rfl
    cases l with
    | nil =>
      have t0 : ((S []).toList == ([] : List UInt8)) = true := by rw [toList_eq]; rfl
      clear h
      go_enter Tryz.func68, Tryz.ntmps68
      go_wp2
      exact bodyPost_ret (v := .int .i64 0) (by simp [results, Tryz.results68, go_sem]) rfl ⟨⟨0, rfl, by simp⟩, rfl⟩
    | cons c r =>
      have t0 : ((S (c :: r)).toList == ([] : List UInt8)) = false := toList_ne (by rw [data_S]; simp)
      clear h
      generalize S (c :: r) = t at *
      go_enter Tryz.func68, Tryz.ntmps68
      go_wp2
      exact bodyPost_ret (v := .int .i64 17) (by simp [results, Tryz.results68, go_sem]) rfl ⟨⟨17, rfl, by simp⟩, rfl⟩
  | none =>
    obtain ⟨x, hx, hb⟩ := h
    have hb0 := hb.cell' 0 _ rfl
    have hb1 := hb.cell' 1 _ rfl
    have HX := Lib.hid hx
    have t1 : (x == 0) = false := beq_eq_false_iff_ne.2 hx
    clear hx hb
    go_enter Tryz.func68, Tryz.ntmps68
    go_wp2
    exact bodyPost_ret (v := .int .i64 x) (by simp [results, Tryz.results68, go_sem]) rfl ⟨⟨x, rfl, by rw [beq_eq_false_iff_ne.2 HX.out]; simp⟩, rfl⟩
set_option maxHeartbeats 2000000 in
theorem fail_any (g : Nat) (t : ByteArray) (x : Int) (w : World) (h : Blk w g 165 #[.string t, .int .i64 0]) (hx : x ≠ 0) : Calls Tryz.prog 108 #[.pointer (some ⟨g, 0, none⟩), .int .i64 x] w fun e w' => e = .returned (.tuple #[]) ∧ RdrP w' g none ∧ w.grownBy w' (some g) := by
  have hb0 := h.cell' 0 _ rfl
  have hb1 := h.cell' 1 _ rfl
  have hf0 := h.free 0
  have hf1 := h.free 1
  have hB1 := h.put 1 (.int .i64 x)
  have c0 := hB1.cell' 0 _ rfl
  have d0 := hB1.free 0
  have hB2 := hB1.put 0 (.string ⟨#[]⟩)
  have HX := Lib.hid hx
  have HB := Lib.hid hB2
  have HG := Lib.hid ((grown_set w g 1 (.int .i64 x)).trans (grown_set _ g 0 (.string ⟨#[]⟩)))
  clear hx h hB1 hB2
  go_enter Tryz.func108, Tryz.ntmps108
  go_wp2
  go_end0
  exact ⟨rfl, ⟨x, HX.out, HB.out⟩, HG.out⟩
end Go.Proofs.YtnknmpcgbfmfjaaGreatDoor

namespace Go.Proofs.YtnknmpcgbfmfjaaGreatDoor
open Go Go.RowKit Go.Joins
set_option linter.unusedSimpArgs false
set_option linter.unusedVariables false

theorem drop_S (l : List UInt8) (k : Nat) : (S l).extract k (S l).size = S (l.drop k) := by
  rw [extract_S, data_S, size_S, List.take_of_length_le (by rw [List.length_drop]; exact Nat.le_refl _)]
theorem cnt_len {most : Nat} {e : UInt8} {l : List UInt8} {m k : Nat} (h : cntGo most e l 0 0 = some (m, k)) : k ≤ l.length ∧ m ≤ most := by
  obtain ⟨r, h1, h2, h3⟩ := cnt_some h
  refine ⟨?_, h3⟩
  rw [h1, h2]
  simp
set_option maxRecDepth 100000 in
set_option maxHeartbeats 4000000 in
theorem num_any (g hi : Nat) (s : RS) (w : World) (h : RdrP w g s) (hz : RSz s) (hhi : hi ≤ 281474976710656) :
    Calls Tryz.prog 56 #[.pointer (some ⟨g, 0, none⟩), .int .i64 0, .int .i64 hi] w fun e w' => e = .returned (.int .i64 ((numS hi s).1 : Nat)) ∧ RdrP w' g (numS hi s).2 ∧ w.grownBy w' (some g) := by
  cases s with
  | none =>
    obtain ⟨x, hx, hb⟩ := h
    have hb1 := hb.cell' 1 _ rfl
    have t1 : (x == 0) = false := beq_eq_false_iff_ne.2 hx
    have HR : Hid (RdrP w g none) := Lib.hid ⟨x, hx, hb⟩
    clear hx hb
    go_enter Tryz.func56, Tryz.ntmps56
    go_wp2
    exact bodyPost_ret (v := .int .i64 0) (by simp [results, Tryz.results56, go_sem]) rfl ⟨rfl, HR.out, World.grownBy.refl _ _⟩
  | some l =>
    have hb : Blk w g 165 #[.string (S l), .int .i64 0] := h
    have hb0 := hb.cell' 0 _ rfl
    have hb1 := hb.cell' 1 _ rfl
    have hf0 := hb.free 0
    have hsz : l.length ≤ 1000000 := hz
    have HC := Lib.hid (show Calls Tryz.prog 107 #[.pointer (some ⟨g, 0, none⟩), .int .i64 281474976710656, .int .u8 59] w _ from count_any g (S l) 0 281474976710656 59 w hb (by rw [size_S]; exact hsz) (Nat.le_refl _) (by decide))
    rw [data_S] at HC
    have HF := Lib.hid (fun x hx => fail_any g (S l) x w hb hx)
    have HS : Hid (numS hi (some l) = (match rdNum hi l with | some (n, r) => (n, some r) | none => (0, none))) := Lib.hid rfl
    generalize numS hi (some l) = Z at *
    cases hc : cntGo 281474976710656 59 l 0 0 with
    | none =>
      have hr : rdNum hi l = none := by unfold rdNum; rw [hc]
      rw [hr] at HS
      simp only at HS
      have hZ := HS.out
      subst hZ
      have HC2 := Lib.hid (HC.out.mono (R' := fun e w' => (∃ x : Int, x ≠ 0 ∧ e = .returned (.tuple #[.int .i64 0, .int .i64 0, .int .i64 x])) ∧ w' = w) (fun e w' q => by unfold CntP at q; rw [hc] at q; exact q))
      clear HC HS hr hc
      go_enter Tryz.func56, Tryz.ntmps56
      go_wp2_with (go_at_call 107; (with_reducible refine HC2.out.mono ?_); rintro e w1 ⟨⟨x, hx, rfl⟩, rfl⟩; have t1 : (x == 0) = false := beq_eq_false_iff_ne.2 hx; have HX := Lib.hid hx; clear hx)
      go_wp2_with (go_at_call 108; (with_reducible refine (HF.out x HX.out).mono ?_); rintro e w1 ⟨rfl, k1, k2⟩)
      exact bodyPost_ret (v := .int .i64 0) (by simp [results, Tryz.results56, go_sem]) rfl ⟨rfl, k1, k2⟩
    | some p =>
      obtain ⟨n, k⟩ := p
      obtain ⟨c1, c2⟩ := cnt_len hc
      have HC2 := Lib.hid (HC.out.mono (R' := fun e w' => (e = .returned (.tuple #[.int .i64 (n : Nat), .int .i64 (k : Nat), .int .i64 0])) ∧ w' = w) (fun e w' q => by unfold CntP at q; rw [hc] at q; exact q))
      have hD := drop_S l k
      have hSz := size_S l
      have b1 : (k : Int) ≤ ((S l).size : Int) := by omega
      have b0 : k ≤ (S l).size := by omega
      have n0 : ¬ ((n : Int) < 0) := by omega
      by_cases hle : n ≤ hi
      · have hr : rdNum hi l = some (n, l.drop k) := by unfold rdNum; rw [hc]; simp only [if_pos hle]
        rw [hr] at HS
        simp only at HS
        have hZ := HS.out
        subst hZ
        have hB2 : Blk (w.setCell ⟨g, 0, none⟩ (.string ((S l).extract k (S l).size))) g 165 #[.string (S (l.drop k)), .int .i64 0] := by
          have := hb.put 0 (.string ((S l).extract k (S l).size))
          rw [hD] at this ⊢
          exact this
        have HB := Lib.hid hB2
        have HG := Lib.hid (grown_set w g 0 (.string ((S l).extract k (S l).size)))
        have t2 : ¬ ((hi : Int) < (n : Int)) := by omega
        have hts : (S l).size ≤ 1000000 := by omega
        clear HC HS hr hc hB2 hD HF hb h hz hsz hSz c1
        generalize S l = t at *
        go_enter Tryz.func56, Tryz.ntmps56
        go_wp2_with (go_at_call 107; (with_reducible refine HC2.out.mono ?_); rintro e w1 ⟨rfl, rfl⟩)
        exact bodyPost_ret (v := .int .i64 (n : Nat)) (by simp [results, Tryz.results56, go_sem]) rfl ⟨rfl, HB.out, HG.out⟩
      · have hr : rdNum hi l = none := by unfold rdNum; rw [hc]; simp only [if_neg hle]
        rw [hr] at HS
        simp only at HS
        have hZ := HS.out
        subst hZ
        have t2 : (hi : Int) < (n : Int) := by omega
        clear HC HS hr hc
        go_enter Tryz.func56, Tryz.ntmps56
        go_wp2_with (first | (go_at_call 108; (with_reducible refine (HF.out 3 (by decide)).mono ?_); rintro e w1 ⟨rfl, k1, k2⟩) | (go_at_call 107; (with_reducible refine HC2.out.mono ?_); rintro e w1 ⟨rfl, rfl⟩))
        exact bodyPost_ret (v := .int .i64 0) (by simp [results, Tryz.results56, go_sem]) rfl ⟨rfl, k1, k2⟩
theorem sclone_any (s : ByteArray) (w : World) (hs : s.size ≤ 1000000) : Calls Tryz.prog 109 #[.string s] w fun e w' => e = .returned (.string s) ∧ New w w' := by
  have HC := Lib.hid (Tryz.stringslite_Clone s w (by omega))
  go_enter Tryz.func109, Tryz.ntmps109
  go_wp2_with (go_at_call 142; (with_reducible refine HC.out.mono ?_); rintro e w1 ⟨rfl, k1⟩)
  go_ret
  exact ⟨rfl, k1⟩
set_option maxRecDepth 100000 in
set_option maxHeartbeats 4000000 in
theorem txt_any (g most : Nat) (s : RS) (w : World) (h : RdrP w g s) (hz : RSz s) (hmo : most ≤ 281474976710656) :
    Calls Tryz.prog 58 #[.pointer (some ⟨g, 0, none⟩), .int .i64 most] w fun e w' => e = .returned (.string (txtS most s).1) ∧ RdrP w' g (txtS most s).2 ∧ w.grownBy w' (some g) := by
  cases s with
  | none =>
    obtain ⟨x, hx, hb⟩ := h
    have hb1 := hb.cell' 1 _ rfl
    have t1 : (x == 0) = false := beq_eq_false_iff_ne.2 hx
    have HR : Hid (RdrP w g none) := Lib.hid ⟨x, hx, hb⟩
    clear hx hb
    go_enter Tryz.func58, Tryz.ntmps58
    go_wp2
    exact bodyPost_ret (v := .string ⟨#[]⟩) (by simp [results, Tryz.results58, go_sem]) rfl ⟨rfl, HR.out, World.grownBy.refl _ _⟩
  | some l =>
    have hb : Blk w g 165 #[.string (S l), .int .i64 0] := h
    have hb0 := hb.cell' 0 _ rfl
    have hb1 := hb.cell' 1 _ rfl
    have hf0 := hb.free 0
    have hsz : l.length ≤ 1000000 := hz
    have HC := Lib.hid (show Calls Tryz.prog 107 #[.pointer (some ⟨g, 0, none⟩), .int .i64 65536, .int .u8 58] w _ from count_any g (S l) 0 65536 58 w hb (by rw [size_S]; exact hsz) (by decide) (by decide))
    rw [data_S] at HC
    have HF := Lib.hid (fun x hx => fail_any g (S l) x w hb hx)
    have HS : Hid (txtS most (some l) = (match rdTxt most l with | some (t, r) => (S t, some r) | none => (⟨#[]⟩, none))) := Lib.hid rfl
    generalize txtS most (some l) = Z at *
    cases hc : cntGo 65536 58 l 0 0 with
    | none =>
      have hr : rdTxt most l = none := by unfold rdTxt; rw [hc]
      rw [hr] at HS
      simp only at HS
      have hZ := HS.out
      subst hZ
      have HC2 := Lib.hid (HC.out.mono (R' := fun e w' => (∃ x : Int, x ≠ 0 ∧ e = .returned (.tuple #[.int .i64 0, .int .i64 0, .int .i64 x])) ∧ w' = w) (fun e w' q => by unfold CntP at q; rw [hc] at q; exact q))
      clear HC HS hr hc
      go_enter Tryz.func58, Tryz.ntmps58
      go_wp2_with (go_at_call 107; (with_reducible refine HC2.out.mono ?_); rintro e w1 ⟨⟨x, hx, rfl⟩, rfl⟩; have t1 : (x == 0) = false := beq_eq_false_iff_ne.2 hx; have HX := Lib.hid hx; clear hx)
      go_wp2_with (go_at_call 108; (with_reducible refine (HF.out x HX.out).mono ?_); rintro e w1 ⟨rfl, k1, k2⟩)
      exact bodyPost_ret (v := .string ⟨#[]⟩) (by simp [results, Tryz.results58, go_sem]) rfl ⟨rfl, k1, k2⟩
    | some p =>
      obtain ⟨n, k⟩ := p
      obtain ⟨c1, c2⟩ := cnt_len hc
      have HC2 := Lib.hid (HC.out.mono (R' := fun e w' => (e = .returned (.tuple #[.int .i64 (n : Nat), .int .i64 (k : Nat), .int .i64 0])) ∧ w' = w) (fun e w' q => by unfold CntP at q; rw [hc] at q; exact q))
      have hSz := size_S l
      have u1 : IntKind.i64.wrap ((k : Int) + (n : Int)) = ((k + n : Nat) : Int) := by rw [IntWalk.i64_in _ (by omega)]; omega
      have HR : Hid (rdTxt most l = if k + n < l.length ∧ l[k + n]? = some 44 ∧ n ≤ most then some ((l.drop k).take n, l.drop (k + n + 1)) else none) := Lib.hid (by unfold rdTxt; rw [hc])
      clear HC
      by_cases h1 : k + n < l.length
      · have g1 : ¬ (((S l).size : Int) ≤ ((k + n : Nat) : Int)) := by omega
        have g2 : k + n < (S l).size := by omega
        have hge : (S l)[k + n] = l[k + n] := by rw [get_eq _ _ g2]; rfl
        have hc2 := UInt8.toNat_lt (S l)[k + n]
        by_cases h2 : l[k + n] = 44
        · have y1 : (((S l)[k + n].toNat : Int) == 44) = true := by rw [hge, h2]; rfl
          by_cases h3 : n ≤ most
          · have g3 : ¬ ((most : Int) < (n : Int)) := by omega
            rw [if_pos ⟨h1, by rw [List.getElem?_eq_getElem h1]; exact congrArg some h2, h3⟩] at HR
            rw [HR.out] at HS
            simp only at HS
            have hZ := HS.out
            subst hZ
            have hD := drop_S l (k + n + 1)
            have hT : (S l).extract k (k + n) = S ((l.drop k).take n) := by rw [extract_S, data_S, show k + n - k = n by omega]
            have u2 : IntKind.i64.wrap ((k : Int) + (n : Int) + 1) = ((k + n + 1 : Nat) : Int) := by rw [IntWalk.i64_in _ (by omega)]; omega
            have b1 : ((k + n + 1 : Nat) : Int) ≤ ((S l).size : Int) := by omega
            have b2 : (k : Int) ≤ ((k + n : Nat) : Int) := by omega
            have b3 : ((k + n : Nat) : Int) ≤ ((S l).size : Int) := by omega
            have HCL := Lib.hid (sclone_any ((S l).extract k (k + n)) w (by rw [hT, size_S, List.length_take]; omega))
            have HB := Lib.hid (fun W (hn : New w W) => show Blk (W.setCell ⟨g, 0, none⟩ (.string ((S l).extract (k + n + 1) (S l).size))) g 165 #[.string (S (l.drop (k + n + 1))), .int .i64 0] by
              have := (hb.new hn).put 0 (.string ((S l).extract (k + n + 1) (S l).size))
              rw [hD] at this ⊢
              exact this)
            have HG := Lib.hid (fun W (hn : New w W) => (hn.grown_ (some g)).trans (grown_set W g 0 (.string ((S l).extract (k + n + 1) (S l).size))))
            have HBK := Lib.hid hb
            rw [← hT]
            have hts : (S l).size ≤ 1000000 := by omega
            clear HF HS HR hD hT hge h2 h1 h3 hc h hz hsz hb hSz c1
            generalize S l = t at *
            go_enter Tryz.func58, Tryz.ntmps58
            go_wp2_with (first | (go_at_call 109; (with_reducible refine HCL.out.mono ?_); rintro e w2 ⟨rfl, k2⟩; have e0 := (HBK.out.new k2).cell' 0 _ rfl; have e1 := (HBK.out.new k2).free 0) | (go_at_call 107; (with_reducible refine HC2.out.mono ?_); rintro e w1 ⟨rfl, rfl⟩))
            exact bodyPost_ret (v := .string (t.extract k (k + n))) (by simp [results, Tryz.results58, go_sem]) rfl ⟨rfl, HB.out _ k2, HG.out _ k2⟩
          · have g3 : (most : Int) < (n : Int) := by omega
            rw [if_neg (fun q => h3 q.2.2)] at HR
            rw [HR.out] at HS
            simp only at HS
            have hZ := HS.out
            subst hZ
            clear HS HR h2 hge hc h hz hsz hb h1 h3
            generalize S l = t at *
            go_enter Tryz.func58, Tryz.ntmps58
            go_wp2_with (first | (go_at_call 108; (with_reducible refine (HF.out 10 (by decide)).mono ?_); rintro e w1 ⟨rfl, k1, k2⟩) | (go_at_call 107; (with_reducible refine HC2.out.mono ?_); rintro e w1 ⟨rfl, rfl⟩))
            exact bodyPost_ret (v := .string ⟨#[]⟩) (by simp [results, Tryz.results58, go_sem]) rfl ⟨rfl, k1, k2⟩
        · have y1 : (((S l)[k + n].toNat : Int) == 44) = false := by
            rw [hge]
            exact beq_eq_false_iff_ne.2 (fun q => h2 (UInt8.toNat_inj.1 (show l[k + n].toNat = 44 by omega)))
          rw [if_neg (fun q => h2 (by rw [List.getElem?_eq_getElem h1] at q; exact Option.some.inj q.2.1))] at HR
          rw [HR.out] at HS
          simp only at HS
          have hZ := HS.out
          subst hZ
          clear HS HR h2 hge hc h hz hsz hb h1
          generalize S l = t at *
          go_enter Tryz.func58, Tryz.ntmps58
          go_wp2_with (first | (go_at_call 108; (with_reducible refine (HF.out 17 (by decide)).mono ?_); rintro e w1 ⟨rfl, k1, k2⟩) | (go_at_call 107; (with_reducible refine HC2.out.mono ?_); rintro e w1 ⟨rfl, rfl⟩))
          exact bodyPost_ret (v := .string ⟨#[]⟩) (by simp [results, Tryz.results58, go_sem]) rfl ⟨rfl, k1, k2⟩
      · have g1 : ((S l).size : Int) ≤ ((k + n : Nat) : Int) := by omega
        rw [if_neg (fun q => h1 q.1)] at HR
        rw [HR.out] at HS
        simp only at HS
        have hZ := HS.out
        subst hZ
        clear HS HR hc h hz hsz hb h1
        generalize S l = t at *
        go_enter Tryz.func58, Tryz.ntmps58
        go_wp2_with (first | (go_at_call 108; (with_reducible refine (HF.out 13 (by decide)).mono ?_); rintro e w1 ⟨rfl, k1, k2⟩) | (go_at_call 107; (with_reducible refine HC2.out.mono ?_); rintro e w1 ⟨rfl, rfl⟩))
        exact bodyPost_ret (v := .string ⟨#[]⟩) (by simp [results, Tryz.results58, go_sem]) rfl ⟨rfl, k1, k2⟩
end Go.Proofs.YtnknmpcgbfmfjaaGreatDoor

