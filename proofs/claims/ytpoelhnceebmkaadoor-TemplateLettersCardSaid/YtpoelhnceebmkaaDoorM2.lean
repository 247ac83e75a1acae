/- The law TemplateLetters, walked. No conditions but that the signs read as bytes. -/
import Derived.Test.YtpoelhnceebmkaaDoorL1
import Derived.Deep.RegionHeld3
import Derived.Deep.DeepCutAuto
import Derived.Deep.QuietTactic
import Derived.BigQuiet
import Derived.Deep.RegionWith
import Derived.Laws.BytesArg
namespace Go.Proofs.YtpoelhnceebmkaaDoor
open Go Go.RowKit Go.Shelf
set_option linter.unusedSimpArgs false
set_option linter.unusedVariables false

theorem conv_any {w : World} {B k : Nat} {v : Value} {l : List UInt8} (h : w.ownsRow B 5 1 v k (u8Cells l)) (hk : l.length = k) : (convert 29 9 v).run Tryd.prog w = .ok (.string (S l)) w := by
  by_cases h0 : 0 < k
  · exact own_bytes h hk h0
  · obtain rfl : k = 0 := by omega
    obtain rfl : l = [] := List.eq_nil_of_length_eq_zero hk
    rcases h.2 with ⟨rfl, _⟩ | ⟨g, cap, cur, rfl, _⟩
    · exact run_convert_bytes_nil (P := Tryd.prog) w 29 5 Tryd.underlying29 Tryd.underlying5 0 0 9 Tryd.underlying9
    · exact run_convert_bytes_back (P := Tryd.prog) w 29 9 5 ⟨g, 0, none⟩ cap [] Tryd.underlying29 Tryd.underlying5 Tryd.underlying9 (fun j hj => by simp at hj)
theorem mixF_at {s : ByteArray} {g : List UInt8} {i : Nat} (h : i < s.size) : mixF (s.data.toList.drop i) g = UInt8.ofNat (mixN s[i].toNat (g.headD 0).toNat) :: mixF (s.data.toList.drop (i + 1)) (if stays s[i].toNat then g else g.tail) := by
  have hl : i < s.data.toList.length := by rw [← size_eq]; exact h
  rw [List.drop_eq_getElem_cons hl, mixF, ← get_eq s i h]
theorem sep_at (r : Nat) (h : r < 8) : ((ByteArray.mk #[32, 44, 46, 123, 125, 45, 0, 255])[r]'h).toNat = sepN.getD r 0 := by
  have : ∀ j : Fin 8, ((ByteArray.mk #[32, 44, 46, 123, 125, 45, 0, 255])[j.1]'j.2).toNat = sepN.getD j.1 0 := by decide
  exact this ⟨r, h⟩
theorem u8Cells_app (a b : List UInt8) : u8Cells (a ++ b) = u8Cells a ++ u8Cells b := by simp [u8Cells]

set_option maxRecDepth 100000 in
set_option maxHeartbeats 16000000 in
theorem law_letters (s : ByteArray) (A : Option Addr) (m c : Nat) (sg : List UInt8) (hm : sg.length = m) (w : World) (hr : Rd w 1 A m (u8Cells sg)) :
    Calls Tryd.prog 4 #[.string s, .slice A m c] w fun e w' => e = .returned (.bool true) ∧ New w w' := by
  have HA := Lib.hid awake_any
  obtain ⟨j0, hi0, hz0, hz1, hz2⟩ := info_parts Tryd.info5
  by_cases g1 : s.size ≤ 2000
  · have g1' : decide ((2000 : Int) < (s.size : Int)) = false := decide_eq_false (by omega)
    by_cases g2 : m ≤ 300
    · have g2' : decide ((300 : Int) < (m : Int)) = false := decide_eq_false (by omega)
      have HM := Lib.hid hm
      have HR := Lib.hid hr
      clear hm hr
      go_enter Tryd.func4, Tryd.ntmps4
      go_wp2_with (go_at_call 5; refine (HA.out _).mono ?_; rintro e w0 ⟨rfl, h0⟩)
      go_loopw [5, 6, 26] (fun v5 v6 v26 wr => ∃ (i n : Nat) (b : List UInt8), v26 = .int .i64 i ∧ v6 = .int .i64 n ∧ i ≤ s.size ∧ n ≤ i ∧ wr.ownsRow w0.heap.size 5 1 v5 i (u8Cells b) ∧ Hid (b.length = i) ∧ New w0 wr ∧ Hid (b ++ mixF (s.data.toList.drop i) (sg.drop n) = mixF s.data.toList sg)) (fun _ _ v26 _ => s.size - (intOf v26).toNat)
      case atStart => exact ⟨0, 0, [], rfl, rfl, by omega, by omega, World.ownsRow_nil _ _ _ _, Lib.hid rfl, New.refl _, Lib.hid (by simp)⟩
      case round =>
        obtain ⟨i, n, b, rfl, rfl, hi, hni, own, HB, hnr, HG⟩ := hrel
        obtain ⟨v5, hv5⟩ : ∃ x, x = u5 := ⟨_, rfl⟩
        subst hv5
        by_cases hlt : i < s.size
        · have hgo := HG.out
          rw [mixF_at hlt] at hgo
          have hkm : ∃ k : Nat, ((sg.drop n).headD 0).toNat = k ∧ k < 256 := ⟨_, rfl, UInt8.toNat_lt _⟩
          obtain ⟨k, hk, hk2⟩ := hkm
          have hc2 := UInt8.toNat_lt s[i]
          rw [hk, List.tail_drop] at hgo
          obtain ⟨y, hy⟩ : ∃ y, mixN s[i].toNat k = y := ⟨_, rfl⟩
          have hy2 : y < 256 := by rw [← hy]; exact (mixN_facts _ _ hc2).1
          rw [hy] at hgo
          have hyc : u8Cells (b ++ [UInt8.ofNat y]) = u8Cells b ++ [.int .u8 (y : Nat)] := by
            rw [u8Cells_app]; simp [u8Cells, UInt8.toNat_ofNat]; omega
          have HYC := Lib.hid hyc
          have HGO := Lib.hid hgo
          have HY := Lib.hid hy
          have HK := Lib.hid hk
          clear hyc hgo hy hk HG
          by_cases hnm : n < m
          · have n1 : decide ((n : Int) < (m : Int)) = true := decide_eq_true (by omega)
            have n2 : (0 : Int) ≤ (n : Int) := by omega
            have n3 : (n : Int) < (m : Int) := by omega
            obtain ⟨bA, oA, rfl, hbA, hcA⟩ := HR.out.2 (by omega)
            have hcell : wr.cell? ⟨bA, oA + n, none⟩ = some (.int .u8 (k : Nat)) := by
              refine cell_new (h0.trans hnr) (hcA n _ ?_)
              have hlt2 : n < sg.length := by rw [HM.out]; exact hnm
              rw [← HK.out]
              simp [u8Cells, List.getElem?_eq_getElem hlt2, List.headD_eq_head?_getD, List.head?_drop]
            clear hcA
            by_cases hc0 : 122 < s[i].toNat
            · have hst : ¬ stays s[i].toNat = true := fun h => by have := of_decide_eq_true h; omega
              have q1 : decide ((97 : Int) ≤ (s[i].toNat : Int)) = true := decide_eq_true (by omega)
              have q2 : decide ((s[i].toNat : Int) ≤ 122) = false := decide_eq_false (by omega)
              have p1 : decide ((65 : Int) ≤ (s[i].toNat : Int)) = true := decide_eq_true (by omega)
              have p2 : decide ((s[i].toNat : Int) ≤ 90) = false := decide_eq_false (by omega)
              have d1 : decide ((48 : Int) ≤ (s[i].toNat : Int)) = true := decide_eq_true (by omega)
              have d2 : decide ((s[i].toNat : Int) ≤ 57) = false := decide_eq_false (by omega)
              have e1 : ((s[i].toNat : Int) == 10) = false := beq_eq_false_iff_ne.2 (by omega)
              obtain ⟨r, hr2⟩ : ∃ r, k % 8 = r := ⟨_, rfl⟩
              have r0 : r < 8 := by omega
              have r1 : (k : Int) % 8 = (r : Int) := by omega
              have r3 : sepN.getD r 0 = y := by
                have h := HY.out
                rw [mixN, if_neg (by omega), if_neg (by omega), if_neg (by omega), hr2] at h
                exact h
              clear hr2
              skip
              go_wp2_with (at_builtin; refine wpList_append_own _ rfl (.tmp 42) (.tmp 46) 29 rfl w0.heap.size 5 j0 (.int .u8 0) 1 1 Tryd.underlying29 hi0 hz0 hz1 hz2 rfl (by decide) _ _ _ rfl (own.alloc _) ⟨wr.heap.size, 0, none⟩ 1 1 [.int .u8 (y : Nat)] rfl rfl ?c1 ?c2 ?c3 ?c4 ?c5 ?_)
              case c1 => rw [sep_at r r0, r3]; exact cell_one_new _ _ _
              case c2 => simp [Value.oneCell']
              case c3 => simp [maxLen]; omega
              case c4 => omega
              case c5 => have := hnr.size; simp; omega
              intro v' w2 hown hg _
              go_wp2
              go_roundw
              case rel => exact ⟨i + 1, n + 1, b ++ [UInt8.ofNat y], by go_num, by go_num, by omega, by omega, own_to hown (by simp) HYC.out.symm, Lib.hid (by rw [List.length_append, HB.out]; rfl), Below.grown (hnr.alloc _) hg (by have := hnr.size; simp; omega) (fun q hq => (own.lt q hq).1), Lib.hid (by have := HGO.out; rw [if_neg hst] at this; simpa using this)⟩
              case measure => simp [intOf]; omega
            · skip
              by_cases hc1 : 97 ≤ s[i].toNat
              · have hst : ¬ stays s[i].toNat = true := fun h => by have := of_decide_eq_true h; omega
                have q1 : decide ((97 : Int) ≤ (s[i].toNat : Int)) = true := decide_eq_true (by omega)
                have q2 : decide ((s[i].toNat : Int) ≤ 122) = true := decide_eq_true (by omega)
                obtain ⟨r, hr2⟩ : ∃ r, k % 2 = r := ⟨_, rfl⟩
                have r1 : (k : Int) % 2 = (r : Int) := by omega
                have r2 : IntKind.u8.wrap (32 * (r : Int)) = 32 * (r : Int) := IntWalk.u8_in _ (by omega)
                have r3 : IntKind.u8.wrap ((s[i].toNat : Int) - 32 * (r : Int)) = (y : Int) := by
                  have h := HY.out
                  rw [mixN, if_pos ⟨by omega, by omega⟩, hr2] at h
                  rw [IntWalk.u8_in _ (by omega)]; omega
                clear hr2
                skip
                go_wp2_with (at_builtin; refine wpList_append_own _ rfl (.tmp 57) (.tmp 63) 29 rfl w0.heap.size 5 j0 (.int .u8 0) 1 1 Tryd.underlying29 hi0 hz0 hz1 hz2 rfl (by decide) _ _ _ rfl (own.alloc _) ⟨wr.heap.size, 0, none⟩ 1 1 [.int .u8 (y : Nat)] rfl rfl ?c1 ?c2 ?c3 ?c4 ?c5 ?_)
                case c1 => exact cell_one_new _ _ _
                case c2 => simp [Value.oneCell']
                case c3 => simp [maxLen]; omega
                case c4 => omega
                case c5 => have := hnr.size; simp; omega
                intro v' w2 hown hg _
                go_wp2
                go_roundw
                case rel => exact ⟨i + 1, n + 1, b ++ [UInt8.ofNat y], by go_num, by go_num, by omega, by omega, own_to hown (by simp) HYC.out.symm, Lib.hid (by rw [List.length_append, HB.out]; rfl), Below.grown (hnr.alloc _) hg (by have := hnr.size; simp; omega) (fun q hq => (own.lt q hq).1), Lib.hid (by have := HGO.out; rw [if_neg hst] at this; simpa using this)⟩
                case measure => simp [intOf]; omega
              · skip
                by_cases hc2 : 90 < s[i].toNat
                · have hst : ¬ stays s[i].toNat = true := fun h => by have := of_decide_eq_true h; omega
                  have q1 : decide ((97 : Int) ≤ (s[i].toNat : Int)) = false := decide_eq_false (by omega)
                  have p1 : decide ((65 : Int) ≤ (s[i].toNat : Int)) = true := decide_eq_true (by omega)
                  have p2 : decide ((s[i].toNat : Int) ≤ 90) = false := decide_eq_false (by omega)
                  have d1 : decide ((48 : Int) ≤ (s[i].toNat : Int)) = true := decide_eq_true (by omega)
                  have d2 : decide ((s[i].toNat : Int) ≤ 57) = false := decide_eq_false (by omega)
                  have e1 : ((s[i].toNat : Int) == 10) = false := beq_eq_false_iff_ne.2 (by omega)
                  obtain ⟨r, hr2⟩ : ∃ r, k % 8 = r := ⟨_, rfl⟩
                  have r0 : r < 8 := by omega
                  have r1 : (k : Int) % 8 = (r : Int) := by omega
                  have r3 : sepN.getD r 0 = y := by
                    have h := HY.out
                    rw [mixN, if_neg (by omega), if_neg (by omega), if_neg (by omega), hr2] at h
                    exact h
                  clear hr2
                  skip
                  go_wp2_with (at_builtin; refine wpList_append_own _ rfl (.tmp 42) (.tmp 46) 29 rfl w0.heap.size 5 j0 (.int .u8 0) 1 1 Tryd.underlying29 hi0 hz0 hz1 hz2 rfl (by decide) _ _ _ rfl (own.alloc _) ⟨wr.heap.size, 0, none⟩ 1 1 [.int .u8 (y : Nat)] rfl rfl ?c1 ?c2 ?c3 ?c4 ?c5 ?_)
                  case c1 => rw [sep_at r r0, r3]; exact cell_one_new _ _ _
                  case c2 => simp [Value.oneCell']
                  case c3 => simp [maxLen]; omega
                  case c4 => omega
                  case c5 => have := hnr.size; simp; omega
                  intro v' w2 hown hg _
                  go_wp2
                  go_roundw
                  case rel => exact ⟨i + 1, n + 1, b ++ [UInt8.ofNat y], by go_num, by go_num, by omega, by omega, own_to hown (by simp) HYC.out.symm, Lib.hid (by rw [List.length_append, HB.out]; rfl), Below.grown (hnr.alloc _) hg (by have := hnr.size; simp; omega) (fun q hq => (own.lt q hq).1), Lib.hid (by have := HGO.out; rw [if_neg hst] at this; simpa using this)⟩
                  case measure => simp [intOf]; omega
                · skip
                  by_cases hc3 : 65 ≤ s[i].toNat
                  · have hst : ¬ stays s[i].toNat = true := fun h => by have := of_decide_eq_true h; omega
                    have q1 : decide ((97 : Int) ≤ (s[i].toNat : Int)) = false := decide_eq_false (by omega)
                    have p1 : decide ((65 : Int) ≤ (s[i].toNat : Int)) = true := decide_eq_true (by omega)
                    have p2 : decide ((s[i].toNat : Int) ≤ 90) = true := decide_eq_true (by omega)
                    obtain ⟨r, hr2⟩ : ∃ r, k % 2 = r := ⟨_, rfl⟩
                    have r1 : (k : Int) % 2 = (r : Int) := by omega
                    have r2 : IntKind.u8.wrap (32 * (r : Int)) = 32 * (r : Int) := IntWalk.u8_in _ (by omega)
                    have r3 : IntKind.u8.wrap ((s[i].toNat : Int) + 32 * (r : Int)) = (y : Int) := by
                      have h := HY.out
                      rw [mixN, if_neg (by omega), if_pos ⟨by omega, by omega⟩, hr2] at h
                      rw [IntWalk.u8_in _ (by omega)]; omega
                    clear hr2
                    skip
                    go_wp2_with (at_builtin; refine wpList_append_own _ rfl (.tmp 74) (.tmp 80) 29 rfl w0.heap.size 5 j0 (.int .u8 0) 1 1 Tryd.underlying29 hi0 hz0 hz1 hz2 rfl (by decide) _ _ _ rfl (own.alloc _) ⟨wr.heap.size, 0, none⟩ 1 1 [.int .u8 (y : Nat)] rfl rfl ?c1 ?c2 ?c3 ?c4 ?c5 ?_)
                    case c1 => exact cell_one_new _ _ _
                    case c2 => simp [Value.oneCell']
                    case c3 => simp [maxLen]; omega
                    case c4 => omega
                    case c5 => have := hnr.size; simp; omega
                    intro v' w2 hown hg _
                    go_wp2
                    go_roundw
                    case rel => exact ⟨i + 1, n + 1, b ++ [UInt8.ofNat y], by go_num, by go_num, by omega, by omega, own_to hown (by simp) HYC.out.symm, Lib.hid (by rw [List.length_append, HB.out]; rfl), Below.grown (hnr.alloc _) hg (by have := hnr.size; simp; omega) (fun q hq => (own.lt q hq).1), Lib.hid (by have := HGO.out; rw [if_neg hst] at this; simpa using this)⟩
                    case measure => simp [intOf]; omega
                  · skip
                    by_cases hc4 : 57 < s[i].toNat
                    · have hst : ¬ stays s[i].toNat = true := fun h => by have := of_decide_eq_true h; omega
                      have q1 : decide ((97 : Int) ≤ (s[i].toNat : Int)) = false := decide_eq_false (by omega)
                      have p1 : decide ((65 : Int) ≤ (s[i].toNat : Int)) = false := decide_eq_false (by omega)
                      have d1 : decide ((48 : Int) ≤ (s[i].toNat : Int)) = true := decide_eq_true (by omega)
                      have d2 : decide ((s[i].toNat : Int) ≤ 57) = false := decide_eq_false (by omega)
                      have e1 : ((s[i].toNat : Int) == 10) = false := beq_eq_false_iff_ne.2 (by omega)
                      obtain ⟨r, hr2⟩ : ∃ r, k % 8 = r := ⟨_, rfl⟩
                      have r0 : r < 8 := by omega
                      have r1 : (k : Int) % 8 = (r : Int) := by omega
                      have r3 : sepN.getD r 0 = y := by
                        have h := HY.out
                        rw [mixN, if_neg (by omega), if_neg (by omega), if_neg (by omega), hr2] at h
                        exact h
                      clear hr2
                      skip
                      go_wp2_with (at_builtin; refine wpList_append_own _ rfl (.tmp 42) (.tmp 46) 29 rfl w0.heap.size 5 j0 (.int .u8 0) 1 1 Tryd.underlying29 hi0 hz0 hz1 hz2 rfl (by decide) _ _ _ rfl (own.alloc _) ⟨wr.heap.size, 0, none⟩ 1 1 [.int .u8 (y : Nat)] rfl rfl ?c1 ?c2 ?c3 ?c4 ?c5 ?_)
                      case c1 => rw [sep_at r r0, r3]; exact cell_one_new _ _ _
                      case c2 => simp [Value.oneCell']
                      case c3 => simp [maxLen]; omega
                      case c4 => omega
                      case c5 => have := hnr.size; simp; omega
                      intro v' w2 hown hg _
                      go_wp2
                      go_roundw
                      case rel => exact ⟨i + 1, n + 1, b ++ [UInt8.ofNat y], by go_num, by go_num, by omega, by omega, own_to hown (by simp) HYC.out.symm, Lib.hid (by rw [List.length_append, HB.out]; rfl), Below.grown (hnr.alloc _) hg (by have := hnr.size; simp; omega) (fun q hq => (own.lt q hq).1), Lib.hid (by have := HGO.out; rw [if_neg hst] at this; simpa using this)⟩
                      case measure => simp [intOf]; omega
                    · skip
                      by_cases hc5 : 48 ≤ s[i].toNat
                      · have hst : stays s[i].toNat = true := decide_eq_true (by omega)
                        have q1 : decide ((97 : Int) ≤ (s[i].toNat : Int)) = false := decide_eq_false (by omega)
                        have p1 : decide ((65 : Int) ≤ (s[i].toNat : Int)) = false := decide_eq_false (by omega)
                        have d1 : decide ((48 : Int) ≤ (s[i].toNat : Int)) = true := decide_eq_true (by omega)
                        have d2 : decide ((s[i].toNat : Int) ≤ 57) = true := decide_eq_true (by omega)
                        have r3 : s[i].toNat = y := by
                          have h := HY.out
                          rw [mixN, if_neg (by omega), if_neg (by omega), if_pos (by omega)] at h
                          exact h
                        have HR3 := Lib.hid r3
                        clear r3
                        skip
                        go_wp2_with (at_builtin; refine wpList_append_own _ rfl (.tmp 93) (.tmp 95) 29 rfl w0.heap.size 5 j0 (.int .u8 0) 1 1 Tryd.underlying29 hi0 hz0 hz1 hz2 rfl (by decide) _ _ _ rfl (own.alloc _) ⟨wr.heap.size, 0, none⟩ 1 1 [.int .u8 (s[i].toNat : Nat)] rfl rfl ?c1 ?c2 ?c3 ?c4 ?c5 ?_)
                        case c1 => exact cell_one_new _ _ _
                        case c2 => simp [Value.oneCell']
                        case c3 => simp [maxLen]; omega
                        case c4 => omega
                        case c5 => have := hnr.size; simp; omega
                        intro v' w2 hown hg _
                        go_wp2
                        go_roundw
                        case rel => exact ⟨i + 1, n, b ++ [UInt8.ofNat y], by go_num, by go_num, by omega, by omega, own_to hown (by simp) (by rw [HYC.out, ← HR3.out]), Lib.hid (by rw [List.length_append, HB.out]; rfl), Below.grown (hnr.alloc _) hg (by have := hnr.size; simp; omega) (fun q hq => (own.lt q hq).1), Lib.hid (by have := HGO.out; rw [if_pos hst] at this; simpa using this)⟩
                        case measure => simp [intOf]; omega
                      · skip
                        by_cases hc6 : s[i].toNat = 10
                        · have hst : stays s[i].toNat = true := decide_eq_true (by omega)
                          have q1 : decide ((97 : Int) ≤ (s[i].toNat : Int)) = false := decide_eq_false (by omega)
                          have p1 : decide ((65 : Int) ≤ (s[i].toNat : Int)) = false := decide_eq_false (by omega)
                          have d1 : decide ((48 : Int) ≤ (s[i].toNat : Int)) = false := decide_eq_false (by omega)
                          have e1 : ((s[i].toNat : Int) == 10) = true := beq_iff_eq.2 (by omega)
                          have r3 : s[i].toNat = y := by
                            have h := HY.out
                            rw [mixN, if_neg (by omega), if_neg (by omega), if_pos (by omega)] at h
                            exact h
                          have HR3 := Lib.hid r3
                          clear r3
                          clear hc6
                          go_wp2_with (at_builtin; refine wpList_append_own _ rfl (.tmp 93) (.tmp 95) 29 rfl w0.heap.size 5 j0 (.int .u8 0) 1 1 Tryd.underlying29 hi0 hz0 hz1 hz2 rfl (by decide) _ _ _ rfl (own.alloc _) ⟨wr.heap.size, 0, none⟩ 1 1 [.int .u8 (s[i].toNat : Nat)] rfl rfl ?c1 ?c2 ?c3 ?c4 ?c5 ?_)
                          case c1 => exact cell_one_new _ _ _
                          case c2 => simp [Value.oneCell']
                          case c3 => simp [maxLen]; omega
                          case c4 => omega
                          case c5 => have := hnr.size; simp; omega
                          intro v' w2 hown hg _
                          go_wp2
                          go_roundw
                          case rel => exact ⟨i + 1, n, b ++ [UInt8.ofNat y], by go_num, by go_num, by omega, by omega, own_to hown (by simp) (by rw [HYC.out, ← HR3.out]), Lib.hid (by rw [List.length_append, HB.out]; rfl), Below.grown (hnr.alloc _) hg (by have := hnr.size; simp; omega) (fun q hq => (own.lt q hq).1), Lib.hid (by have := HGO.out; rw [if_pos hst] at this; simpa using this)⟩
                          case measure => simp [intOf]; omega
                        · skip
                          have hst : ¬ stays s[i].toNat = true := fun h => by have := of_decide_eq_true h; omega
                          have q1 : decide ((97 : Int) ≤ (s[i].toNat : Int)) = false := decide_eq_false (by omega)
                          have p1 : decide ((65 : Int) ≤ (s[i].toNat : Int)) = false := decide_eq_false (by omega)
                          have d1 : decide ((48 : Int) ≤ (s[i].toNat : Int)) = false := decide_eq_false (by omega)
                          have e1 : ((s[i].toNat : Int) == 10) = false := beq_eq_false_iff_ne.2 (by omega)
                          obtain ⟨r, hr2⟩ : ∃ r, k % 8 = r := ⟨_, rfl⟩
                          have r0 : r < 8 := by omega
                          have r1 : (k : Int) % 8 = (r : Int) := by omega
                          have r3 : sepN.getD r 0 = y := by
                            have h := HY.out
                            rw [mixN, if_neg (by omega), if_neg (by omega), if_neg (by omega), hr2] at h
                            exact h
                          clear hr2
                          skip
                          go_wp2_with (at_builtin; refine wpList_append_own _ rfl (.tmp 42) (.tmp 46) 29 rfl w0.heap.size 5 j0 (.int .u8 0) 1 1 Tryd.underlying29 hi0 hz0 hz1 hz2 rfl (by decide) _ _ _ rfl (own.alloc _) ⟨wr.heap.size, 0, none⟩ 1 1 [.int .u8 (y : Nat)] rfl rfl ?c1 ?c2 ?c3 ?c4 ?c5 ?_)
                          case c1 => rw [sep_at r r0, r3]; exact cell_one_new _ _ _
                          case c2 => simp [Value.oneCell']
                          case c3 => simp [maxLen]; omega
                          case c4 => omega
                          case c5 => have := hnr.size; simp; omega
                          intro v' w2 hown hg _
                          go_wp2
                          go_roundw
                          case rel => exact ⟨i + 1, n + 1, b ++ [UInt8.ofNat y], by go_num, by go_num, by omega, by omega, own_to hown (by simp) HYC.out.symm, Lib.hid (by rw [List.length_append, HB.out]; rfl), Below.grown (hnr.alloc _) hg (by have := hnr.size; simp; omega) (fun q hq => (own.lt q hq).1), Lib.hid (by have := HGO.out; rw [if_neg hst] at this; simpa using this)⟩
                          case measure => simp [intOf]; omega
          · have n1 : decide ((n : Int) < (m : Int)) = false := decide_eq_false (by omega)
            obtain rfl : k = 0 := by rw [← HK.out, List.drop_of_length_le (by rw [HM.out]; omega)]; rfl
            by_cases hc0 : 122 < s[i].toNat
            · have hst : ¬ stays s[i].toNat = true := fun h => by have := of_decide_eq_true h; omega
              have q1 : decide ((97 : Int) ≤ (s[i].toNat : Int)) = true := decide_eq_true (by omega)
              have q2 : decide ((s[i].toNat : Int) ≤ 122) = false := decide_eq_false (by omega)
              have p1 : decide ((65 : Int) ≤ (s[i].toNat : Int)) = true := decide_eq_true (by omega)
              have p2 : decide ((s[i].toNat : Int) ≤ 90) = false := decide_eq_false (by omega)
              have d1 : decide ((48 : Int) ≤ (s[i].toNat : Int)) = true := decide_eq_true (by omega)
              have d2 : decide ((s[i].toNat : Int) ≤ 57) = false := decide_eq_false (by omega)
              have e1 : ((s[i].toNat : Int) == 10) = false := beq_eq_false_iff_ne.2 (by omega)
              obtain rfl : y = 32 := by
                have h := HY.out
                rw [mixN, if_neg (by omega), if_neg (by omega), if_neg (by omega)] at h
                exact h.symm
              skip
              go_wp2_with (at_builtin; refine wpList_append_own _ rfl (.tmp 42) (.tmp 46) 29 rfl w0.heap.size 5 j0 (.int .u8 0) 1 1 Tryd.underlying29 hi0 hz0 hz1 hz2 rfl (by decide) _ _ _ rfl (own.alloc _) ⟨wr.heap.size, 0, none⟩ 1 1 [.int .u8 (32 : Nat)] rfl rfl ?c1 ?c2 ?c3 ?c4 ?c5 ?_)
              case c1 => exact cell_one_new _ _ _
              case c2 => simp [Value.oneCell']
              case c3 => simp [maxLen]; omega
              case c4 => omega
              case c5 => have := hnr.size; simp; omega
              intro v' w2 hown hg _
              go_wp2
              go_roundw
              case rel => exact ⟨i + 1, n + 1, b ++ [UInt8.ofNat 32], by go_num, by go_num, by omega, by omega, own_to hown (by simp) HYC.out.symm, Lib.hid (by rw [List.length_append, HB.out]; rfl), Below.grown (hnr.alloc _) hg (by have := hnr.size; simp; omega) (fun q hq => (own.lt q hq).1), Lib.hid (by have := HGO.out; rw [if_neg hst] at this; simpa using this)⟩
              case measure => simp [intOf]; omega
            · skip
              by_cases hc1 : 97 ≤ s[i].toNat
              · have hst : ¬ stays s[i].toNat = true := fun h => by have := of_decide_eq_true h; omega
                have q1 : decide ((97 : Int) ≤ (s[i].toNat : Int)) = true := decide_eq_true (by omega)
                have q2 : decide ((s[i].toNat : Int) ≤ 122) = true := decide_eq_true (by omega)
                have r3 : IntKind.u8.wrap (s[i].toNat : Int) = (y : Int) := by
                  have h := HY.out
                  rw [mixN, if_pos ⟨by omega, by omega⟩] at h
                  rw [IntWalk.u8_in _ (by omega)]; omega
                skip
                go_wp2_with (at_builtin; refine wpList_append_own _ rfl (.tmp 57) (.tmp 63) 29 rfl w0.heap.size 5 j0 (.int .u8 0) 1 1 Tryd.underlying29 hi0 hz0 hz1 hz2 rfl (by decide) _ _ _ rfl (own.alloc _) ⟨wr.heap.size, 0, none⟩ 1 1 [.int .u8 (y : Nat)] rfl rfl ?c1 ?c2 ?c3 ?c4 ?c5 ?_)
                case c1 => exact cell_one_new _ _ _
                case c2 => simp [Value.oneCell']
                case c3 => simp [maxLen]; omega
                case c4 => omega
                case c5 => have := hnr.size; simp; omega
                intro v' w2 hown hg _
                go_wp2
                go_roundw
                case rel => exact ⟨i + 1, n + 1, b ++ [UInt8.ofNat y], by go_num, by go_num, by omega, by omega, own_to hown (by simp) HYC.out.symm, Lib.hid (by rw [List.length_append, HB.out]; rfl), Below.grown (hnr.alloc _) hg (by have := hnr.size; simp; omega) (fun q hq => (own.lt q hq).1), Lib.hid (by have := HGO.out; rw [if_neg hst] at this; simpa using this)⟩
                case measure => simp [intOf]; omega
              · skip
                by_cases hc2 : 90 < s[i].toNat
                · have hst : ¬ stays s[i].toNat = true := fun h => by have := of_decide_eq_true h; omega
                  have q1 : decide ((97 : Int) ≤ (s[i].toNat : Int)) = false := decide_eq_false (by omega)
                  have p1 : decide ((65 : Int) ≤ (s[i].toNat : Int)) = true := decide_eq_true (by omega)
                  have p2 : decide ((s[i].toNat : Int) ≤ 90) = false := decide_eq_false (by omega)
                  have d1 : decide ((48 : Int) ≤ (s[i].toNat : Int)) = true := decide_eq_true (by omega)
                  have d2 : decide ((s[i].toNat : Int) ≤ 57) = false := decide_eq_false (by omega)
                  have e1 : ((s[i].toNat : Int) == 10) = false := beq_eq_false_iff_ne.2 (by omega)
                  obtain rfl : y = 32 := by
                    have h := HY.out
                    rw [mixN, if_neg (by omega), if_neg (by omega), if_neg (by omega)] at h
                    exact h.symm
                  skip
                  go_wp2_with (at_builtin; refine wpList_append_own _ rfl (.tmp 42) (.tmp 46) 29 rfl w0.heap.size 5 j0 (.int .u8 0) 1 1 Tryd.underlying29 hi0 hz0 hz1 hz2 rfl (by decide) _ _ _ rfl (own.alloc _) ⟨wr.heap.size, 0, none⟩ 1 1 [.int .u8 (32 : Nat)] rfl rfl ?c1 ?c2 ?c3 ?c4 ?c5 ?_)
                  case c1 => exact cell_one_new _ _ _
                  case c2 => simp [Value.oneCell']
                  case c3 => simp [maxLen]; omega
                  case c4 => omega
                  case c5 => have := hnr.size; simp; omega
                  intro v' w2 hown hg _
                  go_wp2
                  go_roundw
                  case rel => exact ⟨i + 1, n + 1, b ++ [UInt8.ofNat 32], by go_num, by go_num, by omega, by omega, own_to hown (by simp) HYC.out.symm, Lib.hid (by rw [List.length_append, HB.out]; rfl), Below.grown (hnr.alloc _) hg (by have := hnr.size; simp; omega) (fun q hq => (own.lt q hq).1), Lib.hid (by have := HGO.out; rw [if_neg hst] at this; simpa using this)⟩
                  case measure => simp [intOf]; omega
                · skip
                  by_cases hc3 : 65 ≤ s[i].toNat
                  · have hst : ¬ stays s[i].toNat = true := fun h => by have := of_decide_eq_true h; omega
                    have q1 : decide ((97 : Int) ≤ (s[i].toNat : Int)) = false := decide_eq_false (by omega)
                    have p1 : decide ((65 : Int) ≤ (s[i].toNat : Int)) = true := decide_eq_true (by omega)
                    have p2 : decide ((s[i].toNat : Int) ≤ 90) = true := decide_eq_true (by omega)
                    have r3 : IntKind.u8.wrap (s[i].toNat : Int) = (y : Int) := by
                      have h := HY.out
                      rw [mixN, if_neg (by omega), if_pos ⟨by omega, by omega⟩] at h
                      rw [IntWalk.u8_in _ (by omega)]; omega
                    skip
                    go_wp2_with (at_builtin; refine wpList_append_own _ rfl (.tmp 74) (.tmp 80) 29 rfl w0.heap.size 5 j0 (.int .u8 0) 1 1 Tryd.underlying29 hi0 hz0 hz1 hz2 rfl (by decide) _ _ _ rfl (own.alloc _) ⟨wr.heap.size, 0, none⟩ 1 1 [.int .u8 (y : Nat)] rfl rfl ?c1 ?c2 ?c3 ?c4 ?c5 ?_)
                    case c1 => exact cell_one_new _ _ _
                    case c2 => simp [Value.oneCell']
                    case c3 => simp [maxLen]; omega
                    case c4 => omega
                    case c5 => have := hnr.size; simp; omega
                    intro v' w2 hown hg _
                    go_wp2
                    go_roundw
                    case rel => exact ⟨i + 1, n + 1, b ++ [UInt8.ofNat y], by go_num, by go_num, by omega, by omega, own_to hown (by simp) HYC.out.symm, Lib.hid (by rw [List.length_append, HB.out]; rfl), Below.grown (hnr.alloc _) hg (by have := hnr.size; simp; omega) (fun q hq => (own.lt q hq).1), Lib.hid (by have := HGO.out; rw [if_neg hst] at this; simpa using this)⟩
                    case measure => simp [intOf]; omega
                  · skip
                    by_cases hc4 : 57 < s[i].toNat
                    · have hst : ¬ stays s[i].toNat = true := fun h => by have := of_decide_eq_true h; omega
                      have q1 : decide ((97 : Int) ≤ (s[i].toNat : Int)) = false := decide_eq_false (by omega)
                      have p1 : decide ((65 : Int) ≤ (s[i].toNat : Int)) = false := decide_eq_false (by omega)
                      have d1 : decide ((48 : Int) ≤ (s[i].toNat : Int)) = true := decide_eq_true (by omega)
                      have d2 : decide ((s[i].toNat : Int) ≤ 57) = false := decide_eq_false (by omega)
                      have e1 : ((s[i].toNat : Int) == 10) = false := beq_eq_false_iff_ne.2 (by omega)
                      obtain rfl : y = 32 := by
                        have h := HY.out
                        rw [mixN, if_neg (by omega), if_neg (by omega), if_neg (by omega)] at h
                        exact h.symm
                      skip
                      go_wp2_with (at_builtin; refine wpList_append_own _ rfl (.tmp 42) (.tmp 46) 29 rfl w0.heap.size 5 j0 (.int .u8 0) 1 1 Tryd.underlying29 hi0 hz0 hz1 hz2 rfl (by decide) _ _ _ rfl (own.alloc _) ⟨wr.heap.size, 0, none⟩ 1 1 [.int .u8 (32 : Nat)] rfl rfl ?c1 ?c2 ?c3 ?c4 ?c5 ?_)
                      case c1 => exact cell_one_new _ _ _
                      case c2 => simp [Value.oneCell']
                      case c3 => simp [maxLen]; omega
                      case c4 => omega
                      case c5 => have := hnr.size; simp; omega
                      intro v' w2 hown hg _
                      go_wp2
                      go_roundw
                      case rel => exact ⟨i + 1, n + 1, b ++ [UInt8.ofNat 32], by go_num, by go_num, by omega, by omega, own_to hown (by simp) HYC.out.symm, Lib.hid (by rw [List.length_append, HB.out]; rfl), Below.grown (hnr.alloc _) hg (by have := hnr.size; simp; omega) (fun q hq => (own.lt q hq).1), Lib.hid (by have := HGO.out; rw [if_neg hst] at this; simpa using this)⟩
                      case measure => simp [intOf]; omega
                    · skip
                      by_cases hc5 : 48 ≤ s[i].toNat
                      · have hst : stays s[i].toNat = true := decide_eq_true (by omega)
                        have q1 : decide ((97 : Int) ≤ (s[i].toNat : Int)) = false := decide_eq_false (by omega)
                        have p1 : decide ((65 : Int) ≤ (s[i].toNat : Int)) = false := decide_eq_false (by omega)
                        have d1 : decide ((48 : Int) ≤ (s[i].toNat : Int)) = true := decide_eq_true (by omega)
                        have d2 : decide ((s[i].toNat : Int) ≤ 57) = true := decide_eq_true (by omega)
                        have r3 : s[i].toNat = y := by
                          have h := HY.out
                          rw [mixN, if_neg (by omega), if_neg (by omega), if_pos (by omega)] at h
                          exact h
                        have HR3 := Lib.hid r3
                        clear r3
                        skip
                        go_wp2_with (at_builtin; refine wpList_append_own _ rfl (.tmp 93) (.tmp 95) 29 rfl w0.heap.size 5 j0 (.int .u8 0) 1 1 Tryd.underlying29 hi0 hz0 hz1 hz2 rfl (by decide) _ _ _ rfl (own.alloc _) ⟨wr.heap.size, 0, none⟩ 1 1 [.int .u8 (s[i].toNat : Nat)] rfl rfl ?c1 ?c2 ?c3 ?c4 ?c5 ?_)
                        case c1 => exact cell_one_new _ _ _
                        case c2 => simp [Value.oneCell']
                        case c3 => simp [maxLen]; omega
                        case c4 => omega
                        case c5 => have := hnr.size; simp; omega
                        intro v' w2 hown hg _
                        go_wp2
                        go_roundw
                        case rel => exact ⟨i + 1, n, b ++ [UInt8.ofNat y], by go_num, by go_num, by omega, by omega, own_to hown (by simp) (by rw [HYC.out, ← HR3.out]), Lib.hid (by rw [List.length_append, HB.out]; rfl), Below.grown (hnr.alloc _) hg (by have := hnr.size; simp; omega) (fun q hq => (own.lt q hq).1), Lib.hid (by have := HGO.out; rw [if_pos hst] at this; simpa using this)⟩
                        case measure => simp [intOf]; omega
                      · skip
                        by_cases hc6 : s[i].toNat = 10
                        · have hst : stays s[i].toNat = true := decide_eq_true (by omega)
                          have q1 : decide ((97 : Int) ≤ (s[i].toNat : Int)) = false := decide_eq_false (by omega)
                          have p1 : decide ((65 : Int) ≤ (s[i].toNat : Int)) = false := decide_eq_false (by omega)
                          have d1 : decide ((48 : Int) ≤ (s[i].toNat : Int)) = false := decide_eq_false (by omega)
                          have e1 : ((s[i].toNat : Int) == 10) = true := beq_iff_eq.2 (by omega)
                          have r3 : s[i].toNat = y := by
                            have h := HY.out
                            rw [mixN, if_neg (by omega), if_neg (by omega), if_pos (by omega)] at h
                            exact h
                          have HR3 := Lib.hid r3
                          clear r3
                          clear hc6
                          go_wp2_with (at_builtin; refine wpList_append_own _ rfl (.tmp 93) (.tmp 95) 29 rfl w0.heap.size 5 j0 (.int .u8 0) 1 1 Tryd.underlying29 hi0 hz0 hz1 hz2 rfl (by decide) _ _ _ rfl (own.alloc _) ⟨wr.heap.size, 0, none⟩ 1 1 [.int .u8 (s[i].toNat : Nat)] rfl rfl ?c1 ?c2 ?c3 ?c4 ?c5 ?_)
                          case c1 => exact cell_one_new _ _ _
                          case c2 => simp [Value.oneCell']
                          case c3 => simp [maxLen]; omega
                          case c4 => omega
                          case c5 => have := hnr.size; simp; omega
                          intro v' w2 hown hg _
                          go_wp2
                          go_roundw
                          case rel => exact ⟨i + 1, n, b ++ [UInt8.ofNat y], by go_num, by go_num, by omega, by omega, own_to hown (by simp) (by rw [HYC.out, ← HR3.out]), Lib.hid (by rw [List.length_append, HB.out]; rfl), Below.grown (hnr.alloc _) hg (by have := hnr.size; simp; omega) (fun q hq => (own.lt q hq).1), Lib.hid (by have := HGO.out; rw [if_pos hst] at this; simpa using this)⟩
                          case measure => simp [intOf]; omega
                        · skip
                          have hst : ¬ stays s[i].toNat = true := fun h => by have := of_decide_eq_true h; omega
                          have q1 : decide ((97 : Int) ≤ (s[i].toNat : Int)) = false := decide_eq_false (by omega)
                          have p1 : decide ((65 : Int) ≤ (s[i].toNat : Int)) = false := decide_eq_false (by omega)
                          have d1 : decide ((48 : Int) ≤ (s[i].toNat : Int)) = false := decide_eq_false (by omega)
                          have e1 : ((s[i].toNat : Int) == 10) = false := beq_eq_false_iff_ne.2 (by omega)
                          obtain rfl : y = 32 := by
                            have h := HY.out
                            rw [mixN, if_neg (by omega), if_neg (by omega), if_neg (by omega)] at h
                            exact h.symm
                          skip
                          go_wp2_with (at_builtin; refine wpList_append_own _ rfl (.tmp 42) (.tmp 46) 29 rfl w0.heap.size 5 j0 (.int .u8 0) 1 1 Tryd.underlying29 hi0 hz0 hz1 hz2 rfl (by decide) _ _ _ rfl (own.alloc _) ⟨wr.heap.size, 0, none⟩ 1 1 [.int .u8 (32 : Nat)] rfl rfl ?c1 ?c2 ?c3 ?c4 ?c5 ?_)
                          case c1 => exact cell_one_new _ _ _
                          case c2 => simp [Value.oneCell']
                          case c3 => simp [maxLen]; omega
                          case c4 => omega
                          case c5 => have := hnr.size; simp; omega
                          intro v' w2 hown hg _
                          go_wp2
                          go_roundw
                          case rel => exact ⟨i + 1, n + 1, b ++ [UInt8.ofNat 32], by go_num, by go_num, by omega, by omega, own_to hown (by simp) HYC.out.symm, Lib.hid (by rw [List.length_append, HB.out]; rfl), Below.grown (hnr.alloc _) hg (by have := hnr.size; simp; omega) (fun q hq => (own.lt q hq).1), Lib.hid (by have := HGO.out; rw [if_neg hst] at this; simpa using this)⟩
                          case measure => simp [intOf]; omega
        · obtain rfl : i = s.size := by omega
          have hb : b = mixF s.data.toList sg := by
            have := HG.out
            rw [List.drop_of_length_le (by rw [← size_eq]; exact Nat.le_refl _), mixF, List.append_nil] at this
            exact this
          obtain ⟨l, hl⟩ : ∃ l, wordsT s = l := ⟨_, rfl⟩
          obtain ⟨k, hk⟩ : ∃ k, l.length = k := ⟨_, rfl⟩
          have hkl : k ≤ 2000 := by have := wordsT_len s; rw [hl, hk] at this; omega
          have hbs : (S b).size ≤ 100000 := by rw [size_S, HB.out]; omega
          have hl2 : wordsT (S b) = l := by rw [hb, words_mix, hl]
          have hl3 : wordsT (s ++ ⟨#[10, 32, 120]⟩) = l ++ [(⟨#[120]⟩, cntL s + 1)] := by rw [show s ++ (⟨#[10, 32, 120]⟩ : ByteArray) = s ++ tailB from rfl, words_tail, hl]
          have hlin : ∀ x ∈ l, x.2 ≤ cntL s := by rw [← hl]; exact lines_le s
          have hcl : cntL s ≤ 2000 := by
            have h9 : cntL s ≤ s.data.toList.length := List.count_le_length
            rw [← size_eq] at h9; omega
          obtain ⟨cn, hcn⟩ : ∃ x, cntL s = x := ⟨_, rfl⟩
          rw [hcn] at hl3 hlin hcl
          have CC := Lib.hid (fun W => (Tryd.strings_Count_one s 10 W).mono fun e w' (h : e = .returned (.int .i64 (Lib.countByte s.data.toList 10 : Nat)) ∧ w' = W) => (⟨h.1.trans (by rw [← hcn]; rfl), h.2⟩ : e = .returned (.int .i64 (cn : Nat)) ∧ w' = W))
          have C1 := Lib.hid (wordsA s l k hl hk (by omega))
          have C2 := Lib.hid (wordsA (S b) l k hl2 hk hbs)
          have C3 := Lib.hid (wordsA (s ++ ⟨#[10, 32, 120]⟩) _ (k + 1) hl3 (by rw [List.length_append, hk]; rfl) (by rw [ByteArray.size_append]; show s.size + 3 ≤ _; omega))
          have CV : ∀ W, New wr W → (convert 29 9 v5).run Tryd.prog W = .ok (.string (S b)) W := fun W hn => conv_any (own_new own hn) HB.out
          have HL := Lib.hid hlin
          have HLK := Lib.hid hk
          clear hb hl hl2 hl3 hlin hcn HG hk HR HM
          generalize S b = sb at *
          obtain ⟨A5, c5, rfl, _, _, _⟩ := own_form own
          go_upto_region 25 with (fail)
          go_cut [10, 11] (fun s10 s11 wx => ∃ A1 c1 A2 c2, s10 = .slice A1 k c1 ∧ s11 = .slice A2 k c2 ∧ Rd wx 2 A1 k (twCells l) ∧ Rd wx 2 A2 k (twCells l) ∧ New wr wx)
          case first =>
            go_region_held3 (fun W => New wr W) (first | exact New.refl _ | exact (New.refl _).drew | exact New.trans ‹_› ‹_› | exact New.drew ‹_›) (first | (go_at_call 7; have hq := hn1; refine (C2.out _).mono ?_; rintro e w2 ⟨A2, c2, rfl, r2, hn2⟩) | (go_at_call 7; refine (C1.out _).mono ?_; rintro e w1 ⟨A1, c1, rfl, r1, hn1⟩) | fail)
            all_goals
              go_wp2_with fail
              go_meet
              exact ⟨A1, c1, A2, c2, rfl, rfl, r1.below hn2, r2, ((New.refl wr).drew.trans hn1).trans hn2⟩
          case rest =>
            obtain ⟨A1, c1, A2, c2, rfl, rfl, r1, r2, hnc⟩ := hcut
            go_wp2
            go_loopw [105] (fun v105 wr2 => ∃ i : Nat, v105 = .int .i64 i ∧ i ≤ k ∧ New wc wr2) (fun v105 _ => k - (intOf v105).toNat)
            case atStart => exact ⟨0, rfl, by omega, New.refl _⟩
            case round =>
              obtain ⟨i, rfl, hi9, hnr9⟩ := hrel
              by_cases hlt9 : i < k
              · have i0 : (0 : Int) ≤ (i : Int) := by omega
                have i1 : (i : Int) < (k : Int) := by omega
                have hlt8 : i < l.length := by rw [HLK.out]; exact hlt9
                obtain ⟨b1, o1, rfl, hb1, hc1⟩ := (r1.below hnr9).2 (by omega)
                obtain ⟨q1, q2⟩ := twCells_at l i hlt8
                have d1 := hc1 _ _ q1
                have d2 : wr.cell? ⟨b1, o1 + i * 2 + 1, none⟩ = some (.int .i64 l[i].2) := hc1 _ _ q2
                have hlx := HL.out _ (List.getElem_mem hlt8)
                generalize l[i] = x at *
                clear q1 q2 hc1
                have l1 : decide ((x.2 : Int) < 0) = false := decide_eq_false (by omega)
                have l2 : decide ((cn : Int) < (x.2 : Int)) = false := decide_eq_false (by omega)
                go_wp2
                go_quiet ((go_at_call 9; exact Calls.quiet_of_same (CC.out _)))
                go_wp2
                go_roundw
                case rel => exact ⟨i + 1, by go_num, by omega, (hnr9.alloc _).drewN nq⟩
                case measure => simp [intOf]; omega
              · obtain rfl : i = k := by omega
                have u1 : IntKind.i64.wrap ((i : Int) + 1) = (i : Int) + 1 := IntWalk.i64_in _ (by omega)
                have u2 : IntKind.i64.wrap ((cn : Int) + 1) = (cn : Int) + 1 := IntWalk.i64_in _ (by omega)
                have u3 : ¬ (9223372036854775807 < s.size + 3) := by omega
                have i0 : (0 : Int) ≤ (i : Int) := by omega
                have i1 : (i : Int) < ((i + 1 : Nat) : Int) := by omega
                have i2 : i < i + 1 := by omega
                have i3 : (i : Int) < (i : Int) + 1 := by omega
                have i4 : (i : Int).toNat = i := by omega
                have hat : (twCells (l ++ [(⟨#[120]⟩, cn + 1)]))[i * 2 + 1]? = some (.int .i64 (cn + 1 : Nat)) := by
                  have hq : i < (l ++ [((⟨#[120]⟩ : ByteArray), cn + 1)]).length := by rw [List.length_append, HLK.out]; simp
                  rw [(twCells_at _ i hq).2, List.getElem_append_right (by rw [HLK.out]; exact Nat.le_refl _)]
                  simp [HLK.out]
                go_wp2
                refine wp_region_held_drew (S := fun _ => True) (by kernel_rfl) trivial (fun hS => ?_)
                refine wpAnyH_take (i := 0) (oi := ?oi1) (v := .slice A1 i c1) ?hi1 (by kernel_rfl) (by kernel_rfl) (by kernel_rfl) ?hQ1 ?hy1 trivial ?h1
                case hi1 => (simp only [List.getElem?_toArray, List.getElem?_cons_succ, List.getElem?_cons_zero]; rfl)
                case hQ1 => exact fun _ _ _ h => h
                case hy1 => exact Or.inl ⟨by rfl, fun w hS => by go_simp⟩
                simp only [Act.put, List.setIfInBounds_toArray, List.set_cons_zero, List.set_cons_succ]
                refine wpAnyH_take (i := 1) (oi := ?oi2) (v := .slice A2 i c2) ?hi2 (by kernel_rfl) (by kernel_rfl) (by kernel_rfl) ?hQ2 ?hy2 trivial ?h2
                case hi2 => (simp only [List.getElem?_toArray, List.getElem?_cons_succ, List.getElem?_cons_zero]; rfl)
                case hQ2 => exact fun _ _ _ h => h
                case hy2 => exact Or.inl ⟨by rfl, fun w hS => by go_simp⟩
                simp only [Act.put, List.setIfInBounds_toArray, List.set_cons_zero, List.set_cons_succ]
                refine wpAnyH_ready (rs := [2]) (by kernel_rfl) (by simp) ?_
                refine AllReadyH.cons (o := ?oi3) ?hi3 (fun K hK => ?_) AllReadyH.nil
                case hi3 => (simp only [List.getElem?_toArray, List.getElem?_cons_succ, List.getElem?_cons_zero]; rfl)
                go_simp
                refine (eqTw_same A1 A2 c1 c2 i l HLK.out _ (r1.below hnr9).drew (r2.below hnr9).drew (by omega)).mono ?_
                rintro e w3 ⟨rfl, hn3⟩
                refine hK.out _ _ trivial (fun _ => ?_)
                clear hK K
                refine wpAnyH_take (i := 3) (oi := ?oi4) (v := .bool true) ?hi4 (by kernel_rfl) (by kernel_rfl) (by kernel_rfl) ?hQ4 ?hy4 trivial ?h4
                case hi4 => (simp only [List.getElem?_toArray, List.getElem?_cons_succ, List.getElem?_cons_zero]; rfl)
                case hQ4 => exact fun _ _ _ h => h
                case hy4 => exact Or.inl ⟨by rfl, fun w hS => by go_simp⟩
                simp only [Act.put, List.setIfInBounds_toArray, List.set_cons_zero, List.set_cons_succ]
                refine wpAnyH_take (i := 4) (oi := ?oi5) (v := .string s) ?hi5 (by kernel_rfl) (by kernel_rfl) (by kernel_rfl) ?hQ5 ?hy5 trivial ?h5
                case hi5 => (simp only [List.getElem?_toArray, List.getElem?_cons_succ, List.getElem?_cons_zero]; rfl)
                case hQ5 => exact fun _ _ _ h => h
                case hy5 => exact Or.inl ⟨by rfl, fun w hS => by go_simp⟩
                simp only [Act.put, List.setIfInBounds_toArray, List.set_cons_zero, List.set_cons_succ]
                refine wpAnyH_take (i := 5) (oi := ?oi6) (v := .string (s ++ ⟨#[10, 32, 120]⟩)) ?hi6 (by kernel_rfl) (by kernel_rfl) (by kernel_rfl) ?hQ6 ?hy6 trivial ?h6
                case hi6 => (simp only [List.getElem?_toArray, List.getElem?_cons_succ, List.getElem?_cons_zero]; rfl)
                case hQ6 => exact fun _ _ _ h => h
                case hy6 => exact Or.inl ⟨by rfl, fun w hS => by go_simp⟩
                simp only [Act.put, List.setIfInBounds_toArray, List.set_cons_zero, List.set_cons_succ]
                refine wpAnyH_take (i := 8) (oi := ?oi7) (v := .slice A1 i c1) ?hi7 (by kernel_rfl) (by kernel_rfl) (by kernel_rfl) ?hQ7 ?hy7 trivial ?h7
                case hi7 => (simp only [List.getElem?_toArray, List.getElem?_cons_succ, List.getElem?_cons_zero]; rfl)
                case hQ7 => exact fun _ _ _ h => h
                case hy7 => exact Or.inl ⟨by rfl, fun w hS => by go_simp⟩
                simp only [Act.put, List.setIfInBounds_toArray, List.set_cons_zero, List.set_cons_succ]
                refine wpAnyH_take (i := 9) (oi := ?oi8) (v := .int .i64 (i : Nat)) ?hi8 (by kernel_rfl) (by kernel_rfl) (by kernel_rfl) ?hQ8 ?hy8 trivial ?h8
                case hi8 => (simp only [List.getElem?_toArray, List.getElem?_cons_succ, List.getElem?_cons_zero]; rfl)
                case hQ8 => exact fun _ _ _ h => h
                case hy8 => exact Or.inl ⟨by rfl, fun w hS => by go_simp⟩
                simp only [Act.put, List.setIfInBounds_toArray, List.set_cons_zero, List.set_cons_succ]
                refine wpAnyH_take (i := 10) (oi := ?oi9) (v := .int .i64 ((i : Int) + 1)) ?hi9 (by kernel_rfl) (by kernel_rfl) (by kernel_rfl) ?hQ9 ?hy9 trivial ?h9
                case hi9 => (simp only [List.getElem?_toArray, List.getElem?_cons_succ, List.getElem?_cons_zero]; rfl)
                case hQ9 => exact fun _ _ _ h => h
                case hy9 => exact Or.inl ⟨by rfl, fun w hS => by go_simp⟩
                simp only [Act.put, List.setIfInBounds_toArray, List.set_cons_zero, List.set_cons_succ]
                refine wpAnyH_ready (rs := [6]) (by kernel_rfl) (by simp) ?_
                refine AllReadyH.cons (o := ?oi10) ?hi10 (fun K hK => ?_) AllReadyH.nil
                case hi10 => (simp only [List.getElem?_toArray, List.getElem?_cons_succ, List.getElem?_cons_zero]; rfl)
                go_simp
                refine (C3.out _).mono ?_
                rintro e w4 ⟨A3, c3, rfl, r3, hn4⟩
                refine hK.out _ _ trivial (fun _ => ?_)
                clear hK K
                refine wpAnyH_take (i := 7) (oi := ?oi11) (v := .int .i64 ((i : Int) + 1)) ?hi11 (by kernel_rfl) (by kernel_rfl) (by kernel_rfl) ?hQ11 ?hy11 trivial ?h11
                case hi11 => (simp only [List.getElem?_toArray, List.getElem?_cons_succ, List.getElem?_cons_zero]; rfl)
                case hQ11 => exact fun _ _ _ h => h
                case hy11 => exact Or.inl ⟨by rfl, fun w hS => by go_simp⟩
                simp only [Act.put, List.setIfInBounds_toArray, List.set_cons_zero, List.set_cons_succ]
                refine wpAnyH_take (i := 11) (oi := ?oi12) (v := .bool true) ?hi12 (by kernel_rfl) (by kernel_rfl) (by kernel_rfl) ?hQ12 ?hy12 trivial ?h12
                case hi12 => (simp only [List.getElem?_toArray, List.getElem?_cons_succ, List.getElem?_cons_zero]; rfl)
                case hQ12 => exact fun _ _ _ h => h
                case hy12 => exact Or.inl ⟨by rfl, fun w hS => by go_simp⟩
                simp only [Act.put, List.setIfInBounds_toArray, List.set_cons_zero, List.set_cons_succ]
                refine wpAnyH_take (i := 12) (oi := ?oi13) (v := .bool true) ?hi13 (by kernel_rfl) (by kernel_rfl) (by kernel_rfl) ?hQ13 ?hy13 trivial ?h13
                case hi13 => (simp only [List.getElem?_toArray, List.getElem?_cons_succ, List.getElem?_cons_zero]; rfl)
                case hQ13 => exact fun _ _ _ h => h
                case hy13 => exact Or.inl ⟨by rfl, fun w hS => by go_simp⟩
                simp only [Act.put, List.setIfInBounds_toArray, List.set_cons_zero, List.set_cons_succ]
                refine wpAnyH_take (i := 13) (oi := ?oi14) (v := .bool true) ?hi14 (by kernel_rfl) (by kernel_rfl) (by kernel_rfl) ?hQ14 ?hy14 trivial ?h14
                case hi14 => (simp only [List.getElem?_toArray, List.getElem?_cons_succ, List.getElem?_cons_zero]; rfl)
                case hQ14 => exact fun _ _ _ h => h
                case hy14 => exact Or.inl ⟨by rfl, fun w hS => by go_simp⟩
                simp only [Act.put, List.setIfInBounds_toArray, List.set_cons_zero, List.set_cons_succ]
                refine wpAnyH_take (i := 14) (oi := ?oi15) (v := .string s) ?hi15 (by kernel_rfl) (by kernel_rfl) (by kernel_rfl) ?hQ15 ?hy15 trivial ?h15
                case hi15 => (simp only [List.getElem?_toArray, List.getElem?_cons_succ, List.getElem?_cons_zero]; rfl)
                case hQ15 => exact fun _ _ _ h => h
                case hy15 => exact Or.inl ⟨by rfl, fun w hS => by go_simp⟩
                simp only [Act.put, List.setIfInBounds_toArray, List.set_cons_zero, List.set_cons_succ]
                refine wpAnyH_take (i := 15) (oi := ?oi16) (v := .string (s ++ ⟨#[10, 32, 120]⟩)) ?hi16 (by kernel_rfl) (by kernel_rfl) (by kernel_rfl) ?hQ16 ?hy16 trivial ?h16
                case hi16 => (simp only [List.getElem?_toArray, List.getElem?_cons_succ, List.getElem?_cons_zero]; rfl)
                case hQ16 => exact fun _ _ _ h => h
                case hy16 => exact Or.inl ⟨by rfl, fun w hS => by go_simp⟩
                simp only [Act.put, List.setIfInBounds_toArray, List.set_cons_zero, List.set_cons_succ]
                refine wpAnyH_take (i := 17) (oi := ?oi17) (v := .slice A1 i c1) ?hi17 (by kernel_rfl) (by kernel_rfl) (by kernel_rfl) ?hQ17 ?hy17 trivial ?h17
                case hi17 => (simp only [List.getElem?_toArray, List.getElem?_cons_succ, List.getElem?_cons_zero]; rfl)
                case hQ17 => exact fun _ _ _ h => h
                case hy17 => exact Or.inl ⟨by rfl, fun w hS => by go_simp⟩
                simp only [Act.put, List.setIfInBounds_toArray, List.set_cons_zero, List.set_cons_succ]
                refine wpAnyH_take (i := 18) (oi := ?oi18) (v := .int .i64 (i : Nat)) ?hi18 (by kernel_rfl) (by kernel_rfl) (by kernel_rfl) ?hQ18 ?hy18 trivial ?h18
                case hi18 => (simp only [List.getElem?_toArray, List.getElem?_cons_succ, List.getElem?_cons_zero]; rfl)
                case hQ18 => exact fun _ _ _ h => h
                case hy18 => exact Or.inl ⟨by rfl, fun w hS => by go_simp⟩
                simp only [Act.put, List.setIfInBounds_toArray, List.set_cons_zero, List.set_cons_succ]
                refine wpAnyH_take (i := 22) (oi := ?oi19) (v := .string s) ?hi19 (by kernel_rfl) (by kernel_rfl) (by kernel_rfl) ?hQ19 ?hy19 trivial ?h19
                case hi19 => (simp only [List.getElem?_toArray, List.getElem?_cons_succ, List.getElem?_cons_zero]; rfl)
                case hQ19 => exact fun _ _ _ h => h
                case hy19 => exact Or.inl ⟨by rfl, fun w hS => by go_simp⟩
                simp only [Act.put, List.setIfInBounds_toArray, List.set_cons_zero, List.set_cons_succ]
                refine wpAnyH_ready (rs := [16]) (by kernel_rfl) (by simp) ?_
                refine AllReadyH.cons (o := ?oi20) ?hi20 (fun K hK => ?_) AllReadyH.nil
                case hi20 => (simp only [List.getElem?_toArray, List.getElem?_cons_succ, List.getElem?_cons_zero]; rfl)
                go_simp
                refine (C3.out _).mono ?_
                rintro e w5 ⟨A4, c4, rfl, r4, hn5⟩
                refine hK.out _ _ trivial (fun _ => ?_)
                clear hK K
                obtain ⟨b4, o4, rfl, _, hc4⟩ := r4.2 (by omega)
                have d5 : w5.cell? ⟨b4, o4 + i * 2 + 1, none⟩ = some (.int .i64 ((cn : Int) + 1)) := hc4 _ _ hat
                clear hc4
                refine wpAnyH_take (i := 19) (oi := ?oi21) (v := .pointer (some ⟨b4, o4 + i * 2, none⟩)) ?hi21 (by kernel_rfl) (by kernel_rfl) (by kernel_rfl) ?hQ21 ?hy21 trivial ?h21
                case hi21 => (simp only [List.getElem?_toArray, List.getElem?_cons_succ, List.getElem?_cons_zero]; rfl)
                case hQ21 => exact fun _ _ _ h => h
                case hy21 => exact Or.inl ⟨by rfl, fun w hS => by go_simp⟩
                simp only [Act.put, List.setIfInBounds_toArray, List.set_cons_zero, List.set_cons_succ]
                refine wpAnyH_take (i := 20) (oi := ?oi22) (v := .pointer (some ⟨b4, o4 + i * 2 + 1, none⟩)) ?hi22 (by kernel_rfl) (by kernel_rfl) (by kernel_rfl) ?hQ22 ?hy22 trivial ?h22
                case hi22 => (simp only [List.getElem?_toArray, List.getElem?_cons_succ, List.getElem?_cons_zero]; rfl)
                case hQ22 => exact fun _ _ _ h => h
                case hy22 => exact Or.inl ⟨by rfl, fun w hS => by go_simp⟩
                simp only [Act.put, List.setIfInBounds_toArray, List.set_cons_zero, List.set_cons_succ]
                refine wpAnyH_ready (rs := [21, 23]) (by kernel_rfl) (by simp) ?_
                refine AllReadyH.cons (o := ?oi23) ?hi23 (fun K hK => ?_) (AllReadyH.cons (o := ?oj23) ?hj23 (fun K hK => ?_) AllReadyH.nil)
                case hi23 => (simp only [List.getElem?_toArray, List.getElem?_cons_succ, List.getElem?_cons_zero]; rfl)
                case hj23 => (simp only [List.getElem?_toArray, List.getElem?_cons_succ, List.getElem?_cons_zero]; rfl)
                · go_simp
                  refine hK.out _ _ trivial (fun _ => ?_)
                  clear hK K
                  refine wpAnyH_ready (rs := [23]) (by kernel_rfl) (by simp) ?_
                  refine AllReadyH.cons (o := ?oi24) ?hi24 (fun K hK => ?_) AllReadyH.nil
                  case hi24 => (simp only [List.getElem?_toArray, List.getElem?_cons_succ, List.getElem?_cons_zero]; rfl)
                  go_simp
                  refine (CC.out _).mono ?_
                  rintro e w6 ⟨rfl, rfl⟩
                  refine hK.out _ _ trivial (fun _ => ?_)
                  clear hK K
                  refine wpAnyH_take (i := 24) (oi := ?oi25) (v := .int .i64 ((cn : Int) + 1)) ?hi25 (by kernel_rfl) (by kernel_rfl) (by kernel_rfl) ?hQ25 ?hy25 trivial ?h25
                  case hi25 => (simp only [List.getElem?_toArray, List.getElem?_cons_succ, List.getElem?_cons_zero]; rfl)
                  case hQ25 => exact fun _ _ _ h => h
                  case hy25 => exact Or.inl ⟨by rfl, fun w hS => by go_simp⟩
                  simp only [Act.put, List.setIfInBounds_toArray, List.set_cons_zero, List.set_cons_succ]
                  refine wpAnyH_take (i := 25) (oi := ?oi26) (v := .bool true) ?hi26 (by kernel_rfl) (by kernel_rfl) (by kernel_rfl) ?hQ26 ?hy26 trivial ?h26
                  case hi26 => (simp only [List.getElem?_toArray, List.getElem?_cons_succ, List.getElem?_cons_zero]; rfl)
                  case hQ26 => exact fun _ _ _ h => h
                  case hy26 => exact Or.inl ⟨by rfl, fun w hS => by go_simp⟩
                  simp only [Act.put, List.setIfInBounds_toArray, List.set_cons_zero, List.set_cons_succ]
                  refine wpAnyH_take (i := 26) (oi := ?oi27) (v := .bool true) ?hi27 (by kernel_rfl) (by kernel_rfl) (by kernel_rfl) ?hQ27 ?hy27 trivial ?h27
                  case hi27 => (simp only [List.getElem?_toArray, List.getElem?_cons_succ, List.getElem?_cons_zero]; rfl)
                  case hQ27 => exact fun _ _ _ h => h
                  case hy27 => exact Or.inl ⟨by rfl, fun w hS => by go_simp⟩
                  simp only [Act.put, List.setIfInBounds_toArray, List.set_cons_zero, List.set_cons_succ]
                  refine wpAnyH_take (i := 27) (oi := ?oi28) (v := .bool true) ?hi28 (by kernel_rfl) (by kernel_rfl) (by kernel_rfl) ?hQ28 ?hy28 trivial ?h28
                  case hi28 => (simp only [List.getElem?_toArray, List.getElem?_cons_succ, List.getElem?_cons_zero]; rfl)
                  case hQ28 => exact fun _ _ _ h => h
                  case hy28 => exact Or.inl ⟨by rfl, fun w hS => by go_simp⟩
                  simp only [Act.put, List.setIfInBounds_toArray, List.set_cons_zero, List.set_cons_succ]
                  refine wpAnyH_done (by kernel_rfl) ?_ _
                  go_wp2
                  go_ret
                  exact ⟨rfl, (((h0.trans hnr).trans hnc).trans hnr9).trans ((((New.refl wr).drew.trans hn3).trans hn4).trans hn5)⟩
                · go_simp
                  refine (CC.out _).mono ?_
                  rintro e w6 ⟨rfl, rfl⟩
                  refine hK.out _ _ trivial (fun _ => ?_)
                  clear hK K
                  refine wpAnyH_take (i := 24) (oi := ?oi29) (v := .int .i64 ((cn : Int) + 1)) ?hi29 (by kernel_rfl) (by kernel_rfl) (by kernel_rfl) ?hQ29 ?hy29 trivial ?h29
                  case hi29 => (simp only [List.getElem?_toArray, List.getElem?_cons_succ, List.getElem?_cons_zero]; rfl)
                  case hQ29 => exact fun _ _ _ h => h
                  case hy29 => exact Or.inl ⟨by rfl, fun w hS => by go_simp⟩
                  simp only [Act.put, List.setIfInBounds_toArray, List.set_cons_zero, List.set_cons_succ]
                  refine wpAnyH_ready (rs := [21]) (by kernel_rfl) (by simp) ?_
                  refine AllReadyH.cons (o := ?oi30) ?hi30 (fun K hK => ?_) AllReadyH.nil
                  case hi30 => (simp only [List.getElem?_toArray, List.getElem?_cons_succ, List.getElem?_cons_zero]; rfl)
                  go_simp
                  refine hK.out _ _ trivial (fun _ => ?_)
                  clear hK K
                  refine wpAnyH_take (i := 25) (oi := ?oi31) (v := .bool true) ?hi31 (by kernel_rfl) (by kernel_rfl) (by kernel_rfl) ?hQ31 ?hy31 trivial ?h31
                  case hi31 => (simp only [List.getElem?_toArray, List.getElem?_cons_succ, List.getElem?_cons_zero]; rfl)
                  case hQ31 => exact fun _ _ _ h => h
                  case hy31 => exact Or.inl ⟨by rfl, fun w hS => by go_simp⟩
                  simp only [Act.put, List.setIfInBounds_toArray, List.set_cons_zero, List.set_cons_succ]
                  refine wpAnyH_take (i := 26) (oi := ?oi32) (v := .bool true) ?hi32 (by kernel_rfl) (by kernel_rfl) (by kernel_rfl) ?hQ32 ?hy32 trivial ?h32
                  case hi32 => (simp only [List.getElem?_toArray, List.getElem?_cons_succ, List.getElem?_cons_zero]; rfl)
                  case hQ32 => exact fun _ _ _ h => h
                  case hy32 => exact Or.inl ⟨by rfl, fun w hS => by go_simp⟩
                  simp only [Act.put, List.setIfInBounds_toArray, List.set_cons_zero, List.set_cons_succ]
                  refine wpAnyH_take (i := 27) (oi := ?oi33) (v := .bool true) ?hi33 (by kernel_rfl) (by kernel_rfl) (by kernel_rfl) ?hQ33 ?hy33 trivial ?h33
                  case hi33 => (simp only [List.getElem?_toArray, List.getElem?_cons_succ, List.getElem?_cons_zero]; rfl)
                  case hQ33 => exact fun _ _ _ h => h
                  case hy33 => exact Or.inl ⟨by rfl, fun w hS => by go_simp⟩
                  simp only [Act.put, List.setIfInBounds_toArray, List.set_cons_zero, List.set_cons_succ]
                  refine wpAnyH_done (by kernel_rfl) ?_ _
                  go_wp2
                  go_ret
                  exact ⟨rfl, (((h0.trans hnr).trans hnc).trans hnr9).trans ((((New.refl wr).drew.trans hn3).trans hn4).trans hn5)⟩
    · have g2' : decide ((300 : Int) < (m : Int)) = true := decide_eq_true (by omega)
      clear g2
      go_enter Tryd.func4, Tryd.ntmps4
      go_wp2_with (go_at_call 5; refine (HA.out _).mono ?_; rintro e w0 ⟨rfl, h0⟩)
      go_ret
      exact ⟨rfl, h0⟩
  · have g1' : decide ((2000 : Int) < (s.size : Int)) = true := decide_eq_true (by omega)
    clear g1
    go_enter Tryd.func4, Tryd.ntmps4
    go_wp2_with (go_at_call 5; refine (HA.out _).mono ?_; rintro e w0 ⟨rfl, h0⟩)
    go_ret
    exact ⟨rfl, h0⟩
end Go.Proofs.YtpoelhnceebmkaaDoor
