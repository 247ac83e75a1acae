/- The reference's Words, and slices.Equal at equal words. No conditions but the text's length. -/
import Derived.Test.YtpoelhnceebmkaaGreatDoorC
import Derived.Lib.ConvBytes
import Derived.BigQuiet
namespace Go.Proofs.YtpoelhnceebmkaaGreatDoor
open Go Go.RowKit Go.Shelf
set_option linter.unusedSimpArgs false
set_option linter.unusedVariables false

theorem spF_free : ∀ (l : List UInt8) (i f f' : Nat), spF i f [] l = spF i f' [] l
  | [], i, f, f' => by rw [spF, spF]; rfl
  | c :: r, i, f, f' => by
    rw [spF, spF]
    split
    · rw [spF_free r (i + 1) f f', if_pos rfl, if_pos rfl]
    · rfl
theorem spF_close {s : ByteArray} {k f : Nat} {cur : List UInt8} (hc : cur ≠ []) (h : k = s.size ∨ ∃ hk : k < s.size, smN (s[k]'hk).toNat = 0) : spF k f cur (s.data.toList.drop k) = (f, cur) :: spF k f [] (s.data.toList.drop k) := by
  rcases h with rfl | ⟨hk, hz⟩
  · rw [spF_end, spF_end, if_neg hc, if_pos rfl]
  · rw [spF_gap hk hz, spF_gap hk hz, if_neg hc, if_pos rfl]; rfl
theorem lns_succ {s : ByteArray} {i : Nat} (h : i < s.size) : lns s (i + 1) = lns s i + if s[i] = 10 then 1 else 0 := by
  have hl : i < s.data.toList.length := by rw [← size_eq]; exact h
  rw [lns, lns, List.take_succ_eq_append_getElem hl, List.count_append, ← get_eq s i h]
  simp only [List.count_cons, List.count_nil, Nat.zero_add, beq_iff_eq]
theorem lns_le (s : ByteArray) (i : Nat) : lns s i ≤ s.size := by
  have h1 : lns s i ≤ (s.data.toList.take i).length := List.count_le_length
  rw [List.length_take, ← size_eq] at h1
  omega
def u8Cells (l : List UInt8) : List Value := l.map fun c => .int .u8 (c.toNat : Nat)
theorem own_bytes {w : World} {B k : Nat} {v : Value} {l : List UInt8} (h : w.ownsRow B 5 1 v k (u8Cells l)) (hk : l.length = k) (h0 : 0 < k) : (convert 104 9 v).run Tryz.prog w = .ok (.string (S l)) w := by
  subst hk
  obtain ⟨g, cap, rfl, _, _⟩ := h.form h0
  refine run_convert_bytes_back (P := Tryz.prog) w 104 9 5 ⟨g, 0, none⟩ cap l Tryz.underlying104 Tryz.underlying5 Tryz.underlying9 (fun j hj => ?_)
  rw [add_none rfl, Nat.zero_add, h.cellAt j (by omega), u8Cells]
  simp [List.getD, List.getElem?_eq_getElem hj]
theorem Tryz.info5 : (Tryz.prog.info? 5).map (fun i => (i.zero, i.size, i.bytes)) = some (some (.int .u8 0), 1, 1) := by kernel_rfl
theorem own_new {W W' : World} {base size n : Nat} {e : TypeId} {v : Value} {xs : List Value} (h : W.ownsRow base e size v n xs) (hn : New W W') : W'.ownsRow base e size v n xs :=
  h.kept (hn.grown_ none) (by cases v.ownBlock <;> simp)

theorem twCells_at : ∀ (l : List Tw) (k : Nat) (h : k < l.length), (twCells l)[k * 2]? = some (.string l[k].1) ∧ (twCells l)[k * 2 + 1]? = some (.int .i64 l[k].2)
  | [], k, h => by simp at h
  | x :: l, 0, _ => ⟨rfl, rfl⟩
  | x :: l, k + 1, h => by
    have ih := twCells_at l k (by simpa using h)
    have e1 : (k + 1) * 2 = k * 2 + 2 := by omega
    have e2 : twCells (x :: l) = .string x.1 :: .int .i64 x.2 :: twCells l := rfl
    rw [e1, e2]
    simpa using ih
set_option maxRecDepth 100000 in
set_option maxHeartbeats 2000000 in
theorem rwords_any (s : ByteArray) (w : World) (hs : s.size ≤ 100000) :
    Calls Tryz.prog 41 #[.string s] w fun e w' => ∃ v, e = .returned v ∧ w'.ownsRow w.heap.size 74 2 v (wordsT s).length (twCells (wordsT s)) ∧ New w w' := by
  obtain ⟨i0, hi, hz0, hz1, hz2⟩ := info_parts Tryz.info74
  obtain ⟨j0, hj, hy0, hy1, hy2⟩ := info_parts Tryz.info5
  go_enter Tryz.func41, Tryz.ntmps41
  go_wp2
  go_loopw [3, 4, 5] (fun v3 v4 v5 wr => ∃ (i : Nat) (acc : List Tw), v4 = .int .i64 (lns s i : Nat) ∧ v5 = .int .i64 i ∧ i ≤ s.size ∧ acc.length ≤ i ∧ wr.ownsRow w.heap.size 74 2 v3 acc.length (twCells acc) ∧ New w wr ∧ Hid (acc ++ (spF i 0 [] (s.data.toList.drop i)).map (twOf s) = wordsT s))
    (fun _ _ v5 _ => s.size - (intOf v5).toNat)
  case atStart => exact ⟨0, [], by simp [lns], rfl, by omega, by simp, World.ownsRow_nil _ _ _ _, New.refl _, Lib.hid rfl⟩
  case round =>
    obtain ⟨i, acc, rfl, rfl, hle, hal, own, hn, H⟩ := hrel
    have hzr := hn.size
    have hll := lns_le s i
    by_cases hlt : i < s.size
    · have hn8 := (s[i]).toNat_lt
      have hC := Lib.hid (fun w => small_any s[i].toNat (by omega) w)
      have hsuc := lns_succ hlt
      by_cases hw : smN s[i].toNat = 0
      · rw [hw] at hC
        have hg := spF_gap (f := 0) (cur := []) hlt hw
        rw [if_pos rfl, List.nil_append] at hg
        have HN : Hid (acc ++ (spF (i + 1) 0 [] (s.data.toList.drop (i + 1))).map (twOf s) = wordsT s) := Lib.hid (by rw [← hg]; exact H.out)
        clear hg hw
        by_cases h10 : s[i] = 10
        · rw [if_pos h10] at hsuc
          have h10' : s[i].toNat = 10 := by rw [h10]; rfl
          have t1 : ((s[i].toNat : Int) == 10) = true := by rw [h10']; rfl
          have t2 : (s[i].toNat : Int) = 10 := by rw [h10']; rfl
          have HS := Lib.hid hsuc
          clear hsuc h10
          have hC10 : ∀ w, Calls Tryz.prog 68 #[.int .u8 10] w fun e w' => e = .returned (.int .u8 0) ∧ w = w' := fun w => by
            have := small_any 10 (by omega) w
            exact this
          have HC10 := Lib.hid hC10
          clear hC hC10
          go_wp2_with (go_at_call 68; refine (HC10.out _).mono ?_; rintro e w' ⟨rfl, rfl⟩)
          go_roundw
          case rel => exact ⟨i + 1, acc, by rw [HS.out]; go_num, by go_num, by omega, by omega, own, hn, HN⟩
          case measure => simp [intOf]; omega
        · rw [if_neg h10] at hsuc
          have h10' : ¬ s[i].toNat = 10 := fun e => h10 (UInt8.toNat_inj.1 e)
          have t1 : ((s[i].toNat : Int) == 10) = false := beq_eq_false_iff_ne.2 (by omega)
          have t2 : ¬ (s[i].toNat : Int) = 10 := by omega
          have HS := Lib.hid hsuc
          clear hsuc h10
          go_wp2_with (go_at_call 68; refine (hC.out _).mono ?_; rintro e w' ⟨rfl, rfl⟩)
          go_roundw
          case rel => exact ⟨i + 1, acc, by rw [HS.out]; rfl, by go_num, by omega, by omega, own, hn, HN⟩
          case measure => simp [intOf]; omega
      · have HWI := Lib.hid hw
        obtain ⟨m, hm⟩ : ∃ m, smN s[i].toNat = m := ⟨_, rfl⟩
        rw [hm] at hC hw
        have m1 : ((m : Int) == 0) = false := beq_eq_false_iff_ne.2 (by omega)
        have m2 : ¬ (m : Int) = 0 := by omega
        have HM := Lib.hid hm
        clear hm hsuc
        go_wp2_with (go_at_call 68; refine (hC.out _).mono ?_; rintro e w' ⟨rfl, rfl⟩)
        obtain ⟨wo, rfl⟩ : ∃ x, x = wr := ⟨_, rfl⟩
        go_loopw [5, 6] (fun v5 v6 wr2 => ∃ (k : Nat) (cur : List UInt8), v5 = .int .i64 k ∧ i ≤ k ∧ k ≤ s.size ∧ wr2.ownsRow wo.heap.size 5 1 v6 (k - i) (u8Cells cur) ∧ New wo wr2 ∧ Hid (cur.length = k - i) ∧ Hid (lns s k = lns s i) ∧ Hid (spF k i cur (s.data.toList.drop k) = spF i 0 [] (s.data.toList.drop i))) (fun v5 _ _ => s.size - (intOf v5).toNat)
        case atStart => exact ⟨i, [], rfl, Nat.le_refl _, by omega, by rw [Nat.sub_self]; exact World.ownsRow_nil _ _ _ _, New.refl _, Lib.hid (by simp), Lib.hid rfl, Lib.hid (spF_free _ _ _ _)⟩
        case round =>
          obtain ⟨k, cur, rfl, hik, hks, ownw, hn2, HL, HLN, HSP⟩ := hrel
          have hz2' := hn2.size
          obtain ⟨d, hd⟩ : ∃ d, k - i = d := ⟨_, rfl⟩
          rw [hd] at ownw HL
          obtain ⟨A7, c7, rfl, _, _, _⟩ := own_form ownw
          by_cases hk2 : k < s.size
          · have hk8 := (s[k]).toNat_lt
            have hCk := Lib.hid (fun w => small_any s[k].toNat (by omega) w)
            by_cases hwk : smN s[k].toNat = 0
            · rw [hwk] at hCk
              have hki : k ≠ i := fun e => by subst e; exact HWI.out hwk
              have hcl : 0 < d := by omega
              have hcne : cur ≠ [] := fun e => by have := HL.out; rw [e] at this; simp at this; omega
              have hcl2 := spF_close (f := i) (cur := cur) hcne (.inr ⟨hk2, hwk⟩)
              rw [HSP.out] at hcl2
              have HCL := Lib.hid hcl2
              have hconv := own_bytes ownw HL.out hcl
              have own2 := own_new own hn2
              go_wp2_with (first | (go_at_call 68; refine (hCk.out _).mono ?_; rintro e w' ⟨rfl, rfl⟩) | (at_builtin; (refine wpList_append_own _ rfl (.tmp 44) (.tmp 49) 60 rfl w.heap.size 74 i0 (.agg #[.string ⟨#[]⟩, .int .i64 0]) 2 24 Tryz.underlying60 hi hz0 hz1 hz2 rfl (by decide) _ _ _ rfl (own2.alloc _) ⟨wr.heap.size, 0, none⟩ 1 1 [.string (S cur), .int .i64 (lns s i : Nat)] rfl rfl ?c1 ?c2 ?c3 ?c4 ?c5 ?_)))
              case c1 => exact cell_two_at _ _ rfl _ _ _
              case c2 => simp [Value.oneCell']
              case c3 => simp [maxLen]; omega
              case c4 => omega
              case c5 => simp; omega
              intro v' w9 hown9 hg9 _
              go_wp2
              go_roundw
              case rel => exact ⟨k, acc ++ [(S cur, lns s i)], by rw [HLN.out], rfl, by omega, by simp; omega, own_to hown9 (by simp) (by rw [twCells_app]; rfl), Below.grown ((hn.trans hn2).alloc _) hg9 (by simp; omega) (fun q hq => (own2.lt q hq).1), Lib.hid (by rw [← H.out, HCL.out, List.map_cons, List.append_assoc, List.singleton_append, spF_free _ _ 0 i]; rfl)⟩
              case measure => simp [intOf]; omega
            · have hne10 : s[k] ≠ 10 := fun e => hwk (by rw [e]; rfl)
              have hls := lns_succ hk2
              rw [if_neg hne10, Nat.add_zero] at hls
              have hsp := spF_word (f := i) (cur := cur) hk2 hwk
              have hf : (if cur = [] then k else i) = i := by
                split
                · rename_i e
                  have := HL.out
                  rw [e] at this; simp at this; omega
                · rfl
              rw [hf] at hsp
              have HSP2 : Hid (spF (k + 1) i (cur ++ [sm s[k]]) (s.data.toList.drop (k + 1)) = spF i 0 [] (s.data.toList.drop i)) := Lib.hid (hsp.symm.trans HSP.out)
              have HL2 : Hid ((cur ++ [sm s[k]]).length = k + 1 - i) := Lib.hid (by have := HL.out; rw [List.length_append, this]; simp; omega)
              have HLN2 : Hid (lns s (k + 1) = lns s i) := Lib.hid (hls.trans HLN.out)
              have HCE : Hid (u8Cells (cur ++ [sm s[k]]) = u8Cells cur ++ [.int .u8 (smN s[k].toNat : Nat)]) := Lib.hid (by simp [u8Cells, sm_nat])
              generalize sm s[k] = sc at *
              obtain ⟨m', hm'⟩ : ∃ m', smN s[k].toNat = m' := ⟨_, rfl⟩
              rw [hm'] at hCk hwk HCE
              have m3 : ((m' : Int) == 0) = false := beq_eq_false_iff_ne.2 (by omega)
              have m4 : ¬ (m' : Int) = 0 := by omega
              clear hls hsp hf hm' hne10
              go_wp2_with (first | (go_at_call 68; refine (hCk.out _).mono ?_; rintro e w' ⟨rfl, rfl⟩) | (at_builtin; refine wpList_append_own _ rfl (.tmp 35) (.tmp 40) 104 rfl wo.heap.size 5 j0 (.int .u8 0) 1 1 Tryz.underlying104 hj hy0 hy1 hy2 rfl (by decide) _ _ _ rfl (ownw.alloc _) ⟨wr.heap.size, 0, none⟩ 1 1 [.int .u8 m'] rfl rfl ?c1 ?c2 ?c3 ?c4 ?c5 ?_))
              case c1 => exact cell_one_new _ _ _
              case c2 => simp [Value.oneCell']
              case c3 => simp [maxLen]; omega
              case c4 => omega
              case c5 => simp; omega
              intro v' w9 hown9 hg9 _
              go_wp2
              go_roundw
              case rel => exact ⟨k + 1, _, by go_num, by omega, by omega, own_to hown9 (by omega) HCE.out.symm, Below.grown (hn2.alloc _) hg9 (by simp; omega) (fun q hq => (ownw.lt q hq).1), HL2, HLN2, HSP2⟩
              case measure => simp [intOf]; omega
          · obtain rfl : k = s.size := by omega
            have hcl : 0 < d := by omega
            have hcne : cur ≠ [] := fun e => by have := HL.out; rw [e] at this; simp at this; omega
            have hcl2 := spF_close (s := s) (k := s.size) (f := i) (cur := cur) hcne (.inl rfl)
            rw [HSP.out] at hcl2
            have HCL := Lib.hid hcl2
            have hconv := own_bytes ownw HL.out hcl
            have own2 := own_new own hn2
            clear hcl2 hcne
            go_wp2_with (first | (at_builtin; refine wpList_append_own _ rfl (.tmp 44) (.tmp 49) 60 rfl w.heap.size 74 i0 (.agg #[.string ⟨#[]⟩, .int .i64 0]) 2 24 Tryz.underlying60 hi hz0 hz1 hz2 rfl (by decide) _ _ _ rfl (own2.alloc _) ⟨wr.heap.size, 0, none⟩ 1 1 [.string (S cur), .int .i64 (lns s i : Nat)] rfl rfl ?c1 ?c2 ?c3 ?c4 ?c5 ?_))
            case c1 => exact cell_two_at _ _ rfl _ _ _
            case c2 => simp [Value.oneCell']
            case c3 => simp [maxLen]; omega
            case c4 => omega
            case c5 => simp; omega
            intro v' w9 hown9 hg9 _
            go_wp2
            go_roundw
            case rel => exact ⟨s.size, acc ++ [(S cur, lns s i)], by rw [HLN.out], rfl, Nat.le_refl _, by simp; omega, own_to hown9 (by simp) (by rw [twCells_app]; rfl), Below.grown ((hn.trans hn2).alloc _) hg9 (by simp; omega) (fun q hq => (own2.lt q hq).1), Lib.hid (by rw [← H.out, HCL.out, List.map_cons, List.append_assoc, List.singleton_append, spF_free _ _ 0 i]; rfl)⟩
            case measure => simp [intOf]; omega
    · obtain rfl : i = s.size := by omega
      have h9 : acc = wordsT s := by have := H.out; rw [spF_end, if_pos rfl] at this; simpa using this
      obtain ⟨A9, c9, rfl, _, _, _⟩ := own_form own
      have H9 := Lib.hid h9
      clear h9
      go_wp2
      go_ret
      exact ⟨_, rfl, own_to own (by rw [H9.out]) (by rw [H9.out]), hn⟩
end Go.Proofs.YtpoelhnceebmkaaGreatDoor
