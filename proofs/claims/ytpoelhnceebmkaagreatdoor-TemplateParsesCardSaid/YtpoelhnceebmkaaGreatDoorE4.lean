/- licitref35.stands. Conditions: the lists' lengths. -/
import Derived.Test.YtpoelhnceebmkaaGreatDoorE3
namespace Go.Proofs.YtpoelhnceebmkaaGreatDoor
open Go Go.RowKit Go.Shelf
set_option linter.unusedSimpArgs false
set_option linter.unusedVariables false

theorem stands_iff {part words : List ByteArray} {a : Nat} (h : a + part.length ≤ words.length) : standsV part words a = true ↔ ∀ k, k < part.length → words[a + k]? = part[k]? := by
  unfold standsV
  rw [decide_eq_true h, Bool.true_and, decide_eq_true_eq]
  constructor
  · intro e k hk
    have e2 : part[k]? = ((words.drop a).take part.length)[k]? := congrArg (·[k]?) e
    rw [e2, List.getElem?_take_of_lt hk, List.getElem?_drop]
  · intro e
    refine List.ext_getElem? fun k => ?_
    by_cases hk : k < part.length
    · rw [List.getElem?_take_of_lt hk, List.getElem?_drop, e k hk]
    · rw [List.getElem?_eq_none (by omega), List.getElem?_eq_none (by rw [List.length_take]; omega)]

set_option maxRecDepth 100000 in
set_option maxHeartbeats 2000000 in
theorem rstands_any (v v' : Value) (part words : List ByteArray) (a : Nat) (w : World) (h : WRd w v part) (h' : WRd w v' words) (h1 : part.length ≤ 100000) (h2 : words.length ≤ 100000) (h3 : a ≤ 1000000) :
    Calls Tryz.prog 56 #[v, v', .int .i64 a] w fun e w' => e = .returned (.bool (standsV part words a)) ∧ New w w' := by
  obtain ⟨A, c, rfl, hc1, hc2, hr⟩ := h
  obtain ⟨A', c', rfl, hc1', hc2', hr'⟩ := h'
  have u1 : IntKind.i64.wrap ((a : Int) + (part.length : Int)) = (a : Int) + (part.length : Int) := IntWalk.i64_in _ (by omega)
  have HST := Lib.hid (stands_iff (part := part) (words := words) (a := a))
  have HNO : Hid (¬ a + part.length ≤ words.length → standsV part words a = false) := Lib.hid (fun h => by rw [standsV, decide_eq_false h, Bool.false_and])
  obtain ⟨n, hn⟩ : ∃ n, part.length = n := ⟨_, rfl⟩
  obtain ⟨m, hm⟩ : ∃ m, words.length = m := ⟨_, rfl⟩
  rw [hn] at hr hc1 h1 u1 HST HNO ⊢
  rw [hm] at hr' hc1' h2 HST HNO ⊢
  have HN := Lib.hid hn
  have HM := Lib.hid hm
  have HR := Lib.hid hr
  have HR' := Lib.hid hr'
  clear hn hm hr hr'
  generalize standsV part words a = sv at *
  by_cases hle : a + n ≤ m
  · have t1 : decide ((m : Int) < (a : Int) + (n : Int)) = false := decide_eq_false (by omega)
    have t2 : ¬ (m : Int) < (a : Int) + (n : Int) := by omega
    go_enter Tryz.func56, Tryz.ntmps56
    go_wp2
    go_loopw [7] (fun v7 wr => ∃ i : Nat, v7 = .int .i64 i ∧ i ≤ n ∧ New w wr ∧ Hid (∀ k, k < i → words[a + k]? = part[k]?)) (fun v7 _ => n - (intOf v7).toNat)
    case atStart => exact ⟨0, rfl, by omega, New.refl _, Lib.hid (fun k hk => by omega)⟩
    case round =>
      obtain ⟨i, rfl, hi, hnr, HK⟩ := hrel
      by_cases hlt : i < n
      · obtain ⟨b, o, rfl, hb, hc⟩ := (HR.out.below hnr).2 (by omega)
        obtain ⟨b', o', rfl, hb', hc'⟩ := (HR'.out.below hnr).2 (by omega)
        have l1 : i < part.length := by rw [HN.out]; exact hlt
        have l2 : a + i < words.length := by rw [HM.out]; omega
        have d1 : wr.cell? ⟨b, o + i, none⟩ = some (.string part[i]) := hc i _ (by simp [l1])
        have d2 : wr.cell? ⟨b', o' + (a + i), none⟩ = some (.string words[a + i]) := hc' (a + i) _ (by simp [l2])
        have HP1 : Hid (part[i]? = some part[i]) := Lib.hid (List.getElem?_eq_getElem l1)
        have HP2 : Hid (words[a + i]? = some words[a + i]) := Lib.hid (List.getElem?_eq_getElem l2)
        clear hc hc'
        generalize part[i] = x at *
        generalize words[a + i] = y at *
        clear l1 l2
        have u2 : IntKind.i64.wrap ((a : Int) + (i : Int)) = (a : Int) + (i : Int) := IntWalk.i64_in _ (by omega)
        have i0 : (0 : Int) ≤ (i : Int) := by omega
        have i1 : (i : Int) < (n : Int) := by omega
        have i2 : (0 : Int) ≤ (a : Int) + (i : Int) := by omega
        have i3 : (a : Int) + (i : Int) < (m : Int) := by omega
        have i4 : ((a : Int) + (i : Int)).toNat = a + i := by omega
        by_cases hxy : y = x
        · have HXY := Lib.hid hxy
          have c1 : (y.toList == x.toList) = true := by rw [hxy]; exact beq_self_eq_true _
          clear hxy
          go_wp2
          go_quiet (fail)
          go_wp2
          go_roundw
          case rel => exact ⟨i + 1, by go_num, by omega, hnr.drewN nq, Lib.hid (fun k hk => by
            by_cases h : k < i
            · exact HK.out k h
            · obtain rfl : k = i := by omega
              rw [HP1.out, HP2.out, HXY.out])⟩
          case measure => simp [intOf]; omega
        · have c1 : (y.toList != x.toList) = true := bne_iff_ne.2 (fun h => hxy (by rw [toList_eq, toList_eq] at h; exact bytes_ext h))
          have c3 : (y.toList == x.toList) = false := beq_eq_false_iff_ne.2 (fun h => hxy (by rw [toList_eq, toList_eq] at h; exact bytes_ext h))
          have hsv : sv = false := by
            cases e : sv with
            | false => rfl
            | true =>
              have := (HST.out hle).1 e i hlt
              rw [HP1.out, HP2.out] at this
              exact absurd (Option.some.inj this) hxy
          subst hsv
          clear hxy
          go_wp2
          go_quiet (fail)
          go_wp2
          exact bodyPost_ret (v := .bool false) (by simp [results, Tryz.results56, go_sem]) rfl ⟨rfl, hnr.drewN nq⟩
      · obtain rfl : i = n := by omega
        have hsv : sv = true := (HST.out hle).2 (fun k hk => HK.out k hk)
        subst hsv
        go_wp2
        exact bodyPost_ret (v := .bool true) (by simp [results, Tryz.results56, go_sem]) rfl ⟨rfl, hnr⟩
  · have t1 : decide ((m : Int) < (a : Int) + (n : Int)) = true := decide_eq_true (by omega)
    have t2 : (m : Int) < (a : Int) + (n : Int) := by omega
    have hsv := HNO.out hle
    subst hsv
    go_enter Tryz.func56, Tryz.ntmps56
    go_wp2
    exact bodyPost_ret (v := .bool false) (by simp [results, Tryz.results56, go_sem]) rfl ⟨rfl, New.refl _⟩
end Go.Proofs.YtpoelhnceebmkaaGreatDoor
