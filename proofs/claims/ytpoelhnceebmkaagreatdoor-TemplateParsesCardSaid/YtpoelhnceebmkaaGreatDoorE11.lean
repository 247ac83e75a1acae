/- licitref31.SameTexts and licitref35.Same at equal arguments. No conditions but the lists' lengths. -/
import Derived.Test.YtpoelhnceebmkaaGreatDoorE4
namespace Go.Proofs.YtpoelhnceebmkaaGreatDoor
open Go Go.RowKit Go.Shelf
set_option linter.unusedSimpArgs false
set_option linter.unusedVariables false

theorem new_drewN (w : World) (k : Nat) : New w (w.drewN k) := (New.refl w).drewN k
set_option maxRecDepth 100000 in
set_option maxHeartbeats 2000000 in
theorem sameTexts_self (v v' : Value) (ws : List ByteArray) (w : World) (h : WRd w v ws) (h' : WRd w v' ws) (hz : ws.length ≤ 4294967295) :
    Calls Tryz.prog 33 #[v, v'] w fun e w' => e = .returned (.bool true) ∧ ∃ q, w' = w.drewN q := by
  obtain ⟨A, c, rfl, hc1, hc2, hr⟩ := h
  obtain ⟨A', c', rfl, hc1', hc2', hr'⟩ := h'
  obtain ⟨n, hn⟩ : ∃ n, ws.length = n := ⟨_, rfl⟩
  rw [hn] at hr hr' hc1 hc1' hz ⊢
  have HN := Lib.hid hn
  clear hn
  go_enter Tryz.func33, Tryz.ntmps33
  go_wp2
  go_loopw [5] (fun v5 wr => ∃ (i q : Nat), v5 = .int .i64 i ∧ i ≤ n ∧ Hid (wr = w.drewN q)) (fun v5 _ => n - (intOf v5).toNat)
  case atStart => exact ⟨0, 0, rfl, by omega, Lib.hid rfl⟩
  case round =>
    obtain ⟨i, q, rfl, hi, HQ⟩ := hrel
    have hra : Rd wr 1 A n (ws.map Value.string) := by rw [HQ.out]; exact hr.drewN q
    have hrb : Rd wr 1 A' n (ws.map Value.string) := by rw [HQ.out]; exact hr'.drewN q
    by_cases hlt : i < n
    · obtain ⟨b, o, rfl, _, hc⟩ := hra.2 (by omega)
      obtain ⟨b', o', rfl, _, hc'⟩ := hrb.2 (by omega)
      have l1 : i < ws.length := by rw [HN.out]; exact hlt
      have d1 : wr.cell? ⟨b, o + i, none⟩ = some (.string ws[i]) := hc i _ (by simp [l1])
      have d2 : wr.cell? ⟨b', o' + i, none⟩ = some (.string ws[i]) := hc' i _ (by simp [l1])
      clear hc hc'
      generalize ws[i] = x at *
      have i0 : (0 : Int) ≤ (i : Int) := by omega
      have i1 : (i : Int) < (n : Int) := by omega
      have c1 : (x.toList == x.toList) = true := beq_self_eq_true _
      go_wp2
      go_quiet (fail)
      go_wp2
      go_roundw
      case rel => exact ⟨i + 1, q + nq, by go_num, by omega, Lib.hid (by rw [HQ.out, World.drewN_drewN])⟩
      case measure => simp [intOf]; omega
    · obtain rfl : i = n := by omega
      go_wp2
      go_ret
      exact ⟨rfl, q, HQ.out⟩

set_option maxRecDepth 100000 in
set_option maxHeartbeats 4000000 in
theorem same_self (v v' : Value) (nm : ByteArray) (ps : List Pt) (w : World) (h : TRd w v nm ps) (h' : TRd w v' nm ps) (hz : ps.length ≤ 4294967295) (hzp : ∀ p ∈ ps, p.2.length ≤ 4294967295) :
    Calls Tryz.prog 12 #[v, v'] w fun e w' => e = .returned (.bool true) ∧ New w w' := by
  obtain ⟨A, c, rfl, hc1, hc2, hr⟩ := h
  obtain ⟨A', c', rfl, hc1', hc2', hr'⟩ := h'
  obtain ⟨n, hn⟩ : ∃ n, ps.length = n := ⟨_, rfl⟩
  rw [hn] at hr hr' hc1 hc1' hz ⊢
  have HZ := Lib.hid hzp
  clear hn hzp
  have c0 : (nm.toList == nm.toList) = true := beq_self_eq_true _
  go_enter Tryz.func12, Tryz.ntmps12
  go_wp2
  obtain ⟨wS, hwS⟩ : ∃ x, x = (w.alloc (.cells #[.string nm, .slice A n c] 25)).alloc (.cells #[.string nm, .slice A' n c'] 25) := ⟨_, rfl⟩
  rw [← hwS]
  have hnS : New w wS := by rw [hwS]; exact ((New.refl w).alloc _).alloc _
  have B0 : Blk wS w.heap.size 25 #[.string nm, .slice A n c] := by rw [hwS]; exact (Blk.made w _ _).alloc _
  have B1 : Blk wS (w.heap.size + 1) 25 #[.string nm, .slice A' n c'] := by rw [hwS]; have := Blk.made (w.alloc (.cells #[.string nm, .slice A n c] 25)) 25 #[.string nm, .slice A' n c']; rw [World.size_alloc] at this; exact this
  have HR := Lib.hid (hr.new hnS)
  have HR' := Lib.hid (hr'.new hnS)
  clear hwS hr hr'
  go_loopw [5] (fun v5 wr => ∃ i : Nat, v5 = .int .i64 i ∧ i ≤ n ∧ New wS wr) (fun v5 _ => n - (intOf v5).toNat)
  case atStart => exact ⟨0, rfl, by omega, New.refl _⟩
  case round =>
    obtain ⟨i, rfl, hi, hn⟩ := hrel
    have k1 := (B0.new hn).cell' 1 _ rfl
    have k2 := (B1.new hn).cell' 1 _ rfl
    by_cases hlt : i < n
    · obtain ⟨b, o, vp, p, rfl, hp, d1, d2, hw⟩ := (HR.out.new hn).at hlt
      obtain ⟨b', o', vp', p', rfl, hp', d1', d2', hw'⟩ := (HR'.out.new hn).at hlt
      obtain rfl : p = p' := by rw [hp] at hp'; exact Option.some.inj hp'
      obtain ⟨Ap, cp, rfl, hq1, hq2, hq3⟩ := id hw
      obtain ⟨Ap', cp', rfl, hq1', hq2', hq3'⟩ := id hw'
      have hzz := HZ.out p (List.mem_of_getElem? hp)
      have HS : Hid (∀ k, Calls Tryz.prog 33 #[.slice Ap p.2.length cp, .slice Ap' p.2.length cp'] (wr.drewN k) fun e w' => e = .returned (.bool true) ∧ ∃ q, w' = (wr.drewN k).drewN q) := Lib.hid (fun k => sameTexts_self _ _ p.2 _ (hw.new (new_drewN wr k)) (hw'.new (new_drewN wr k)) hzz)
      obtain ⟨m, hm⟩ : ∃ m, p.2.length = m := ⟨_, rfl⟩
      rw [hm] at HS d2 d2'
      have i0 : (0 : Int) ≤ (i : Int) := by omega
      have i1 : (i : Int) < (n : Int) := by omega
      have c1 : (p.1 != p.1) = false := by simp
      clear hw hw' hq3 hq3' hp hp' hm
      go_wp2
      go_quiet ((go_at_call 33; exact Calls.quiet_of (HS.out _)))
      go_wp2
      go_roundw
      case rel => exact ⟨i + 1, by go_num, by omega, hn.drewN nq⟩
      case measure => simp [intOf]; omega
    · obtain rfl : i = n := by omega
      go_wp2
      go_ret
      exact ⟨rfl, hnS.trans hn⟩
end Go.Proofs.YtpoelhnceebmkaaGreatDoor
