/- What normalize.note computes. The package-level variables that the library reads hold what the row lists (Env). -/
import Derived.Test.YtlecocmopeainaaDoorA
import Derived.Deep.RegionWith
import Derived.Deep.QuietTactic
import Derived.BigQuiet
import Derived.Lib.SmallJoins
namespace Go.Proofs.YtlecocmopeainaaDoor
open Go.RowKit Go.Joins

/-- The variables of the library that the walks meet. -/
structure Env (w : World) : Prop where
  maxlen : ∃ m, w.cell? ⟨0, 0, none⟩ = some (.int .i64 m)
  esyn : ∃ te pe, w.cell? ⟨3, 0, none⟩ = some (.iface te pe)
  erange : ∃ te pe, w.cell? ⟨4, 0, none⟩ = some (.iface te pe)
  pow10 : Lib.TabIs Tryd.prog w "internal/strconv.uint64pow10" .u64 Lib.pow10Tab
theorem cell_lt {w : World} {b o : Nat} {v : Value} (h : w.cell? ⟨b, o, none⟩ = some v) : b < w.heap.size := World.block_lt_of_cell? w ⟨b, o, none⟩ h
theorem gPow10 : Tryd.prog.globalNamed "internal/strconv.uint64pow10" = some 5 := by kernel_rfl
theorem Env.new {w w' : World} (h : Env w) (hn : New w w') : Env w' := by
  obtain ⟨⟨m, hm⟩, ⟨te, pe, hs⟩, ⟨te2, pe2, hr⟩, hp⟩ := h
  have h5 : 5 < w.heap.size := cell_lt (hp.cell gPow10 0 (by decide))
  exact ⟨⟨m, (hn.cell (p := ⟨0, 0, none⟩) (cell_lt hm)).trans hm⟩, ⟨te, pe, (hn.cell (p := ⟨3, 0, none⟩) (cell_lt hs)).trans hs⟩, ⟨te2, pe2, (hn.cell (p := ⟨4, 0, none⟩) (cell_lt hr)).trans hr⟩,
    var?_below hn gPow10 h5 hp⟩

theorem Env.drew {w : World} (h : Env w) : Env w.drew := ⟨h.maxlen, h.esyn, h.erange, h.pow10⟩

theorem new_bytes (w : World) (e : TypeId) (s : ByteArray) : New w (Lib.bytesWorld w e s) := below_bytesWorld _ _ _ _ (Nat.le_refl _)
theorem new_grow (w : World) (k : Nat) (os : Array Obj) : New w («Sort».grow (w.drewN k) os) :=
  ⟨rfl, rfl, rfl, by show w.heap.size ≤ (w.heap ++ os).size; rw [Array.size_append]; omega, fun _ hj => «Sort».heap_grow_old (w.drewN k) os hj⟩

/-- strconv.Atoi: what it returns, with what is known of the world. -/
theorem atoi_ok (s : ByteArray) (v : Int) (w : World) (hs : s.size ≤ 4) (h : Lib.atoiAll s.data.toList = .ok v) :
    Calls Tryd.prog 78 #[.string s] w fun e w' => e = .returned (.tuple #[.int .i64 v, .nilIface]) ∧ New w w' :=
  (Tryd.strconv_Atoi_ok s (by omega) v h w).mono fun e w' ⟨he, hw⟩ => ⟨he, by
    rcases hw with rfl | ⟨t, rfl⟩
    · exact New.refl _
    · exact new_bytes _ _ _⟩
theorem atoi_bad (s : ByteArray) (w : World) (hs : s.size ≤ 4) (hE : Env w) (h : ∀ v, Lib.atoiAll s.data.toList ≠ .ok v) :
    Calls Tryd.prog 78 #[.string s] w fun e w' => (∃ n N, e = .returned (.tuple #[.int .i64 n, .iface 130 (.pointer (some ⟨N, 0, none⟩))])) ∧ New w w' := by
  obtain ⟨te, pe, h1⟩ := hE.esyn
  obtain ⟨te2, pe2, h2⟩ := hE.erange
  match e : Lib.atoiAll s.data.toList with
  | .ok v => exact absurd e (h v)
  | Lib.NumEnd.syntax => exact (Tryd.strconv_Atoi_syntax s (by omega) e _ w h1 (.inr ⟨_, _, rfl⟩)).mono fun e w' ⟨N, he, _, _, hb⟩ => ⟨⟨_, N, he⟩, hb⟩
  | .range => exact (Tryd.strconv_Atoi_range s (by omega) e _ w h2 (.inr ⟨_, _, rfl⟩)).mono fun e w' ⟨N, he, _, _, hb⟩ => ⟨⟨_, N, he⟩, hb⟩
theorem itoa_any (n : Int) (w : World) (h0 : -9223372036854775808 ≤ n) (h1 : n ≤ 9223372036854775807) (hE : Env w) :
    Calls Tryd.prog 53 #[.int .i64 n] w fun e w' => e = .returned (.string (S (Lib.itoa n))) ∧ New w w' :=
  (Tryd.strconv_Itoa n h0 h1 w hE.pow10).mono fun _ _ ⟨he, k, os, hw⟩ => ⟨he, hw ▸ new_grow w k os⟩

def noteS : ByteArray := S [110, 111, 116, 101]
def numV (b : ByteArray) : Int := match Lib.atoiAll b.data.toList with
  | .ok v => if S (Lib.itoa v) = b then v else -1
  | _ => -1
def noteV : List ByteArray → Int
  | [a, b] => if a = noteS ∧ b.size ≤ 4 then numV b else -1
  | _ => -1

theorem atoiAll_range {l : List UInt8} {v : Int} (h : Lib.atoiAll l = .ok v) : -9223372036854775808 ≤ v ∧ v ≤ 9223372036854775807 := by
  unfold Lib.atoiAll at h
  split at h
  · cases h
  · simp only at h
    split at h
    · cases h
    · cases h
    · split at h
      · cases h
      · split at h
        · cases h
        · injection h with h
          subst h
          split <;> omega
theorem str_eq (a b : ByteArray) : (a.toList == b.toList) = decide (a = b) := by
  rw [Bool.eq_iff_iff, beq_iff_eq, decide_eq_true_iff, toList_eq, toList_eq]
  exact ⟨bytes_ext, fun h => by rw [h]⟩

theorem note_short (A : Option Addr) (c : Nat) (ws : List ByteArray) (w : World) (h : ws.length ≠ 2) :
    Calls Tryd.prog 41 #[.slice A ws.length c] w fun e w' => e = .returned (.int .i64 (-1)) ∧ New w w' := by
  have h2 : (!((ws.length : Int) == 2)) = true := by simp; omega
  go_enter Tryd.func41, Tryd.ntmps41
  go_wp2
  go_ret
  exact ⟨rfl, New.refl _⟩

theorem str_lit (a : ByteArray) (l : List UInt8) : a.toList = l ↔ a = S l := by
  rw [toList_eq]
  exact ⟨fun h => by rw [← h, S_data], fun h => by rw [h]; rfl⟩

section two
variable (bk o c : Nat) (a b : ByteArray) (w : World) (ha : w.cell? ⟨bk, o, none⟩ = some (.string a)) (hb : w.cell? ⟨bk, o + 1, none⟩ = some (.string b))
include ha hb
theorem note_other (h : ¬ (a = noteS ∧ b.size ≤ 4)) :
    Calls Tryd.prog 41 #[.slice (some ⟨bk, o, none⟩) 2 c] w fun e w' => e = .returned (.int .i64 (-1)) ∧ New w w' := by
  by_cases h1 : a = noteS
  · have h2 : (4 : Int) < (b.size : Int) := by have : ¬ b.size ≤ 4 := fun h3 => h ⟨h1, h3⟩; omega
    have h3 : a.toList = [110, 111, 116, 101] := (str_lit _ _).2 h1
    clear h h1
    go_enter Tryd.func41, Tryd.ntmps41
    go_wp2
    go_ret
    exact ⟨rfl, New.refl _⟩
  · have h3 : ¬ a.toList = [110, 111, 116, 101] := fun h => h1 ((str_lit _ _).1 h)
    clear h h1
    go_enter Tryd.func41, Tryd.ntmps41
    go_wp2
    go_ret
    exact ⟨rfl, New.refl _⟩
set_option maxHeartbeats 2000000 in
theorem note_num (h1 : a = noteS) (h2 : b.size ≤ 4) (hE : Env w) :
    Calls Tryd.prog 41 #[.slice (some ⟨bk, o, none⟩) 2 c] w fun e w' => e = .returned (.int .i64 (numV b)) ∧ New w w' := by
  have h3 : a.toList = [110, 111, 116, 101] := (str_lit _ _).2 h1
  have h4 : ¬ ((4 : Int) < (b.size : Int)) := by omega
  clear h1
  have hbl := cell_lt hb
  by_cases hok : ∃ v, Lib.atoiAll b.data.toList = .ok v
  · obtain ⟨v, hv⟩ := hok
    have HV := Lib.hid hv; clear hv
    have hv0 : -9223372036854775808 ≤ v ∧ v ≤ 9223372036854775807 := atoiAll_range HV.out
    obtain ⟨hv1, hv2⟩ := hv0
    go_enter Tryd.func41, Tryd.ntmps41
    go_wp2_with (go_at_call 78; refine (atoi_ok b v _ h2 HV.out).mono ?_; rintro e w1 ⟨rfl, hn⟩)
    have hb1 : w1.cell? ⟨bk, o + 1, none⟩ = some (.string b) := (hn.cell (p := ⟨bk, o + 1, none⟩) hbl).trans hb
    have hE1 := hE.new hn
    have hw1 : bk < w1.heap.size := by have := hn.size; omega
    have HN := Lib.hid hn; clear hn
    by_cases heq : S (Lib.itoa v) = b
    · have he : (S (Lib.itoa v)).toList = b.toList := by rw [heq]
      have HQ := Lib.hid heq; clear heq
      go_region_with (go_at_call 53; refine (itoa_any v _ hv1 hv2 (by first | exact hE1 | exact hE1.drew)).mono ?_; rintro e w2 ⟨rfl, hn2⟩; have hb2 : w2.cell? ⟨bk, o + 1, none⟩ = some (.string b) := (hn2.cell (p := ⟨bk, o + 1, none⟩) hw1).trans hb1)
      all_goals go_wp2
      all_goals go_ret
      all_goals exact ⟨ret_i (by rw [numV, HV.out]; simp [HQ.out]), HN.out.trans (by first | exact hn2 | exact (New.refl _).drew.trans hn2)⟩
    · have he : ((S (Lib.itoa v)).toList == b.toList) = false := by rw [str_eq]; exact decide_eq_false heq
      have HQ := Lib.hid heq; clear heq
      go_region_with (go_at_call 53; refine (itoa_any v _ hv1 hv2 (by first | exact hE1 | exact hE1.drew)).mono ?_; rintro e w2 ⟨rfl, hn2⟩; have hb2 : w2.cell? ⟨bk, o + 1, none⟩ = some (.string b) := (hn2.cell (p := ⟨bk, o + 1, none⟩) hw1).trans hb1)
      all_goals go_wp2
      all_goals go_ret
      all_goals exact ⟨ret_i (by rw [numV, HV.out]; simp [HQ.out]), HN.out.trans (by first | exact hn2 | exact (New.refl _).drew.trans hn2)⟩
  · go_enter Tryd.func41, Tryd.ntmps41
    go_wp2_with (go_at_call 78; refine (atoi_bad b _ h2 hE (fun v hv => hok ⟨v, hv⟩)).mono ?_; rintro e w1 ⟨⟨n, N, rfl⟩, hn⟩)
    have HN := Lib.hid hn; clear hn
    go_region
    all_goals go_wp2
    all_goals go_ret
    all_goals refine ⟨ret_i ?_, by first | exact HN.out | exact HN.out.drew⟩
    all_goals rw [numV]
    all_goals
      split
      · rename_i v hv; exact absurd ⟨v, hv⟩ hok
      · rfl
end two

/-- note, at whatever words. -/
theorem note_any (A : Option Addr) (c : Nat) (ws : List ByteArray) (w : World) (hr : Rd w 1 A ws.length (ws.map Value.string)) (hE : Env w) :
    Calls Tryd.prog 41 #[.slice A ws.length c] w fun e w' => e = .returned (.int .i64 (noteV ws)) ∧ New w w' := by
  by_cases h2 : ws.length = 2
  · match ws, h2 with
    | [a, b], _ =>
      obtain ⟨bk, o, rfl, _, hc⟩ := hr.2 (by simp)
      have ha : w.cell? ⟨bk, o, none⟩ = some (.string a) := hc 0 _ rfl
      have hb : w.cell? ⟨bk, o + 1, none⟩ = some (.string b) := hc 1 _ rfl
      by_cases h : a = noteS ∧ b.size ≤ 4
      · have := note_num bk o c a b w ha hb h.1 h.2 hE
        rw [show noteV [a, b] = numV b from by rw [noteV, if_pos h]]
        exact this
      · have := note_other bk o c a b w ha hb h
        rw [show noteV [a, b] = -1 from by rw [noteV, if_neg h]]
        exact this
  · have e : noteV ws = -1 := by
      match ws, h2 with
      | [], _ => rfl
      | [_], _ => rfl
      | [_, _], h => exact absurd rfl h
      | _ :: _ :: _ :: _, _ => rfl
    rw [e]
    exact note_short A c ws w h2
end Go.Proofs.YtlecocmopeainaaDoor
