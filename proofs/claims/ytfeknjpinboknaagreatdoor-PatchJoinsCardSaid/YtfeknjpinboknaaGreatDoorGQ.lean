/- digest.Parse. Conditions: none. The reference's Parse of digests; its digits. Conditions: none. The reference's Count, number and after. Conditions: sizes. Words for the walk of Parse: hunks in a row of one's own, what was read so far, how it ends. No conditions. -/
import Derived.Test.YtfeknjpinboknaaGreatDoorGO
import Derived.Test.YtfeknjpinboknaaGreatDoorGE
import Derived.Test.YtfeknjpinboknaaGreatDoorGBase

namespace Go.Proofs.YtfeknjpinboknaaGreatDoor
open Go Go.RowKit Go.Joins
set_option linter.unusedSimpArgs false
set_option linter.unusedVariables false

theorem idx_fin : ∀ n : Fin 256, Lib.indexByte [48, 49, 50, 51, 52, 53, 54, 55, 56, 57, 97, 98, 99, 100, 101, 102] (UInt8.ofNat n.val) = (match dgt (UInt8.ofNat n.val) with | some k => (k : Int) | none => -1) := by decide +kernel
theorem idx_dgt (c : UInt8) : Lib.indexByte (⟨#[48, 49, 50, 51, 52, 53, 54, 55, 56, 57, 97, 98, 99, 100, 101, 102]⟩ : ByteArray).data.toList c = (match dgt c with | some k => (k : Int) | none => -1) := by
  have := idx_fin ⟨c.toNat, UInt8.toNat_lt c⟩
  rw [UInt8.ofNat_toNat] at this
  exact this
def dgA (l : List UInt8) (i : Nat) : Nat := (dgt (l.getD i 0)).getD 0
def hexF (l : List UInt8) (i j : Nat) : UInt8 := if 2 * j + 1 < i then UInt8.ofNat (16 * dgA l (2 * j) + dgA l (2 * j + 1)) else if 2 * j < i then UInt8.ofNat (dgA l (2 * j)) else 0
theorem hexP_all : ∀ (m : Nat) (l : List UInt8), l.length = 2 * m → (∀ i, i < 2 * m → (dgt (l.getD i 0)).isSome = true) → hexP l = some ((List.range m).map fun j => UInt8.ofNat (16 * dgA l (2 * j) + dgA l (2 * j + 1)))
  | 0, l, hl, _ => by
    have : l = [] := List.eq_nil_of_length_eq_zero (by omega)
    subst this; rfl
  | m + 1, l, hl, h => by
    match l, hl with
    | a :: b :: r, hl =>
      have h0 := h 0 (by omega)
      have h1 := h 1 (by omega)
      obtain ⟨x, hx⟩ := Option.isSome_iff_exists.1 h0
      obtain ⟨y, hy⟩ := Option.isSome_iff_exists.1 h1
      have hx' : dgt a = some x := hx
      have hy' : dgt b = some y := hy
      have ih := hexP_all m r (by simp only [List.length_cons] at hl; omega) (fun i hi => by
        have := h (i + 2) (by omega)
        simpa using this)
      rw [hexP, hx', hy']
      simp only
      rw [ih, Option.map_some, List.range_succ_eq_map, List.map_cons, List.map_map]
      congr 2
      · simp [dgA, hx', hy']
theorem hexP_bad : ∀ (m : Nat) (l : List UInt8) (i : Nat), l.length = 2 * m → i < l.length → dgt (l.getD i 0) = none → hexP l = none
  | 0, l, i, hl, hi, _ => by omega
  | m + 1, l, i, hl, hi, h => by
    match l, hl with
    | a :: b :: r, hl =>
      rw [hexP]
      split
      · rename_i x y e1 e2
        have : hexP r = none := by
          match i, hi, h with
          | 0, _, h => simp at h; rw [h] at e1; cases e1
          | 1, _, h => simp at h; rw [h] at e2; cases e2
          | i + 2, hi, h => exact hexP_bad m r i (by simp only [List.length_cons] at hl; omega) (by simp only [List.length_cons] at hi; omega) (by simpa using h)
        rw [this]; rfl
      · rfl
def dpT (l : List UInt8) : ByteArray := match baseP l with
  | some b => S b
  | none => ⟨#[]⟩
def dpE (l : List UInt8) : Int := match baseP l with
  | some _ => 0
  | none => 4
theorem or_fin : ∀ b k : Fin 16, bits .or .u8 ((b.val : Int) * 16 % 256) (k.val : Int) = ((16 * b.val + k.val : Nat) : Int) := by decide +kernel
theorem brow_put {w : World} {g n : Nat} {f : Nat → UInt8} (h : BRow w g n f) (m : Nat) (hm : m < n) (c : UInt8) : BRow (w.setCell ⟨g, m, none⟩ (.int .u8 (c.toNat : Int))) g n (fun j => if j = m then c else f j) := by
  refine ⟨by have := h.1; simpa [World.setCell] using this, fun j hj => ?_⟩
  obtain ⟨h1, h2⟩ := h.2 j hj
  refine ⟨?_, by rw [World.frozen?_setCell]; exact h2⟩
  by_cases e : j = m
  · subst e
    simp only [if_pos]
    exact World.cell?_setCell_same w ⟨g, j, none⟩ _ (by rw [h1])
  · simp only [if_neg e]
    rw [World.cell?_setCell_other w _ _ _ (fun q => e (by injection q with _ q2; exact q2.symm))]
    exact h1
theorem hexF_step (l : List UInt8) (i m k : Nat) (w : World) (g : Nat) (h : BRow w g 32 (hexF l i)) (hk : k < 16) (hi : i = 2 * m ∨ i = 2 * m + 1) (hd : dgA l i = k) (hm : m < 32) :
    BRow (w.setCell ⟨g, m, none⟩ (.int .u8 (bits .or .u8 (((hexF l i m).toNat : Int) * 16 % 256) (k : Int)))) g 32 (hexF l (i + 1)) := by
  obtain ⟨b, hb, hb16⟩ : ∃ b, (hexF l i m).toNat = b ∧ b < 16 := by
    refine ⟨_, rfl, ?_⟩
    rcases hi with rfl | rfl
    · rw [hexF, if_neg (by omega), if_neg (by omega)]; decide
    · rw [hexF, if_neg (by omega), if_pos (by omega), UInt8.toNat_ofNat']
      have : dgA l (2 * m) < 16 := by
        rw [dgA]
        cases e : dgt (l.getD (2 * m) 0) with
        | none => simp
        | some x => exact (dgt_lt e).1
      omega
  have hor := or_fin ⟨b, hb16⟩ ⟨k, hk⟩
  simp only at hor
  rw [hb, hor]
  have := brow_put h m hm (UInt8.ofNat (16 * b + k))
  rw [UInt8.toNat_ofNat', show (16 * b + k) % 2 ^ 8 = 16 * b + k by omega] at this
  refine this.congr fun j hj => ?_
  by_cases e : j = m
  · subst e
    rw [if_pos rfl]
    rcases hi with rfl | rfl
    · have : b = 0 := by rw [← hb, hexF, if_neg (by omega), if_neg (by omega)]; rfl
      rw [hexF, if_neg (by omega), if_pos (by omega), hd, this, Nat.mul_zero, Nat.zero_add]
    · have : b = dgA l (2 * j) := by
        rw [← hb, hexF, if_neg (by omega), if_pos (by omega), UInt8.toNat_ofNat']
        have : dgA l (2 * j) < 16 := by
          rw [dgA]
          cases e : dgt (l.getD (2 * j) 0) with
          | none => simp
          | some x => exact (dgt_lt e).1
        omega
      rw [hexF, if_pos (by omega), hd, this]
  · rw [if_neg e, hexF, hexF]
    rcases hi with rfl | rfl
    · by_cases h1 : 2 * j + 1 < 2 * m
      · rw [if_pos h1, if_pos (by omega)]
      · rw [if_neg h1, if_neg (by omega), if_neg (by omega), if_neg (by omega)]
    · by_cases h1 : 2 * j + 1 < 2 * m + 1
      · rw [if_pos h1, if_pos (by omega)]
      · rw [if_neg h1, if_neg (by omega), if_neg (by omega), if_neg (by omega)]
theorem brow_zeros {l : List UInt8} (w : World) : BRow (w.alloc (.cells (Array.replicate 32 (.int .u8 0)) 5)) w.heap.size 32 (hexF l 0) := by
  have hB := Blk.made w 5 (Array.replicate 32 (.int .u8 0))
  refine ⟨by simp, fun j hj => ⟨?_, hB.free j⟩⟩
  rw [hB.cell j, Array.getElem?_replicate, if_pos hj, hexF, if_neg (by omega), if_neg (by omega)]
  rfl
set_option maxRecDepth 100000 in
set_option maxHeartbeats 4000000 in
theorem dparse_any (s : ByteArray) (w : World) :
    Calls Tryz.prog 41 #[.string s] w fun e w' => e = .returned (.tuple #[.string (dpT s.data.toList), .int .i64 (dpE s.data.toList)]) ∧ New w w' := by
  have HP : Hid (baseP s.data.toList = if s.size = 64 then hexP s.data.toList else none) := Lib.hid (by rw [baseP, ← size_eq])
  have HT : Hid (baseP s.data.toList = none → dpT s.data.toList = ⟨#[]⟩ ∧ dpE s.data.toList = 4) := Lib.hid (fun h => by rw [dpT, dpE, h]; exact ⟨rfl, rfl⟩)
  have HY : Hid (∀ b, baseP s.data.toList = some b → dpT s.data.toList = S b ∧ dpE s.data.toList = 0) := Lib.hid (fun b h => by rw [dpT, dpE, h]; exact ⟨rfl, rfl⟩)
  have HG : Hid (∀ i (h : i < s.size), s.data.toList.getD i 0 = s[i]) := Lib.hid (fun i h => by
    rw [get_eq s i h, List.getD_eq_getElem?_getD, List.getElem?_eq_getElem (by rw [← size_eq]; exact h)]; rfl)
  have HSZ : Hid (s.size = s.data.toList.length) := Lib.hid (size_eq s)
  generalize dpT s.data.toList = T at *
  generalize dpE s.data.toList = E at *
  by_cases h64 : s.size = 64
  · have H64 := Lib.hid h64
    have hs1 : s.size ≤ 64 := by omega
    have hs2 : ((s.size : Int) == 64) = true := by rw [h64]; rfl
    have hs3 : ((s.size : Int) != 64) = false := by rw [h64]; rfl
    have hs4 : (s.size : Int) = 64 := by omega
    have HP2 : Hid (baseP s.data.toList = hexP s.data.toList) := Lib.hid (by rw [HP.out, if_pos h64])
    have hmk : ∀ W, (Instr.makeSlice 92 (.int .i64 32) (.int .i64 32)).run Tryz.prog W = .ok (.slice (some ⟨W.heap.size, 0, none⟩) 32 32) (W.alloc (.cells (Array.replicate 32 (.int .u8 0)) 5)) := fun _ => by kernel_rfl
    have hR0 : BRow (w.alloc (.cells (Array.replicate 32 (.int .u8 0)) 5)) w.heap.size 32 (hexF s.data.toList 0) := brow_zeros w
    have hn0 := (New.refl w).alloc (.cells (Array.replicate 32 (.int .u8 0)) 5)
    clear h64 HP
    go_enter Tryz.func41, Tryz.ntmps41
    go_wp2
    clear hmk
    go_loopw [5] (fun v5 wr => ∃ i : Nat, v5 = .int .i64 i ∧ i ≤ s.size ∧ New w wr ∧ BRow wr w.heap.size 32 (hexF s.data.toList i) ∧ Hid (∀ j, j < i → (dgt (s.data.toList.getD j 0)).isSome = true)) (fun v _ => s.size - (intOf v).toNat)
    case atStart => exact ⟨0, rfl, by omega, hn0, hR0, Lib.hid (fun j hj => absurd hj (by omega))⟩
    case round =>
      clear hn0 hR0
      obtain ⟨i, rfl, hi, hn, hR, HD⟩ := hrel
      by_cases hlt : i < s.size
      · have HI := Lib.hid (Tryz.strings_IndexByte ⟨#[48, 49, 50, 51, 52, 53, 54, 55, 56, 57, 97, 98, 99, 100, 101, 102]⟩ (s[i].toNat : Int) wr)
        have HX := Lib.hid (idx_dgt s[i])
        have hq := HI.out
        rw [show ((s[i].toNat : Int)).toNat.toUInt8 = s[i] from by simp, HX.out] at hq
        have HI2 := Lib.hid hq
        clear HI HX hq
        have i0 : (0 : Int) ≤ (i : Int) := by omega
        have i1 : (i : Int) < (s.size : Int) := by omega
        have i2 : (i : Int) < 64 := by omega
        cases hd : dgt s[i] with
        | none =>
          have hnone : baseP s.data.toList = none := by rw [HP2.out]; exact hexP_bad 32 _ i (by rw [← HSZ.out, H64.out]) (by rw [← HSZ.out]; exact hlt) (by rw [HG.out i hlt]; exact hd)
          obtain ⟨rfl, rfl⟩ := HT.out hnone
          rw [hd] at HI2
          clear hd hnone HT HY
          go_wp2_with (go_at_call 67; (with_reducible refine HI2.out.mono ?_); rintro e w1 ⟨rfl, rfl⟩)
          go_ret2
          exact ⟨rfl, hn⟩
        | some k =>
          rw [hd] at HI2
          have hk16 := (dgt_lt hd).1
          have HDN : Hid (∀ j, j < i + 1 → (dgt (s.data.toList.getD j 0)).isSome = true) := Lib.hid (fun j hj => by
            by_cases h : j = i
            · subst h; rw [HG.out j hlt, hd]; rfl
            · exact HD.out j (by omega))
          have HDA : Hid (dgA s.data.toList i = k) := Lib.hid (by rw [dgA, HG.out i hlt, hd]; rfl)
          simp only at HI2
          have k0 : ¬ (k : Int) < 0 := by omega
          clear hd
          by_cases hpar : ∃ m, i = 2 * m
          · obtain ⟨m, rfl⟩ := hpar
            have hm : m < 32 := by omega
            obtain ⟨c1, c2⟩ := hR.2 m hm
            have d1 : ((2 * m : Nat) : Int) / 2 = (m : Int) := by omega
            have d2 : (2 * (m : Int)) / 2 = (m : Int) := by omega
            have d3 : (m : Int) < 32 := by omega
            have d4 : (0 : Int) ≤ (m : Int) := by omega
            have HB := Lib.hid (hexF_step s.data.toList (2 * m) m k wr w.heap.size hR hk16 (Or.inl rfl) HDA.out hm)
            go_wp2_with (go_at_call 67; (with_reducible refine HI2.out.mono ?_); rintro e w1 ⟨rfl, rfl⟩)
            go_roundw
            case rel => exact ⟨(2 * m) + 1, by go_num, by omega, hn.setCell (p := ⟨w.heap.size, m, none⟩) (Nat.le_refl _) _, HB.out, HDN⟩
            case measure => simp [intOf]; omega
          · obtain ⟨m, rfl⟩ : ∃ m, i = 2 * m + 1 := ⟨i / 2, by
              have : ¬ i = 2 * (i / 2) := fun h => hpar ⟨_, h⟩
              omega⟩
            have hm : m < 32 := by omega
            obtain ⟨c1, c2⟩ := hR.2 m hm
            have d1 : ((2 * m + 1 : Nat) : Int) / 2 = (m : Int) := by omega
            have d2 : (2 * (m : Int) + 1) / 2 = (m : Int) := by omega
            have d3 : (m : Int) < 32 := by omega
            have d4 : (0 : Int) ≤ (m : Int) := by omega
            have HB := Lib.hid (hexF_step s.data.toList (2 * m + 1) m k wr w.heap.size hR hk16 (Or.inr rfl) HDA.out hm)
            go_wp2_with (go_at_call 67; (with_reducible refine HI2.out.mono ?_); rintro e w1 ⟨rfl, rfl⟩)
            go_roundw
            case rel => exact ⟨(2 * m + 1) + 1, by go_num, by omega, hn.setCell (p := ⟨w.heap.size, m, none⟩) (Nat.le_refl _) _, HB.out, HDN⟩
            case measure => simp [intOf]; omega
      · obtain rfl : i = s.size := by omega
        have hall := hexP_all 32 s.data.toList (by rw [← HSZ.out, H64.out]) (fun j hj => HD.out j (by rw [H64.out]; exact hj))
        obtain ⟨rfl, rfl⟩ := HY.out _ (HP2.out.trans hall)
        have hst := run_string (P := Tryz.prog) hR 92 9 5 0 32 32 Tryz.underlying92 Tryz.underlying5 Tryz.underlying9 (by omega)
        have e : ((List.range 32).map fun j => hexF s.data.toList s.size (0 + j)) = ((List.range 32).map fun j => UInt8.ofNat (16 * dgA s.data.toList (2 * j) + dgA s.data.toList (2 * j + 1))) := by
          apply List.map_congr_left
          intro j hj
          rw [List.mem_range] at hj
          rw [Nat.zero_add, hexF, if_pos (by rw [H64.out]; omega)]
        rw [e] at hst
        obtain ⟨out, hout⟩ : ∃ out, S ((List.range 32).map fun j => UInt8.ofNat (16 * dgA s.data.toList (2 * j) + dgA s.data.toList (2 * j + 1))) = out := ⟨_, rfl⟩
        rw [hout] at hst
        have HO := Lib.hid hout
        clear e hall HT HY hout
        go_wp2
        go_ret2
        exact ⟨by rw [HO.out]; rfl, hn⟩
  · have h1 : baseP s.data.toList = none := by rw [HP.out, if_neg h64]
    obtain ⟨rfl, rfl⟩ := HT.out h1
    have hs3 : ((s.size : Int) != 64) = true := by simp; omega
    have hs2 : ((s.size : Int) == 64) = false := by simp; omega
    have hs4 : ¬ (s.size : Int) = 64 := by omega
    clear h1 HT HY HP h64
    go_enter Tryz.func41, Tryz.ntmps41
    go_wp2
    go_ret2
    exact ⟨rfl, New.refl _⟩
end Go.Proofs.YtfeknjpinboknaaGreatDoor

namespace Go.Proofs.YtfeknjpinboknaaGreatDoor
open Go Go.RowKit Go.Joins Go.Shelf
set_option linter.unusedSimpArgs false
set_option linter.unusedVariables false

def dgI (c : UInt8) : Int := match dgt c with
  | some k => (k : Int)
  | none => -1
theorem digit_any (c : UInt8) (w : World) : Calls Tryz.prog 71 #[.int .u8 (c.toNat : Nat)] w fun e w' => e = .returned (.int .i64 (dgI c)) ∧ w' = w := by
  have hv : dgI c = if 48 ≤ c.toNat ∧ c.toNat ≤ 57 then (c.toNat : Int) - 48 else if 97 ≤ c.toNat ∧ c.toNat ≤ 102 then (c.toNat : Int) - 87 else -1 := by
    unfold dgI dgt
    by_cases h1 : 48 ≤ c.toNat ∧ c.toNat ≤ 57
    · rw [if_pos h1, if_pos h1]; simp only; omega
    · rw [if_neg h1, if_neg h1]
      by_cases h2 : 97 ≤ c.toNat ∧ c.toNat ≤ 102
      · rw [if_pos h2, if_pos h2]; simp only; omega
      · rw [if_neg h2, if_neg h2]
  have HV := Lib.hid hv
  have hc := UInt8.toNat_lt c
  clear hv
  generalize dgI c = V at *
  generalize c.toNat = n at *
  by_cases h1 : 48 ≤ n ∧ n ≤ 57
  · have hx : V = (n : Int) - 48 := by rw [HV.out, if_pos h1]
    obtain ⟨h1, h2⟩ := h1
    subst hx
    have u1 : IntKind.u8.wrap ((n : Int) - 48) = (n : Int) - 48 := IntWalk.u8_in _ (by omega)
    go_enter Tryz.func71, Tryz.ntmps71
    go_wp2
    go_ret
    exact ⟨rfl, rfl⟩
  · by_cases h2 : 97 ≤ n ∧ n ≤ 102
    · have hx : V = (n : Int) - 97 + 10 := by rw [HV.out, if_neg h1, if_pos h2]; omega
      obtain ⟨h3, h4⟩ := h2
      subst hx
      have u1 : IntKind.u8.wrap ((n : Int) - 97) = (n : Int) - 97 := IntWalk.u8_in _ (by omega)
      have t1 : ¬ (n : Int) ≤ 57 := by omega
      clear h1
      go_enter Tryz.func71, Tryz.ntmps71
      go_wp2
      go_ret
      exact ⟨rfl, rfl⟩
    · have hx : V = -1 := by rw [HV.out, if_neg h1, if_neg h2]
      subst hx
      by_cases g1 : 48 ≤ n
      · by_cases g2 : 97 ≤ n
        · have t1 : ¬ (n : Int) ≤ 57 := by omega
          have t2 : ¬ (n : Int) ≤ 102 := by omega
          clear h1 h2
          go_enter Tryz.func71, Tryz.ntmps71
          go_wp2
          go_ret
          exact ⟨rfl, rfl⟩
        · have t1 : ¬ (n : Int) ≤ 57 := by omega
          have t2 : ¬ (97 : Int) ≤ (n : Int) := by omega
          clear h1 h2
          go_enter Tryz.func71, Tryz.ntmps71
          go_wp2
          go_ret
          exact ⟨rfl, rfl⟩
      · have t1 : ¬ (48 : Int) ≤ (n : Int) := by omega
        have t2 : ¬ (97 : Int) ≤ (n : Int) := by omega
        clear h1 h2
        go_enter Tryz.func71, Tryz.ntmps71
        go_wp2
        go_ret
        exact ⟨rfl, rfl⟩
def decM (l : List UInt8) (m : Nat) : List UInt8 := (List.range m).map fun j => UInt8.ofNat (16 * dgA l (2 * j) + dgA l (2 * j + 1))
theorem decM_succ (l : List UInt8) (m : Nat) : decM l (m + 1) = decM l m ++ [UInt8.ofNat (16 * dgA l (2 * m) + dgA l (2 * m + 1))] := by
  rw [decM, List.range_succ, List.map_append]; rfl
set_option maxRecDepth 100000 in
set_option maxHeartbeats 4000000 in
theorem rdparse_any (s : ByteArray) (w : World) :
    Calls Tryz.prog 46 #[.string s] w fun e w' => e = .returned (.tuple #[.string (dpT s.data.toList), .int .i64 (dpE s.data.toList)]) ∧ New w w' := by
  obtain ⟨j0, hinf, hz0, hz1, hz2⟩ := info_parts Tryz.info5'
  have HP : Hid (baseP s.data.toList = if s.size = 64 then hexP s.data.toList else none) := Lib.hid (by rw [baseP, ← size_eq])
  have HT : Hid (baseP s.data.toList = none → dpT s.data.toList = ⟨#[]⟩ ∧ dpE s.data.toList = 4) := Lib.hid (fun h => by rw [dpT, dpE, h]; exact ⟨rfl, rfl⟩)
  have HY : Hid (∀ b, baseP s.data.toList = some b → dpT s.data.toList = S b ∧ dpE s.data.toList = 0) := Lib.hid (fun b h => by rw [dpT, dpE, h]; exact ⟨rfl, rfl⟩)
  have HG : Hid (∀ i (h : i < s.size), s.data.toList.getD i 0 = s[i]) := Lib.hid (fun i h => by
    rw [get_eq s i h, List.getD_eq_getElem?_getD, List.getElem?_eq_getElem (by rw [← size_eq]; exact h)]; rfl)
  have HSZ : Hid (s.size = s.data.toList.length) := Lib.hid (size_eq s)
  generalize dpT s.data.toList = T at *
  generalize dpE s.data.toList = E at *
  by_cases h64 : s.size = 64
  · have H64 := Lib.hid h64
    have hs1 : s.size ≤ 64 := by omega
    have hs0 : 64 ≤ s.size := by omega
    have hs2 : ((s.size : Int) == 64) = true := by rw [h64]; rfl
    have hs3 : ((s.size : Int) != 64) = false := by rw [h64]; rfl
    have hs4 : (s.size : Int) = 64 := by omega
    have HP2 : Hid (baseP s.data.toList = hexP s.data.toList) := Lib.hid (by rw [HP.out, if_pos h64])
    clear h64 HP
    go_enter Tryz.func46, Tryz.ntmps46
    go_wp2
    go_loopw [4, 5] (fun v4 v5 wr => ∃ (V : Value) (m : Nat), V = v4 ∧ v5 = .int .i64 ((2 * m : Nat) : Int) ∧ m ≤ 32 ∧ New w wr ∧ wr.ownsRow w.heap.size 5 1 V m (bCells (decM s.data.toList m)) ∧ Hid (∀ j, j < 2 * m → (dgt (s.data.toList.getD j 0)).isSome = true)) (fun _ v _ => s.size - (intOf v).toNat)
    case atStart => exact ⟨_, 0, rfl, rfl, by omega, New.refl w, World.ownsRow_nil _ _ _ _, Lib.hid (fun j hj => absurd hj (by omega))⟩
    case round =>
      obtain ⟨V, m, rfl, rfl, hm, hn, own, HD⟩ := hrel
      by_cases hlt : m < 32
      · have h0 : 2 * m < s.size := by omega
        have h1 : 2 * m + 1 < s.size := by omega
        have HDa := Lib.hid (HG.out (2 * m) h0)
        have HDb := Lib.hid (HG.out (2 * m + 1) h1)
        have HLL : Hid (s.data.toList.length = 2 * 32) := Lib.hid (by rw [← HSZ.out, H64.out])
        have u0 : IntKind.i64.wrap (((2 * m : Nat) : Int) + 1) = ((2 * m + 1 : Nat) : Int) := by rw [IntWalk.i64_in _ (by omega)]; omega
        have u1 : IntKind.i64.wrap (2 * (m : Int) + 1) = 2 * (m : Int) + 1 := IntWalk.i64_in _ (by omega)
        have u2 : (0 : Int) ≤ 2 * (m : Int) + 1 := by omega
        have u3 : (2 * (m : Int) + 1) < (s.size : Int) := by omega
        have u4 : (2 * (m : Int) + 1).toNat = 2 * m + 1 := by omega
        have u5 : (0 : Int) ≤ 2 * (m : Int) := by omega
        have u6 : (2 * (m : Int)) < (s.size : Int) := by omega
        have u7 : (2 * (m : Int)).toNat = 2 * m := by omega
        have u8 : (2 * (m : Int)) < 64 := by omega
        have u9 : (2 * (m : Int) + 1) < 64 := by omega
        cases ha : dgt s[2 * m] with
        | none =>
          have hA : dgI s[2 * m] = -1 := by rw [dgI, ha]
          have hnone : baseP s.data.toList = none := by rw [HP2.out]; exact hexP_bad 32 _ (2 * m) HLL.out (by rw [← HSZ.out]; exact h0) (by rw [HDa.out]; exact ha)
          obtain ⟨rfl, rfl⟩ := HT.out hnone
          clear ha hnone HT HY
          go_wp2_with (fail)
          go_quiet ((go_at_call 71; exact Calls.quiet_of_same (digit_any _ _)))
          go_wp2
          go_ret2
          exact ⟨rfl, hn.drewN _⟩
        | some x =>
          have hA : dgI s[2 * m] = (x : Int) := by rw [dgI, ha]
          have hx := (dgt_lt ha).1
          have HX : Hid (dgA s.data.toList (2 * m) = x) := Lib.hid (by rw [dgA, HDa.out, ha]; rfl)
          cases hb : dgt s[2 * m + 1] with
          | none =>
            have hB : dgI s[2 * m + 1] = -1 := by rw [dgI, hb]
            have hnone : baseP s.data.toList = none := by rw [HP2.out]; exact hexP_bad 32 _ (2 * m + 1) HLL.out (by rw [← HSZ.out]; exact h1) (by rw [HDb.out]; exact hb)
            obtain ⟨rfl, rfl⟩ := HT.out hnone
            have x0 : ¬ (x : Int) < 0 := by omega
            clear ha hb hnone HT HY
            go_wp2_with (fail)
            go_quiet ((go_at_call 71; exact Calls.quiet_of_same (digit_any _ _)))
            go_wp2
            go_ret2
            exact ⟨rfl, hn.drewN _⟩
          | some y =>
            have hB : dgI s[2 * m + 1] = (y : Int) := by rw [dgI, hb]
            have hy := (dgt_lt hb).1
            have HYY : Hid (dgA s.data.toList (2 * m + 1) = y) := Lib.hid (by rw [dgA, HDb.out, hb]; rfl)
            have HD2 : Hid (∀ j, j < 2 * (m + 1) → (dgt (s.data.toList.getD j 0)).isSome = true) := Lib.hid (fun j hj => by
              by_cases q0 : j = 2 * m
              · subst q0; rw [HDa.out, ha]; rfl
              · by_cases q1 : j = 2 * m + 1
                · subst q1; rw [HDb.out, hb]; rfl
                · exact HD.out j (by omega))
            have x0 : ¬ (x : Int) < 0 := by omega
            have y0 : ¬ (y : Int) < 0 := by omega
            have w8 : IntKind.u8.wrap (16 * (x : Int) + (y : Int)) = 16 * (x : Int) + (y : Int) := IntWalk.u8_in _ (by omega)
            have HVV : Hid ((UInt8.ofNat (16 * x + y)).toNat = 16 * x + y) := Lib.hid (by rw [UInt8.toNat_ofNat']; omega)
            have hz := hn.size
            clear ha hb HT
            go_wp2_with (fail)
            go_quiet ((go_at_call 71; exact Calls.quiet_of_same (digit_any _ _)))
            go_wp2_with (at_builtin; refine wpList_append_own _ rfl _ _ 92 rfl w.heap.size 5 j0 (.int .u8 0) 1 1 Tryz.underlying92 hinf hz0 hz1 hz2 rfl (by decide) _ m _ rfl (own.alloc _) ⟨wr.heap.size, 0, none⟩ 1 1 [.int .u8 (16 * (x : Int) + (y : Int))] rfl rfl ?c1 ?c2 ?c3 ?c4 ?c5 ?_)
            case c1 => exact cell_one_new _ _ _
            case c2 => simp [Value.oneCell']
            case c3 => simp [maxLen]; omega
            case c4 => omega
            case c5 => simp; omega
            intro v' w1 hown1 hg1 _
            go_wp2
            go_roundw
            case rel => exact ⟨_, m + 1, rfl, by go_num, by omega, Below.grown ((hn.drewN _).alloc _) hg1 (by simp; omega) (fun k hk => (own.lt k hk).1), by
              rw [decM_succ, bCells_app, HX.out, HYY.out]
              have e : bCells [UInt8.ofNat (16 * x + y)] = [.int .u8 (16 * (x : Int) + (y : Int))] := by simp only [bCells, List.map_cons, List.map_nil, HVV.out]; congr 2
              rw [e]; exact hown1, HD2⟩
            case measure => simp [intOf]; omega
      · obtain rfl : m = 32 := by omega
        have hall := hexP_all 32 s.data.toList (by rw [← HSZ.out, H64.out]) HD.out
        obtain ⟨rfl, rfl⟩ := HY.out _ (HP2.out.trans hall)
        obtain ⟨A, c, rfl, _, _, hr⟩ := own_form own
        have hcv := conv_bytes wr A 32 c (decM s.data.toList 32) (by simp [decM]) hr (by omega)
        obtain ⟨out, hout⟩ : ∃ out, S (decM s.data.toList 32) = out := ⟨_, rfl⟩
        rw [hout] at hcv
        have HO := Lib.hid hout
        clear hall HT HY hout own hr
        go_wp2
        go_ret2
        exact ⟨by rw [show S ((List.range 32).map fun j => UInt8.ofNat (16 * dgA s.data.toList (2 * j) + dgA s.data.toList (2 * j + 1))) = out from HO.out]; rfl, hn⟩
  · have h1 : baseP s.data.toList = none := by rw [HP.out, if_neg h64]
    obtain ⟨rfl, rfl⟩ := HT.out h1
    have hs3 : ((s.size : Int) != 64) = true := by simp; omega
    have hs2 : ((s.size : Int) == 64) = false := by simp; omega
    have hs4 : ¬ (s.size : Int) = 64 := by omega
    clear h1 HT HY HP h64
    go_enter Tryz.func46, Tryz.ntmps46
    go_wp2
    go_ret2
    exact ⟨rfl, New.refl _⟩
end Go.Proofs.YtfeknjpinboknaaGreatDoor

namespace Go.Proofs.YtfeknjpinboknaaGreatDoor
open Go Go.RowKit Go.Joins Go.Shelf
set_option linter.unusedSimpArgs false
set_option linter.unusedVariables false

theorem cnt_at {most i n : Nat} {e : UInt8} {s : ByteArray} (h : i < s.size) : cntGo most e (s.data.toList.drop i) i n =
    if s[i] = e ∧ 0 < i then some (n, i + 1) else if s[i].toNat < 48 ∨ 57 < s[i].toNat ∨ (0 < i ∧ n = 0) then none
    else if most < 10 * n + (s[i].toNat - 48) then none else cntGo most e (s.data.toList.drop (i + 1)) (i + 1) (10 * n + (s[i].toNat - 48)) := by
  rw [get_eq s i h, List.drop_eq_getElem_cons (by rw [← size_eq]; exact h), cntGo]
def RCntP (most : Nat) (c : UInt8) (l : List UInt8) (e : Ending) : Prop := match cntGo most c l 0 0 with
  | some (n, k) => ∃ i : Nat, k = i + 1 ∧ e = .returned (.tuple #[.int .i64 (n : Nat), .int .i64 (i : Nat), .bool false])
  | none => ∃ x : Bool, e = .returned (.tuple #[.int .i64 0, .int .i64 (-1), .bool x])
theorem rcntP_no {most : Nat} {c : UInt8} {l : List UInt8} {e : Ending} {x : Bool} (h : none = cntGo most c l 0 0) (he : e = .returned (.tuple #[.int .i64 0, .int .i64 (-1), .bool x])) : RCntP most c l e := by
  unfold RCntP
  rw [← h]
  exact ⟨x, he⟩
theorem rcntP_yes {most n k : Nat} {c : UInt8} {l : List UInt8} {e : Ending} (h : some (n, k + 1) = cntGo most c l 0 0) (he : e = .returned (.tuple #[.int .i64 (n : Nat), .int .i64 (k : Nat), .bool false])) : RCntP most c l e := by
  unfold RCntP
  rw [← h]
  exact ⟨k, rfl, he⟩
set_option maxRecDepth 100000 in
set_option maxHeartbeats 8000000 in
theorem rcount_any (s : ByteArray) (most : Nat) (c : UInt8) (w : World) (hs : s.size ≤ 1000000) (hm : most ≤ 281474976710656) (hc : digB c = false) :
    Calls Tryz.prog 72 #[.string s, .int .i64 most, .int .u8 c.toNat] w fun e w' => RCntP most c s.data.toList e ∧ w' = w := by
  have hcd : ¬ (48 ≤ c.toNat ∧ c.toNat ≤ 57) := by rw [← digB_iff, hc]; decide
  obtain ⟨cn, hcn⟩ : ∃ cn : Int, (c.toNat : Int) = cn := ⟨_, rfl⟩
  rw [hcn]
  have HCN := Lib.hid hcn
  have HCD := Lib.hid hcd
  have HNO := Lib.hid (fun (x : Bool) (e : Ending) (h : none = cntGo most c s.data.toList 0 0) he => rcntP_no (most := most) (c := c) (l := s.data.toList) (e := e) (x := x) h he)
  have HYES := Lib.hid (fun (n k : Nat) (e : Ending) (h : some (n, k + 1) = cntGo most c s.data.toList 0 0) he => rcntP_yes (most := most) (n := n) (k := k) (c := c) (l := s.data.toList) (e := e) h he)
  obtain ⟨X, hX⟩ : ∃ X, cntGo most c s.data.toList 0 0 = X := ⟨_, rfl⟩
  rw [hX] at HNO HYES
  generalize RCntP most c s.data.toList = PP at *
  have H0 : Hid (cntGo most c (s.data.toList.drop 0) 0 0 = X) := Lib.hid hX
  clear hcn hcd hc hX
  go_enter Tryz.func72, Tryz.ntmps72
  go_wp2
  go_loopw [9, 10] (fun v9 v10 wr => ∃ (i n : Nat), v9 = .int .i64 n ∧ v10 = .int .i64 i ∧ i ≤ s.size ∧ n ≤ most ∧ (2 ≤ i → 0 < n) ∧ wr = w ∧ Hid (cntGo most c (s.data.toList.drop i) i n = X)) (fun _ v10 _ => s.size - (intOf v10).toNat)
  case atStart => exact ⟨0, 0, rfl, rfl, by omega, by omega, by omega, rfl, H0⟩
  case round =>
    clear H0
    obtain ⟨i, n, rfl, rfl, hi, hn, hin, rfl, H⟩ := hrel
    by_cases hlt : i < s.size
    · have HC := Lib.hid (cnt_at (most := most) (e := c) (n := n) hlt)
      have hc2 := UInt8.toNat_lt s[i]
      have HI := Lib.hid hin
      have i0 : (0 : Int) ≤ (i : Int) := by omega
      have i1 : (i : Int) < (s.size : Int) := by omega
      have i2 : ((i : Int) == (s.size : Int)) = false := beq_eq_false_iff_ne.2 (by omega)
      clear hin
      by_cases hce : s[i] = c
      · have y0 : ((s[i].toNat : Int) == cn) = true := by rw [← HCN.out, hce]; simp
        by_cases z0 : 0 < i
        · have z1 : decide (0 < i) = true := decide_eq_true (by omega)
          have HX : Hid (some (n, i + 1) = X) := Lib.hid (by rw [← H.out, HC.out, if_pos ⟨hce, z0⟩])
          have u1 : IntKind.i64.wrap ((i : Int) + 1) = ((i + 1 : Nat) : Int) := by rw [IntWalk.i64_in _ (by omega)]; omega
          clear hce
          go_wp2
          (try rw [Exit.noGoto_ret]); exact bodyPost_ret (v := .tuple #[.int .i64 (n : Nat), .int .i64 (i : Nat), .bool false]) (by simp [results, Tryz.results72, go_sem]) rfl ⟨HYES.out n i _ HX.out rfl, rfl⟩
        · have z1 : decide (0 < i) = false := decide_eq_false (by omega)
          have hd : ¬ (48 ≤ s[i].toNat ∧ s[i].toNat ≤ 57) := by rw [hce]; exact HCD.out
          have HX : Hid (none = X) := Lib.hid (by rw [← H.out, HC.out, if_neg (fun h => z0 h.2), if_pos (by omega)])
          clear hce
          by_cases q1 : s[i].toNat < 48
          · have y1 : decide ((s[i].toNat : Int) < 48) = true := decide_eq_true (by omega)
            go_wp2
            (try rw [Exit.noGoto_ret]); exact bodyPost_ret (v := .tuple #[.int .i64 0, .int .i64 (-1), .bool false]) (by simp [results, Tryz.results72, go_sem]) rfl ⟨HNO.out false _ HX.out rfl, rfl⟩
          · have q2' : 57 < s[i].toNat := by omega
            have y1 : decide ((s[i].toNat : Int) < 48) = false := decide_eq_false (by omega)
            have y2 : decide ((57 : Int) < (s[i].toNat : Int)) = true := decide_eq_true (by omega)
            go_wp2
            (try rw [Exit.noGoto_ret]); exact bodyPost_ret (v := .tuple #[.int .i64 0, .int .i64 (-1), .bool false]) (by simp [results, Tryz.results72, go_sem]) rfl ⟨HNO.out false _ HX.out rfl, rfl⟩
      · have y0 : ((s[i].toNat : Int) == cn) = false := by
          rw [← HCN.out]
          exact beq_eq_false_iff_ne.2 (fun h => hce (UInt8.toNat_inj.1 (by omega)))
        have HCE : Hid (¬ (s[i] = c ∧ 0 < i)) := Lib.hid (fun h => hce h.1)
        clear hce
        by_cases q1 : s[i].toNat < 48
        · have HX : Hid (none = X) := Lib.hid (by rw [← H.out, HC.out, if_neg HCE.out, if_pos (by omega)])
          have y1 : decide ((s[i].toNat : Int) < 48) = true := decide_eq_true (by omega)
          go_wp2
          (try rw [Exit.noGoto_ret]); exact bodyPost_ret (v := .tuple #[.int .i64 0, .int .i64 (-1), .bool false]) (by simp [results, Tryz.results72, go_sem]) rfl ⟨HNO.out false _ HX.out rfl, rfl⟩
        · by_cases q2' : 57 < s[i].toNat
          · have HX : Hid (none = X) := Lib.hid (by rw [← H.out, HC.out, if_neg HCE.out, if_pos (by omega)])
            have y1 : decide ((s[i].toNat : Int) < 48) = false := decide_eq_false (by omega)
            have y2 : decide ((57 : Int) < (s[i].toNat : Int)) = true := decide_eq_true (by omega)
            go_wp2
            (try rw [Exit.noGoto_ret]); exact bodyPost_ret (v := .tuple #[.int .i64 0, .int .i64 (-1), .bool false]) (by simp [results, Tryz.results72, go_sem]) rfl ⟨HNO.out false _ HX.out rfl, rfl⟩
          · have y1 : decide ((s[i].toNat : Int) < 48) = false := decide_eq_false (by omega)
            have y2 : decide ((57 : Int) < (s[i].toNat : Int)) = false := decide_eq_false (by omega)
            by_cases q3 : 0 < i ∧ n = 0
            · have HX : Hid (none = X) := Lib.hid (by rw [← H.out, HC.out, if_neg HCE.out, if_pos (by omega)])
              have y3 : decide (0 < i) = true := decide_eq_true (by omega)
              have y4 : ((n : Int) == 0) = true := beq_iff_eq.2 (by omega)
              clear q3
              go_wp2
              (try rw [Exit.noGoto_ret]); exact bodyPost_ret (v := .tuple #[.int .i64 0, .int .i64 (-1), .bool false]) (by simp [results, Tryz.results72, go_sem]) rfl ⟨HNO.out false _ HX.out rfl, rfl⟩
            · have HX := Lib.hid (H.out.symm.trans (by rw [HC.out, if_neg HCE.out, if_neg (by have := HI.out; omega)]))
              have y3 : (decide (0 < i) = true ∧ ((n : Int) == 0) = false) ∨ decide (0 < i) = false := by
                by_cases h : 0 < i
                · exact Or.inl ⟨decide_eq_true (by omega), beq_eq_false_iff_ne.2 (by omega)⟩
                · exact Or.inr (decide_eq_false (by omega))
              obtain ⟨d, hd⟩ : ∃ d : Nat, s[i].toNat - 48 = d := ⟨_, rfl⟩
              have u1 : IntKind.u8.wrap ((s[i].toNat : Int) - 48) = (d : Int) := by rw [IntWalk.u8_in _ (by omega)]; omega
              have u2 : IntKind.i64.wrap (10 * (n : Int)) = 10 * (n : Int) := IntWalk.i64_in _ (by omega)
              have u3 : IntKind.i64.wrap (10 * (n : Int) + (d : Int)) = ((10 * n + d : Nat) : Int) := by rw [IntWalk.i64_in _ (by omega)]; omega
              have u4 : IntKind.i64.wrap (d : Int) = (d : Int) := IntWalk.i64_in _ (by omega)
              rw [hd] at HX
              have HN0 : Hid (2 ≤ i + 1 → 0 < 10 * n + d) := Lib.hid (fun h => by have := HI.out; omega)
              clear q3
              by_cases q4 : most < 10 * n + d
              · have y5 : (most : Int) < ((10 * n + d : Nat) : Int) := by omega
                have HX2 : Hid (none = X) := Lib.hid (by rw [HX.out, if_pos q4])
                clear q4
                rcases y3 with ⟨y3, y4⟩ | y3
                all_goals
                  go_wp2
                  (try rw [Exit.noGoto_ret]); exact bodyPost_ret (v := .tuple #[.int .i64 0, .int .i64 (-1), .bool false]) (by simp [results, Tryz.results72, go_sem]) rfl ⟨HNO.out false _ HX2.out rfl, rfl⟩
              · have y5 : ¬ (most : Int) < ((10 * n + d : Nat) : Int) := by omega
                have HX2 := Lib.hid (HX.out.trans (if_neg q4))
                have HQ := Lib.hid q4
                clear q4
                rcases y3 with ⟨y3, y4⟩ | y3
                all_goals
                  go_wp2
                  go_roundw
                  case rel =>
                    exact ⟨i + 1, 10 * n + d, by go_num, by go_num, by omega, by have := HQ.out; omega, HN0.out, trivial, Lib.hid HX2.out.symm⟩
                  case measure => simp [intOf]; omega
    · obtain rfl : i = s.size := by omega
      have HX : Hid (none = X) := Lib.hid (by rw [← H.out, List.drop_of_length_le (by rw [← size_eq]; exact Nat.le_refl _), cntGo])
      go_wp2
      (try rw [Exit.noGoto_ret]); exact bodyPost_ret (v := .tuple #[.int .i64 0, .int .i64 (-1), .bool true]) (by simp [results, Tryz.results72, go_sem]) rfl ⟨HNO.out true _ HX.out rfl, rfl⟩


set_option maxRecDepth 100000 in
set_option maxHeartbeats 2000000 in
theorem number_any (s : ByteArray) (w : World) (hs : s.size ≤ 900000) : Calls Tryz.prog 47 #[.string s] w fun e w' => e = .returned (.int .i64 (numL s.data.toList : Nat)) ∧ w' = w := by
  have hz : (s ++ (⟨#[59]⟩ : ByteArray)).size = s.size + 1 := by rw [ByteArray.size_append]; rfl
  have HC := Lib.hid (show Calls Tryz.prog 72 #[.string (s ++ (⟨#[59]⟩ : ByteArray)), .int .i64 1024, .int .u8 59] w _ from rcount_any (s ++ (⟨#[59]⟩ : ByteArray)) 1024 59 w (by omega) (by omega) (by decide))
  have hd : (s ++ (⟨#[59]⟩ : ByteArray)).data.toList = s.data.toList ++ [59] := by simp
  have HN : Hid (numL s.data.toList = match cntGo 1024 59 (s ++ (⟨#[59]⟩ : ByteArray)).data.toList 0 0 with
    | some (n, k) => if k = s.size + 1 then n else 0
    | none => 0) := Lib.hid (by rw [hd, size_eq]; rfl)
  have k1 : ¬ (9223372036854775807 < s.size + 1) := by omega
  clear hd hz
  go_enter Tryz.func47, Tryz.ntmps47
  go_wp2_with (go_at_call 72; (with_reducible refine HC.out.mono ?_))
  rintro e w' ⟨hP, rfl⟩
  unfold RCntP at hP
  cases hq : cntGo 1024 59 (s ++ (⟨#[59]⟩ : ByteArray)).data.toList 0 0 with
  | none =>
    rw [hq] at hP
    obtain ⟨x, rfl⟩ := hP
    have hv : numL s.data.toList = 0 := by rw [HN.out, hq]
    have HV := Lib.hid hv
    have t1 : ((s.size : Int) == -1) = false := by simp
    have t2 : ((-1 : Int) == (s.size : Int)) = false := by simp
    clear hv hq HN HC
    go_wp2
    go_ret
    exact ⟨ret_i (by rw [HV.out]; rfl), rfl⟩
  | some p =>
    obtain ⟨n, k⟩ := p
    rw [hq] at hP
    obtain ⟨i, rfl, rfl⟩ := hP
    have hv : numL s.data.toList = if i + 1 = s.size + 1 then n else 0 := by rw [HN.out, hq]
    by_cases hi : i = s.size
    · rw [if_pos (by omega)] at hv
      have HV := Lib.hid hv
      have t2 : ((i : Int) == (s.size : Int)) = true := by rw [hi]; simp
      have t3 : ((i : Int) != (s.size : Int)) = false := by rw [hi]; simp
      clear hv hq HN HC hi
      go_wp2
      go_ret
      exact ⟨ret_i (by rw [HV.out]), rfl⟩
    · rw [if_neg (by omega)] at hv
      have HV := Lib.hid hv
      have t2 : ((i : Int) == (s.size : Int)) = false := by simp; omega
      have t3 : ((i : Int) != (s.size : Int)) = true := by simp; omega
      clear hv hq HN HC
      go_wp2
      go_ret
      exact ⟨ret_i (by rw [HV.out]; rfl), rfl⟩
def afT (p s : ByteArray) : ByteArray := match afterL p.data.toList s.data.toList with
  | some r => S r
  | none => ⟨#[]⟩
def afB (p s : ByteArray) : Bool := (afterL p.data.toList s.data.toList).isSome
set_option maxRecDepth 100000 in
set_option maxHeartbeats 2000000 in
theorem after_any (s p : ByteArray) (w : World) : Calls Tryz.prog 45 #[.string s, .string p] w fun e w' => e = .returned (.tuple #[.string (afT p s), .bool (afB p s)]) ∧ w' = w := by
  have HA : Hid (afterL p.data.toList s.data.toList = if s.data.toList.take p.size = p.data.toList then some (s.data.toList.drop p.size) else none) := Lib.hid (by rw [afterL, ← size_eq])
  have HT : Hid (afT p s = match afterL p.data.toList s.data.toList with
    | some r => S r
    | none => ⟨#[]⟩) := Lib.hid rfl
  have HB : Hid (afB p s = (afterL p.data.toList s.data.toList).isSome) := Lib.hid rfl
  have HZ1 := Lib.hid (size_eq s)
  have HZ2 := Lib.hid (size_eq p)
  generalize afT p s = T at *
  generalize afB p s = B at *
  by_cases h1 : s.size < p.size
  · have hn : afterL p.data.toList s.data.toList = none := by
      rw [HA.out, if_neg]
      intro e
      have := congrArg List.length e
      rw [List.length_take] at this
      have := HZ1.out; have := HZ2.out; omega
    have ht : T = ⟨#[]⟩ := by rw [HT.out, hn]
    have hb : B = false := by rw [HB.out, hn]; rfl
    subst ht hb
    have t1 : (s.size : Int) < (p.size : Int) := by omega
    clear hn HA HT HB
    go_enter Tryz.func45, Tryz.ntmps45
    go_wp2
    go_ret2
    exact ⟨rfl, rfl⟩
  · have t1 : ¬ (s.size : Int) < (p.size : Int) := by omega
    have t2 : (p.size : Int) ≤ (s.size : Int) := by omega
    have t3 : p.size ≤ s.size := by omega
    have HQ : Hid ((s.extract 0 p.size).toList = s.data.toList.take p.size) := Lib.hid (by rw [toList_eq, ext_to, data_S])
    have HP : Hid (p.toList = p.data.toList) := Lib.hid (toList_eq p)
    by_cases h2 : s.data.toList.take p.size = p.data.toList
    · have ht : T = s.extract p.size s.size := by rw [HT.out, HA.out, if_pos h2, ext_from]
      have hb : B = true := by rw [HB.out, HA.out, if_pos h2]; rfl
      subst ht hb
      have q1 : ((s.extract 0 p.size).toList == p.toList) = true := by rw [HQ.out, HP.out, h2]; simp
      clear h2 HA HT HB HZ1 HZ2
      go_enter Tryz.func45, Tryz.ntmps45
      go_wp2
      go_ret2
      exact ⟨rfl, rfl⟩
    · have ht : T = ⟨#[]⟩ := by rw [HT.out, HA.out, if_neg h2]
      have hb : B = false := by rw [HB.out, HA.out, if_neg h2]; rfl
      subst ht hb
      have q1 : ((s.extract 0 p.size).toList == p.toList) = false := by rw [HQ.out, HP.out]; simpa using h2
      clear h2 HA HT HB HZ1 HZ2
      go_enter Tryz.func45, Tryz.ntmps45
      go_wp2
      go_ret2
      exact ⟨rfl, rfl⟩
end Go.Proofs.YtfeknjpinboknaaGreatDoor

namespace Go.Proofs.YtfeknjpinboknaaGreatDoor
open Go Go.RowKit Go.Joins Go.Shelf
set_option linter.unusedSimpArgs false
set_option linter.unusedVariables false

theorem Tryz.info55' : (Tryz.prog.info? 55).map (fun i => (i.zero, i.size, i.bytes)) = some (some (.agg #[.int .i64 0, .int .i64 0, .slice none 0 0]), 3, 40) := by kernel_rfl
def LnOK (w : World) (hs : List Hm) : Prop := ∀ h ∈ hs, h.lines.length ≤ h.cap ∧ Rd w 1 h.adr h.lines.length (sCells h.lines) ∧ (0 < h.lines.length → ∃ b o cs fz, h.adr = some ⟨b, o, none⟩ ∧ w.heap[b]? = some (.cells cs 9 fz))
theorem LnOK.nil (w : World) : LnOK w [] := fun _ h => by cases h
theorem LnOK.new {w w' : World} {hs : List Hm} (h : LnOK w hs) (hn : New w w') : LnOK w' hs := fun x hx => by
  obtain ⟨h1, h2, h3⟩ := h x hx
  refine ⟨h1, h2.below hn, fun h0 => ?_⟩
  obtain ⟨b, o, cs, fz, e, hb⟩ := h3 h0
  exact ⟨b, o, cs, fz, e, (hn.block b (Array.getElem?_eq_some_iff.1 hb).1).trans hb⟩
theorem LnOK.keep {w w' : World} {hs : List Hm} {row : Option Nat} (h : LnOK w hs) (hg : w.grownBy w' row) (hr : ∀ g, row = some g → ∃ cs t fz, w.heap[g]? = some (.cells cs t fz) ∧ t ≠ 9) : LnOK w' hs := fun x hx => by
  obtain ⟨h1, h2, h3⟩ := h x hx
  have key : ∀ b cs fz, w.heap[b]? = some (.cells cs 9 fz) → some b ≠ row := fun b cs fz hb e => by
    obtain ⟨cs', t, fz', hb', ht⟩ := hr b e.symm
    rw [hb] at hb'
    injection hb' with hb'
    injection hb' with _ q
    exact ht q.symm
  refine ⟨h1, ⟨h2.1, fun hn => ?_⟩, fun h0 => ?_⟩
  · obtain ⟨b, o, cs, fz, e, hb⟩ := h3 hn
    obtain ⟨b', o', e', hlt, hc⟩ := h2.2 hn
    rw [e] at e'
    injection e' with e'
    injection e' with q1 q2
    subst q1 q2
    refine ⟨b, o, e, by have := hg.size; omega, fun j u hu => ?_⟩
    exact hg.cell (hc j u hu) (key b cs fz hb)
  · obtain ⟨b, o, cs, fz, e, hb⟩ := h3 h0
    exact ⟨b, o, cs, fz, e, (hg.block b (Array.getElem?_eq_some_iff.1 hb).1 (key b cs fz hb)).trans hb⟩
theorem LnOK.snoc {w : World} {hs : List Hm} (h : LnOK w hs) (x : Hm) (h1 : x.lines.length ≤ x.cap) (h2 : Rd w 1 x.adr x.lines.length (sCells x.lines)) (h3 : 0 < x.lines.length → ∃ b o cs fz, x.adr = some ⟨b, o, none⟩ ∧ w.heap[b]? = some (.cells cs 9 fz)) : LnOK w (hs ++ [x]) := fun y hy => by
  rcases List.mem_append.1 hy with hy | hy
  · exact h y hy
  · rw [List.mem_singleton] at hy
    subst hy
    exact ⟨h1, h2, h3⟩
theorem own_lines {w : World} {base n : Nat} {v : Value} {ws : List ByteArray} (h : w.ownsRow base 9 1 v n (sCells ws)) : ∃ A c, v = .slice A n c ∧ n ≤ c ∧ ws.length = n ∧ Rd w 1 A n (sCells ws) ∧ (0 < n → ∃ b o cs fz, A = some ⟨b, o, none⟩ ∧ w.heap[b]? = some (.cells cs 9 fz)) := by
  have hl : ws.length = n := by have := h.1; rw [sCells_len, Nat.mul_one] at this; exact this
  rcases h.2 with ⟨rfl, rfl⟩ | ⟨g, cap, cur, rfl, hg, hh, hnc, hc, _⟩
  · exact ⟨none, 0, rfl, Nat.le_refl _, hl, Rd.of_own h, fun h0 => absurd h0 (by omega)⟩
  · exact ⟨_, cap, rfl, hnc, hl, Rd.of_own h, fun _ => ⟨g, 0, cur, _, rfl, hh⟩⟩
theorem own_prd {w : World} {base : Nat} {V : Value} {hs : List Hm} (h : w.ownsRow base 55 3 V hs.length (hs.flatMap hmC)) (hl : LnOK w hs) : ∃ A c, V = .slice A hs.length c ∧ hs.length ≤ c ∧ PRd w A hs.length hs := by
  obtain ⟨A, c, rfl, h1, _, h2⟩ := own_form h
  exact ⟨A, c, rfl, h1, ⟨rfl, h2, fun x hx => ⟨(hl x hx).2.1, (hl x hx).1⟩⟩⟩
theorem own_kind3 {w : World} {B e size : Nat} {v : Value} {n : Nat} {xs : List Value} (h : w.ownsRow B e size v n xs) : ∀ g, v.ownBlock = some g → ∃ c fz, w.heap[g]? = some (.cells c e fz) := by
  intro g hg
  rcases h.2 with ⟨rfl, _⟩ | ⟨g', cap, cur, rfl, _, hgg, _⟩
  · simp [Value.ownBlock] at hg
  · simp [Value.ownBlock] at hg
    subst hg
    exact ⟨cur, _, hgg⟩

/-! ### what was read -/
def Inv (ls r : List ByteArray) (acc : List Hk) : Prop := refGo ls = (refGo r).map (acc ++ ·) ∨ refGo ls = none
theorem Inv.start (ls : List ByteArray) : Inv ls ls [] := Or.inl (by cases refGo ls <;> simp)
theorem Inv.bad {ls r : List ByteArray} {acc : List Hk} (h : Inv ls r acc) (hr : refGo r = none) : refGo ls = none := by
  rcases h with h | h
  · rw [h, hr]; rfl
  · exact h
theorem Inv.done {ls : List ByteArray} {acc l : List Hk} (h : Inv ls [] acc) (e : refGo ls = some l) : l = acc := by
  rcases h with h | h
  · rw [h, refGo_nil] at e; simpa using e.symm
  · rw [h] at e; cases e
def Fits (x : ByteArray) (k v : Int) : Prop := ∀ k' n', headL x = some (k', n') → k' = k ∧ (n' : Int) = v
theorem Inv.one {ls r : List ByteArray} {acc : List Hk} {x : ByteArray} {k v : Int} (h : Inv ls (x :: r) acc) (hf : Fits x k v) (hk : k ≠ 3) : Inv ls r (acc ++ [⟨k, v, []⟩]) := by
  cases hh : headL x with
  | none => exact Or.inr (h.bad (by rw [refGo_cons, hh]))
  | some p =>
    obtain ⟨k', n'⟩ := p
    obtain ⟨rfl, rfl⟩ := hf k' n' hh
    rcases h with h | h
    · refine Or.inl ?_
      rw [h, refGo_cons, hh]
      simp only [if_neg hk]
      cases refGo r <;> simp
    · exact Or.inr h
theorem Inv.add {ls r : List ByteArray} {acc : List Hk} {x : ByteArray} {n : Nat} (h : Inv ls (x :: r) acc) (hf : Fits x 3 n) (hn : n ≤ r.length) : Inv ls (r.drop n) (acc ++ [⟨3, n, r.take n⟩]) := by
  cases hh : headL x with
  | none => exact Or.inr (h.bad (by rw [refGo_cons, hh]))
  | some p =>
    obtain ⟨k', n'⟩ := p
    obtain ⟨rfl, e⟩ := hf k' n' hh
    obtain rfl : n' = n := by omega
    rcases h with h | h
    · refine Or.inl ?_
      rw [h, refGo_cons, hh]
      simp only [if_pos, if_pos hn]
      cases refGo (r.drop n') <;> simp
    · exact Or.inr h
theorem Inv.short {ls r : List ByteArray} {acc : List Hk} {x : ByteArray} {n : Nat} (h : Inv ls (x :: r) acc) (hf : Fits x 3 n) (hn : ¬ n ≤ r.length) : refGo ls = none := by
  refine h.bad ?_
  rw [refGo_cons]
  cases hh : headL x with
  | none => rfl
  | some p =>
    obtain ⟨k', n'⟩ := p
    obtain ⟨rfl, e⟩ := hf k' n' hh
    obtain rfl : n' = n := by omega
    simp only [if_pos, if_neg hn]
theorem Inv.none_ {ls r : List ByteArray} {acc : List Hk} {x : ByteArray} (h : Inv ls (x :: r) acc) (hh : headL x = none) : refGo ls = none := h.bad (by rw [refGo_cons, hh])
theorem fin_none {base : ByteArray} {ls : List ByteArray} (h : refGo ls = none) : finV base ls = none := by rw [finV, h]
theorem fin_bad {text base : ByteArray} {ls : List ByteArray} {acc : List Hk} (hp : parseV text = finV base ls) (h : Inv ls [] acc ∨ refGo ls = none) (hb : ¬ (validV base acc = true ∧ textV base acc = text)) : parseV text = none := by
  cases e : parseV text with
  | none => rfl
  | some p =>
    exfalso
    obtain ⟨b, l⟩ := p
    have e2 := e
    rw [hp] at e2
    obtain ⟨rfl, hv, _⟩ := fin_sound e2
    have hl : refGo ls = some l := by
      unfold finV at e2
      split at e2
      · cases e2
      · rename_i l' h'
        split at e2
        · injection e2 with e2; injection e2 with _ q; rw [h', q]
        · cases e2
    rcases h with h | h
    · have := h.done hl
      subst this
      exact hb ⟨hv, (parse_sound e).2⟩
    · rw [h] at hl; cases hl
def ParP (text : ByteArray) (w : World) (e : Ending) (w' : World) : Prop := New w w' ∧ match parseV text with
  | some (base, ds) => ∃ (A : Option Addr) (c : Nat) (hs : List Hm), e = .returned (.tuple #[.agg #[.string base, .slice A hs.length c], .int .i64 0]) ∧ PRd w' A hs.length hs ∧ hs.map Hm.d = ds ∧ hs.length ≤ c
  | none => e = .returned (.tuple #[.agg #[.string ⟨#[]⟩, .slice none 0 0], .int .i64 (if linesE text = 0 then 4 else 10)])
theorem par_no {text : ByteArray} {w w' : World} {e : Ending} {x : Int} (h : parseV text = none) (hx : x = if linesE text = 0 then 4 else 10) (he : e = .returned (.tuple #[.agg #[.string ⟨#[]⟩, .slice none 0 0], .int .i64 x])) (hn : New w w') : ParP text w e w' := by
  refine ⟨hn, ?_⟩
  rw [h]
  subst hx
  exact he
theorem par_yes {text base : ByteArray} {w w' : World} {e : Ending} {A : Option Addr} {c : Nat} {hs : List Hm} (hv : validV base (hs.map Hm.d) = true) (ht : textV base (hs.map Hm.d) = text) (he : e = .returned (.tuple #[.agg #[.string base, .slice A hs.length c], .int .i64 0])) (hr : PRd w' A hs.length hs) (hc : hs.length ≤ c) (hn : New w w') : ParP text w e w' := by
  refine ⟨hn, ?_⟩
  have : parseV text = some (base, hs.map Hm.d) := by rw [← ht]; exact parse_compl hv
  rw [this]
  exact ⟨A, c, hs, he, hr, rfl, hc⟩
set_option maxHeartbeats 1000000 in
theorem lines_bad (s : ByteArray) (w : World) (hs : s.size < 4294967281) (hE : Env w) (h : linesE s ≠ 0) :
    Calls Tryz.prog 39 #[.string s] w fun e w' => e = .returned (.tuple #[.slice none 0 0, .int .i64 10]) ∧ w' = w := by
  obtain ⟨m, hm⟩ := hE.maxlen
  have hct := Tryz.strings_Count_any s ⟨#[10]⟩ m w hs hm (by simp [ByteArray.size])
  have hc1 := countB_one 10 s
  have hz : 65536 < s.size ∨ 1024 < (parts 10 s).length := by
    unfold linesE at h
    split at h
    · assumption
    · exact absurd rfl h
  generalize (parts 10 s).length = q at *
  have HCT := Lib.hid hct
  generalize Lib.countB s ⟨#[10]⟩ = k at *
  clear hct h
  by_cases h1 : 65536 < s.size
  · have t1 : (65536 : Int) < (s.size : Int) := by omega
    clear hc1 hz
    go_enter Tryz.func39, Tryz.ntmps39
    go_wp2
    go_ret2
    exact ⟨rfl, rfl⟩
  · have t1 : ¬ (65536 : Int) < (s.size : Int) := by omega
    have t2 : (1024 : Int) ≤ (k : Int) := by omega
    clear hc1 hz
    go_enter Tryz.func39, Tryz.ntmps39
    go_wp2_with (go_at_call 64; (with_reducible refine HCT.out.mono ?_); rintro e w' ⟨rfl, rfl⟩)
    go_ret2
    exact ⟨rfl, rfl⟩
theorem fits_of {x : ByteArray} {k v : Int} {word cnt : List UInt8} {b : Bool} (hc : Lib.cut x.data.toList [32] = (word, cnt, b)) (hv : Lib.atoiAll cnt = .ok v) (hw : ∀ k', 1 ≤ k' → k' ≤ 3 → wordN k' = word → k' = k) : Fits x k v := fun k' n' h => by
  obtain ⟨h1, h2, k1, k3, _, _⟩ := head_cut h
  rw [hc] at h1
  injection h1 with h1 h3
  injection h3 with h3 _
  rw [h3, h2] at hv
  injection hv with hv
  exact ⟨hw k' k1 k3 h1.symm, hv⟩
theorem word_case {word : List UInt8} {k : Int} (h : word = wordN k) (h1 : 1 ≤ k) (h3 : k ≤ 3) : ∀ k', 1 ≤ k' → k' ≤ 3 → wordN k' = word → k' = k := by
  intro k' a b e
  rw [h] at e
  obtain rfl | rfl | rfl : k = 1 ∨ k = 2 ∨ k = 3 := by omega
  all_goals obtain rfl | rfl | rfl : k' = 1 ∨ k' = 2 ∨ k' = 3 := by omega
  all_goals first | rfl | (exfalso; revert e; decide)
theorem no_word {x : ByteArray} {word cnt : List UInt8} {b : Bool} (hc : Lib.cut x.data.toList [32] = (word, cnt, b)) (h1 : word ≠ wordN 1) (h2 : word ≠ wordN 2) (h3 : word ≠ wordN 3) : headL x = none := by
  cases h : headL x with
  | none => rfl
  | some p =>
    exfalso
    obtain ⟨k, n⟩ := p
    obtain ⟨q1, _, k1, k3, _, _⟩ := head_cut h
    rw [hc] at q1
    injection q1 with q1 _
    obtain rfl | rfl | rfl : k = 1 ∨ k = 2 ∨ k = 3 := by omega
    · exact h1 q1
    · exact h2 q1
    · exact h3 q1
theorem no_num {x : ByteArray} {word cnt : List UInt8} {b : Bool} (hc : Lib.cut x.data.toList [32] = (word, cnt, b)) (h : ∀ v, Lib.atoiAll cnt = .ok v → v < 1 ∨ 1024 < v) : headL x = none := by
  cases hh : headL x with
  | none => rfl
  | some p =>
    exfalso
    obtain ⟨k, n⟩ := p
    obtain ⟨q1, q2, _, _, n1, n2⟩ := head_cut hh
    rw [hc] at q1
    injection q1 with _ q1
    injection q1 with q1 _
    rw [← q1] at q2
    have := h _ q2
    omega
theorem atoi_ok (s : ByteArray) (v : Int) (w : World) (hs : s.size ≤ 1000000) (h : Lib.atoiAll s.data.toList = .ok v) :
    Calls Tryz.prog 43 #[.string s] w fun e w' => e = .returned (.tuple #[.int .i64 v, .nilIface]) ∧ New w w' :=
  (Tryz.strconv_Atoi_ok s (by omega) v h w).mono fun e w' ⟨he, hw⟩ => ⟨he, by
    rcases hw with rfl | ⟨t, rfl⟩
    · exact New.refl _
    · exact new_bytes _ _ _⟩
theorem atoi_bad (s : ByteArray) (w : World) (hs : s.size ≤ 1000000) (hE : Env w) (h : ∀ v, Lib.atoiAll s.data.toList ≠ .ok v) :
    Calls Tryz.prog 43 #[.string s] w fun e w' => (∃ n N, e = .returned (.tuple #[.int .i64 n, .iface 117 (.pointer (some ⟨N, 0, none⟩))])) ∧ New w w' := by
  obtain ⟨te, pe, h1⟩ := hE.esyn
  obtain ⟨te2, pe2, h2⟩ := hE.erange
  match e : Lib.atoiAll s.data.toList with
  | .ok v => exact absurd e (h v)
  | Lib.NumEnd.syntax => exact (Tryz.strconv_Atoi_syntax s (by omega) e _ w h1 (.inr ⟨_, _, rfl⟩)).mono fun e w' ⟨N, he, _, _, hb⟩ => ⟨⟨_, N, he⟩, hb⟩
  | .range => exact (Tryz.strconv_Atoi_range s (by omega) e _ w h2 (.inr ⟨_, _, rfl⟩)).mono fun e w' ⟨N, he, _, _, hb⟩ => ⟨⟨_, N, he⟩, hb⟩
theorem atoi_range {l : List UInt8} {v : Int} (h : Lib.atoiAll l = .ok v) : -9223372036854775808 ≤ v ∧ v ≤ 9223372036854775807 := Lib.atoiAll_bounds h
end Go.Proofs.YtfeknjpinboknaaGreatDoor

