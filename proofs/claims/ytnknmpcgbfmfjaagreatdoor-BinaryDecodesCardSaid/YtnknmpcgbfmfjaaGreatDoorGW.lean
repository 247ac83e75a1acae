/- The example of awake: what the definitions say of it. No conditions. The example of awake, and awake: it answers true. No conditions but the world's. (Printed by mk-w2.py.) -/
import Derived.Test.YtnknmpcgbfmfjaaGreatDoorGY5
import Derived.Test.YtnknmpcgbfmfjaaGreatDoorGA1
import Derived.Test.YtnknmpcgbfmfjaaGreatDoorGS1
import Derived.Deep.RegionHeld3
import Derived.Deep.DeepCutAuto
import Derived.Deep.Cut

namespace Go.Proofs.YtnknmpcgbfmfjaaGreatDoor
open Go Go.RowKit Go.Joins
set_option linter.unusedSimpArgs false
set_option linter.unusedVariables false

def exB : Bn := ⟨1, 0, ⟨#[0, 0, 13]⟩, [⟨⟨#[97, 47, 111]⟩, ⟨#[102]⟩, 1, 0, 3⟩], [], [], [], []⟩
def exN : Bn := ⟨1, 0, ⟨#[0, 0, 13]⟩, [⟨⟨#[97, 47, 111]⟩, ⟨#[102]⟩, 1, 0, 3⟩], [], [], [], [⟨⟨#[110]⟩, ⟨#[116]⟩⟩]⟩
abbrev eC (h : BH) : Array Value := #[.int .i64 1, .int .i64 0, .string ⟨#[0, 0, 13]⟩, .slice h.a1 1 h.c1, .slice h.a2 0 h.c2, .slice h.a3 0 h.c3, .slice h.a4 0 h.c4, .slice h.a5 0 h.c5]
abbrev eD (h : BH) : Array Value := #[.int .i64 1, .int .i64 0, .string ⟨#[0, 0, 13]⟩, .slice h.a1 1 h.c1, .slice h.a2 0 h.c2, .slice h.a3 0 h.c3, .slice h.a4 0 h.c4, .slice h.a5 1 h.c5]
theorem eC_eq (h : BH) : bcells exB h = eC h := rfl
theorem eD_eq (h : BH) : bcells exN h = eD h := rfl
theorem ex_check : checkV exB = true := by kernel_rfl
theorem exN_check : checkV exN = true := by kernel_rfl
theorem zB_check : checkV zB = false := by kernel_rfl
def exL : List UInt8 := [54, 58, 98, 105, 110, 97, 114, 121, 44, 49, 59, 49, 59, 51, 58, 0, 0, 13, 44, 49, 59, 51, 58, 97, 47, 111, 44, 49, 58, 102, 44, 49, 59, 48, 59, 51, 59, 48, 59, 48, 59, 48, 59, 48, 59]
theorem num_low {n : Nat} (h : n < 10) : numB (n : Int) = [UInt8.ofNat (48 + n), 59] := by
  rw [numB_nat (by omega), Lib.decDigits, dif_pos h]
  rfl
theorem txt_low {s : ByteArray} (h : s.size < 10) : txtB s = UInt8.ofNat (48 + s.size) :: 58 :: (s.data.toList ++ [44]) := by
  rw [txtB_le (by omega), Lib.decDigits, dif_pos h]
  rfl
theorem ex_enc : encL exB = exL := by
  rw [enc_eq]
  have n0 : numB (0 : Int) = [48, 59] := num_low (n := 0) (by decide)
  have n1 : numB (1 : Int) = [49, 59] := num_low (n := 1) (by decide)
  have n3 : numB (3 : Int) = [51, 59] := num_low (n := 3) (by decide)
  have t1 : txtB BIN = [54, 58, 98, 105, 110, 97, 114, 121, 44] := txt_low (by decide)
  have t2 : txtB ⟨#[0, 0, 13]⟩ = [51, 58, 0, 0, 13, 44] := txt_low (by decide)
  have t3 : txtB ⟨#[97, 47, 111]⟩ = [51, 58, 97, 47, 111, 44] := txt_low (by decide)
  have t4 : txtB ⟨#[102]⟩ = [49, 58, 102, 44] := txt_low (by decide)
  simp only [exB, plE, List.flatMap_cons, List.flatMap_nil, List.length_cons, List.length_nil, t1, t2, t3, t4, n1, n3, Int.zero_add, Nat.zero_add, Int.ofNat_eq_natCast]
  show _ = exL
  simp only [Int.natCast_one, Int.natCast_zero, n0, n1]
  rfl
theorem ex_encV : encV exB = (exL, 0) := by
  unfold encV
  rw [if_pos ex_check, ex_enc, if_pos (by decide)]
theorem ex_dec : decV exL = some exB := (dec_iff (by decide) (by decide) (by decide) exL exB).2 ⟨by decide, ex_check, ex_enc.symm⟩
theorem ex_att : attachV exB ⟨⟨#[110]⟩, ⟨#[116]⟩⟩ = (exN, 0) := by
  have h1 : nameV ⟨#[110]⟩ = true := by kernel_rfl
  unfold attachV
  rw [ex_check, h1]
  rfl
theorem ex_note : noteV exN.notes ⟨#[110]⟩ = (⟨#[116]⟩, true) := by
  unfold noteV exN
  simp
theorem ex_strip : stripB exN = exB := by
  unfold stripB
  rw [exN_check]
  rfl
theorem ex_at3 : idxV exB.places 3 = -1 := by kernel_rfl
theorem ex_at2 : idxV exB.places 2 = 0 := by kernel_rfl
theorem ex_plain : plainV exB 0 = (⟨#[0, 0, 13]⟩, 0) := by
  have := plainV_at (b := exB) (i := 0) (k := 0) ex_check rfl rfl
  rw [this]
  rfl
theorem szb_ok {b : Bn} (h : checkV b = true) (l2 : b.fix.length ≤ 1000000) (l3 : b.imps.length ≤ 1000000) (l4 : b.exps.length ≤ 1000000) : SzB b := by
  have C := check_ok h
  refine ⟨fun p hp => ?_, fun p hp => ?_, fun p hp => ?_, fun a ha => ?_, by have := C.img; omega, by have := C.l1; omega, l2, l3, l4, by have := C.l5; omega⟩
  · obtain ⟨h1, h2, _⟩ := C.pl p hp; exact ⟨by omega, by omega⟩
  · obtain ⟨h1, h2⟩ := C.nt p hp; exact ⟨by omega, by omega⟩
  · obtain ⟨h1, h2, k, h3, h4⟩ := C.im p hp; exact ⟨by omega, by omega, by rw [h3]; exact w64_nat h4⟩
  · obtain ⟨k, h3, h4⟩ := C.fx a ha; rw [h3]; exact w64_nat h4
theorem ex_szb : SzB exB := szb_ok ex_check (by decide) (by decide) (by decide)
theorem exN_szb : SzB exN := szb_ok exN_check (by decide) (by decide) (by decide)
theorem zB_szb : SzB zB := ⟨fun p hp => (by cases hp), fun p hp => (by cases hp), fun p hp => (by cases hp), fun p hp => (by cases hp), by decide, by decide, by decide, by decide, by decide, by decide⟩
theorem ex_szx : SzX exB.exps := by simp [SzX, exB]
theorem ex_wfp : WfP exB.places := (placed_ok (by kernel_rfl : placedV exB = true)).wf
end Go.Proofs.YtnknmpcgbfmfjaaGreatDoor

namespace Go.Proofs.YtnknmpcgbfmfjaaGreatDoor
open Go Go.RowKit Go.Joins
set_option linter.unusedSimpArgs false
set_option linter.unusedVariables false

set_option maxRecDepth 100000 in
set_option maxHeartbeats 4000000 in
theorem example_any (w : World) : Calls Tryz.prog 36 #[] w fun e w' => (∃ h, e = .returned (.agg (eC h)) ∧ BRd w' exB h) ∧ New w w' := by
  have B0 := Blk.made w 28 #[.int .i64 0, .int .i64 0, .string ⟨#[]⟩, .slice none 0 0, .slice none 0 0, .slice none 0 0, .slice none 0 0, .slice none 0 0]
  have n0 : New w (w.alloc (.cells #[.int .i64 0, .int .i64 0, .string ⟨#[]⟩, .slice none 0 0, .slice none 0 0, .slice none 0 0, .slice none 0 0, .slice none 0 0] 28)) := (New.refl w).alloc _
  go_enter Tryz.func36, Tryz.ntmps36
  go_upto_region 1 with (fail)
  generalize w.alloc (.cells #[.int .i64 0, .int .i64 0, .string ⟨#[]⟩, .slice none 0 0, .slice none 0 0, .slice none 0 0, .slice none 0 0, .slice none 0 0] 28) = w1 at *
  have B2 := B0.alloc (.cells #[.string ⟨#[97, 47, 111]⟩, .string ⟨#[102]⟩, .int .i64 1, .int .i64 0, .int .i64 3] 60)
  have B1 := Blk.made w1 60 #[.string ⟨#[97, 47, 111]⟩, .string ⟨#[102]⟩, .int .i64 1, .int .i64 0, .int .i64 3]
  have hlt := B0.lt
  have y0 := B2.cell' 0 _ rfl
  have y1 := B2.cell' 1 _ rfl
  have y2 := B2.cell' 2 _ rfl
  have y3 := B2.cell' 3 _ rfl
  have y4 := B2.cell' 4 _ rfl
  have y5 := B2.cell' 5 _ rfl
  have y6 := B2.cell' 6 _ rfl
  have y7 := B2.cell' 7 _ rfl
  have z0 := B2.free 0
  have z1 := B2.free 1
  have z2 := B2.free 2
  have z3 := B2.free 3
  have z4 := B2.free 4
  have z5 := B2.free 5
  have z6 := B2.free 6
  have z7 := B2.free 7
  have YZ := Lib.hid (set8_blk (v0 := .int .i64 1) (v1 := .int .i64 0) (v2 := .string ⟨#[0, 0, 13]⟩) (v3 := .slice (some ⟨w1.heap.size, 0, none⟩) 1 1) (v4 := .slice none 0 0) (v5 := .slice none 0 0) (v6 := .slice none 0 0) (v7 := .slice none 0 0) B2)
  have NZ := Lib.hid (set8_new (g := w.heap.size) (v0 := .int .i64 1) (v1 := .int .i64 0) (v2 := .string ⟨#[0, 0, 13]⟩) (v3 := .slice (some ⟨w1.heap.size, 0, none⟩) 1 1) (v4 := .slice none 0 0) (v5 := .slice none 0 0) (v6 := .slice none 0 0) (v7 := .slice none 0 0) (n0.alloc (.cells #[.string ⟨#[97, 47, 111]⟩, .string ⟨#[102]⟩, .int .i64 1, .int .i64 0, .int .i64 3] 60)) (Nat.le_refl _))
  have HB : Hid (BRd (set8 (w1.alloc (.cells #[.string ⟨#[97, 47, 111]⟩, .string ⟨#[102]⟩, .int .i64 1, .int .i64 0, .int .i64 3] 60)) w.heap.size (.int .i64 1) (.int .i64 0) (.string ⟨#[0, 0, 13]⟩) (.slice (some ⟨w1.heap.size, 0, none⟩) 1 1) (.slice none 0 0) (.slice none 0 0) (.slice none 0 0) (.slice none 0 0)) exB ⟨some ⟨w1.heap.size, 0, none⟩, 1, none, 0, none, 0, none, 0, none, 0⟩) := Lib.hid ⟨blk_rd (set8_far B1 (by omega)) rfl rfl, Rd.none_ _, Rd.none_ _, Rd.none_ _, Rd.none_ _⟩
  clear B0 B1 B2 n0 hlt
  go_wp2
  change bodyPost _ _ _ _ _ (set8 (w1.alloc (.cells #[.string ⟨#[97, 47, 111]⟩, .string ⟨#[102]⟩, .int .i64 1, .int .i64 0, .int .i64 3] 60)) w.heap.size (.int .i64 1) (.int .i64 0) (.string ⟨#[0, 0, 13]⟩) (.slice (some ⟨w1.heap.size, 0, none⟩) 1 1) (.slice none 0 0) (.slice none 0 0) (.slice none 0 0) (.slice none 0 0))
  generalize (set8 (w1.alloc (.cells #[.string ⟨#[97, 47, 111]⟩, .string ⟨#[102]⟩, .int .i64 1, .int .i64 0, .int .i64 3] 60)) w.heap.size (.int .i64 1) (.int .i64 0) (.string ⟨#[0, 0, 13]⟩) (.slice (some ⟨w1.heap.size, 0, none⟩) 1 1) (.slice none 0 0) (.slice none 0 0) (.slice none 0 0) (.slice none 0 0)) = wZ at *
  have e0 := YZ.out.cell' 0 _ rfl
  have e1 := YZ.out.cell' 1 _ rfl
  have e2 := YZ.out.cell' 2 _ rfl
  have e3 := YZ.out.cell' 3 _ rfl
  have e4 := YZ.out.cell' 4 _ rfl
  have e5 := YZ.out.cell' 5 _ rfl
  have e6 := YZ.out.cell' 6 _ rfl
  have e7 := YZ.out.cell' 7 _ rfl
  exact bodyPost_ret (v := .agg #[.int .i64 1, .int .i64 0, .string ⟨#[0, 0, 13]⟩, .slice (some ⟨w1.heap.size, 0, none⟩) 1 1, .slice none 0 0, .slice none 0 0, .slice none 0 0, .slice none 0 0]) (by simp [results, Tryz.results36, go_sem, e0, e1, e2, e3, e4, e5, e6, e7]) rfl ⟨⟨_, rfl, HB.out⟩, NZ.out⟩
/-! ### the calls of awake -/
abbrev eN : Array Value := #[.string ⟨#[110]⟩, .string ⟨#[116]⟩]
theorem aw_enc (h : BH) (w : World) (hr : BRd w exB h) (hE : Env w) : Calls Tryz.prog 12 #[.agg (eC h)] w fun e w' => e = .returned (.tuple #[.string (S exL), .int .i64 0]) ∧ New w w' := by
  have := encode_any exB h w hr ex_szb ex_szx hE
  rw [ex_encV] at this
  exact this
theorem aw_dec (w : World) (hE : Env w) : Calls Tryz.prog 16 #[.string (S exL)] w fun e w' => (∃ h, e = .returned (.tuple #[.agg (eC h), .int .i64 0]) ∧ BRd w' exB h) ∧ New w w' := by
  refine (decode_any (S exL) w hE (by rw [size_S]; decide)).mono ?_
  rintro e w' ⟨⟨h, he, hr⟩, hn⟩
  rw [data_S] at he hr
  have h1 : decBn exL = exB := by unfold decBn; rw [ex_dec]; rfl
  have h2 : decE exL = 0 := by unfold decE; rw [ex_dec]; rfl
  rw [h1, h2] at he
  rw [h1] at hr
  exact ⟨⟨h, he, hr⟩, hn⟩
theorem aw_att (h : BH) (w : World) (hr : BRd w exB h) (hE : Env w) : Calls Tryz.prog 19 #[.agg (eC h), .agg eN] w fun e w' => (∃ h', e = .returned (.tuple #[.agg (eD h'), .int .i64 0]) ∧ BRd w' exN h') ∧ New w w' := by
  refine (attach_any exB h ⟨⟨#[110]⟩, ⟨#[116]⟩⟩ w hr ex_szb hE (by decide)).mono ?_
  rintro e w' ⟨⟨h', he, hr'⟩, hn⟩
  rw [ex_att] at he hr'
  exact ⟨⟨h', he, hr'⟩, hn⟩
theorem aw_note (h : BH) (w : World) (hr : BRd w exN h) : Calls Tryz.prog 23 #[.agg (eD h), .string ⟨#[110]⟩] w fun e w' => e = .returned (.tuple #[.string ⟨#[116]⟩, .bool true]) ∧ New w w' := by
  have := note_any exN h ⟨#[110]⟩ w hr (by decide)
  rw [ex_note] at this
  exact this
theorem aw_strip (h : BH) (w : World) (hr : BRd w exN h) (hE : Env w) : Calls Tryz.prog 21 #[.agg (eD h)] w fun e w' => (∃ h', e = .returned (.tuple #[.agg (eC h'), .int .i64 0]) ∧ BRd w' exB h') ∧ New w w' := by
  refine (strip_any exN h w hr exN_szb hE).mono ?_
  rintro e w' ⟨⟨h', he, hr'⟩, hn⟩
  have h2 : chkE exN = 0 := by unfold chkE; rw [exN_check]; rfl
  rw [ex_strip, h2] at he
  rw [ex_strip] at hr'
  exact ⟨⟨h', he, hr'⟩, hn⟩
theorem aw_at3 (h : BH) (w : World) (hr : BRd w exB h) : Calls Tryz.prog 25 #[.agg (eC h), .int .i64 3] w fun e w' => e = .returned (.tuple #[.int .i64 0, .bool false]) ∧ New w w' := by
  have := at_any exB h 3 w hr (by unfold W64; decide) ex_wfp (by decide)
  rw [ex_at3] at this
  exact this
theorem aw_at2 (h : BH) (w : World) (hr : BRd w exB h) : Calls Tryz.prog 25 #[.agg (eC h), .int .i64 2] w fun e w' => e = .returned (.tuple #[.int .i64 0, .bool true]) ∧ New w w' := by
  have := at_any exB h 2 w hr (by unfold W64; decide) ex_wfp (by decide)
  rw [ex_at2] at this
  exact this
theorem aw_plain (h : BH) (w : World) (hr : BRd w exB h) (hE : Env w) : Calls Tryz.prog 27 #[.agg (eC h), .int .i64 0] w fun e w' => e = .returned (.tuple #[.string ⟨#[0, 0, 13]⟩, .int .i64 0]) ∧ New w w' := by
  have := plain_any exB h 0 w hr ex_szb hE (by unfold W64; decide)
  rw [ex_plain] at this
  exact this
theorem aw_same (h h2 : BH) (w : World) (hr : BRd w exB h) (hr2 : BRd w exB h2) : Calls Tryz.prog 18 #[.agg (eC h), .agg (eC h2)] w fun e w' => e = .returned (.bool true) ∧ New w w' :=
  same_self exB h h2 w hr hr2 (by decide) (by decide) (by decide) (by decide) (by decide)
theorem aw_check (h : BH) (w : World) (hr : BRd w exB h) (hE : Env w) : Calls Tryz.prog 14 #[.agg (eC h)] w fun e w' => e = .returned (.int .i64 0) ∧ New w w' := by
  have := check_any exB h w hr ex_szb hE
  have h2 : chkE exB = 0 := by unfold chkE; rw [ex_check]; rfl
  rw [h2] at this
  exact this
theorem aw_zero (w : World) (hE : Env w) : Calls Tryz.prog 14 #[.agg #[.int .i64 0, .int .i64 0, .string ⟨#[]⟩, .slice none 0 0, .slice none 0 0, .slice none 0 0, .slice none 0 0, .slice none 0 0]] w fun e w' => e = .returned (.int .i64 1) ∧ New w w' := by
  have := check_any zB zH w (zRd w) zB_szb hE
  have h2 : chkE zB = 1 := by unfold chkE; rw [zB_check]; rfl
  rw [h2] at this
  exact this
set_option maxRecDepth 100000 in
set_option maxHeartbeats 16000000 in
theorem awake_any (w : World) (hE : Env w) : Calls Tryz.prog 10 #[] w fun e w' => e = .returned (.bool true) ∧ New w w' := by
  have hS : ((S exL).toList == [54, 58, 98, 105, 110, 97, 114, 121, 44, 49, 59, 49, 59, 51, 58, 0, 0, 13, 44, 49, 59, 51, 58, 97, 47, 111, 44, 49, 58, 102, 44, 49, 59, 48, 59, 51, 59, 48, 59, 48, 59, 48, 59, 48, 59]) = true := by rw [toList_eq, data_S]; rfl
  have HE := Lib.hid hE
  have HENC := Lib.hid aw_enc
  have HDEC := Lib.hid aw_dec
  generalize S exL = sx at *
  clear hE
  go_enter Tryz.func10, Tryz.ntmps10
  go_wp2_with (fail)
  with_reducible refine (example_any _).mono ?_
  rintro e w1 ⟨⟨⟨A1, C1, A2, C2, A3, C3, A4, C4, A5, C5⟩, rfl, r1⟩, n1⟩
  have R1 := Lib.hid (r1.new ((New.refl _).alloc (.cells #[.int .i64 1, .int .i64 0, .string ⟨#[0, 0, 13]⟩, .slice A1 1 C1, .slice A2 0 C2, .slice A3 0 C3, .slice A4 0 C4, .slice A5 0 C5] 28)))
  have B1 := Blk.made w1 28 #[.int .i64 1, .int .i64 0, .string ⟨#[0, 0, 13]⟩, .slice A1 1 C1, .slice A2 0 C2, .slice A3 0 C3, .slice A4 0 C4, .slice A5 0 C5]
  have N1 := Lib.hid (n1.alloc (.cells #[.int .i64 1, .int .i64 0, .string ⟨#[0, 0, 13]⟩, .slice A1 1 C1, .slice A2 0 C2, .slice A3 0 C3, .slice A4 0 C4, .slice A5 0 C5] 28))
  have E1 := Lib.hid (HE.out.new N1.out)
  clear r1 n1
  have x0 := B1.cell' 0 _ rfl
  have x1 := B1.cell' 1 _ rfl
  have x2 := B1.cell' 2 _ rfl
  have x3 := B1.cell' 3 _ rfl
  have x4 := B1.cell' 4 _ rfl
  have x5 := B1.cell' 5 _ rfl
  have x6 := B1.cell' 6 _ rfl
  have x7 := B1.cell' 7 _ rfl
  go_wp2_with (fail)
  with_reducible refine (HENC.out ⟨A1, C1, A2, C2, A3, C3, A4, C4, A5, C5⟩ _ R1.out E1.out).mono ?_
  rintro e w2 ⟨rfl, n2⟩
  have N2 := Lib.hid (N1.out.trans n2)
  have E2 := Lib.hid (HE.out.new N2.out)
  have R2 := Lib.hid (R1.out.new n2)
  have B2 := B1.new n2
  clear n2
  go_wp2_with (fail)
  with_reducible refine (HDEC.out _ E2.out).mono ?_
  rintro e w3 ⟨⟨⟨D1, K1, D2, K2, D3, K3, D4, K4, D5, K5⟩, rfl, r3⟩, n3⟩
  have a3 := (New.refl w3).alloc (.cells #[.int .i64 1, .int .i64 0, .string ⟨#[0, 0, 13]⟩, .slice D1 1 K1, .slice D2 0 K2, .slice D3 0 K3, .slice D4 0 K4, .slice D5 0 K5] 28)
  have N3 := Lib.hid ((N2.out.trans n3).trans a3)
  have E3 := Lib.hid (HE.out.new N3.out)
  have R3 := Lib.hid ((R2.out.new n3).new a3)
  have B3 := (B2.new n3).new a3
  have RD3 := Lib.hid (r3.new a3)
  have QD3 := Blk.made w3 28 #[.int .i64 1, .int .i64 0, .string ⟨#[0, 0, 13]⟩, .slice D1 1 K1, .slice D2 0 K2, .slice D3 0 K3, .slice D4 0 K4, .slice D5 0 K5]
  clear r3 n3 a3
  have xa0 := B3.cell' 0 _ rfl
  have xa1 := B3.cell' 1 _ rfl
  have xa2 := B3.cell' 2 _ rfl
  have xa3 := B3.cell' 3 _ rfl
  have xa4 := B3.cell' 4 _ rfl
  have xa5 := B3.cell' 5 _ rfl
  have xa6 := B3.cell' 6 _ rfl
  have xa7 := B3.cell' 7 _ rfl
  go_wp2_with (fail)
  with_reducible refine (aw_att ⟨A1, C1, A2, C2, A3, C3, A4, C4, A5, C5⟩ _ R3.out E3.out).mono ?_
  rintro e w4 ⟨⟨⟨F1, G1, F2, G2, F3, G3, F4, G4, F5, G5⟩, rfl, r4⟩, n4⟩
  have a4 := (New.refl w4).alloc (.cells #[.int .i64 1, .int .i64 0, .string ⟨#[0, 0, 13]⟩, .slice F1 1 G1, .slice F2 0 G2, .slice F3 0 G3, .slice F4 0 G4, .slice F5 1 G5] 28)
  have m4 := n4.trans a4
  have N4 := Lib.hid (N3.out.trans m4)
  have E4 := Lib.hid (HE.out.new N4.out)
  have R4 := Lib.hid (R3.out.new m4)
  have B4 := B3.new m4
  have RD4 := Lib.hid (RD3.out.new m4)
  have QD4 := QD3.new m4
  have RF4 := Lib.hid (r4.new a4)
  have QF4 := Blk.made w4 28 #[.int .i64 1, .int .i64 0, .string ⟨#[0, 0, 13]⟩, .slice F1 1 G1, .slice F2 0 G2, .slice F3 0 G3, .slice F4 0 G4, .slice F5 1 G5]
  clear r4 n4 a4 m4
  have f0 := QF4.cell' 0 _ rfl
  have f1 := QF4.cell' 1 _ rfl
  have f2 := QF4.cell' 2 _ rfl
  have f3 := QF4.cell' 3 _ rfl
  have f4 := QF4.cell' 4 _ rfl
  have f5 := QF4.cell' 5 _ rfl
  have f6 := QF4.cell' 6 _ rfl
  have f7 := QF4.cell' 7 _ rfl
  go_wp2_with (fail)
  with_reducible refine (aw_note ⟨F1, G1, F2, G2, F3, G3, F4, G4, F5, G5⟩ _ RF4.out).mono ?_
  rintro e w5 ⟨rfl, n5⟩
  have N5 := Lib.hid (N4.out.trans n5)
  have E5 := Lib.hid (HE.out.new N5.out)
  have R5 := Lib.hid (R4.out.new n5)
  have B5 := B4.new n5
  have RD5 := Lib.hid (RD4.out.new n5)
  have QD5 := QD4.new n5
  have RF5 := Lib.hid (RF4.out.new n5)
  have QF5 := QF4.new n5
  clear n5
  have fa0 := QF5.cell' 0 _ rfl
  have fa1 := QF5.cell' 1 _ rfl
  have fa2 := QF5.cell' 2 _ rfl
  have fa3 := QF5.cell' 3 _ rfl
  have fa4 := QF5.cell' 4 _ rfl
  have fa5 := QF5.cell' 5 _ rfl
  have fa6 := QF5.cell' 6 _ rfl
  have fa7 := QF5.cell' 7 _ rfl
  go_wp2_with (fail)
  with_reducible refine (aw_strip ⟨F1, G1, F2, G2, F3, G3, F4, G4, F5, G5⟩ _ RF5.out E5.out).mono ?_
  rintro e w6 ⟨⟨⟨H1, I1, H2, I2, H3, I3, H4, I4, H5, I5⟩, rfl, r6⟩, n6⟩
  have a6 := (New.refl w6).alloc (.cells #[.int .i64 1, .int .i64 0, .string ⟨#[0, 0, 13]⟩, .slice H1 1 I1, .slice H2 0 I2, .slice H3 0 I3, .slice H4 0 I4, .slice H5 0 I5] 28)
  have m6 := n6.trans a6
  have N6 := Lib.hid (N5.out.trans m6)
  have E6 := Lib.hid (HE.out.new N6.out)
  have R6 := Lib.hid (R5.out.new m6)
  have B6 := B5.new m6
  have RD6 := Lib.hid (RD5.out.new m6)
  have QD6 := QD5.new m6
  have RH6 := Lib.hid (r6.new a6)
  have QH6 := Blk.made w6 28 #[.int .i64 1, .int .i64 0, .string ⟨#[0, 0, 13]⟩, .slice H1 1 I1, .slice H2 0 I2, .slice H3 0 I3, .slice H4 0 I4, .slice H5 0 I5]
  clear r6 n6 a6 m6
  have xb0 := B6.cell' 0 _ rfl
  have xb1 := B6.cell' 1 _ rfl
  have xb2 := B6.cell' 2 _ rfl
  have xb3 := B6.cell' 3 _ rfl
  have xb4 := B6.cell' 4 _ rfl
  have xb5 := B6.cell' 5 _ rfl
  have xb6 := B6.cell' 6 _ rfl
  have xb7 := B6.cell' 7 _ rfl
  go_wp2_with (fail)
  with_reducible refine (aw_at3 ⟨A1, C1, A2, C2, A3, C3, A4, C4, A5, C5⟩ _ R6.out).mono ?_
  rintro e w7 ⟨rfl, n7⟩
  have N7 := Lib.hid (N6.out.trans n7)
  have E7 := Lib.hid (HE.out.new N7.out)
  have R7 := Lib.hid (R6.out.new n7)
  have B7 := B6.new n7
  have RD7 := Lib.hid (RD6.out.new n7)
  have QD7 := QD6.new n7
  have RH7 := Lib.hid (RH6.out.new n7)
  have QH7 := QH6.new n7
  clear n7
  have xc0 := B7.cell' 0 _ rfl
  have xc1 := B7.cell' 1 _ rfl
  have xc2 := B7.cell' 2 _ rfl
  have xc3 := B7.cell' 3 _ rfl
  have xc4 := B7.cell' 4 _ rfl
  have xc5 := B7.cell' 5 _ rfl
  have xc6 := B7.cell' 6 _ rfl
  have xc7 := B7.cell' 7 _ rfl
  go_wp2_with (fail)
  with_reducible refine (aw_at2 ⟨A1, C1, A2, C2, A3, C3, A4, C4, A5, C5⟩ _ R7.out).mono ?_
  rintro e w8 ⟨rfl, n8⟩
  have N8 := Lib.hid (N7.out.trans n8)
  have E8 := Lib.hid (HE.out.new N8.out)
  have R8 := Lib.hid (R7.out.new n8)
  have B8 := B7.new n8
  have RD8 := Lib.hid (RD7.out.new n8)
  have QD8 := QD7.new n8
  have RH8 := Lib.hid (RH7.out.new n8)
  have QH8 := QH7.new n8
  clear n8
  have xd0 := B8.cell' 0 _ rfl
  have xd1 := B8.cell' 1 _ rfl
  have xd2 := B8.cell' 2 _ rfl
  have xd3 := B8.cell' 3 _ rfl
  have xd4 := B8.cell' 4 _ rfl
  have xd5 := B8.cell' 5 _ rfl
  have xd6 := B8.cell' 6 _ rfl
  have xd7 := B8.cell' 7 _ rfl
  go_wp2_with (fail)
  with_reducible refine (aw_plain ⟨A1, C1, A2, C2, A3, C3, A4, C4, A5, C5⟩ _ R8.out E8.out).mono ?_
  rintro e w9 ⟨rfl, n9⟩
  have N9 := Lib.hid (N8.out.trans n9)
  have E9 := Lib.hid (HE.out.new N9.out)
  have R9 := Lib.hid (R8.out.new n9)
  have B9 := B8.new n9
  have RD9 := Lib.hid (RD8.out.new n9)
  have QD9 := QD8.new n9
  have RH9 := Lib.hid (RH8.out.new n9)
  have QH9 := QH8.new n9
  clear n9
  have xe0 := B9.cell' 0 _ rfl
  have xe1 := B9.cell' 1 _ rfl
  have xe2 := B9.cell' 2 _ rfl
  have xe3 := B9.cell' 3 _ rfl
  have xe4 := B9.cell' 4 _ rfl
  have xe5 := B9.cell' 5 _ rfl
  have xe6 := B9.cell' 6 _ rfl
  have xe7 := B9.cell' 7 _ rfl
  have da0 := QD9.cell' 0 _ rfl
  have da1 := QD9.cell' 1 _ rfl
  have da2 := QD9.cell' 2 _ rfl
  have da3 := QD9.cell' 3 _ rfl
  have da4 := QD9.cell' 4 _ rfl
  have da5 := QD9.cell' 5 _ rfl
  have da6 := QD9.cell' 6 _ rfl
  have da7 := QD9.cell' 7 _ rfl
  have ha0 := QH9.cell' 0 _ rfl
  have ha1 := QH9.cell' 1 _ rfl
  have ha2 := QH9.cell' 2 _ rfl
  have ha3 := QH9.cell' 3 _ rfl
  have ha4 := QH9.cell' 4 _ rfl
  have ha5 := QH9.cell' 5 _ rfl
  have ha6 := QH9.cell' 6 _ rfl
  have ha7 := QH9.cell' 7 _ rfl
  clear x0 xa0 xb0 xc0 xd0 f0 fa0 x1 xa1 xb1 xc1 xd1 f1 fa1 x2 xa2 xb2 xc2 xd2 f2 fa2 x3 xa3 xb3 xc3 xd3 f3 fa3 x4 xa4 xb4 xc4 xd4 f4 fa4 x5 xa5 xb5 xc5 xd5 f5 fa5 x6 xa6 xb6 xc6 xd6 f6 fa6 x7 xa7 xb7 xc7 xd7 f7 fa7
  go_wp2_with (fail)
  with_reducible refine (aw_same ⟨A1, C1, A2, C2, A3, C3, A4, C4, A5, C5⟩ ⟨D1, K1, D2, K2, D3, K3, D4, K4, D5, K5⟩ _ R9.out RD9.out).mono ?_
  rintro e w10 ⟨rfl, n10⟩
  have N10 := Lib.hid (N9.out.trans n10)
  have E10 := Lib.hid (HE.out.new N10.out)
  have R10 := Lib.hid (R9.out.new n10)
  have B10 := B9.new n10
  have RD10 := Lib.hid (RD9.out.new n10)
  have QD10 := QD9.new n10
  have RH10 := Lib.hid (RH9.out.new n10)
  have QH10 := QH9.new n10
  clear n10
  clear xe0 da0 ha0 xe1 da1 ha1 xe2 da2 ha2 xe3 da3 ha3 xe4 da4 ha4 xe5 da5 ha5 xe6 da6 ha6 xe7 da7 ha7
  have xf0 := B10.cell' 0 _ rfl
  have xf1 := B10.cell' 1 _ rfl
  have xf2 := B10.cell' 2 _ rfl
  have xf3 := B10.cell' 3 _ rfl
  have xf4 := B10.cell' 4 _ rfl
  have xf5 := B10.cell' 5 _ rfl
  have xf6 := B10.cell' 6 _ rfl
  have xf7 := B10.cell' 7 _ rfl
  have hb0 := QH10.cell' 0 _ rfl
  have hb1 := QH10.cell' 1 _ rfl
  have hb2 := QH10.cell' 2 _ rfl
  have hb3 := QH10.cell' 3 _ rfl
  have hb4 := QH10.cell' 4 _ rfl
  have hb5 := QH10.cell' 5 _ rfl
  have hb6 := QH10.cell' 6 _ rfl
  have hb7 := QH10.cell' 7 _ rfl
  go_wp2_with (fail)
  with_reducible refine (aw_same ⟨H1, I1, H2, I2, H3, I3, H4, I4, H5, I5⟩ ⟨A1, C1, A2, C2, A3, C3, A4, C4, A5, C5⟩ _ RH10.out R10.out).mono ?_
  rintro e w11 ⟨rfl, n11⟩
  have N11 := Lib.hid (N10.out.trans n11)
  have E11 := Lib.hid (HE.out.new N11.out)
  have R11 := Lib.hid (R10.out.new n11)
  have B11 := B10.new n11
  have RD11 := Lib.hid (RD10.out.new n11)
  have QD11 := QD10.new n11
  have RH11 := Lib.hid (RH10.out.new n11)
  have QH11 := QH10.new n11
  clear n11
  clear xf0 hb0 xf1 hb1 xf2 hb2 xf3 hb3 xf4 hb4 xf5 hb5 xf6 hb6 xf7 hb7
  have xg0 := B11.cell' 0 _ rfl
  have xg1 := B11.cell' 1 _ rfl
  have xg2 := B11.cell' 2 _ rfl
  have xg3 := B11.cell' 3 _ rfl
  have xg4 := B11.cell' 4 _ rfl
  have xg5 := B11.cell' 5 _ rfl
  have xg6 := B11.cell' 6 _ rfl
  have xg7 := B11.cell' 7 _ rfl
  go_wp2_with (fail)
  with_reducible refine (aw_check ⟨A1, C1, A2, C2, A3, C3, A4, C4, A5, C5⟩ _ R11.out E11.out).mono ?_
  rintro e w12 ⟨rfl, n12⟩
  have N12 := Lib.hid (N11.out.trans n12)
  have E12 := Lib.hid (HE.out.new N12.out)
  have R12 := Lib.hid (R11.out.new n12)
  have B12 := B11.new n12
  have RD12 := Lib.hid (RD11.out.new n12)
  have QD12 := QD11.new n12
  have RH12 := Lib.hid (RH11.out.new n12)
  have QH12 := QH11.new n12
  clear n12
  go_wp2_with (fail)
  with_reducible refine (aw_zero _ E12.out).mono ?_
  rintro e w13 ⟨rfl, n13⟩
  have N13 := Lib.hid (N12.out.trans n13)
  clear n13
  go_wp2
  go_ret
  exact ⟨rfl, N13.out⟩
end Go.Proofs.YtnknmpcgbfmfjaaGreatDoor

