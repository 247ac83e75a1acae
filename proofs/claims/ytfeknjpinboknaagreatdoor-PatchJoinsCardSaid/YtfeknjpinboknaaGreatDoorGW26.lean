/- The examples of awake, and awake: it answers true. No conditions but the world's. awake answers true. No conditions but the world's. -/
import Derived.Test.YtfeknjpinboknaaGreatDoorGW25
import Derived.Test.YtfeknjpinboknaaGreatDoorGW8
import Derived.Test.YtfeknjpinboknaaGreatDoorGW9

namespace Go.Proofs.YtfeknjpinboknaaGreatDoor
open Go Go.RowKit Go.Joins Go.Shelf
set_option linter.unusedSimpArgs false
set_option linter.unusedVariables false

def exL1 : List Hk := [⟨1, 1, []⟩, ⟨2, 1, []⟩, ⟨3, 2, [⟨#[120]⟩, ⟨#[121]⟩]⟩]
def exL2 : List Hk := [⟨1, 1, []⟩, ⟨2, 2, []⟩, ⟨3, 1, [⟨#[98]⟩]⟩]
def exL3 : List Hk := [⟨2, 1, []⟩, ⟨1, 2, []⟩, ⟨3, 1, [⟨#[100]⟩]⟩]
abbrev exT1 : ByteArray := ⟨#[107, 101, 101, 112, 32, 49, 10, 100, 114, 111, 112, 32, 49, 10, 97, 100, 100, 32, 50, 10, 120, 10, 121]⟩
abbrev exT2 : ByteArray := ⟨#[107, 101, 101, 112, 32, 49, 10, 100, 114, 111, 112, 32, 50, 10, 97, 100, 100, 32, 49, 10, 98]⟩
abbrev exT3 : ByteArray := ⟨#[100, 114, 111, 112, 32, 49, 10, 107, 101, 101, 112, 32, 50, 10, 97, 100, 100, 32, 49, 10, 100]⟩
abbrev exT4 : ByteArray := ⟨#[97, 100, 100, 32, 49, 10, 120, 10, 100, 114, 111, 112, 32, 49]⟩
theorem ex_v1 : validV ⟨#[]⟩ exL1 = true := by decide +kernel
theorem ex_v2 : validV ⟨#[]⟩ exL2 = true := by decide +kernel
theorem ex_v3 : validV ⟨#[]⟩ exL3 = true := by decide +kernel
theorem ex_t1 : textV ⟨#[]⟩ exL1 = exT1 := by decide +kernel
theorem ex_t2 : textV ⟨#[]⟩ exL2 = exT2 := by decide +kernel
theorem ex_t3 : textV ⟨#[]⟩ exL3 = exT3 := by decide +kernel
theorem ex_p1 : parseV exT1 = some (⟨#[]⟩, exL1) := by rw [← ex_t1]; exact parse_compl ex_v1
theorem ex_p4 : (parseV exT4).isNone = true := by decide +kernel
theorem ex_l4 : linesE exT4 = 0 := by decide +kernel
theorem ex_ab : parts 10 ⟨#[97, 10, 98]⟩ = [⟨#[97]⟩, ⟨#[98]⟩] := by decide +kernel
def noSum : ByteArray → ByteArray := fun _ => ⟨#[]⟩
theorem ex_ae : appE noSum ⟨#[]⟩ exL1 ⟨#[97, 10, 98]⟩ = 0 := by decide +kernel
theorem ex_at : appT noSum ⟨#[]⟩ exL1 ⟨#[97, 10, 98]⟩ = ⟨#[97, 10, 120, 10, 121]⟩ := by decide +kernel
theorem ex_inv : invL ⟨#[97, 10, 98]⟩ exL1 = exL2 := by rfl
theorem ex_tr : (trO ⟨#[]⟩ exL1).1 = [(0, -1), (-1, 3), (-1, 4)] := by decide +kernel
theorem ex_mk : mkL ⟨#[97, 10, 98, 10, 99]⟩ ⟨#[98, 10, 99, 10, 100]⟩ = exL3 := by rfl
theorem ex_ml : linesE ⟨#[97, 10, 98, 10, 99]⟩ = 0 ∧ linesE ⟨#[98, 10, 99, 10, 100]⟩ = 0 := by decide +kernel
def Ex (w : World) (v : Value) (L : List Hk) : Prop := ∃ A c hs, v = .agg #[.string ⟨#[]⟩, .slice A 3 c] ∧ PRd w A 3 hs ∧ hs.map Hm.d = L ∧ SzH hs
theorem szh_ex {hs : List Hm} {L : List Hk} (hm : hs.map Hm.d = L) (hL : SzK L) (hl : L.length ≤ 100000) : SzH hs := SzK.szh (by rw [hm]; exact hL) (by rw [← hm, List.length_map] at hl; exact hl)
theorem aw_parse (w : World) (hE : Env w) : Calls Tryz.prog 17 #[.string exT1] w fun e w' => ∃ A c hs, e = .returned (.tuple #[.agg #[.string ⟨#[]⟩, .slice A 3 c], .int .i64 0]) ∧ PRd w' A 3 hs ∧ hs.map Hm.d = exL1 ∧ SzH hs ∧ New w w' := by
  refine (parse_any exT1 w (by decide) hE).mono ?_
  rintro e w' ⟨hn, h⟩
  rw [ex_p1] at h
  obtain ⟨A, c, hs, he, hp, hm, hc⟩ := h
  have hl : hs.length = 3 := by have := congrArg List.length hm; rw [List.length_map] at this; exact this
  rw [hl] at he hp
  exact ⟨A, c, hs, he, hp, hm, szh_ex hm (by unfold SzK; decide +kernel) (by decide), hn⟩
theorem aw_none (w : World) (hE : Env w) : Calls Tryz.prog 17 #[.string exT4] w fun e w' => e = .returned (.tuple #[.agg #[.string ⟨#[]⟩, .slice none 0 0], .int .i64 4]) ∧ New w w' := by
  refine (parse_any exT4 w (by decide) hE).mono ?_
  rintro e w' ⟨hn, h⟩
  have h4 : parseV exT4 = none := Option.isNone_iff_eq_none.1 ex_p4
  rw [h4] at h
  rw [ex_l4] at h
  exact ⟨h, hn⟩
theorem aw_apply {A : Option Addr} {c : Nat} {hs : List Hm} (w : World) (hr : PRd w A 3 hs) (hm : hs.map Hm.d = exL1) (hz : SzH hs) (hE : Env w) : Calls Tryz.prog 21 #[.agg #[.string ⟨#[]⟩, .slice A 3 c], .string ⟨#[97, 10, 98]⟩] w fun e w' => e = .returned (.tuple #[.string ⟨#[97, 10, 120, 10, 121]⟩, .int .i64 0]) ∧ New w w' := by
  have := applyT_any noSum ⟨#[]⟩ A 3 c hs ⟨#[97, 10, 98]⟩ w hr hz (by decide) (by decide) hE (Or.inl rfl)
  rw [hm, ex_ae, ex_at] at this
  exact this
theorem aw_trace {A : Option Addr} {c : Nat} {hs : List Hm} (w : World) (hr : PRd w A 3 hs) (hm : hs.map Hm.d = exL1) (hz : SzH hs) (hE : Env w) : Calls Tryz.prog 23 #[.agg #[.string ⟨#[]⟩, .slice A 3 c], .int .i64 2] w fun e w' => ∃ A' c', e = .returned (.tuple #[.slice A' 3 c', .int .i64 0]) ∧ Rd w' 2 A' 3 ([((0 : Int), (-1 : Int)), (-1, 3), (-1, 4)].flatMap plC) ∧ New w w' := by
  refine (show Calls Tryz.prog 23 #[.agg #[.string ⟨#[]⟩, .slice A 3 c], .int .i64 2] w _ from ptrace_any ⟨#[]⟩ A 3 c hs 2 w hr hz (by decide) hE).mono ?_
  rintro e w' ⟨hn, h⟩
  rw [hm, if_pos ⟨ex_v1, by decide +kernel⟩, ex_tr] at h
  obtain ⟨A', c', he, h1, _⟩ := h
  exact ⟨A', c', he, h1, hn⟩
theorem aw_inv {A : Option Addr} {c : Nat} {hs : List Hm} (w : World) (hr : PRd w A 3 hs) (hm : hs.map Hm.d = exL1) (hz : SzH hs) (hE : Env w) : Calls Tryz.prog 25 #[.agg #[.string ⟨#[]⟩, .slice A 3 c], .string ⟨#[97, 10, 98]⟩] w fun e w' => ∃ A c hs, e = .returned (.tuple #[.agg #[.string ⟨#[]⟩, .slice A 3 c], .int .i64 0]) ∧ PRd w' A 3 hs ∧ hs.map Hm.d = exL2 ∧ SzH hs ∧ New w w' := by
  refine (invert_any noSum ⟨#[]⟩ A 3 c hs ⟨#[97, 10, 98]⟩ w hr hz (by decide) (by decide) hE (Or.inl rfl)).mono ?_
  intro e w' h
  rw [InvP, hm, if_pos ex_ae, ex_inv] at h
  obtain ⟨hn, h⟩ := h
  rw [show newB noSum ⟨#[]⟩ _ = ⟨#[]⟩ from rfl, if_pos ex_v2] at h
  obtain ⟨A', c', hs', he, hp, _, _, hm'⟩ := h
  have hl : hs'.length = 3 := by have := congrArg List.length hm'; rw [List.length_map] at this; exact this
  rw [hl] at he hp
  exact ⟨A', c', hs', he, hp, hm', szh_ex hm' (by unfold SzK; decide +kernel) (by decide), hn⟩
theorem aw_make (w : World) (hE : Env w) : Calls Tryz.prog 28 #[.string ⟨#[97, 10, 98, 10, 99]⟩, .string ⟨#[98, 10, 99, 10, 100]⟩] w fun e w' => ∃ A c hs, e = .returned (.tuple #[.agg #[.string ⟨#[]⟩, .slice A 3 c], .int .i64 0]) ∧ PRd w' A 3 hs ∧ hs.map Hm.d = exL3 ∧ SzH hs ∧ New w w' := by
  refine (make_any ⟨#[97, 10, 98, 10, 99]⟩ ⟨#[98, 10, 99, 10, 100]⟩ w (by decide) (by decide) hE).mono ?_
  intro e w' h
  rw [MkP, if_pos ex_ml, ex_mk] at h
  obtain ⟨hn, h⟩ := h
  rw [if_pos ex_v3] at h
  obtain ⟨A', c', hs', he, hp, _, _, hm'⟩ := h
  have hl : hs'.length = 3 := by have := congrArg List.length hm'; rw [List.length_map] at this; exact this
  rw [hl] at he hp
  exact ⟨A', c', hs', he, hp, hm', szh_ex hm' (by unfold SzK; decide +kernel) (by decide), hn⟩
theorem aw_print {A : Option Addr} {c : Nat} {hs : List Hm} {L : List Hk} {T : ByteArray} (w : World) (hr : PRd w A 3 hs) (hm : hs.map Hm.d = L) (hz : SzH hs) (hE : Env w) (hv : validV ⟨#[]⟩ L = true) (hT : textV ⟨#[]⟩ L = T) : Calls Tryz.prog 13 #[.agg #[.string ⟨#[]⟩, .slice A 3 c]] w fun e w' => e = .returned (.tuple #[.string T, .int .i64 0]) ∧ New w w' := by
  have := print_any ⟨#[]⟩ A 3 c hs w hr hz (by decide) hE
  rw [hm] at this
  rw [show chkT ⟨#[]⟩ L = T by unfold chkT; rw [hv]; simpa using hT, show errV ⟨#[]⟩ L = 0 by unfold errV; rw [hv]; rfl] at this
  exact this
theorem aw_cost {A : Option Addr} {c : Nat} {hs : List Hm} (w : World) (hr : PRd w A 3 hs) (hm : hs.map Hm.d = exL3) (hz : SzH hs) (hE : Env w) : Calls Tryz.prog 15 #[.agg #[.string ⟨#[]⟩, .slice A 3 c]] w fun e w' => e = .returned (.tuple #[.int .i64 2, .int .i64 0]) ∧ New w w' := by
  have := cost_any ⟨#[]⟩ A 3 c hs w hr hz (by decide) hE
  rw [hm, show costV ⟨#[]⟩ exL3 = 2 by decide +kernel, show errV ⟨#[]⟩ exL3 = 0 by decide +kernel] at this
  exact this
end Go.Proofs.YtfeknjpinboknaaGreatDoor

namespace Go.Proofs.YtfeknjpinboknaaGreatDoor
open Go Go.RowKit Go.Joins Go.Shelf
set_option linter.unusedSimpArgs false
set_option linter.unusedVariables false

theorem blk_rd2 {w : World} {g : Nat} {t : TypeId} {cs : Array Value} (B : Blk w g t cs) (size n : Nat) (h : cs.toList.length = n * size) : Rd w size (some ⟨g, 0, none⟩) n cs.toList :=
  ⟨h, fun _ => ⟨g, 0, rfl, B.lt, fun j u hu => B.cell' (0 + j) u (by rw [Nat.zero_add]; simpa using hu)⟩⟩
set_option maxRecDepth 100000 in
set_option maxHeartbeats 16000000 in
theorem awake_any (w : World) (hE : Env w) : Calls Tryz.prog 11 #[] w fun e w' => e = .returned (.bool true) ∧ New w w' := by
  have HE := Lib.hid hE
  clear hE
  go_enter Tryz.func11, Tryz.ntmps11
  go_wp2_with (fail)
  with_reducible refine (aw_parse _ HE.out).mono ?_
  rintro e w1 ⟨A, c, hs, rfl, p1, m1, z1, n1⟩
  have HP := Lib.hid (p1.new ((New.refl w1).alloc (.cells #[.string ⟨#[]⟩, .slice A 3 c] 24)))
  have HM := Lib.hid m1
  have HZ := Lib.hid z1
  have B1 := Blk.made w1 24 #[.string ⟨#[]⟩, .slice A 3 c]
  have nA := n1.alloc (.cells #[.string ⟨#[]⟩, .slice A 3 c] 24)
  obtain ⟨g1, hg1⟩ : ∃ g1, w1.heap.size = g1 := ⟨_, rfl⟩
  rw [hg1] at B1
  have d0 := B1.cell' 0 _ rfl
  have d1 := B1.cell' 1 _ rfl
  clear p1 m1 z1 n1
  go_wp2_with (fail)
  generalize w1.alloc (.cells #[.string ⟨#[]⟩, .slice A 3 c] 24) = wA at *
  with_reducible refine (aw_apply _ HP.out HM.out HZ.out (HE.out.new nA)).mono ?_
  rintro e w2 ⟨rfl, n2⟩
  have B2 := B1.new n2
  have nB := nA.trans n2
  clear d0 d1
  have d0 := B2.cell' 0 _ rfl
  have d1 := B2.cell' 1 _ rfl
  go_wp2_with (fail)
  with_reducible refine (aw_trace _ (HP.out.new n2) HM.out HZ.out (HE.out.new nB)).mono ?_
  rintro e w3 ⟨A3, c3, rfl, r3, n3⟩
  have HR3 := Lib.hid r3
  have B3 := B2.new n3
  have nC := nB.trans n3
  clear d0 d1 r3
  have d0 := B3.cell' 0 _ rfl
  have d1 := B3.cell' 1 _ rfl
  go_wp2_with (fail)
  with_reducible refine (aw_inv _ (HP.out.new (n2.trans n3)) HM.out HZ.out (HE.out.new nC)).mono ?_
  rintro e w4 ⟨A4, c4, hs4, rfl, p4, m4, z4, n4⟩
  have HR4 := Lib.hid (HR3.out.below (n4.alloc (.cells #[.string ⟨#[]⟩, .slice A4 3 c4] 24)))
  have HP4 := Lib.hid (p4.new ((New.refl w4).alloc (.cells #[.string ⟨#[]⟩, .slice A4 3 c4] 24)))
  have HM4 := Lib.hid m4
  have HZ4 := Lib.hid z4
  have B4 := Blk.made w4 24 #[.string ⟨#[]⟩, .slice A4 3 c4]
  have nD := (nC.trans n4).alloc (.cells #[.string ⟨#[]⟩, .slice A4 3 c4] 24)
  clear d0 d1 p4 m4 z4 n4 n3 n2 B1 B2 B3 HR3 nA nB nC
  have d0 := B4.cell' 0 _ rfl
  have d1 := B4.cell' 1 _ rfl
  go_wp2_with (fail)
  generalize w4.alloc (.cells #[.string ⟨#[]⟩, .slice A4 3 c4] 24) = wB at *
  with_reducible refine (aw_print _ HP4.out HM4.out HZ4.out (HE.out.new nD) ex_v2 ex_t2).mono ?_
  rintro e w5 ⟨rfl, n5⟩
  have nE := nD.trans n5
  clear d0 d1
  go_wp2_with (fail)
  with_reducible refine (aw_make _ (HE.out.new nE)).mono ?_
  rintro e w6 ⟨A6, c6, hs6, rfl, p6, m6, z6, n6⟩
  have HR6 := Lib.hid (HR4.out.below ((n5.trans n6).alloc (.cells #[.string ⟨#[]⟩, .slice A6 3 c6] 24)))
  have HP6 := Lib.hid (p6.new ((New.refl w6).alloc (.cells #[.string ⟨#[]⟩, .slice A6 3 c6] 24)))
  have HM6 := Lib.hid m6
  have HZ6 := Lib.hid z6
  have B6 := Blk.made w6 24 #[.string ⟨#[]⟩, .slice A6 3 c6]
  have nF := (nE.trans n6).alloc (.cells #[.string ⟨#[]⟩, .slice A6 3 c6] 24)
  have d0 := B6.cell' 0 _ rfl
  have d1 := B6.cell' 1 _ rfl
  clear p6 m6 z6 n6 n5 nD nE HR4
  go_wp2_with (fail)
  generalize w6.alloc (.cells #[.string ⟨#[]⟩, .slice A6 3 c6] 24) = wC at *
  with_reducible refine (aw_print _ HP6.out HM6.out HZ6.out (HE.out.new nF) ex_v3 ex_t3).mono ?_
  rintro e w7 ⟨rfl, n7⟩
  have B7 := B6.new n7
  have nG := nF.trans n7
  clear d0 d1
  have d0 := B7.cell' 0 _ rfl
  have d1 := B7.cell' 1 _ rfl
  go_wp2_with (fail)
  with_reducible refine (aw_cost _ (HP6.out.new n7) HM6.out HZ6.out (HE.out.new nG)).mono ?_
  rintro e w8 ⟨rfl, n8⟩
  have nH := nG.trans n8
  clear d0 d1
  go_wp2_with (fail)
  with_reducible refine (aw_none _ (HE.out.new nH)).mono ?_
  rintro e w9 ⟨rfl, n9⟩
  have HR9 := Lib.hid (HR6.out.below (((n7.trans n8).trans n9).alloc (.cells #[.string ⟨#[]⟩, .slice none 0 0] 24)))
  have nI := (nH.trans n9).alloc (.cells #[.string ⟨#[]⟩, .slice none 0 0] 24)
  clear n7 n8 n9 nF nG nH HR6
  go_wp2_with (fail)
  have HEQ := Lib.hid (eqPl_any A3 (some ⟨w9.heap.size + 1, 0, none⟩) 3 3 c3 3 [((0 : Int), (-1 : Int)), (-1, 3), (-1, 4)] [((0 : Int), (-1 : Int)), (-1, 3), (-1, 4)] ((w9.alloc (.cells #[.string ⟨#[]⟩, .slice none 0 0] 24)).alloc (.cells #[.int .i64 0, .int .i64 (-1), .int .i64 (-1), .int .i64 3, .int .i64 (-1), .int .i64 4] 44)) rfl rfl (HR9.out.below ((New.refl _).alloc _)) (by
    have := blk_rd2 (Blk.made (w9.alloc (.cells #[.string ⟨#[]⟩, .slice none 0 0] 24)) 44 #[.int .i64 0, .int .i64 (-1), .int .i64 (-1), .int .i64 3, .int .i64 (-1), .int .i64 4]) 2 3 rfl
    rw [World.size_alloc] at this
    exact this) (by decide) (by decide))
  with_reducible refine HEQ.out.mono ?_
  rintro e w10 ⟨rfl, n10⟩
  rw [show decide ([((0 : Int), (-1 : Int)), (-1, 3), (-1, 4)] = [((0 : Int), (-1 : Int)), (-1, 3), (-1, 4)]) = true from decide_eq_true rfl]
  have nJ := (nI.alloc (.cells #[.int .i64 0, .int .i64 (-1), .int .i64 (-1), .int .i64 3, .int .i64 (-1), .int .i64 4] 44)).trans n10
  have s2 : (exT2.toList == [107, 101, 101, 112, 32, 49, 10, 100, 114, 111, 112, 32, 50, 10, 97, 100, 100, 32, 49, 10, 98]) = true := by rw [toList_eq]; rfl
  have s3 : (exT3.toList == [100, 114, 111, 112, 32, 49, 10, 107, 101, 101, 112, 32, 50, 10, 97, 100, 100, 32, 49, 10, 100]) = true := by rw [toList_eq]; rfl
  clear HEQ
  go_wp2
  go_ret
  exact ⟨rfl, nJ⟩
end Go.Proofs.YtfeknjpinboknaaGreatDoor

