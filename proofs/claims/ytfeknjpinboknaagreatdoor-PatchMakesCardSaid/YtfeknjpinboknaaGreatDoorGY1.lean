/- The law PatchTexts: it answers true. Conditions: none but the world's. (Printed by mk-y1.py.) -/
import Derived.Test.YtfeknjpinboknaaGreatDoorGW26
import Derived.Test.YtfeknjpinboknaaGreatDoorGW9

namespace Go.Proofs.YtfeknjpinboknaaGreatDoor
open Go Go.RowKit Go.Joins Go.Shelf
set_option linter.unusedSimpArgs false
set_option linter.unusedVariables false

theorem par_some {text base : ByteArray} {ds : List Hk} {w w' : World} {e : Ending} (h : ParP text w e w') (hp : parseV text = some (base, ds)) : ∃ A c hs n, n = ds.length ∧ e = .returned (.tuple #[.agg #[.string base, .slice A n c], .int .i64 0]) ∧ PRd w' A n hs ∧ hs.map Hm.d = ds ∧ New w w' := by
  obtain ⟨hn, h⟩ := h
  rw [hp] at h
  obtain ⟨A, c, hs, he, h1, h2, h3⟩ := h
  refine ⟨A, c, hs, hs.length, by rw [← h2, List.length_map], he, h1, h2, hn⟩
theorem par_none {text : ByteArray} {w w' : World} {e : Ending} (h : ParP text w e w') (hp : parseV text = none) : e = .returned (.tuple #[.agg #[.string ⟨#[]⟩, .slice none 0 0], .int .i64 (if linesE text = 0 then 4 else 10)]) ∧ New w w' := by
  obtain ⟨hn, h⟩ := h
  rw [hp] at h
  exact ⟨h, hn⟩
theorem prd_nil (w : World) : PRd w none 0 [] := ⟨rfl, ⟨rfl, fun h => absurd h (by omega)⟩, fun _ h => by cases h⟩
theorem szh_nil : SzH [] := ⟨by decide, fun _ h => absurd h List.not_mem_nil, fun _ h => absurd h List.not_mem_nil⟩
theorem lines_mem {l : List Hk} {h : Hk} (hh : h ∈ l) {s : ByteArray} (hs : s ∈ h.lines) : s ∈ linesL l := List.mem_flatMap.2 ⟨h, hh, List.mem_cons_of_mem _ hs⟩
theorem parse_small {text base : ByteArray} {ds : List Hk} (hp : parseV text = some (base, ds)) (ht : text.size ≤ 900000) : SzK ds ∧ ds.length ≤ 1024 ∧ base.size ≤ 1000000 := by
  obtain ⟨hv, hx⟩ := parse_sound hp
  have hl := valid_len hv
  refine ⟨fun h hh => ⟨?_, fun s hs => ?_⟩, hl, ?_⟩
  · have hg : OkH h := by
      simp only [validV, Bool.and_eq_true] at hv
      have := hv.1.1.2
      rw [goodGo_eq, Bool.and_eq_true] at this
      exact okH_iff.1 (okGo_ok this.1 h hh)
    by_cases k : h.kind = 3
    · have := hg.l3 k; have := hg.n2; omega
    · rw [hg.l0 k]; simp
  · have hpt := (text_parts hv).1
    rw [hx] at hpt
    have : s ∈ parts 10 text := by
      rw [hpt, textL]
      exact List.mem_append_right _ (lines_mem hh hs)
    have := parts_size this
    omega
  · simp only [validV, Bool.and_eq_true, Bool.or_eq_true, decide_eq_true_eq] at hv
    rcases hv.1.1.1 with q | q <;> omega
theorem text_small {base : ByteArray} {l : List Hk} (h : validV base l = true) : (textV base l).size ≤ 65536 := by
  simp only [validV, Bool.and_eq_true, decide_eq_true_eq] at h
  exact joinV_le h.2
theorem errV_t {base : ByteArray} {l : List Hk} (h : validV base l = true) : errV base l = 0 ∧ chkT base l = textV base l := by rw [errV, chkT, if_pos h, if_pos h]; exact ⟨rfl, rfl⟩
theorem errV_f {base : ByteArray} {l : List Hk} (h : validV base l = false) : errV base l = 1 ∧ chkT base l = ⟨#[]⟩ := by rw [errV, chkT, h]; exact ⟨rfl, rfl⟩

set_option maxRecDepth 100000 in
set_option maxHeartbeats 16000000 in
theorem law_texts (base : ByteArray) (A : Option Addr) (n c : Nat) (hs : List Hm) (text : ByteArray) (w : World) (hr : PRd w A n hs) (hn : n ≤ maxLen) (hll : ∀ h ∈ hs, h.lines.length ≤ maxLen) (hE : Env w) :
    Calls Tryz.prog 3 #[.agg #[.string base, .slice A n c], .string text] w fun e w' => e = .returned (.bool true) ∧ New w w' := by
  have B0 := Blk.made w 24 #[.string base, .slice A n c]
  have n0 := (New.refl w).alloc (.cells #[.string base, .slice A n c] 24)
  have HE := Lib.hid hE
  have HR := Lib.hid hr
  have HLL := Lib.hid hll
  have HF := Lib.hid (fun W (h : New w W) => few_any base A n c hs W (hr.new h) hn hll)
  have HL := Lib.hid hr.len
  obtain ⟨gp, hgp⟩ : ∃ gp, w.heap.size = gp := ⟨_, rfl⟩
  rw [hgp] at B0
  have HGP := Lib.hid hgp
  clear hr hll hE hgp hn
  go_enter Tryz.func3, Tryz.ntmps3
  go_wp2_with (fail)
  rw [HGP.out]
  generalize w.alloc (.cells #[.string base, .slice A n c] 24) = wA at *
  with_reducible refine (awake_any _ (HE.out.new n0)).mono ?_
  rintro e w1 ⟨rfl, m1⟩
  have n1 := n0.trans m1
  have B1 := B0.new m1
  have d0 := B1.cell' 0 _ rfl
  have d1 := B1.cell' 1 _ rfl
  go_wp2_with (fail)
  with_reducible refine (HF.out _ n1).mono ?_
  rintro e w2 ⟨m2, v, rfl, hv⟩
  have n2 := n1.trans m2
  have B2 := B1.new m2
  clear d0 d1
  cases v
  · go_wp2
    go_ret
    exact ⟨rfl, n2⟩
  have HS := Lib.hid (hv rfl)
  clear hv
  by_cases hsz : 3000 < text.size
  · have t1 : decide ((3000 : Int) < (text.size : Int)) = true := decide_eq_true (by omega)
    go_wp2
    go_ret
    exact ⟨rfl, n2⟩
  have t1 : decide ((3000 : Int) < (text.size : Int)) = false := decide_eq_false (by omega)
  have HTS : Hid (text.size ≤ 3000) := Lib.hid (by omega)
  have HSZ : Hid (SzH hs) := Lib.hid (HS.out.szh HLL.out)
  have hb1 : base.size ≤ 1000000 := by have := HS.out.b; omega
  have C13 := Lib.hid (fun W (h : New w W) => print_any base A n c hs W (HR.out.new h) HSZ.out hb1 (HE.out.new h))
  have C14 := Lib.hid (fun W (h : New w W) => rprint_any base A n c hs W (HR.out.new h) HSZ.out hb1)
  have C15 := Lib.hid (fun W (h : New w W) => cost_any base A n c hs W (HR.out.new h) HSZ.out hb1 (HE.out.new h))
  have C16 := Lib.hid (fun W (h : New w W) => rcost_any base A n c hs W (HR.out.new h) HSZ.out hb1)
  have C17 := Lib.hid (fun W (h : New w W) => parse_any text W (by have := HTS.out; omega) (HE.out.new h))
  have C18 := Lib.hid (fun W (h : New w W) => rparse_any text W (by have := HTS.out; omega))
  obtain ⟨cv, hcv⟩ : ∃ cv, costV base (hs.map Hm.d) = cv := ⟨_, rfl⟩
  rw [hcv] at C15 C16
  clear hsz hcv
  cases hpv : parseV text with
  | none =>
    have HP := Lib.hid hpv
    obtain ⟨ee, hee⟩ : ∃ ee : Int, (if linesE text = 0 then 4 else 10) = ee := ⟨_, rfl⟩
    have HEE := Lib.hid hee
    have ee0 : (ee == 0) = false := by rw [← hee]; split <;> rfl
    have ee1 : ¬ ee = 0 := by rw [← hee]; split <;> decide
    clear hpv hee
    cases hvv : validV base (hs.map Hm.d)
    · obtain ⟨hE1, hE2⟩ := errV_f hvv
      rw [hE1, hE2] at C13 C14
      rw [hE1] at C15 C16
      clear hE1 hE2 hvv
      have d0 := B2.cell' 0 _ rfl
      have d1 := B2.cell' 1 _ rfl
      go_wp2_with (fail)
      with_reducible refine (C13.out _ n2).mono ?_
      rintro e w3 ⟨rfl, m3⟩
      have n3 := n2.trans m3
      have B3 := B2.new m3
      clear d0 d1
      have d0 := B3.cell' 0 _ rfl
      have d1 := B3.cell' 1 _ rfl
      go_wp2_with (fail)
      with_reducible refine (C14.out _ n3).mono ?_
      rintro e w4 ⟨rfl, m4⟩
      have n4 := n3.trans m4
      have B4 := B3.new m4
      clear d0 d1
      have d0 := B4.cell' 0 _ rfl
      have d1 := B4.cell' 1 _ rfl
      go_wp2_with (fail)
      with_reducible refine (C15.out _ n4).mono ?_
      rintro e w5 ⟨rfl, m5⟩
      have n5 := n4.trans m5
      have B5 := B4.new m5
      clear d0 d1
      have d0 := B5.cell' 0 _ rfl
      have d1 := B5.cell' 1 _ rfl
      go_wp2_with (fail)
      with_reducible refine (C16.out _ n5).mono ?_
      rintro e w6 ⟨rfl, m6⟩
      have n6 := n5.trans m6
      have B6 := B5.new m6
      clear d0 d1
      go_wp2_with (fail)
      with_reducible refine (C17.out _ n6).mono ?_
      intro e w7 hq
      obtain ⟨rfl, m7⟩ := par_none hq HP.out
      clear hq
      have n7 := (n6.trans m7).alloc (.cells #[.string ⟨#[]⟩, .slice none 0 0] 24)
      have X7 := Blk.made w7 24 #[.string ⟨#[]⟩, .slice none 0 0]
      have B7 := (B6.new m7).alloc (.cells #[.string ⟨#[]⟩, .slice none 0 0] 24)
      clear m7
      rw [HEE.out]
      go_wp2_with (fail)
      obtain ⟨g7, hg7⟩ : ∃ g7, w7.heap.size = g7 := ⟨_, rfl⟩
      rw [hg7] at X7
      rw [hg7]
      generalize w7.alloc (.cells #[.string ⟨#[]⟩, .slice none 0 0] 24) = wX at *
      with_reducible refine (C18.out _ n7).mono ?_
      intro e w8 hq
      obtain ⟨rfl, m8⟩ := par_none hq HP.out
      clear hq
      rw [HEE.out]
      have n8 := (n7.trans m8).alloc (.cells #[.string ⟨#[]⟩, .slice none 0 0] 24)
      have Y8 := Blk.made w8 24 #[.string ⟨#[]⟩, .slice none 0 0]
      have X8 := (X7.new m8).alloc (.cells #[.string ⟨#[]⟩, .slice none 0 0] 24)
      have B8 := (B7.new m8).alloc (.cells #[.string ⟨#[]⟩, .slice none 0 0] 24)
      have x0 := X8.cell' 0 _ rfl
      have x1 := X8.cell' 1 _ rfl
      have y0 := Y8.cell' 0 _ rfl
      have y1 := Y8.cell' 1 _ rfl
      clear m8 hg7
      go_wp2_with (fail)
      generalize w8.alloc (.cells #[.string ⟨#[]⟩, .slice none 0 0] 24) = wY at *
      with_reducible refine (samep_any ⟨#[]⟩ none none 0 0 0 [] [] _ (prd_nil _) (prd_nil _) szh_nil rfl).mono ?_
      rintro e w9 ⟨rfl, m9⟩
      have n9 := n8.trans m9
      have B9 := B8.new m9
      clear x0 x1 y0 y1
      go_wp2
      go_ret
      exact ⟨rfl, n9⟩
    · obtain ⟨hE1, hE2⟩ := errV_t hvv
      rw [hE1, hE2] at C13 C14
      rw [hE1] at C15 C16
      have HVP := Lib.hid (parse_compl hvv)
      have HVS := Lib.hid (text_small hvv)
      generalize textV base (hs.map Hm.d) = tv at *
      clear hE1 hE2 hvv
      have d0 := B2.cell' 0 _ rfl
      have d1 := B2.cell' 1 _ rfl
      go_wp2_with (fail)
      with_reducible refine (C13.out _ n2).mono ?_
      rintro e w3 ⟨rfl, m3⟩
      have n3 := n2.trans m3
      have B3 := B2.new m3
      clear d0 d1
      have d0 := B3.cell' 0 _ rfl
      have d1 := B3.cell' 1 _ rfl
      go_wp2_with (fail)
      with_reducible refine (C14.out _ n3).mono ?_
      rintro e w4 ⟨rfl, m4⟩
      have n4 := n3.trans m4
      have B4 := B3.new m4
      clear d0 d1
      have d0 := B4.cell' 0 _ rfl
      have d1 := B4.cell' 1 _ rfl
      go_wp2_with (fail)
      with_reducible refine (C15.out _ n4).mono ?_
      rintro e w5 ⟨rfl, m5⟩
      have n5 := n4.trans m5
      have B5 := B4.new m5
      clear d0 d1
      have d0 := B5.cell' 0 _ rfl
      have d1 := B5.cell' 1 _ rfl
      go_wp2_with (fail)
      with_reducible refine (C16.out _ n5).mono ?_
      rintro e w6 ⟨rfl, m6⟩
      have n6 := n5.trans m6
      have B6 := B5.new m6
      clear d0 d1
      go_wp2_with (fail)
      with_reducible refine (C17.out _ n6).mono ?_
      intro e w7 hq
      obtain ⟨rfl, m7⟩ := par_none hq HP.out
      clear hq
      have n7 := (n6.trans m7).alloc (.cells #[.string ⟨#[]⟩, .slice none 0 0] 24)
      have X7 := Blk.made w7 24 #[.string ⟨#[]⟩, .slice none 0 0]
      have B7 := (B6.new m7).alloc (.cells #[.string ⟨#[]⟩, .slice none 0 0] 24)
      clear m7
      rw [HEE.out]
      go_wp2_with (fail)
      obtain ⟨g7, hg7⟩ : ∃ g7, w7.heap.size = g7 := ⟨_, rfl⟩
      rw [hg7] at X7
      rw [hg7]
      generalize w7.alloc (.cells #[.string ⟨#[]⟩, .slice none 0 0] 24) = wX at *
      with_reducible refine (C18.out _ n7).mono ?_
      intro e w8 hq
      obtain ⟨rfl, m8⟩ := par_none hq HP.out
      clear hq
      rw [HEE.out]
      have n8 := (n7.trans m8).alloc (.cells #[.string ⟨#[]⟩, .slice none 0 0] 24)
      have Y8 := Blk.made w8 24 #[.string ⟨#[]⟩, .slice none 0 0]
      have X8 := (X7.new m8).alloc (.cells #[.string ⟨#[]⟩, .slice none 0 0] 24)
      have B8 := (B7.new m8).alloc (.cells #[.string ⟨#[]⟩, .slice none 0 0] 24)
      have x0 := X8.cell' 0 _ rfl
      have x1 := X8.cell' 1 _ rfl
      have y0 := Y8.cell' 0 _ rfl
      have y1 := Y8.cell' 1 _ rfl
      clear m8 hg7
      go_wp2_with (fail)
      generalize w8.alloc (.cells #[.string ⟨#[]⟩, .slice none 0 0] 24) = wY at *
      with_reducible refine (samep_any ⟨#[]⟩ none none 0 0 0 [] [] _ (prd_nil _) (prd_nil _) szh_nil rfl).mono ?_
      rintro e w9 ⟨rfl, m9⟩
      have n9 := n8.trans m9
      have B9 := B8.new m9
      clear x0 x1 y0 y1
      go_wp2_with (fail)
      with_reducible refine (parse_any tv _ (by have := HVS.out; omega) (HE.out.new n9)).mono ?_
      intro e w10 hq
      obtain ⟨A10, c10, hs10, n10', hn10, rfl, p10, hm10, m10⟩ := par_some hq HVP.out
      clear hq
      obtain rfl : n10' = n := by rw [hn10, List.length_map]; exact HL.out
      have n10 := (n9.trans m10).alloc (.cells #[.string base, .slice A10 n10' c10] 24)
      have B10 := (B9.new m10).alloc (.cells #[.string base, .slice A10 n10' c10] 24)
      have Z10 := Blk.made w10 24 #[.string base, .slice A10 n10' c10]
      have HP10 := Lib.hid (p10.new ((New.refl w10).alloc (.cells #[.string base, .slice A10 n10' c10] 24)))
      have HM10 := Lib.hid hm10
      have HSZ10 : Hid (SzH hs10) := Lib.hid ⟨by have h1 := congrArg List.length HM10.out; rw [List.length_map, List.length_map] at h1; have := HSZ.out.l; omega, fun h hh => by
        have h2 : h.d ∈ hs.map Hm.d := by rw [← HM10.out]; exact List.mem_map_of_mem hh
        obtain ⟨y, hy, hyd⟩ := List.mem_map.1 h2
        have h3 := HSZ.out.ll y hy
        have : y.lines = h.lines := congrArg Hk.lines hyd
        rw [this] at h3; exact h3, fun h hh s hs' => by
        have h2 : h.d ∈ hs.map Hm.d := by rw [← HM10.out]; exact List.mem_map_of_mem hh
        obtain ⟨y, hy, hyd⟩ := List.mem_map.1 h2
        have : y.lines = h.lines := congrArg Hk.lines hyd
        exact HSZ.out.ls y hy s (by rw [this]; exact hs')⟩

      have z0 := Z10.cell' 0 _ rfl
      have z1 := Z10.cell' 1 _ rfl
      have u0 := B10.cell' 0 _ rfl
      have u1 := B10.cell' 1 _ rfl
      clear p10 hm10 hn10 m10
      go_wp2_with (fail)
      generalize w10.alloc (.cells #[.string base, .slice A10 n10' c10] 24) = wZ at *
      with_reducible refine (samep_any base A10 A n10' c10 c hs10 hs _ HP10.out (HR.out.new n10) HSZ10.out HM10.out).mono ?_
      rintro e w11 ⟨rfl, m11⟩
      have n11 := n10.trans m11

      clear z0 z1 u0 u1
      go_wp2
      go_ret
      exact ⟨rfl, n11⟩
  | some bd =>
    obtain ⟨bx, ds⟩ := bd
    have HP := Lib.hid hpv
    have HPS := Lib.hid (parse_small hpv (by have := HTS.out; omega))
    have HPE : Hid (chkT bx ds = text ∧ errV bx ds = 0) := Lib.hid (by
      obtain ⟨q1, q2⟩ := parse_sound hpv
      obtain ⟨q3, q4⟩ := errV_t q1
      exact ⟨q4.trans q2, q3⟩)
    clear hpv
    cases hvv : validV base (hs.map Hm.d)
    · obtain ⟨hE1, hE2⟩ := errV_f hvv
      rw [hE1, hE2] at C13 C14
      rw [hE1] at C15 C16
      clear hE1 hE2 hvv
      have d0 := B2.cell' 0 _ rfl
      have d1 := B2.cell' 1 _ rfl
      go_wp2_with (fail)
      with_reducible refine (C13.out _ n2).mono ?_
      rintro e w3 ⟨rfl, m3⟩
      have n3 := n2.trans m3
      have B3 := B2.new m3
      clear d0 d1
      have d0 := B3.cell' 0 _ rfl
      have d1 := B3.cell' 1 _ rfl
      go_wp2_with (fail)
      with_reducible refine (C14.out _ n3).mono ?_
      rintro e w4 ⟨rfl, m4⟩
      have n4 := n3.trans m4
      have B4 := B3.new m4
      clear d0 d1
      have d0 := B4.cell' 0 _ rfl
      have d1 := B4.cell' 1 _ rfl
      go_wp2_with (fail)
      with_reducible refine (C15.out _ n4).mono ?_
      rintro e w5 ⟨rfl, m5⟩
      have n5 := n4.trans m5
      have B5 := B4.new m5
      clear d0 d1
      have d0 := B5.cell' 0 _ rfl
      have d1 := B5.cell' 1 _ rfl
      go_wp2_with (fail)
      with_reducible refine (C16.out _ n5).mono ?_
      rintro e w6 ⟨rfl, m6⟩
      have n6 := n5.trans m6
      have B6 := B5.new m6
      clear d0 d1
      go_wp2_with (fail)
      with_reducible refine (C17.out _ n6).mono ?_
      intro e w7 hq
      obtain ⟨A7, c7, hs7, nn, hnn, rfl, p7, hm7, m7⟩ := par_some hq HP.out
      clear hq
      have HP7 := Lib.hid (p7.new ((New.refl w7).alloc (.cells #[.string bx, .slice A7 nn c7] 24)))
      have HM7 := Lib.hid hm7
      have HNN := Lib.hid hnn
      have n7 := (n6.trans m7).alloc (.cells #[.string bx, .slice A7 nn c7] 24)
      have X7 := Blk.made w7 24 #[.string bx, .slice A7 nn c7]
      have B7 := (B6.new m7).alloc (.cells #[.string bx, .slice A7 nn c7] 24)
      clear p7 hm7 hnn m7
      go_wp2_with (fail)
      obtain ⟨g7, hg7⟩ : ∃ g7, w7.heap.size = g7 := ⟨_, rfl⟩
      rw [hg7] at X7
      rw [hg7]
      generalize w7.alloc (.cells #[.string bx, .slice A7 nn c7] 24) = wX at *
      with_reducible refine (C18.out _ n7).mono ?_
      intro e w8 hq
      obtain ⟨A8, c8, hs8, nn8, hnn8, rfl, p8, hm8, m8⟩ := par_some hq HP.out
      clear hq
      obtain rfl : nn = nn8 := HNN.out.trans hnn8.symm
      have n8 := (n7.trans m8).alloc (.cells #[.string bx, .slice A8 nn c8] 24)
      have Y8 := Blk.made w8 24 #[.string bx, .slice A8 nn c8]
      have X8 := (X7.new m8).alloc (.cells #[.string bx, .slice A8 nn c8] 24)
      have B8 := (B7.new m8).alloc (.cells #[.string bx, .slice A8 nn c8] 24)
      have HP87 := Lib.hid ((HP7.out.new m8).new ((New.refl w8).alloc (.cells #[.string bx, .slice A8 nn c8] 24)))
      have HP8 := Lib.hid (p8.new ((New.refl w8).alloc (.cells #[.string bx, .slice A8 nn c8] 24)))
      have HM8 := Lib.hid hm8
      have x0 := X8.cell' 0 _ rfl
      have x1 := X8.cell' 1 _ rfl
      have y0 := Y8.cell' 0 _ rfl
      have y1 := Y8.cell' 1 _ rfl
      have HSX : Hid (SzH hs7) := Lib.hid (SzK.szh (by rw [HM7.out]; exact HPS.out.1) (by have h1 := congrArg List.length HM7.out; rw [List.length_map] at h1; have := HPS.out.2.1; omega))
      clear p8 hm8 m8 hnn8 hg7
      go_wp2_with (fail)
      generalize w8.alloc (.cells #[.string bx, .slice A8 nn c8] 24) = wY at *
      with_reducible refine (samep_any bx A7 A8 nn c7 c8 hs7 hs8 _ HP87.out HP8.out HSX.out (HM7.out.trans HM8.out.symm)).mono ?_
      rintro e w9 ⟨rfl, m9⟩
      have n9 := n8.trans m9
      have B9 := B8.new m9
      have X9 := X8.new m9
      have P9 := Lib.hid (HP87.out.new m9)
      clear x0 x1 y0 y1 HP7 HP8 HP87
      have x0 := X9.cell' 0 _ rfl
      have x1 := X9.cell' 1 _ rfl
      have CPX := Lib.hid (print_any bx A7 nn c7 hs7 _ P9.out HSX.out HPS.out.2.2 (HE.out.new n9))
      rw [HM7.out, HPE.out.1, HPE.out.2] at CPX
      go_wp2_with (fail)
      with_reducible refine CPX.out.mono ?_
      rintro e w12 ⟨rfl, m12⟩
      have n12 := n9.trans m12
      clear x0 x1
      go_wp2
      go_ret
      exact ⟨rfl, n12⟩
    · obtain ⟨hE1, hE2⟩ := errV_t hvv
      rw [hE1, hE2] at C13 C14
      rw [hE1] at C15 C16
      have HVP := Lib.hid (parse_compl hvv)
      have HVS := Lib.hid (text_small hvv)
      generalize textV base (hs.map Hm.d) = tv at *
      clear hE1 hE2 hvv
      have d0 := B2.cell' 0 _ rfl
      have d1 := B2.cell' 1 _ rfl
      go_wp2_with (fail)
      with_reducible refine (C13.out _ n2).mono ?_
      rintro e w3 ⟨rfl, m3⟩
      have n3 := n2.trans m3
      have B3 := B2.new m3
      clear d0 d1
      have d0 := B3.cell' 0 _ rfl
      have d1 := B3.cell' 1 _ rfl
      go_wp2_with (fail)
      with_reducible refine (C14.out _ n3).mono ?_
      rintro e w4 ⟨rfl, m4⟩
      have n4 := n3.trans m4
      have B4 := B3.new m4
      clear d0 d1
      have d0 := B4.cell' 0 _ rfl
      have d1 := B4.cell' 1 _ rfl
      go_wp2_with (fail)
      with_reducible refine (C15.out _ n4).mono ?_
      rintro e w5 ⟨rfl, m5⟩
      have n5 := n4.trans m5
      have B5 := B4.new m5
      clear d0 d1
      have d0 := B5.cell' 0 _ rfl
      have d1 := B5.cell' 1 _ rfl
      go_wp2_with (fail)
      with_reducible refine (C16.out _ n5).mono ?_
      rintro e w6 ⟨rfl, m6⟩
      have n6 := n5.trans m6
      have B6 := B5.new m6
      clear d0 d1
      go_wp2_with (fail)
      with_reducible refine (C17.out _ n6).mono ?_
      intro e w7 hq
      obtain ⟨A7, c7, hs7, nn, hnn, rfl, p7, hm7, m7⟩ := par_some hq HP.out
      clear hq
      have HP7 := Lib.hid (p7.new ((New.refl w7).alloc (.cells #[.string bx, .slice A7 nn c7] 24)))
      have HM7 := Lib.hid hm7
      have HNN := Lib.hid hnn
      have n7 := (n6.trans m7).alloc (.cells #[.string bx, .slice A7 nn c7] 24)
      have X7 := Blk.made w7 24 #[.string bx, .slice A7 nn c7]
      have B7 := (B6.new m7).alloc (.cells #[.string bx, .slice A7 nn c7] 24)
      clear p7 hm7 hnn m7
      go_wp2_with (fail)
      obtain ⟨g7, hg7⟩ : ∃ g7, w7.heap.size = g7 := ⟨_, rfl⟩
      rw [hg7] at X7
      rw [hg7]
      generalize w7.alloc (.cells #[.string bx, .slice A7 nn c7] 24) = wX at *
      with_reducible refine (C18.out _ n7).mono ?_
      intro e w8 hq
      obtain ⟨A8, c8, hs8, nn8, hnn8, rfl, p8, hm8, m8⟩ := par_some hq HP.out
      clear hq
      obtain rfl : nn = nn8 := HNN.out.trans hnn8.symm
      have n8 := (n7.trans m8).alloc (.cells #[.string bx, .slice A8 nn c8] 24)
      have Y8 := Blk.made w8 24 #[.string bx, .slice A8 nn c8]
      have X8 := (X7.new m8).alloc (.cells #[.string bx, .slice A8 nn c8] 24)
      have B8 := (B7.new m8).alloc (.cells #[.string bx, .slice A8 nn c8] 24)
      have HP87 := Lib.hid ((HP7.out.new m8).new ((New.refl w8).alloc (.cells #[.string bx, .slice A8 nn c8] 24)))
      have HP8 := Lib.hid (p8.new ((New.refl w8).alloc (.cells #[.string bx, .slice A8 nn c8] 24)))
      have HM8 := Lib.hid hm8
      have x0 := X8.cell' 0 _ rfl
      have x1 := X8.cell' 1 _ rfl
      have y0 := Y8.cell' 0 _ rfl
      have y1 := Y8.cell' 1 _ rfl
      have HSX : Hid (SzH hs7) := Lib.hid (SzK.szh (by rw [HM7.out]; exact HPS.out.1) (by have h1 := congrArg List.length HM7.out; rw [List.length_map] at h1; have := HPS.out.2.1; omega))
      clear p8 hm8 m8 hnn8 hg7
      go_wp2_with (fail)
      generalize w8.alloc (.cells #[.string bx, .slice A8 nn c8] 24) = wY at *
      with_reducible refine (samep_any bx A7 A8 nn c7 c8 hs7 hs8 _ HP87.out HP8.out HSX.out (HM7.out.trans HM8.out.symm)).mono ?_
      rintro e w9 ⟨rfl, m9⟩
      have n9 := n8.trans m9
      have B9 := B8.new m9
      have X9 := X8.new m9
      have P9 := Lib.hid (HP87.out.new m9)
      clear x0 x1 y0 y1 HP7 HP8 HP87
      go_wp2_with (fail)
      with_reducible refine (parse_any tv _ (by have := HVS.out; omega) (HE.out.new n9)).mono ?_
      intro e w10 hq
      obtain ⟨A10, c10, hs10, n10', hn10, rfl, p10, hm10, m10⟩ := par_some hq HVP.out
      clear hq
      obtain rfl : n10' = n := by rw [hn10, List.length_map]; exact HL.out
      have n10 := (n9.trans m10).alloc (.cells #[.string base, .slice A10 n10' c10] 24)
      have B10 := (B9.new m10).alloc (.cells #[.string base, .slice A10 n10' c10] 24)
      have Z10 := Blk.made w10 24 #[.string base, .slice A10 n10' c10]
      have HP10 := Lib.hid (p10.new ((New.refl w10).alloc (.cells #[.string base, .slice A10 n10' c10] 24)))
      have HM10 := Lib.hid hm10
      have HSZ10 : Hid (SzH hs10) := Lib.hid ⟨by have h1 := congrArg List.length HM10.out; rw [List.length_map, List.length_map] at h1; have := HSZ.out.l; omega, fun h hh => by
        have h2 : h.d ∈ hs.map Hm.d := by rw [← HM10.out]; exact List.mem_map_of_mem hh
        obtain ⟨y, hy, hyd⟩ := List.mem_map.1 h2
        have h3 := HSZ.out.ll y hy
        have : y.lines = h.lines := congrArg Hk.lines hyd
        rw [this] at h3; exact h3, fun h hh s hs' => by
        have h2 : h.d ∈ hs.map Hm.d := by rw [← HM10.out]; exact List.mem_map_of_mem hh
        obtain ⟨y, hy, hyd⟩ := List.mem_map.1 h2
        have : y.lines = h.lines := congrArg Hk.lines hyd
        exact HSZ.out.ls y hy s (by rw [this]; exact hs')⟩
      have X10 := (X9.new m10).alloc (.cells #[.string base, .slice A10 n10' c10] 24)
      have P10 := Lib.hid ((P9.out.new m10).new ((New.refl w10).alloc (.cells #[.string base, .slice A10 n10' c10] 24)))
      have z0 := Z10.cell' 0 _ rfl
      have z1 := Z10.cell' 1 _ rfl
      have u0 := B10.cell' 0 _ rfl
      have u1 := B10.cell' 1 _ rfl
      clear p10 hm10 hn10 m10
      go_wp2_with (fail)
      generalize w10.alloc (.cells #[.string base, .slice A10 n10' c10] 24) = wZ at *
      with_reducible refine (samep_any base A10 A n10' c10 c hs10 hs _ HP10.out (HR.out.new n10) HSZ10.out HM10.out).mono ?_
      rintro e w11 ⟨rfl, m11⟩
      have n11 := n10.trans m11
      have X11 := X10.new m11
      have P11 := Lib.hid (P10.out.new m11)
      clear z0 z1 u0 u1
      have x0 := X11.cell' 0 _ rfl
      have x1 := X11.cell' 1 _ rfl
      have CPX := Lib.hid (print_any bx A7 nn c7 hs7 _ P11.out HSX.out HPS.out.2.2 (HE.out.new n11))
      rw [HM7.out, HPE.out.1, HPE.out.2] at CPX
      go_wp2_with (fail)
      with_reducible refine CPX.out.mono ?_
      rintro e w12 ⟨rfl, m12⟩
      have n12 := n11.trans m12
      clear x0 x1
      go_wp2
      go_ret
      exact ⟨rfl, n12⟩
end Go.Proofs.YtfeknjpinboknaaGreatDoor

