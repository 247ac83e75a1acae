/- The reference's Print and Cost. Conditions: sizes. Plain: what Parse returns. No conditions. -/
import Derived.Test.YtfeknjpinboknaaGreatDoorGN
import Derived.Test.YtfeknjpinboknaaGreatDoorGM
import Derived.Test.YtfeknjpinboknaaGreatDoorGI
import Derived.Lib.AtoiTie

namespace Go.Proofs.YtfeknjpinboknaaGreatDoor
open Go Go.RowKit Go.Joins Go.Shelf
set_option linter.unusedSimpArgs false
set_option linter.unusedVariables false

set_option maxRecDepth 100000 in
set_option maxHeartbeats 2000000 in
theorem rprint_any (base : ByteArray) (A : Option Addr) (n c : Nat) (hs : List Hm) (w : World) (hr : PRd w A n hs) (hz : SzH hs) (hb : base.size ≤ 1000000) :
    Calls Tryz.prog 14 #[.agg #[.string base, .slice A n c]] w fun e w' => e = .returned (.tuple #[.string (chkT base (hs.map Hm.d)), .int .i64 (errV base (hs.map Hm.d))]) ∧ New w w' := by
  have hn0 := (New.refl w).alloc (.cells #[.string base, .slice A n c] 24)
  have B0 := Blk.made w 24 #[.string base, .slice A n c]
  have H := Lib.hid (rvalid_any base A n c hs _ (hr.new hn0) hz hb)
  cases hv : validV base (hs.map Hm.d)
  · have he : errV base (hs.map Hm.d) = 1 := by rw [errV, hv]; simp
    have ht := chk_bad hv
    rw [he, ht]
    rw [hv] at H
    clear hr hz he ht hv
    go_enter Tryz.func14, Tryz.ntmps14
    go_wp2_with (go_at_call 34; (with_reducible refine H.out.mono ?_); rintro e w1 ⟨rfl, n1⟩)
    go_ret2
    exact ⟨rfl, hn0.trans n1⟩
  · have he : errV base (hs.map Hm.d) = 0 := by rw [errV, hv]; simp
    obtain ⟨ho, hl, hbz, _, _, _, h4⟩ := valid_ok hv
    have hj : joinE (textL base (hs.map Hm.d)) = 0 := by
      have := hv
      simp only [validV, Bool.and_eq_true, decide_eq_true_eq] at this
      exact this.2
    have ht : chkT base (hs.map Hm.d) = joinT (textL base (hs.map Hm.d)) := by rw [chkT, if_pos hv, joinT, if_pos hj]; rfl
    have HLN := Lib.hid (fun W (hN : New w W) => rlines_any base A n c hs W (hr.new hN) ho (by have := hr.len; omega) hbz)
    have HTS := Lib.hid (textL_size ho hz hbz)
    have hwl := joinE_len hj
    rw [he, ht]
    rw [hv] at H
    generalize textL base (hs.map Hm.d) = ws at *
    have HJE := Lib.hid hj
    clear hr hz he ht hv ho hbz hj
    go_enter Tryz.func14, Tryz.ntmps14
    go_wp2_with (first | (go_at_call 36; (with_reducible refine (HLN.out _ (hn0.trans n1)).mono ?_)) | (go_at_call 34; (with_reducible refine H.out.mono ?_); rintro e w1 ⟨rfl, n1⟩; have d0 := (B0.new n1).cell' 0 _ rfl; have d1 := (B0.new n1).cell' 1 _ rfl))
    rintro e w3 ⟨A3, c3, rfl, hr3, hc3, n3⟩
    have HJ := Lib.hid (rjoin_any A3 ws.length c3 ws w3 rfl (by omega) hc3 hr3 HTS.out)
    have hnn := (hn0.trans n1).trans n3
    generalize ws.length = wl at *
    go_wp2_with (go_at_call 35; (with_reducible refine HJ.out.mono ?_); rintro e w4 ⟨rfl, n4⟩)
    go_ret2
    exact ⟨rfl, hnn.trans n4⟩
set_option maxRecDepth 100000 in
set_option maxHeartbeats 2000000 in
theorem rcost_any (base : ByteArray) (A : Option Addr) (n c : Nat) (hs : List Hm) (w : World) (hr : PRd w A n hs) (hz : SzH hs) (hb : base.size ≤ 1000000) :
    Calls Tryz.prog 16 #[.agg #[.string base, .slice A n c]] w fun e w' => e = .returned (.tuple #[.int .i64 (costV base (hs.map Hm.d)), .int .i64 (errV base (hs.map Hm.d))]) ∧ New w w' := by
  have hn0 := (New.refl w).alloc (.cells #[.string base, .slice A n c] 24)
  have B0 := Blk.made w 24 #[.string base, .slice A n c]
  have H := Lib.hid (rvalid_any base A n c hs _ (hr.new hn0) hz hb)
  cases hv : validV base (hs.map Hm.d)
  · have he : errV base (hs.map Hm.d) = 1 := by rw [errV, hv]; simp
    have hc : costV base (hs.map Hm.d) = 0 := by rw [costV, hv]; simp
    rw [he, hc]
    rw [hv] at H
    clear hv he hc hr hz
    go_enter Tryz.func16, Tryz.ntmps16
    go_wp2_with (go_at_call 34; (with_reducible refine H.out.mono ?_); rintro e w1 ⟨rfl, n1⟩)
    go_ret2
    exact ⟨rfl, hn0.trans n1⟩
  · have he : errV base (hs.map Hm.d) = 0 := by rw [errV, hv]; simp
    have hc : costV base (hs.map Hm.d) = cnt 2 (hs.map Hm.d) + cnt 3 (hs.map Hm.d) := by rw [costV, hv]; simp
    obtain ⟨ho, hl, _, _, h2, _, h4⟩ := valid_ok hv
    rw [hr.len] at hl
    have HS := Lib.hid (fun W (hN : New w W) => counts_any base A n c hs W (hr.new hN) ho (by omega))
    have c1 := cnt_bound 1 (l := hs.map Hm.d) (fun x hx => by obtain ⟨y, hy, rfl⟩ := List.mem_map.1 hx; exact ho y hy)
    have c2 := cnt_bound 2 (l := hs.map Hm.d) (fun x hx => by obtain ⟨y, hy, rfl⟩ := List.mem_map.1 hx; exact ho y hy)
    have c3 := cnt_bound 3 (l := hs.map Hm.d) (fun x hx => by obtain ⟨y, hy, rfl⟩ := List.mem_map.1 hx; exact ho y hy)
    rw [he, hc]
    rw [hv] at H
    generalize cnt 1 (hs.map Hm.d) = s1 at *
    generalize cnt 2 (hs.map Hm.d) = s2 at *
    generalize cnt 3 (hs.map Hm.d) = s3 at *
    obtain ⟨c11, _⟩ := c1
    obtain ⟨c21, _⟩ := c2
    obtain ⟨c31, _⟩ := c3
    have m2 : s2 ≤ 4000 := by omega
    have m3 : s3 ≤ 4000 := by omega
    clear hv he hc hr hz ho
    go_enter Tryz.func16, Tryz.ntmps16
    go_wp2_with (first | (go_at_call 38; (with_reducible refine (HS.out _ (hn0.trans n1)).mono ?_); rintro e w2 ⟨rfl, n2⟩) | (go_at_call 34; (with_reducible refine H.out.mono ?_); rintro e w1 ⟨rfl, n1⟩; have d0 := (B0.new n1).cell' 0 _ rfl; have d1 := (B0.new n1).cell' 1 _ rfl))
    go_ret2
    exact ⟨rfl, (hn0.trans n1).trans n2⟩
end Go.Proofs.YtfeknjpinboknaaGreatDoor

namespace Go.Proofs.YtfeknjpinboknaaGreatDoor
open Go Go.RowKit Go.Joins
set_option linter.unusedSimpArgs false
set_option linter.unusedVariables false

/-! ### hexadecimal digits -/
def dgt (c : UInt8) : Option Nat := if 48 ≤ c.toNat ∧ c.toNat ≤ 57 then some (c.toNat - 48) else if 97 ≤ c.toNat ∧ c.toNat ≤ 102 then some (c.toNat - 87) else none
def hexP : List UInt8 → Option (List UInt8)
  | a :: b :: r => match dgt a, dgt b with
    | some x, some y => (hexP r).map (UInt8.ofNat (16 * x + y) :: ·)
    | _, _ => none
  | [] => some []
  | [_] => none
theorem dgt_lt {c : UInt8} {n : Nat} (h : dgt c = some n) : n < 16 ∧ hexd n = c := by
  unfold dgt at h
  split at h
  · rename_i q; injection h with h; subst h
    refine ⟨by omega, ?_⟩
    rw [hexd, if_pos (by omega)]
    apply UInt8.toNat_inj.1; rw [UInt8.toNat_ofNat']; omega
  · split at h
    · rename_i q; injection h with h; subst h
      refine ⟨by omega, ?_⟩
      rw [hexd, if_neg (by omega)]
      apply UInt8.toNat_inj.1; rw [UInt8.toNat_ofNat']; omega
    · cases h
theorem dgt_hexd {n : Nat} (h : n < 16) : dgt (hexd n) = some n := by
  have : ∀ k : Fin 16, dgt (hexd k.val) = some k.val := by decide
  exact this ⟨n, h⟩
theorem hexP_hexL : ∀ l : List UInt8, hexP (hexL l) = some l
  | [] => rfl
  | b :: r => by
    have hb := UInt8.toNat_lt b
    rw [hexL, hexP, dgt_hexd (by omega), dgt_hexd (by omega)]
    simp only
    rw [hexP_hexL r, Option.map_some]
    congr 2
    apply UInt8.toNat_inj.1; rw [UInt8.toNat_ofNat']; omega
theorem hexL_hexP : ∀ {l b : List UInt8}, hexP l = some b → hexL b = l
  | [], b, h => by rw [hexP] at h; injection h with h; subst h; rfl
  | [_], b, h => by rw [hexP] at h; cases h
  | x :: y :: r, b, h => by
    rw [hexP] at h
    split at h
    · rename_i p q e1 e2
      obtain ⟨b', h1, rfl⟩ := Option.map_eq_some_iff.1 h
      obtain ⟨a1, a2⟩ := dgt_lt e1
      obtain ⟨c1, c2⟩ := dgt_lt e2
      have e : (UInt8.ofNat (16 * p + q)).toNat = 16 * p + q := by rw [UInt8.toNat_ofNat']; omega
      rw [hexL, e, show (16 * p + q) / 16 = p by omega, show (16 * p + q) % 16 = q by omega, a2, c2, hexL_hexP h1]
    · cases h
def baseP (l : List UInt8) : Option (List UInt8) := if l.length = 64 then hexP l else none
theorem hexP_len : ∀ {l b : List UInt8}, hexP l = some b → l.length = 2 * b.length := fun {l b} h => by rw [← hexL_hexP h, hexL_length]

/-! ### what Parse returns -/
def baseW : List UInt8 := [98, 97, 115, 101, 32]
def finV (base : ByteArray) (ls : List ByteArray) : Option (ByteArray × List Hk) := match refGo ls with
  | none => none
  | some l => if validV base l = true then some (base, l) else none
def lineV : List ByteArray → Option (ByteArray × List Hk)
  | [] => none
  | x :: r => match afterL baseW x.data.toList with
    | some h => match baseP h with
      | none => none
      | some b => finV (S b) r
    | none => finV ⟨#[]⟩ (x :: r)
def parseV (text : ByteArray) : Option (ByteArray × List Hk) := if linesE text = 0 then lineV (parts 10 text) else none
def parseE (text : ByteArray) : Int := match parseV text with
  | some _ => 0
  | none => if linesE text = 0 then 4 else 10
theorem fin_sound {base b : ByteArray} {ls : List ByteArray} {l : List Hk} (h : finV base ls = some (b, l)) : b = base ∧ validV base l = true ∧ linesL l = ls := by
  unfold finV at h
  split at h
  · cases h
  · rename_i l' e
    split at h
    · rename_i hv
      injection h with h; injection h with h1 h2
      subst h1 h2
      exact ⟨rfl, hv, (ref_sound e).1⟩
    · cases h
theorem okA_of {base : ByteArray} {l : List Hk} (h : validV base l = true) : ∀ x ∈ l, OkH x := by
  simp only [validV, Bool.and_eq_true] at h
  have := h.1.1.2
  rw [goodGo_eq, Bool.and_eq_true] at this
  exact fun x hx => okH_iff.1 (okGo_ok this.1 x hx)
theorem fin_compl {base : ByteArray} {l : List Hk} (h : validV base l = true) : finV base (linesL l) = some (base, l) := by
  rw [finV, ref_compl (okA_of h)]
  simp only [h, if_pos]
theorem line_sound {ls : List ByteArray} {base : ByteArray} {l : List Hk} (h : lineV ls = some (base, l)) : validV base l = true ∧ textL base l = ls := by
  cases ls with
  | nil => cases h
  | cons x r =>
    rw [lineV] at h
    split at h
    · rename_i q e
      split at h
      · cases h
      · rename_i b eb
        obtain ⟨rfl, h2, h3⟩ := fin_sound h
        refine ⟨h2, ?_⟩
        unfold baseP at eb
        split at eb
        · rename_i h64
          have hl := hexP_len eb
          rw [textL, h3, baseL, if_neg (by rw [size_S]; omega), data_S, hexL_hexP eb]
          have : x = S ([98, 97, 115, 101, 32] ++ q) := bytes_ext (by rw [data_S]; exact after_some e)
          rw [this]; rfl
        · cases eb
    · obtain ⟨rfl, h2, h3⟩ := fin_sound h
      exact ⟨h2, by rw [textL, h3]; rfl⟩
theorem head_word (h : Hk) (ho : OkH h) : afterL baseW (headV h).data.toList = none := by
  obtain ⟨k, n, ls⟩ := h
  have k1 := ho.k1; have k3 := ho.k3; have n1 := ho.n1
  simp only at k1 k3 n1
  obtain ⟨m, rfl⟩ : ∃ m : Nat, n = (m : Int) := ⟨n.toNat, by omega⟩
  rw [head_data]
  apply after_ne
  · obtain rfl | rfl | rfl : k = 1 ∨ k = 2 ∨ k = 3 := by omega
    · rw [show wordL 1 = [107, 101, 101, 112, 32] from rfl]; simp [baseW]
    · rw [show wordL 2 = [100, 114, 111, 112, 32] from rfl]; simp [baseW]
    · rw [show wordL 3 = [97, 100, 100, 32] from rfl]; simp [baseW]
  · simp [baseW]
theorem line_compl {base : ByteArray} {l : List Hk} (h : validV base l = true) : lineV (textL base l) = some (base, l) := by
  have ho := okA_of h
  have hf := fin_compl h
  have hs : base.size = 0 ∨ base.size = 32 := by
    simp only [validV, Bool.and_eq_true, Bool.or_eq_true, decide_eq_true_eq] at h
    exact h.1.1.1
  rw [textL, baseL]
  by_cases hz : base.size = 0
  · have hb : base = ⟨#[]⟩ := bytes_ext (List.eq_nil_of_length_eq_zero (by rw [← size_eq]; exact hz))
    rw [if_pos hz, List.nil_append]
    cases l with
    | nil =>
      exfalso
      simp [validV, sizesOK, cnt] at h
    | cons x r =>
      have e : linesL (x :: r) = headV x :: (x.lines ++ linesL r) := rfl
      rw [e] at hf ⊢
      rw [lineV, head_word x (ho x (by simp))]
      simp only
      rw [← hb]; exact hf
  · have h32 : base.size = 32 := by omega
    rw [if_neg hz, List.singleton_append, lineV, data_S]
    rw [show ([98, 97, 115, 101, 32] : List UInt8) = baseW from rfl, after_app]
    simp only
    rw [baseP, if_pos (by rw [hexL_length, ← size_eq]; omega), hexP_hexL]
    simp only
    rw [S_data]; exact hf
theorem text_parts {base : ByteArray} {l : List Hk} (h : validV base l = true) : parts 10 (textV base l) = textL base l ∧ linesE (textV base l) = 0 := by
  have hj : joinE (textL base l) = 0 := by
    simp only [validV, Bool.and_eq_true, decide_eq_true_eq] at h; exact h.2
  have hlf := joinE_lf hj
  have hne : textL base l ≠ [] := by intro e; rw [e] at hj; simp [joinE] at hj
  have hp : parts 10 (textV base l) = textL base l := parts_join hne hlf
  refine ⟨hp, ?_⟩
  have hz := joinV_sz hne
  rw [linesE, hp, show textV base l = joinV (textL base l) from rfl, hz, if_neg]
  unfold joinE at hj
  split at hj
  · cases hj
  · split at hj
    · cases hj
    · omega
theorem parse_sound {text base : ByteArray} {l : List Hk} (h : parseV text = some (base, l)) : validV base l = true ∧ textV base l = text := by
  unfold parseV at h
  split at h
  · obtain ⟨h1, h2⟩ := line_sound h
    exact ⟨h1, by rw [textV, h2, join_parts]⟩
  · cases h
theorem parse_compl {base : ByteArray} {l : List Hk} (h : validV base l = true) : parseV (textV base l) = some (base, l) := by
  obtain ⟨h1, h2⟩ := text_parts h
  rw [parseV, if_pos h2, h1, line_compl h]

/-! ### what the program reads -/
theorem decFrom_dval : ∀ (l : List UInt8) (v : Nat), l.all digB = true → Lib.decFrom v l = some (dval v l)
  | [], v, _ => rfl
  | c :: r, v, h => by
    rw [List.all_cons, Bool.and_eq_true] at h
    have hd := (digB_iff c).1 h.1
    rw [dval_cons, Nat.mul_comm]
    simp only [Lib.decFrom, Lib.digitVal, if_pos hd]
    exact decFrom_dval r _ h.2
theorem dec_len {n : Nat} (h : n ≤ 1024) : (Lib.decDigits n).length ≤ 4 := by
  have h1 : ∀ k, k < 10 → (Lib.decDigits k).length = 1 := fun k hk => by rw [Lib.decDigits, dif_pos hk]; rfl
  have h2 : ∀ k, k < 100 → (Lib.decDigits k).length ≤ 2 := fun k hk => by
    by_cases h : k < 10
    · rw [h1 k h]; omega
    · rw [Lib.decDigits, dif_neg h, List.length_append, h1 (k / 10) (by omega)]; simp
  have h3 : ∀ k, k < 1000 → (Lib.decDigits k).length ≤ 3 := fun k hk => by
    by_cases h : k < 100
    · have := h2 k h; omega
    · have := h2 (k / 10) (by omega)
      rw [Lib.decDigits, dif_neg (by omega), List.length_append]; simp; omega
  by_cases hk : n < 1000
  · have := h3 n hk; omega
  · have := h3 (n / 10) (by omega)
    rw [Lib.decDigits, dif_neg (by omega), List.length_append]; simp; omega
theorem atoi_dec {n : Nat} (h : n ≤ 1024) : Lib.atoiAll (Lib.decDigits n) = .ok (n : Int) := by
  obtain ⟨h1, ⟨c, r, h2, _⟩, h3, _⟩ := dec_shape n
  rw [Lib.atoiAll_short _ (by have := dec_len h; omega), h2]
  rw [h2] at h1 h3
  have hc : digB c = true := by rw [List.all_cons, Bool.and_eq_true] at h1; exact h1.1
  have hd := (digB_iff c).1 hc
  have h45 : ¬ c = 45 := fun e => by subst e; simp at hd
  have h43 : ¬ c = 43 := fun e => by subst e; simp at hd
  have e : Lib.decNat (c :: r) = some n := by
    rw [Lib.decNat]
    rw [decFrom_dval _ 0 h1, h3]
    simp
  simp only [Lib.atoi, beq_iff_eq, if_neg h45, if_neg h43, e, Option.map_some, Lib.NumEnd.ofOption]
theorem index_sp {w : List UInt8} (r : List UInt8) (h : (32 : UInt8) ∉ w) : Lib.indexByte (w ++ 32 :: r) 32 = w.length := by
  induction w with
  | nil => rw [List.nil_append, Lib.indexByte]; simp
  | cons c w ih =>
    rw [List.mem_cons, not_or] at h
    rw [List.cons_append, Lib.indexByte, if_neg (by simpa using fun e => h.1 e.symm), ih h.2, if_neg (by simp)]
    simp
theorem cut_sp {w : List UInt8} (r : List UInt8) (h : (32 : UInt8) ∉ w) : Lib.cut (w ++ 32 :: r) [32] = (w, r, true) := by
  have hi : Lib.index (w ++ 32 :: r) [32] = w.length := by rw [Lib.index_one, index_sp r h]
  rw [Lib.cut, hi, if_pos (by omega), Int.toNat_natCast, List.take_left]
  rw [show w ++ 32 :: r = (w ++ [32]) ++ r by simp, List.drop_append_of_le_length (by simp)]
  simp
def wordN (k : Int) : List UInt8 := if k = 2 then [100, 114, 111, 112] else if k = 3 then [97, 100, 100] else [107, 101, 101, 112]
theorem head_cut {x : ByteArray} {k : Int} {n : Nat} (h : headL x = some (k, n)) : Lib.cut x.data.toList [32] = (wordN k, Lib.decDigits n, true) ∧ Lib.atoiAll (Lib.decDigits n) = .ok (n : Int) ∧ 1 ≤ k ∧ k ≤ 3 ∧ 1 ≤ n ∧ n ≤ 1024 := by
  obtain ⟨hx, k1, k3, n1, n2⟩ := head_sound [] h
  refine ⟨?_, atoi_dec n2, k1, k3, n1, n2⟩
  rw [hx, head_data]
  obtain rfl | rfl | rfl : k = 1 ∨ k = 2 ∨ k = 3 := by omega
  · exact cut_sp (w := [107, 101, 101, 112]) _ (by decide)
  · exact cut_sp (w := [100, 114, 111, 112]) _ (by decide)
  · exact cut_sp (w := [97, 100, 100]) _ (by decide)
end Go.Proofs.YtfeknjpinboknaaGreatDoor

