/- The law TemplateParses, walked: true at every text. No conditions. The reference's decimal digits and its joined words. No conditions but sizes. The reference's Format answers as the program's: formatV. No conditions but the sizes' own. -/
import Derived.Test.YtpoelhnceebmkaaGreatDoorGE18

namespace Go.Proofs.YtpoelhnceebmkaaGreatDoor
open Go Go.RowKit Go.Shelf
set_option linter.unusedSimpArgs false
set_option linter.unusedVariables false

theorem finV_some {ps qs : List Pt} {last : Nat} {ws : List ByteArray} (h : (finV ps last ws).1 = some qs) : qs = ps ∧ totW ps ≤ 256 := by
  rw [finV] at h
  split at h
  · cases h
  · split at h
    · cases h
    · split at h
      · cases h
      · exact ⟨(Option.some.inj h).symm, by omega⟩
theorem goV_some : ∀ (f : Nat) (l : List UInt8) (a last : Nat) (ps qs : List Pt) (h : Int), (goV f l a last ps h).1 = some qs → qs.length ≤ ps.length + f ∧ totW qs ≤ 256
  | 0, _, _, _, _, _, _, e => by rw [goV] at e; cases e
  | f + 1, l, a, last, ps, qs, h, e => by
    rw [goV] at e
    split at e
    · obtain ⟨rfl, h2⟩ := finV_some e
      exact ⟨by rw [List.length_append, List.length_singleton]; omega, h2⟩
    · split at e
      · cases e
      · split at e
        · cases e
        · have := goV_some f _ _ _ _ _ _ e
          rw [List.length_append, List.length_singleton] at this
          exact ⟨by omega, this.2⟩
theorem totW_mem : ∀ {ps : List Pt} {p : Pt}, p ∈ ps → p.2.length ≤ totW ps
  | q :: ps, p, h => by
    rw [totW]
    rcases List.mem_cons.1 h with rfl | h
    · omega
    · have := totW_mem h; omega
theorem parseV_some {s : ByteArray} {ps : List Pt} (h : (parseV s).1 = some ps) : ps.length ≤ s.size + 1 ∧ totW ps ≤ 256 := by
  rw [parseV] at h
  split at h
  · cases h
  · have := goV_some _ _ _ _ _ _ _ h
    simpa using this
theorem trd_none (w : World) : TRd w (.agg #[.string ⟨#[]⟩, .slice none 0 0]) ⟨#[]⟩ [] := ⟨none, 0, rfl, Nat.le_refl _, by simp [maxLen], rfl, [], rfl, Rd.none_ _, fun i h => by simp at h⟩
/-- What Parse hands back, as a template of some name and some parts. -/
theorem parse_res (nm s : ByteArray) (hs : s.size ≤ 10000) : ∃ (NM : ByteArray) (PS : List Pt), PS.length ≤ 20000 ∧ (∀ p ∈ PS, p.2.length ≤ 256) ∧
    ∀ (W : World) (tv : Value), ((parseV s).1 = none → tv = .agg #[.string ⟨#[]⟩, .slice none 0 0]) → (∀ ps, (parseV s).1 = some ps → TRd W tv nm ps) → TRd W tv NM PS := by
  cases hp : (parseV s).1 with
  | none => exact ⟨⟨#[]⟩, [], by simp, (fun p hp => by cases hp), fun W tv h _ => by rw [h rfl]; exact trd_none W⟩
  | some ps =>
    obtain ⟨h1, h2⟩ := parseV_some hp
    exact ⟨nm, ps, by omega, fun p hp => by have := totW_mem hp; omega, fun W tv _ h => h ps rfl⟩
theorem parseP (nm s NM : ByteArray) (PS : List Pt) (n : Nat) (hn : PS.length = n) (hs : s.size ≤ 10000)
    (H : ∀ (W : World) (tv : Value), ((parseV s).1 = none → tv = .agg #[.string ⟨#[]⟩, .slice none 0 0]) → (∀ ps, (parseV s).1 = some ps → TRd W tv nm ps) → TRd W tv NM PS) (w : World) :
    Calls Tryz.prog 10 #[.string nm, .string s] w fun e w' => ∃ A c, e = .returned (.tuple #[.agg #[.string NM, .slice A n c], .int .i64 ((parseV s).2.1 : Nat), .int .i64 (parseV s).2.2]) ∧ TRd w' (.agg #[.string NM, .slice A n c]) NM PS ∧ New w w' := by
  subst hn
  refine (parse_any nm s w hs (fun a W => ?_)).mono ?_
  · refine (braces_any _ W (by simp; omega)).mono ?_
    rintro e w' ⟨rfl, h⟩
    exact ⟨by rw [ext_drop], h⟩
  · rintro e w' ⟨tv, rfl, h1, h2, h3⟩
    have hT := H w' tv h2 h3
    obtain ⟨A, c, e, _⟩ := id hT
    subst e
    exact ⟨A, c, rfl, hT, h1⟩
theorem parseR (nm s NM : ByteArray) (PS : List Pt) (n : Nat) (hn : PS.length = n) (hs : s.size ≤ 10000)
    (H : ∀ (W : World) (tv : Value), ((parseV s).1 = none → tv = .agg #[.string ⟨#[]⟩, .slice none 0 0]) → (∀ ps, (parseV s).1 = some ps → TRd W tv nm ps) → TRd W tv NM PS) (w : World) :
    Calls Tryz.prog 11 #[.string nm, .string s] w fun e w' => ∃ A c, e = .returned (.agg #[.string NM, .slice A n c, .int .i64 ((parseV s).2.1 : Nat), .int .i64 (parseV s).2.2]) ∧ TRd w' (.agg #[.string NM, .slice A n c]) NM PS ∧ New w w' := by
  subst hn
  refine (rparse_any nm s w hs).mono ?_
  rintro e w' ⟨ta, tb, rfl, h1, h2, h3⟩
  have hT := H w' (.agg #[ta, tb]) (fun e => by obtain ⟨rfl, rfl⟩ := h2 e; rfl) h3
  obtain ⟨A, c, e, _⟩ := id hT
  injection e with e
  injection e with e
  simp only [List.cons.injEq, and_true] at e
  obtain ⟨rfl, rfl⟩ := e
  exact ⟨A, c, rfl, hT, h1⟩

set_option maxRecDepth 100000 in
set_option maxHeartbeats 4000000 in
theorem law_parses (nm s : ByteArray) (w : World) : Calls Tryz.prog 3 #[.string nm, .string s] w fun e w' => e = .returned (.bool true) ∧ New w w' := by
  have HA := Lib.hid awake_any
  by_cases hs : (2500 < s.size ∧ s.size ≤ 4096) ∨ 4200 < s.size ∨ 200 < nm.size
  · by_cases h1 : 2500 < s.size
    · have t1 : decide ((2500 : Int) < (s.size : Int)) = true := decide_eq_true (by omega)
      by_cases h2 : s.size ≤ 4096
      · have t2 : decide ((s.size : Int) ≤ 4096) = true := decide_eq_true (by omega)
        go_enter Tryz.func3, Tryz.ntmps3
        go_wp2_with (go_at_call 9; refine (HA.out _).mono ?_; rintro e w0 ⟨rfl, h0⟩)
        go_ret
        exact ⟨rfl, h0⟩
      · have t2 : decide ((s.size : Int) ≤ 4096) = false := decide_eq_false (by omega)
        by_cases h3 : 4200 < s.size
        · have t3 : decide ((4200 : Int) < (s.size : Int)) = true := decide_eq_true (by omega)
          go_enter Tryz.func3, Tryz.ntmps3
          go_wp2_with (go_at_call 9; refine (HA.out _).mono ?_; rintro e w0 ⟨rfl, h0⟩)
          go_ret
          exact ⟨rfl, h0⟩
        · have t3 : decide ((4200 : Int) < (s.size : Int)) = false := decide_eq_false (by omega)
          have t4 : decide ((200 : Int) < (nm.size : Int)) = true := decide_eq_true (by omega)
          go_enter Tryz.func3, Tryz.ntmps3
          go_wp2_with (go_at_call 9; refine (HA.out _).mono ?_; rintro e w0 ⟨rfl, h0⟩)
          go_ret
          exact ⟨rfl, h0⟩
    · have t1 : decide ((2500 : Int) < (s.size : Int)) = false := decide_eq_false (by omega)
      have t3 : decide ((4200 : Int) < (s.size : Int)) = false := decide_eq_false (by omega)
      have t4 : decide ((200 : Int) < (nm.size : Int)) = true := decide_eq_true (by omega)
      go_enter Tryz.func3, Tryz.ntmps3
      go_wp2_with (go_at_call 9; refine (HA.out _).mono ?_; rintro e w0 ⟨rfl, h0⟩)
      go_ret
      exact ⟨rfl, h0⟩
  · have t3 : decide ((4200 : Int) < (s.size : Int)) = false := decide_eq_false (by omega)
    have t4 : decide ((200 : Int) < (nm.size : Int)) = false := decide_eq_false (by omega)
    have hsz : s.size ≤ 10000 := by omega
    obtain ⟨NM, PS, g1, g2, H⟩ := parse_res nm s hsz
    obtain ⟨n, hn⟩ : ∃ n, PS.length = n := ⟨_, rfl⟩
    have HP := Lib.hid (parseP nm s NM PS n hn hsz H)
    have HR := Lib.hid (parseR nm s NM PS n hn hsz H)
    have HS := Lib.hid (fun (v v' : Value) (w : World) h h' => same_self v v' NM PS w h h' (by omega) (fun p hp => by have := g2 p hp; omega))
    clear H hn g2 hsz
    generalize (parseV s).2.1 = at_ at *
    generalize (parseV s).2.2 = er at *
    have b1 : (((at_ : Nat) : Int) == ((at_ : Nat) : Int)) = true := beq_self_eq_true _
    have b2 : (er == er) = true := beq_self_eq_true _
    by_cases h1 : 2500 < s.size
    · have t1 : decide ((2500 : Int) < (s.size : Int)) = true := decide_eq_true (by omega)
      have t2 : decide ((s.size : Int) ≤ 4096) = false := decide_eq_false (by omega)
      clear h1 hs
      go_enter Tryz.func3, Tryz.ntmps3
      go_wp2_with (first
        | (go_at_call 12; refine (HS.out _ _ _ r1' r2').mono ?_; rintro e w3 ⟨rfl, h3⟩; have q1 := (BR.new h3).cell' 2 _ rfl; have q2 := (BR.new h3).cell' 3 _ rfl)
        | (go_at_call 11; refine (HR.out _).mono ?_; rintro e w2 ⟨A2, c2, rfl, r2, h2⟩; have B2 := (B1.new h2).alloc (.cells #[.string NM, .slice A2 n c2, .int .i64 (at_ : Nat), .int .i64 er] 30); have BR := Blk.made w2 30 #[.string NM, .slice A2 n c2, .int .i64 (at_ : Nat), .int .i64 er]; have k0 := B2.cell' 0 _ rfl; have k1 := B2.cell' 1 _ rfl; have k2 := BR.cell' 0 _ rfl; have k3 := BR.cell' 1 _ rfl; have hn2 := (New.refl w2).alloc (.cells #[.string NM, .slice A2 n c2, .int .i64 (at_ : Nat), .int .i64 er] 30); have r1' := (r1.new (((New.refl w1).alloc (.cells #[.string NM, .slice A1 n c1] 25)).trans h2)).new hn2; have r2' := r2.new hn2)
        | (go_at_call 10; refine (HP.out _).mono ?_; rintro e w1 ⟨A1, c1, rfl, r1, h1⟩; have B1 := Blk.made w1 25 #[.string NM, .slice A1 n c1])
        | (go_at_call 9; refine (HA.out _).mono ?_; rintro e w0 ⟨rfl, h0⟩))
      go_ret
      exact ⟨rfl, ((((h0.trans h1).alloc _).trans h2).alloc _).trans h3⟩
    · have t1 : decide ((2500 : Int) < (s.size : Int)) = false := decide_eq_false (by omega)
      clear h1 hs
      go_enter Tryz.func3, Tryz.ntmps3
      go_wp2_with (first
        | (go_at_call 12; refine (HS.out _ _ _ r1' r2').mono ?_; rintro e w3 ⟨rfl, h3⟩; have q1 := (BR.new h3).cell' 2 _ rfl; have q2 := (BR.new h3).cell' 3 _ rfl)
        | (go_at_call 11; refine (HR.out _).mono ?_; rintro e w2 ⟨A2, c2, rfl, r2, h2⟩; have B2 := (B1.new h2).alloc (.cells #[.string NM, .slice A2 n c2, .int .i64 (at_ : Nat), .int .i64 er] 30); have BR := Blk.made w2 30 #[.string NM, .slice A2 n c2, .int .i64 (at_ : Nat), .int .i64 er]; have k0 := B2.cell' 0 _ rfl; have k1 := B2.cell' 1 _ rfl; have k2 := BR.cell' 0 _ rfl; have k3 := BR.cell' 1 _ rfl; have hn2 := (New.refl w2).alloc (.cells #[.string NM, .slice A2 n c2, .int .i64 (at_ : Nat), .int .i64 er] 30); have r1' := (r1.new (((New.refl w1).alloc (.cells #[.string NM, .slice A1 n c1] 25)).trans h2)).new hn2; have r2' := r2.new hn2)
        | (go_at_call 10; refine (HP.out _).mono ?_; rintro e w1 ⟨A1, c1, rfl, r1, h1⟩; have B1 := Blk.made w1 25 #[.string NM, .slice A1 n c1])
        | (go_at_call 9; refine (HA.out _).mono ?_; rintro e w0 ⟨rfl, h0⟩))
      go_ret
      exact ⟨rfl, ((((h0.trans h1).alloc _).trans h2).alloc _).trans h3⟩
end Go.Proofs.YtpoelhnceebmkaaGreatDoor

namespace Go.Proofs.YtpoelhnceebmkaaGreatDoor
open Go Go.RowKit Go.Shelf
set_option linter.unusedSimpArgs false
set_option linter.unusedVariables false

theorem dec_low {n : Nat} (h : n < 10) : Lib.decDigits n = [UInt8.ofNat (48 + n)] := by rw [Lib.decDigits, dif_pos h]
theorem dec_high {n : Nat} (h : 10 ≤ n) : Lib.decDigits n = Lib.decDigits (n / 10) ++ Lib.decDigits (n % 10) := by
  conv => lhs; rw [Lib.decDigits, dif_neg (by omega)]
  rw [Lib.decDigits_one (i := n % 10) (by omega)]
theorem S_append (a b : List UInt8) : S (a ++ b) = S a ++ S b := by
  apply ByteArray.ext
  simp [S]
theorem convD (W : World) (g k : Nat) (hk : k < 10) (h : W.cell? ⟨g, 0, none⟩ = some (.int .u8 (48 + (k : Int)))) : (convert 104 9 (.slice (some ⟨g, 0, none⟩) 1 1)).run Tryz.prog W = .ok (.string (S (Lib.decDigits k))) W := by
  rw [dec_low hk]
  have h8 : (UInt8.ofNat (48 + k)).toNat = 48 + k := by
    show (48 + k) % 256 = _; omega
  refine run_convert_bytes_back (P := Tryz.prog) W 104 9 5 ⟨g, 0, none⟩ 1 [UInt8.ofNat (48 + k)] Tryz.underlying104 Tryz.underlying5 Tryz.underlying9 (fun j hj => ?_)
  obtain rfl : j = 0 := by simpa using hj
  rw [add_none rfl, Nat.zero_add, h]
  show _ = some (Value.int .u8 ((UInt8.ofNat (48 + k)).toNat : Int))
  rw [h8]; simp

set_option maxRecDepth 100000 in
set_option maxHeartbeats 4000000 in
theorem decimal_low (n : Nat) (hn : n < 10) (w : World) :
    Calls Tryz.prog 46 #[.int .i64 n] w fun e w' => e = .returned (.string (S (Lib.decDigits n))) ∧ New w w' := by
  have CV : ∀ W g, W.cell? ⟨g, 0, none⟩ = some (.int .u8 (48 + (n : Int))) → (convert 104 9 (.slice (some ⟨g, 0, none⟩) 1 1)).run Tryz.prog W = .ok (.string (S (Lib.decDigits n))) W := fun W g h => convD W g n hn h
  have v0 : IntKind.i64.wrap (48 + (n : Int)) = 48 + (n : Int) := IntWalk.i64_in _ (by omega)
  have v1 : IntKind.u8.wrap (48 + (n : Int)) = 48 + (n : Int) := IntWalk.u8_in _ (by omega)
  have v2 : (n : Int) < 10 := by omega
  go_enter Tryz.func46, Tryz.ntmps46
  go_wp2
  go_ret
  exact ⟨rfl, (New.refl w).alloc _⟩
set_option maxRecDepth 100000 in
set_option maxHeartbeats 4000000 in
theorem decimal_any (n : Nat) (hn : n < 100) (w : World) :
    Calls Tryz.prog 46 #[.int .i64 n] w fun e w' => e = .returned (.string (S (Lib.decDigits n))) ∧ New w w' := by
  by_cases h : n < 10
  · exact decimal_low n h w
  obtain ⟨q, hq⟩ : ∃ q, n / 10 = q := ⟨_, rfl⟩
  obtain ⟨r, hr⟩ : ∃ r, n % 10 = r := ⟨_, rfl⟩
  have d1 : (n : Int) / 10 = (q : Int) := by omega
  have d2 : (n : Int) % 10 = (r : Int) := by omega
  have v2 : ¬ (n : Int) < 10 := by omega
  rw [dec_high (by omega), hq, hr]
  have h1 := dec_len (h := q) (by omega)
  have h2 := dec_len (h := r) (by omega)
  have IH := Lib.hid (decimal_low q (by omega))
  have IH2 := Lib.hid (decimal_low r (by omega))
  rw [S_append]
  generalize Lib.decDigits q = a at *
  generalize Lib.decDigits r = b at *
  have k1 : ¬ (9223372036854775807 < (S a).size + (S b).size) := by simp only [size_S]; omega
  clear hq hr
  go_enter Tryz.func46, Tryz.ntmps46
  go_wp2_with (first | (go_at_call 46; have hnx := hn1; refine (IH2.out _).mono ?_; rintro e w2 ⟨rfl, hn2⟩) | (go_at_call 46; refine (IH.out _).mono ?_; rintro e w1 ⟨rfl, hn1⟩))
  go_ret
  exact ⟨rfl, hn1.trans hn2⟩

theorem joinTail_app (l r : List (List UInt8)) : Lib.joinTail [32] (l ++ r) = Lib.joinTail [32] l ++ Lib.joinTail [32] r := by
  unfold Lib.joinTail; simp
theorem joinV_nil : joinV [] = ⟨#[]⟩ := rfl
theorem joinV_one (x : ByteArray) : joinV [x] = x := by
  apply ByteArray.ext
  simp [joinV, Lib.join_cons, Lib.joinTail]
theorem joinV_snoc {ws : List ByteArray} (h : ws ≠ []) (x : ByteArray) : joinV (ws ++ [x]) = joinV ws ++ (⟨#[32]⟩ : ByteArray) ++ x := by
  cases ws with
  | nil => exact absurd rfl h
  | cons a r =>
    apply ByteArray.ext
    simp only [joinV, List.cons_append, List.map_cons, List.map_append, List.map_nil, Lib.join_cons, joinTail_app, ByteArray.data_append]
    simp [Lib.joinTail]
theorem joinV_size (ws : List ByteArray) (h : SzW ws) : (joinV ws).size ≤ ws.length * 1000001 := by
  have := join_len (ws.map (·.data.toList)) 1000000 (fun x hx => by
    obtain ⟨y, hy, rfl⟩ := List.mem_map.1 hx
    rw [← size_eq]; exact h y hy)
  rw [List.length_map] at this
  exact this
set_option maxRecDepth 100000 in
set_option maxHeartbeats 4000000 in
theorem joined_any (A : Option Addr) (n c : Nat) (ws : List ByteArray) (hl : ws.length = n) (w : World) (hr : Rd w 1 A n (sCells ws)) (hn : n ≤ 100000000) (hb : SzW ws) :
    Calls Tryz.prog 47 #[.slice A n c] w fun e w' => e = .returned (.string (joinV ws)) ∧ New w w' := by
  have HL := Lib.hid hl
  have HB := Lib.hid hb
  have HR := Lib.hid hr
  clear hb hr
  go_enter Tryz.func47, Tryz.ntmps47
  go_wp2
  go_loopw [3, 4] (fun v3 v4 wr => ∃ i : Nat, v4 = .int .i64 i ∧ i ≤ n ∧ v3 = .string (joinV (ws.take i)) ∧ New w wr) (fun _ v4 _ => n - (intOf v4).toNat)
  case atStart => exact ⟨0, rfl, by omega, rfl, New.refl _⟩
  case round =>
    obtain ⟨i, rfl, hi, rfl, hnr⟩ := hrel
    by_cases hlt : i < n
    · obtain ⟨b, o, rfl, hbk, hc⟩ := HR.out.2 (by omega)
      have hli : i < ws.length := by rw [HL.out]; exact hlt
      have hx : (sCells ws)[i]? = some (.string ws[i]) := by rw [sCells, List.getElem?_map, List.getElem?_eq_getElem hli]; rfl
      have c1 := cell_new hnr (hc i _ hx)
      have hzi := HB.out ws[i] (List.getElem_mem _)
      have hsz := joinV_size (ws.take i) (fun x hx => HB.out x (List.mem_of_mem_take hx))
      rw [List.length_take, Nat.min_eq_left (by omega)] at hsz
      have htk : ws.take (i + 1) = ws.take i ++ [ws[i]] := List.take_succ_eq_append_getElem hli
      generalize ws[i] = x at *
      have i0 : (0 : Int) ≤ (i : Int) := by omega
      have i1 : (i : Int) < (n : Int) := by omega
      clear hx hc
      by_cases h0 : i = 0
      · subst h0
        have e1 : joinV (ws.take (0 + 1)) = (⟨#[]⟩ : ByteArray) ++ x := by
          rw [htk, List.take_zero, List.nil_append, joinV_one]
          apply ByteArray.ext; simp
        have HS := Lib.hid e1
        have e0 : joinV (ws.take 0) = ⟨#[]⟩ := rfl
        rw [e0]
        simp only [Nat.add_zero] at c1
        have k1 : ¬ (9223372036854775807 < 0 + x.size) := by omega
        clear htk hsz e1 e0
        go_wp2
        go_roundw
        case rel => exact ⟨0 + 1, by go_num, by omega, by rw [HS.out], hnr⟩
        case measure => simp [intOf]; omega
      · have hne : ws.take i ≠ [] := fun e => by have e2 := congrArg List.length e; rw [List.length_take, Nat.min_eq_left (by omega)] at e2; simp at e2; omega
        have hsn := joinV_snoc hne x
        rw [← htk] at hsn
        have HS := Lib.hid hsn
        have g0 : (0 : Int) < (i : Int) := by omega
        generalize joinV (ws.take i) = J at *
        have k0 : ¬ (9223372036854775807 < J.size + 1) := by omega
        have k1 : ¬ (9223372036854775807 < J.size + 1 + x.size) := by omega
        clear htk hsn hne hsz
        go_wp2
        go_roundw
        case rel => exact ⟨i + 1, by go_num, by omega, by rw [HS.out], hnr⟩
        case measure => simp [intOf]; omega
    · obtain rfl : i = n := by omega
      rw [List.take_of_length_le (by rw [HL.out]; exact Nat.le_refl _)]
      go_wp2
      go_ret
      exact ⟨rfl, hnr⟩
end Go.Proofs.YtpoelhnceebmkaaGreatDoor

namespace Go.Proofs.YtpoelhnceebmkaaGreatDoor
open Go Go.RowKit Go.Shelf
set_option linter.unusedSimpArgs false
set_option linter.unusedVariables false

set_option maxRecDepth 100000 in
set_option maxHeartbeats 8000000 in
theorem rformat_any (v : Value) (nm : ByteArray) (ps : List Pt) (w : World) (h : TRd w v nm ps) (hs : SmT ps) (hzp : ∀ p ∈ ps, SzW p.2) :
    Calls Tryz.prog 18 #[v] w fun e w' => e = .returned (.tuple #[.string (formatV ps).1, .int .i64 (formatV ps).2]) ∧ New w w' := by
  obtain ⟨j0, hi0, hz0, hz1, hz2⟩ := info_parts Tryz.info9'
  obtain ⟨Ap, cp, rfl, hcp1, hcp2, hp⟩ := h
  obtain ⟨np, hnp⟩ : ∃ k, ps.length = k := ⟨_, rfl⟩
  have HT : Hid (TRd w (.agg #[.string nm, .slice Ap np cp]) nm ps) := Lib.hid ⟨Ap, cp, by rw [hnp], hcp1, hcp2, hp⟩
  rw [hnp] at hp hcp1 ⊢
  have hnS : New w (w.alloc (.cells #[.string nm, .slice Ap np cp] 25)) := (New.refl w).alloc _
  have B0 := Blk.made w 25 #[.string nm, .slice Ap np cp]
  have b1 := B0.cell' 0 _ rfl
  have b2 := B0.cell' 1 _ rfl
  have HC := Lib.hid (rcheck_any _ nm ps _ (HT.out.new hnS) hs (fun p hp x hx => Nat.le_trans (hzp p hp x hx) (by omega)))
  have HKO := Lib.hid (fun h => check_ok (ps := ps) h)
  have hsl : np ≤ 1000 := by rw [← hnp]; exact hs.1
  have HM : Hid (formatV ps = if checkV ps ≠ 0 then (⟨#[]⟩, checkV ps) else fmtB ps) := Lib.hid rfl
  generalize formatV ps = R at *
  obtain ⟨R1, R2⟩ := R
  generalize checkV ps = ck at *
  by_cases hck : ck = 0
  · subst hck
    obtain ⟨p0, r, rfl, -, hne0, -, hh, htot⟩ := HKO.out rfl
    have hrl : r.length + 1 = np := by simpa using hnp
    have hR : (R1, R2) = (joinV (fmtL p0.2 r), 0) := by have := HM.out; rw [if_neg (by simp)] at this; exact this
    injection hR with hR1 hR2
    subst hR2
    have HR := Lib.hid hR1
    have HZ := Lib.hid hzp
    have HH := Lib.hid hh
    have HP := Lib.hid hp
    have HS2 := Lib.hid (fun p hp => hs.2 p hp)
    clear hnp hR1 hzp hh hp hs b1 b2 HKO HM
    go_enter Tryz.func18, Tryz.ntmps18
    go_wp2_with (go_at_call 22; refine HC.out.mono ?_; rintro e w1 ⟨rfl, hn1⟩; have k1 := (B0.new hn1).cell' 1 _ rfl)
    have B1 := B0.new hn1
    have hB1 : w.heap.size < w1.heap.size := B1.lt
    clear k1
    go_loopw [5, 6] (fun v5 v6 wr => ∃ (i : Nat) (out : List ByteArray), v6 = .int .i64 i ∧ i ≤ np ∧ wr.ownsRow w1.heap.size 9 1 v5 out.length (sCells out) ∧ out.length ≤ i * 2000 ∧ Hid (SzW out) ∧ New w1 wr ∧ Hid ((i = 0 → out = []) ∧ (0 < i → fmtL out (r.drop (i - 1)) = fmtL p0.2 r))) (fun _ v6 _ => np - (intOf v6).toNat)
    case atStart => exact ⟨0, [], rfl, by omega, World.ownsRow_nil _ _ _ _, by simp, Lib.hid (fun x hx => by cases hx), New.refl _, Lib.hid ⟨fun _ => rfl, fun h => by omega⟩⟩
    case round =>
      obtain ⟨v5, hv5⟩ : ∃ x, x = u5 := ⟨_, rfl⟩
      subst hv5
      obtain ⟨i, out, rfl, hi, own, hol, HZo, hnr, HGo⟩ := hrel
      have k1 := (B1.new hnr).cell' 1 _ rfl
      by_cases hlt : i < np
      · obtain ⟨bq, oq, vq, p', eq, hp', d1, d2, hwp⟩ := (HP.out.new (hnS.trans hn1)).at hlt
        subst eq
        have hbq : bq < w1.heap.size := World.block_lt_of_cell? w1 ⟨bq, oq + i * 2, none⟩ d1
        have hpm := List.mem_of_getElem? hp'
        have hpl := HS2.out p' hpm
        have hzp1 := HZ.out p' hpm
        obtain ⟨Aq, cq, rfl, hq1, hq2, hqr⟩ := hwp
        have d1r := cell_new hnr d1
        have d2r := cell_new hnr d2
        have hwr := hnr.size
        have x0 : (0 : Int) ≤ (i : Int) := by omega
        have x1 : (i : Int) < (np : Int) := by omega
        by_cases hi9 : i = 0
        · subst hi9
          obtain rfl : p0 = p' := by simpa using hp'
          have hq0 := List.length_pos_iff.2 hne0
          obtain ⟨bq2, oq2, rfl, hbq2, hcq2⟩ := hqr.2 (by omega)
          obtain rfl : out = [] := HGo.out.1 rfl
          have hnewq : ∀ j u, (sCells p0.2)[j]? = some u → wr.cell? ((⟨bq2, oq2, none⟩ : Addr).add j) = some u := fun j u hu => by
            rw [add_none rfl]; exact cell_new hnr (hcq2 j u hu)
          simp only [Nat.zero_mul, Nat.add_zero] at d1r d2r
          clear d1 d2 hqr hcq2
          go_wp2_with (at_builtin; refine wpList_append_own _ rfl (.tmp 33) (.tmp 39) 37 rfl w1.heap.size 9 j0 (.string ⟨#[]⟩) 1 16 Tryz.underlying37 hi0 hz0 hz1 hz2 rfl (by decide) _ _ _ rfl own ⟨bq2, oq2, none⟩ p0.2.length cq (sCells p0.2) rfl (by simp [sCells]) hnewq ?c2 ?c3 ?c4 (Nat.le_of_lt_succ (by omega)) ?_)
          case c2 => simp [sCells, Value.oneCell']
          case c3 => simp [maxLen]; omega
          case c4 => first | omega | (simp; omega)
          intro v' w2 hown hg _
          go_wp2
          go_roundw
          case rel => exact ⟨0 + 1, p0.2, by go_num, by omega, own_to hown (by simp) (by simp [sCells]), by omega, Lib.hid hzp1, Below.grown hnr hg (by omega) (fun q hq => (own.lt q hq).1), Lib.hid ⟨fun h => by omega, fun _ => rfl⟩⟩
          case measure => simp [intOf]; omega
        · have hpr : r[i - 1]? = some p' := by
            obtain ⟨k, rfl⟩ : ∃ k, i = k + 1 := ⟨i - 1, by omega⟩
            simpa using hp'
          obtain ⟨hp1, hp2, hpne, _⟩ := HH.out p' (List.mem_of_getElem? hpr)
          have hgo := fmtL_at (out := out) hpr
          rw [HGo.out.2 (by omega), show i - 1 + 1 = i by omega] at hgo
          obtain ⟨hz, hzi⟩ : ∃ h : Nat, p'.1 = (h : Int) := ⟨p'.1.toNat, by omega⟩
          have hq0 := List.length_pos_iff.2 hpne
          rw [hzi] at d1 d1r hp1 hp2 hgo
          have HI := Lib.hid (fun w => decimal_any hz (by omega) w)
          have hdl := dec_len (h := hz) (by omega)
          have hhs : holeS (hz : Int) = ⟨#[123]⟩ ++ S (Lib.decDigits hz) ++ (⟨#[125]⟩ : ByteArray) := rfl
          have hds : (S (Lib.decDigits hz)).size ≤ 2 := by rw [size_S]; exact hdl
          obtain ⟨hd, hhd⟩ : ∃ x, S (Lib.decDigits hz) = x := ⟨_, rfl⟩
          rw [hhd] at HI hhs hds
          have hsz : (holeS (hz : Int)).size ≤ 4 := by rw [hhs, ByteArray.size_append, ByteArray.size_append]; show 1 + _ + 1 ≤ 4; omega
          have x2 : ¬ (9223372036854775807 < 1 + hd.size) := by omega
          have x3 : ¬ (9223372036854775807 < 1 + hd.size + 1) := by omega
          obtain ⟨hs9, hhs9⟩ : ∃ x, holeS (hz : Int) = x := ⟨_, rfl⟩
          rw [hhs9] at hhs hsz hgo
          subst hhs
          have HGo2 := Lib.hid hgo
          have HDS := Lib.hid hsz
          obtain ⟨bq2, oq2, rfl, hbq2, hcq2⟩ := hqr.2 (by omega)
          have hlt0 : (0 : Int) < (i : Int) := by omega
          have hne1 : v5.ownBlock ≠ some w.heap.size := fun e => by have := (own.lt _ e).1; omega
          have hne2 : v5.ownBlock ≠ some bq := fun e => by have := (own.lt _ e).1; omega
          have hneQ : some bq2 ≠ v5.ownBlock := fun e => by have := (own.lt _ e.symm).1; omega
          generalize p'.2 = ws at *
          clear d1 d2 hqr hhd hdl hgo hi9 hsz hpr hp' hpm hzi
          obtain ⟨hfull, hfe⟩ : ∃ x : ByteArray, x = (⟨#[123]⟩ : ByteArray) ++ hd ++ (⟨#[125]⟩ : ByteArray) := ⟨_, rfl⟩
          go_wp2_with (first
            | (at_builtin; refine wpList_append_own _ rfl (.tmp 21) (.tmp 31) 37 rfl w1.heap.size 9 j0 (.string ⟨#[]⟩) 1 16 Tryz.underlying37 hi0 hz0 hz1 hz2 rfl (by decide) _ _ _ rfl ((own_new own hn9).alloc _) ⟨w9.heap.size, 0, none⟩ 1 1 [.string hfull] rfl rfl ?c1 ?c2 ?c3 ?c4 ?c5 ?_)
            | (go_at_call 46; refine (HI.out _).mono ?_; rintro e w9 ⟨rfl, hn9⟩))
          all_goals subst hfe
          case c1 => exact cell_one_new w9 (.string _) 9
          case c2 => simp [Value.oneCell']
          case c3 => simp [maxLen]; omega
          case c4 => omega
          case c5 => have := hn9.size; simp; omega
          intro v2 w2 hown2 hg2 _
          have hnw9 : New w1 (w9.alloc (.cells #[.string ((⟨#[123]⟩ : ByteArray) ++ hd ++ (⟨#[125]⟩ : ByteArray))] 9)) := (hnr.trans hn9).alloc _
          have hnn := (New.refl w9).alloc (.cells #[.string ((⟨#[123]⟩ : ByteArray) ++ hd ++ (⟨#[125]⟩ : ByteArray))] 9)
          have k9 := hg2.cell (cell_new hnn (cell_new hn9 k1)) (Ne.symm hne1)
          have k8 := hg2.cell (cell_new hnn (cell_new hn9 d2r)) (Ne.symm hne2)
          have hnewq : ∀ j u, (sCells ws)[j]? = some u → w2.cell? ((⟨bq2, oq2, none⟩ : Addr).add j) = some u := fun j u hu => hg2.cell (cell_new hnw9 (by rw [add_none rfl]; exact hcq2 j u hu)) (by rw [add_none rfl]; exact hneQ)
          have hsz2 := hg2.size
          have hs9' := hn9.size
          simp only [World.size_alloc] at hsz2
          have hnw2 : New w1 w2 := Below.grown hnw9 hg2 (by simp; omega) (fun q hq => (own.lt q hq).1)
          clear hcq2 hg2 k1 d2r d1r
          go_wp2_with (at_builtin; refine wpList_append_own _ rfl (.tmp 33) (.tmp 39) 37 rfl w1.heap.size 9 j0 (.string ⟨#[]⟩) 1 16 Tryz.underlying37 hi0 hz0 hz1 hz2 rfl (by decide) _ _ _ rfl hown2 ⟨bq2, oq2, none⟩ ws.length cq (sCells ws) rfl (by simp [sCells]) hnewq ?c2 ?c3 ?c4 ?c5 ?_)
          case c2 => simp [sCells, Value.oneCell']
          case c3 => simp [maxLen]; omega
          case c4 => omega
          case c5 => omega
          intro v3 w3 hown3 hg3 _
          go_wp2
          go_roundw
          case rel => exact ⟨i + 1, out ++ [(⟨#[123]⟩ : ByteArray) ++ hd ++ (⟨#[125]⟩ : ByteArray)] ++ ws, by go_num, by omega, own_to hown3 (by simp; omega) (by simp [sCells]), by simp; omega, Lib.hid (SzW.app (SzW.app HZo.out (fun x hx => by rw [List.mem_singleton.1 hx]; have := HDS.out; omega)) hzp1), Below.grown hnw2 hg3 hnw2.size (fun q hq => (hown2.lt q hq).1), Lib.hid ⟨fun h => by omega, fun _ => HGo2.out.symm⟩⟩
          case measure => simp [intOf]; omega
      · obtain rfl : i = np := by omega
        have hF : R1 = joinV out := by
          rw [HR.out]
          have := HGo.out.2 (by omega)
          rw [List.drop_of_length_le (by omega), fmtL] at this
          rw [← this]
        obtain ⟨m, hm⟩ : ∃ k, out.length = k := ⟨_, rfl⟩
        rw [hm] at own hol
        obtain ⟨A9, c9, rfl, q1, q2, q3⟩ := own_form own
        have HJ := Lib.hid (joined_any A9 m c9 out hm wr q3 (by omega) HZo.out)
        rw [← hF] at HJ
        clear hm q3 hF
        go_wp2_with (go_at_call 47; refine HJ.out.mono ?_; rintro e w3 ⟨rfl, hn3⟩)
        exact bodyPost_ret (v := .tuple #[.string R1, .int .i64 0]) (by simp [results, Tryz.results18, go_sem]) rfl ⟨rfl, ((hnS.trans hn1).trans hnr).trans hn3⟩
  · have hR := HM.out
    rw [if_pos hck] at hR
    injection hR with hR1 hR2
    subst hR1 hR2
    have c1 : (R2 == 0) = false := beq_eq_false_iff_ne.2 hck
    go_enter Tryz.func18, Tryz.ntmps18
    go_wp2_with (go_at_call 22; refine HC.out.mono ?_; rintro e w1 ⟨rfl, hn1⟩)
    exact bodyPost_ret (v := .tuple #[.string ⟨#[]⟩, .int .i64 R2]) (by simp [results, Tryz.results18, go_sem]) rfl ⟨rfl, hnS.trans hn1⟩
end Go.Proofs.YtpoelhnceebmkaaGreatDoor

