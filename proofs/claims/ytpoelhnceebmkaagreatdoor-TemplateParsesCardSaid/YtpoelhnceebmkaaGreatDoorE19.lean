/- The law TemplateParses, walked: true at every text. No conditions. -/
import Derived.Test.YtpoelhnceebmkaaGreatDoorE18
namespace Go.Proofs.YtpoelhnceebmkaaGreatDoor
open Go Go.RowKit Go.Shelf
set_option linter.unusedSimpArgs false
set_option linter.unusedVariables false

theorem finV_some {ps qs : List Pt} {last : Nat} {ws : List ByteArray} (h : (finV ps last ws).1 = some qs) : qs = ps ∧ totW ps ≤ 256 := by
  rw [finV] at h
  split at h
  · cases h
  · split at h
    · cases h
    · split at h
      · cases h
      · exact ⟨(Option.some.inj h).symm, by omega⟩
theorem goV_some : ∀ (f : Nat) (l : List UInt8) (a last : Nat) (ps qs : List Pt) (h : Int), (goV f l a last ps h).1 = some qs → qs.length ≤ ps.length + f ∧ totW qs ≤ 256
  | 0, _, _, _, _, _, _, e => by rw [goV] at e; cases e
  | f + 1, l, a, last, ps, qs, h, e => by
    rw [goV] at e
    split at e
    · obtain ⟨rfl, h2⟩ := finV_some e
      exact ⟨by rw [List.length_append, List.length_singleton]; omega, h2⟩
    · split at e
      · cases e
      · split at e
        · cases e
        · have := goV_some f _ _ _ _ _ _ e
          rw [List.length_append, List.length_singleton] at this
          exact ⟨by omega, this.2⟩
theorem totW_mem : ∀ {ps : List Pt} {p : Pt}, p ∈ ps → p.2.length ≤ totW ps
  | q :: ps, p, h => by
    rw [totW]
    rcases List.mem_cons.1 h with rfl | h
    · omega
    · have := totW_mem h; omega
theorem parseV_some {s : ByteArray} {ps : List Pt} (h : (parseV s).1 = some ps) : ps.length ≤ s.size + 1 ∧ totW ps ≤ 256 := by
  rw [parseV] at h
  split at h
  · cases h
  · have := goV_some _ _ _ _ _ _ _ h
    simpa using this
theorem trd_none (w : World) : TRd w (.agg #[.string ⟨#[]⟩, .slice none 0 0]) ⟨#[]⟩ [] := ⟨none, 0, rfl, Nat.le_refl _, by simp [maxLen], rfl, [], rfl, Rd.none_ _, fun i h => by simp at h⟩
/-- What Parse hands back, as a template of some name and some parts. -/
theorem parse_res (nm s : ByteArray) (hs : s.size ≤ 10000) : ∃ (NM : ByteArray) (PS : List Pt), PS.length ≤ 20000 ∧ (∀ p ∈ PS, p.2.length ≤ 256) ∧
    ∀ (W : World) (tv : Value), ((parseV s).1 = none → tv = .agg #[.string ⟨#[]⟩, .slice none 0 0]) → (∀ ps, (parseV s).1 = some ps → TRd W tv nm ps) → TRd W tv NM PS := by
  cases hp : (parseV s).1 with
  | none => exact ⟨⟨#[]⟩, [], by simp, (fun p hp => by cases hp), fun W tv h _ => by rw [h rfl]; exact trd_none W⟩
  | some ps =>
    obtain ⟨h1, h2⟩ := parseV_some hp
    exact ⟨nm, ps, by omega, fun p hp => by have := totW_mem hp; omega, fun W tv _ h => h ps rfl⟩
theorem parseP (nm s NM : ByteArray) (PS : List Pt) (n : Nat) (hn : PS.length = n) (hs : s.size ≤ 10000)
    (H : ∀ (W : World) (tv : Value), ((parseV s).1 = none → tv = .agg #[.string ⟨#[]⟩, .slice none 0 0]) → (∀ ps, (parseV s).1 = some ps → TRd W tv nm ps) → TRd W tv NM PS) (w : World) :
    Calls Tryz.prog 10 #[.string nm, .string s] w fun e w' => ∃ A c, e = .returned (.tuple #[.agg #[.string NM, .slice A n c], .int .i64 ((parseV s).2.1 : Nat), .int .i64 (parseV s).2.2]) ∧ TRd w' (.agg #[.string NM, .slice A n c]) NM PS ∧ New w w' := by
  subst hn
  refine (parse_any nm s w hs (fun a W => ?_)).mono ?_
  · refine (braces_any _ W (by simp; omega)).mono ?_
    rintro e w' ⟨rfl, h⟩
    exact ⟨by rw [ext_drop], h⟩
  · rintro e w' ⟨tv, rfl, h1, h2, h3⟩
    have hT := H w' tv h2 h3
    obtain ⟨A, c, e, _⟩ := id hT
    subst e
    exact ⟨A, c, rfl, hT, h1⟩
theorem parseR (nm s NM : ByteArray) (PS : List Pt) (n : Nat) (hn : PS.length = n) (hs : s.size ≤ 10000)
    (H : ∀ (W : World) (tv : Value), ((parseV s).1 = none → tv = .agg #[.string ⟨#[]⟩, .slice none 0 0]) → (∀ ps, (parseV s).1 = some ps → TRd W tv nm ps) → TRd W tv NM PS) (w : World) :
    Calls Tryz.prog 11 #[.string nm, .string s] w fun e w' => ∃ A c, e = .returned (.agg #[.string NM, .slice A n c, .int .i64 ((parseV s).2.1 : Nat), .int .i64 (parseV s).2.2]) ∧ TRd w' (.agg #[.string NM, .slice A n c]) NM PS ∧ New w w' := by
  subst hn
  refine (rparse_any nm s w hs).mono ?_
  rintro e w' ⟨ta, tb, rfl, h1, h2, h3⟩
  have hT := H w' (.agg #[ta, tb]) (fun e => by obtain ⟨rfl, rfl⟩ := h2 e; rfl) h3
  obtain ⟨A, c, e, _⟩ := id hT
  injection e with e
  injection e with e
  simp only [List.cons.injEq, and_true] at e
  obtain ⟨rfl, rfl⟩ := e
  exact ⟨A, c, rfl, hT, h1⟩

set_option maxRecDepth 100000 in
set_option maxHeartbeats 4000000 in
theorem law_parses (nm s : ByteArray) (w : World) : Calls Tryz.prog 3 #[.string nm, .string s] w fun e w' => e = .returned (.bool true) ∧ New w w' := by
  have HA := Lib.hid awake_any
  by_cases hs : (2500 < s.size ∧ s.size ≤ 4096) ∨ 4200 < s.size ∨ 200 < nm.size
  · by_cases h1 : 2500 < s.size
    · have t1 : decide ((2500 : Int) < (s.size : Int)) = true := decide_eq_true (by omega)
      by_cases h2 : s.size ≤ 4096
      · have t2 : decide ((s.size : Int) ≤ 4096) = true := decide_eq_true (by omega)
        go_enter Tryz.func3, Tryz.ntmps3
        go_wp2_with (go_at_call 9; refine (HA.out _).mono ?_; rintro e w0 ⟨rfl, h0⟩)
        go_ret
        exact ⟨rfl, h0⟩
      · have t2 : decide ((s.size : Int) ≤ 4096) = false := decide_eq_false (by omega)
        by_cases h3 : 4200 < s.size
        · have t3 : decide ((4200 : Int) < (s.size : Int)) = true := decide_eq_true (by omega)
          go_enter Tryz.func3, Tryz.ntmps3
          go_wp2_with (go_at_call 9; refine (HA.out _).mono ?_; rintro e w0 ⟨rfl, h0⟩)
          go_ret
          exact ⟨rfl, h0⟩
        · have t3 : decide ((4200 : Int) < (s.size : Int)) = false := decide_eq_false (by omega)
          have t4 : decide ((200 : Int) < (nm.size : Int)) = true := decide_eq_true (by omega)
          go_enter Tryz.func3, Tryz.ntmps3
          go_wp2_with (go_at_call 9; refine (HA.out _).mono ?_; rintro e w0 ⟨rfl, h0⟩)
          go_ret
          exact ⟨rfl, h0⟩
    · have t1 : decide ((2500 : Int) < (s.size : Int)) = false := decide_eq_false (by omega)
      have t3 : decide ((4200 : Int) < (s.size : Int)) = false := decide_eq_false (by omega)
      have t4 : decide ((200 : Int) < (nm.size : Int)) = true := decide_eq_true (by omega)
      go_enter Tryz.func3, Tryz.ntmps3
      go_wp2_with (go_at_call 9; refine (HA.out _).mono ?_; rintro e w0 ⟨rfl, h0⟩)
      go_ret
      exact ⟨rfl, h0⟩
  · have t3 : decide ((4200 : Int) < (s.size : Int)) = false := decide_eq_false (by omega)
    have t4 : decide ((200 : Int) < (nm.size : Int)) = false := decide_eq_false (by omega)
    have hsz : s.size ≤ 10000 := by omega
    obtain ⟨NM, PS, g1, g2, H⟩ := parse_res nm s hsz
    obtain ⟨n, hn⟩ : ∃ n, PS.length = n := ⟨_, rfl⟩
    have HP := Lib.hid (parseP nm s NM PS n hn hsz H)
    have HR := Lib.hid (parseR nm s NM PS n hn hsz H)
    have HS := Lib.hid (fun (v v' : Value) (w : World) h h' => same_self v v' NM PS w h h' (by omega) (fun p hp => by have := g2 p hp; omega))
    clear H hn g2 hsz
    generalize (parseV s).2.1 = at_ at *
    generalize (parseV s).2.2 = er at *
    have b1 : (((at_ : Nat) : Int) == ((at_ : Nat) : Int)) = true := beq_self_eq_true _
    have b2 : (er == er) = true := beq_self_eq_true _
    by_cases h1 : 2500 < s.size
    · have t1 : decide ((2500 : Int) < (s.size : Int)) = true := decide_eq_true (by omega)
      have t2 : decide ((s.size : Int) ≤ 4096) = false := decide_eq_false (by omega)
      clear h1 hs
      go_enter Tryz.func3, Tryz.ntmps3
      go_wp2_with (first
        | (go_at_call 12; refine (HS.out _ _ _ r1' r2').mono ?_; rintro e w3 ⟨rfl, h3⟩; have q1 := (BR.new h3).cell' 2 _ rfl; have q2 := (BR.new h3).cell' 3 _ rfl)
        | (go_at_call 11; refine (HR.out _).mono ?_; rintro e w2 ⟨A2, c2, rfl, r2, h2⟩; have B2 := (B1.new h2).alloc (.cells #[.string NM, .slice A2 n c2, .int .i64 (at_ : Nat), .int .i64 er] 30); have BR := Blk.made w2 30 #[.string NM, .slice A2 n c2, .int .i64 (at_ : Nat), .int .i64 er]; have k0 := B2.cell' 0 _ rfl; have k1 := B2.cell' 1 _ rfl; have k2 := BR.cell' 0 _ rfl; have k3 := BR.cell' 1 _ rfl; have hn2 := (New.refl w2).alloc (.cells #[.string NM, .slice A2 n c2, .int .i64 (at_ : Nat), .int .i64 er] 30); have r1' := (r1.new (((New.refl w1).alloc (.cells #[.string NM, .slice A1 n c1] 25)).trans h2)).new hn2; have r2' := r2.new hn2)
        | (go_at_call 10; refine (HP.out _).mono ?_; rintro e w1 ⟨A1, c1, rfl, r1, h1⟩; have B1 := Blk.made w1 25 #[.string NM, .slice A1 n c1])
        | (go_at_call 9; refine (HA.out _).mono ?_; rintro e w0 ⟨rfl, h0⟩))
      go_ret
      exact ⟨rfl, ((((h0.trans h1).alloc _).trans h2).alloc _).trans h3⟩
    · have t1 : decide ((2500 : Int) < (s.size : Int)) = false := decide_eq_false (by omega)
      clear h1 hs
      go_enter Tryz.func3, Tryz.ntmps3
      go_wp2_with (first
        | (go_at_call 12; refine (HS.out _ _ _ r1' r2').mono ?_; rintro e w3 ⟨rfl, h3⟩; have q1 := (BR.new h3).cell' 2 _ rfl; have q2 := (BR.new h3).cell' 3 _ rfl)
        | (go_at_call 11; refine (HR.out _).mono ?_; rintro e w2 ⟨A2, c2, rfl, r2, h2⟩; have B2 := (B1.new h2).alloc (.cells #[.string NM, .slice A2 n c2, .int .i64 (at_ : Nat), .int .i64 er] 30); have BR := Blk.made w2 30 #[.string NM, .slice A2 n c2, .int .i64 (at_ : Nat), .int .i64 er]; have k0 := B2.cell' 0 _ rfl; have k1 := B2.cell' 1 _ rfl; have k2 := BR.cell' 0 _ rfl; have k3 := BR.cell' 1 _ rfl; have hn2 := (New.refl w2).alloc (.cells #[.string NM, .slice A2 n c2, .int .i64 (at_ : Nat), .int .i64 er] 30); have r1' := (r1.new (((New.refl w1).alloc (.cells #[.string NM, .slice A1 n c1] 25)).trans h2)).new hn2; have r2' := r2.new hn2)
        | (go_at_call 10; refine (HP.out _).mono ?_; rintro e w1 ⟨A1, c1, rfl, r1, h1⟩; have B1 := Blk.made w1 25 #[.string NM, .slice A1 n c1])
        | (go_at_call 9; refine (HA.out _).mono ?_; rintro e w0 ⟨rfl, h0⟩))
      go_ret
      exact ⟨rfl, ((((h0.trans h1).alloc _).trans h2).alloc _).trans h3⟩
end Go.Proofs.YtpoelhnceebmkaaGreatDoor
