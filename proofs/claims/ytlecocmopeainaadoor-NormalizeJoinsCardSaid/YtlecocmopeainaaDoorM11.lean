/- The law NormalizeNotes, walked. The package-level variables that the library reads hold what the row lists (Env). -/
import Derived.Test.YtlecocmopeainaaDoorM9
import Derived.Test.YtlecocmopeainaaDoorT3
import Derived.Deep.RegionHeld3
import Derived.Deep.DeepCutAuto
namespace Go.Proofs.YtlecocmopeainaaDoor
open Go Go.RowKit Go.Joins Go.Shelf
set_option linter.unusedSimpArgs false
set_option linter.unusedVariables false

theorem sz10 : (ByteArray.mk #[10]).size = 1 := rfl
theorem sz7 : (ByteArray.mk #[32, 110, 111, 116, 101, 32, 32]).size = 7 := rfl
theorem okFrom_lt : ∀ {l : List Lz} {m : Int}, okFrom m l = true → ∀ x ∈ l, x.2 < 1024
  | [], _, _, x, hx => by simp at hx
  | y :: l, m, h, x, hx => by
    rw [okFrom] at h
    simp only [Bool.and_eq_true, decide_eq_true_eq] at h
    rcases List.mem_cons.1 hx with rfl | hx
    · exact h.1.2
    · exact okFrom_lt h.2 x hx
theorem contains_one {l : List UInt8} {c : UInt8} (h : Lib.contains l [c] = false) : l.count c = 0 := by
  have h1 := of_decide_eq_false h
  have hg := Lib.index_ge l [c]
  exact index_miss c l (by omega)
theorem count_lf (s : ByteArray) (w : World) (n : Nat) (hn : nl s = n) : Calls Tryd.prog 28 #[.string s, .string ⟨#[10]⟩] w fun e w' => e = .returned (.int .i64 (n : Nat)) ∧ w = w' := by
  subst hn
  exact (Tryd.strings_Count_one s 10 w).mono fun e w' ⟨he, hw⟩ => ⟨he, hw.symm⟩
theorem repeat_any (s : ByteArray) (k : Nat) (w : World) (hk : k < 21) (hs : s.size ≤ 101) : Calls Tryd.prog 35 #[.string s, .int .i64 k] w fun e w' => ∃ r : ByteArray, e = .returned (.string r) ∧ Hid (r.data.toList = Lib.repeatL s.data.toList k) ∧ r.size ≤ 2100 ∧ New w w' := by
  have hm : s.size * k ≤ 101 * 20 := Nat.mul_le_mul hs (by omega)
  refine (Tryd.strings_Repeat s k w (by omega) (by omega)).mono fun e w' ⟨he, hn⟩ => ⟨_, he, Lib.hid rfl, ?_, hn⟩
  show (Lib.repeatL s.data.toList k).toArray.size ≤ _
  rw [List.size_toArray, Lib.repeatL_length, ← size_eq, Nat.mul_comm]; omega

/-- One cell of a block, in a world that has grown. -/
abbrev One (wB : World) (g : Nat) (a : Value) (W : World) : Prop := W.cell? ⟨g, 0, none⟩ = some a ∧ New wB W
theorem One.new {wB W W' : World} {g : Nat} {a : Value} (s : One wB g a W) (hn : New W W') : One wB g a W' := ⟨(hn.cell (p := ⟨g, 0, none⟩) (cell_lt s.1)).trans s.1, s.2.trans hn⟩
theorem One.nw {wB W : World} {g : Nat} {a : Value} (s : One wB g a W) : New wB W := s.2
theorem One.drew {wB W : World} {g : Nat} {a : Value} (s : One wB g a W) : One wB g a W.drew := ⟨s.1, s.2.drew⟩
abbrev Pair (wB : World) (g : Nat) (a b : Value) (W : World) : Prop := W.cell? ⟨g, 0, none⟩ = some a ∧ W.cell? ⟨g, 1, none⟩ = some b ∧ New wB W
theorem Pair.new {wB W W' : World} {g : Nat} {a b : Value} (s : Pair wB g a b W) (hn : New W W') : Pair wB g a b W' := ⟨(hn.cell (p := ⟨g, 0, none⟩) (cell_lt s.1)).trans s.1, (hn.cell (p := ⟨g, 1, none⟩) (cell_lt s.2.1)).trans s.2.1, s.2.2.trans hn⟩
theorem Pair.nw {wB W : World} {g : Nat} {a b : Value} (s : Pair wB g a b W) : New wB W := s.2.2
theorem Pair.drew {wB W : World} {g : Nat} {a b : Value} (s : Pair wB g a b W) : Pair wB g a b W.drew := ⟨s.1, s.2.1, s.2.2.drew⟩

theorem One.put {wB W : World} {g : Nat} {a : Value} (s : One wB g a W) (hg : g < wB.heap.size) {p : Addr} (hp : wB.heap.size ≤ p.block) (u : Value) : One wB g a (W.setCell p u) :=
  ⟨(World.cell?_setCell_other W p ⟨g, 0, none⟩ u (fun e => by subst e; simp at hp; omega)).trans s.1, s.2.setCell hp u⟩
theorem Pair.put {wB W : World} {g : Nat} {a b : Value} (s : Pair wB g a b W) (hg : g < wB.heap.size) {p : Addr} (hp : wB.heap.size ≤ p.block) (u : Value) : Pair wB g a b (W.setCell p u) :=
  ⟨(World.cell?_setCell_other W p ⟨g, 0, none⟩ u (fun e => by subst e; simp at hp; omega)).trans s.1, (World.cell?_setCell_other W p ⟨g, 1, none⟩ u (fun e => by subst e; simp at hp; omega)).trans s.2.1, s.2.2.setCell hp u⟩
theorem Rd.set_far {w : World} {size n : Nat} {A : Option Addr} {xs : List Value} (h : Rd w size A n xs) {p : Addr} (hA : ∀ b o, A = some ⟨b, o, none⟩ → 0 < n → b ≠ p.block) (u : Value) : Rd (w.setCell p u) size A n xs :=
  ⟨h.1, fun hn => by
    obtain ⟨b, o, e, hb, hc⟩ := h.2 hn
    have := hA b o e hn
    refine ⟨b, o, e, by simpa [World.setCell] using hb, fun j u' hu => ?_⟩
    rw [World.cell?_setCell_other w p ⟨b, o + j, none⟩ u (fun e => by subst e; exact this rfl)]
    exact hc j u' hu⟩
theorem lx_apart {w : World} {A A' : Option Addr} {n m c g : Nat} {s : ByteArray} {ws : List Lx} (hl : ws.length = n) (hr : Rd w 2 A n (lxCells ws)) (hb : Blk w g 25 #[.string s, .slice A' m c]) : ∀ b o, A = some ⟨b, o, none⟩ → 0 < n → b ≠ g := by
  intro b o e hn hbg
  subst hbg
  obtain ⟨b', o', e', _, hc⟩ := hr.2 hn
  rw [e] at e'
  injection e' with e'
  injection e' with e1 e2
  subst e1 e2
  have h1 := hc 1 _ (by have := (lxCells_at ws 0 (by omega)).2; simpa using this)
  rw [hb.cell] at h1
  match o, h1 with
  | 0, h1 => simp at h1
  | 1, h1 => simp at h1
  | o + 2, h1 => simp at h1
/-- What the statement leaves that reads the words behind the note. -/
def Left (wB : World) (n : Nat) (ws2 : List Lx) (s11 s12 : Value) (wx : World) : Prop :=
  ∃ g A2 c2, s11 = .pointer (some ⟨g, 0, none⟩) ∧ s12 = .int .i64 0 ∧ Blk wx g 25 #[.string lA, .slice A2 n c2] ∧ Rd wx 2 A2 n (lxCells ws2) ∧ New wB wx
theorem left_put {wB W : World} {n m c g : Nat} {s : ByteArray} {A A' : Option Addr} {c2 : Nat} {ws2 : List Lx} (hl : ws2.length = n) (hr : Rd W 2 A n (lxCells ws2)) (hb : Blk W g 25 #[.string s, .slice A' m c]) (hn : New wB W) (hg : wB.heap.size ≤ g) :
    Left wB n ws2 (.pointer (some ⟨g, 0, none⟩)) (.int .i64 0) ((W.setCell ⟨g, 0, none⟩ (.string lA)).setCell ⟨g, 1, none⟩ (.slice A n c2)) := by
  have ha := lx_apart hl hr hb
  refine ⟨g, A, c2, rfl, rfl, ?_, (hr.set_far (p := ⟨g, 0, none⟩) ha _).set_far (p := ⟨g, 1, none⟩) ha _, (hn.setCell (p := ⟨g, 0, none⟩) hg _).setCell (p := ⟨g, 1, none⟩) hg _⟩
  exact ((hb.put 0 _).put 1 _).same rfl
theorem conv1 (W : World) (g k : Nat) (hk : k < 10) (h : W.cell? ⟨g, 0, none⟩ = some (.int .u8 (48 + (k : Int)))) : (convert 60 9 (.slice (some ⟨g, 0, none⟩) 1 1)).run Tryd.prog W = .ok (.string (S (dg k))) W := by
  have e : dg k = [UInt8.ofNat (48 + k)] := by unfold dg; rw [if_neg (by omega), Nat.mod_eq_of_lt hk]
  rw [e]
  have h8 : (UInt8.ofNat (48 + k)).toNat = 48 + k := by
    show (48 + k) % 256 = _; omega
  refine run_convert_bytes_back (P := Tryd.prog) W 60 9 5 ⟨g, 0, none⟩ 1 [UInt8.ofNat (48 + k)] Tryd.underlying60 Tryd.underlying5 Tryd.underlying9 (fun j hj => ?_)
  obtain rfl : j = 0 := by simpa using hj
  rw [add_none rfl, Nat.zero_add, h]
  show _ = some (Value.int .u8 ((UInt8.ofNat (48 + k)).toNat : Int))
  rw [h8]; simp
theorem conv2 (W : World) (g k : Nat) (hk : 10 ≤ k) (hk2 : k < 21) (h : W.cell? ⟨g, 0, none⟩ = some (.int .u8 (48 + (k : Int) / 10))) (h' : W.cell? ⟨g, 1, none⟩ = some (.int .u8 (48 + (k : Int) % 10))) : (convert 60 9 (.slice (some ⟨g, 0, none⟩) 2 2)).run Tryd.prog W = .ok (.string (S (dg k))) W := by
  have e : dg k = [UInt8.ofNat (48 + k / 10), UInt8.ofNat (48 + k % 10)] := by unfold dg; rw [if_pos (by omega)]
  rw [e]
  have h8 : (UInt8.ofNat (48 + k / 10)).toNat = 48 + k / 10 := by
    show (48 + k / 10) % 256 = _; omega
  have h9 : (UInt8.ofNat (48 + k % 10)).toNat = 48 + k % 10 := by
    show (48 + k % 10) % 256 = _; omega
  refine run_convert_bytes_back (P := Tryd.prog) W 60 9 5 ⟨g, 0, none⟩ 2 [UInt8.ofNat (48 + k / 10), UInt8.ofNat (48 + k % 10)] Tryd.underlying60 Tryd.underlying5 Tryd.underlying9 (fun j hj => ?_)
  have hj2 : j < 2 := hj
  match j, hj2 with
  | 0, _ =>
    rw [add_none rfl, Nat.zero_add, h]
    show _ = some (Value.int .u8 ((UInt8.ofNat (48 + k / 10)).toNat : Int))
    rw [h8]; simp
  | 1, _ =>
    rw [add_none rfl, Nat.zero_add, h']
    show _ = some (Value.int .u8 ((UInt8.ofNat (48 + k % 10)).toNat : Int))
    rw [h9]; simp

set_option maxRecDepth 100000 in
set_option maxHeartbeats 16000000 in
theorem law_notes (data inside : ByteArray) (m : Nat) (hm : m < 256) (w : World) (hE : Env w) :
    Calls Tryd.prog 11 #[.string data, .string inside, .int .u8 m] w fun e w' => e = .returned (.bool true) ∧ New w w' := by
  obtain ⟨k, hk⟩ : ∃ k, m % 21 = k := ⟨_, rfl⟩
  have hk21 : k < 21 := by omega
  have hkm : (m : Int) % 21 = (k : Int) := by omega
  have hm0 : (0 : Int) ≤ (m : Int) := by omega
  have hm1 : (m : Int) < 256 := by omega
  clear hk
  by_cases g1 : data.size ≤ 2000
  · have g1' : ¬ (2000 : Int) < (data.size : Int) := by omega
    by_cases g2 : inside.size ≤ 100
    · have g2' : ¬ (100 : Int) < (inside.size : Int) := by omega
      cases g3 : Lib.contains inside.data.toList [10]
      · have C0 : ∀ w, Env w → Calls Tryd.prog 27 #[.string inside, .string ⟨#[10]⟩] w fun e w' => e = .returned (.bool false) ∧ w = w' := fun w h => contains_any' inside ⟨#[10]⟩ false w h (by omega) g3
        have hx0 := contains_one g3
        obtain ⟨cn, hcn⟩ : ∃ cn, nl data = cn := ⟨_, rfl⟩
        have C5 : ∀ w, Calls Tryd.prog 28 #[.string data, .string ⟨#[10]⟩] w fun e w' => e = .returned (.int .i64 (cn : Nat)) ∧ w = w' := fun w => count_lf data w cn hcn
        by_cases g4 : cn ≤ 500
        · have g4' : ¬ (500 : Int) < (cn : Int) := by omega
          have hgood := wordsV_good false false (d := data) pathA
          have hfin := fun d' h1 h2 => wordsV_note (p := lA) (d := data) (d' := d') (x := inside) (k := k) hk21 hx0 h1 pathA g1 h2 (by omega)
          obtain ⟨r, hr⟩ : ∃ r, wordsV false false lA data = r := ⟨_, rfl⟩
          rw [hr] at hgood hfin
          obtain ⟨e, ws⟩ := r
          have he : e = 0 := by
            obtain ⟨ws', h1, _⟩ := hfin (S (noteHead k ++ 10 :: (Lib.repeatL (inside.data.toList ++ [10]) k ++ data.data.toList))) rfl (by
              rw [size_S]
              have h3 := (dg_num k hk21).2.2.1
              have h4 : data.data.toList.length ≤ 2000 := by rw [← size_eq]; exact g1
              have h5 : inside.data.toList.length ≤ 100 := by rw [← size_eq]; exact g2
              have h6 : k * (inside.data.toList ++ [10]).length ≤ 20 * 101 := Nat.mul_le_mul (by omega) (by simp; omega)
              simp only [noteHead, List.length_append, List.length_cons, List.length_nil, Lib.repeatL_length] at h6 ⊢
              omega)
            injection h1
          subst he
          have hv := hgood.resolve_left (fun h => absurd (show (0 : Int) = 10 from h.1) (by decide))
          obtain ⟨_, hv1, hv2, hv3⟩ := hv
          simp only at hv1 hv2 hv3
          have hlines : ∀ x ∈ ws, x.2 < 1024 := fun x hx => by
            rw [validV, pathA, Bool.and_true, Bool.and_eq_true] at hv1
            have := okFrom_lt hv1.2 (x.1, (x.2 : Int)) (List.mem_map.2 ⟨x, hx, rfl⟩)
            simp only at this
            omega
          obtain ⟨n, hn⟩ : ∃ n, ws.length = n := ⟨_, rfl⟩
          obtain ⟨ws2, hws2⟩ : ∃ ws2, ws.map (shift (k + 1)) = ws2 := ⟨_, rfl⟩
          have hlen : ws2.length = n := by rw [← hws2, List.length_map, hn]
          have C1 : ∀ w, Env w → Calls Tryd.prog 13 #[.string ⟨#[97]⟩, .string data, .bool false, .bool false] w fun e' w' => ∃ A c, e' = .returned (.tuple #[.agg #[.string lA, .slice A n c], .int .i64 0]) ∧ Rd w' 2 A n (lxCells ws) ∧ n ≤ c ∧ c ≤ maxLen ∧ New w w' := fun w h => words_n lA data lA false false ws n 0 w hr hn (if_pos rfl) (by decide) h
          have C2 : ∀ x w, Env w → Hid (x.data.toList = noteHead k ++ 10 :: (Lib.repeatL (inside.data.toList ++ [10]) k ++ data.data.toList)) → x.size ≤ 65536 → Calls Tryd.prog 13 #[.string ⟨#[97]⟩, .string x, .bool false, .bool false] w fun e' w' => ∃ A c, e' = .returned (.tuple #[.agg #[.string lA, .slice A n c], .int .i64 0]) ∧ Rd w' 2 A n (lxCells ws2) ∧ n ≤ c ∧ c ≤ maxLen ∧ New w w' := fun x w h hx hs => by
            obtain ⟨ws', h1, h2, _⟩ := hfin x hx.out hs
            injection h1 with _ h1
            subst h1
            rw [hws2] at h2
            exact words_n lA x lA false false ws2 n 0 w h2 hlen (if_pos rfl) (by decide) h
          have HAT : Hid (∀ i, i < n → ∃ x : Lx, ws[i]? = some x ∧ 0 < x.1.size ∧ x.2 < 1024 ∧ ws2[i]? = some (x.1, x.2 + (k + 1))) := Lib.hid (fun i hi => by
            have hi' : i < ws.length := by rw [hn]; exact hi
            refine ⟨ws[i], List.getElem?_eq_getElem hi', (hv2 _ (List.getElem_mem hi')).1, hlines _ (List.getElem_mem hi'), ?_⟩
            rw [← hws2, List.getElem?_map, List.getElem?_eq_getElem hi']; rfl)
          have hnz : n ≤ 2000 := by omega
          have C6 : ∀ x w, Hid (x.data.toList = inside.data.toList ++ [10]) → x.size ≤ 101 → Calls Tryd.prog 35 #[.string x, .int .i64 k] w fun e w' => ∃ r : ByteArray, e = .returned (.string r) ∧ Hid (r.data.toList = Lib.repeatL (inside.data.toList ++ [10]) k) ∧ r.size ≤ 2100 ∧ New w w' := fun x w hx hs => by
            have := repeat_any x k w hk21 hs
            rwa [hx.out] at this
          have D0 := Lib.hid C0
          have D1 := Lib.hid C1
          have D2 := Lib.hid C2
          have D5 := Lib.hid C5
          have D6 := Lib.hid C6
          have HN := Lib.hid hn
          have HN2 := Lib.hid hlen
          have K21 := Lib.hid hk21
          have hk21' := hk21
          clear C0 C1 C2 C5 C6 hr hgood hfin hv1 hv2 hv3 hlines hn hlen hws2 hcn g3 hx0
          obtain ⟨nb, hnb⟩ : ∃ nb, S (dg k) = nb := ⟨_, rfl⟩
          have hnbs : nb.size ≤ 4 := by rw [← hnb, size_S]; exact (dg_num k hk21).2.2.1
          have u0 : IntKind.i64.wrap (m : Int) = (m : Int) := IntWalk.i64_in _ (by omega)
          by_cases g5 : k < 10
          · have v0 : (k : Int) % 10 = (k : Int) := by omega
            have v1 : IntKind.u8.wrap (48 + (k : Int)) = 48 + (k : Int) := IntWalk.u8_in _ (by omega)
            have v2 : ¬ (10 : Int) ≤ (k : Int) := by omega
            have v3 : (0 : Int) ≤ (k : Int) := by omega
            have CV : ∀ W g, W.cell? ⟨g, 0, none⟩ = some (.int .u8 (48 + (k : Int))) → (convert 60 9 (.slice (some ⟨g, 0, none⟩) 1 1)).run Tryd.prog W = .ok (.string nb) W := fun W g h => by rw [← hnb]; exact conv1 W g k g5 h
            have HB := Lib.hid hnb
            clear hnb
            go_enter Tryd.func11, Tryd.ntmps11
            go_upto_region 10 with (first | (go_at_call 13; refine (D1.out _ (by first | exact hE0 | exact hE0.new ((New.refl _).alloc _) | exact hE0.new (((New.refl _).alloc _).alloc _))).mono ?_; rintro e1 w1 ⟨A1, c1, rfl, hr1, hc3, hc4, hw1⟩) | (go_at_call 28; refine (D5.out _).mono ?_; rintro e8 w8 ⟨rfl, rfl⟩) | (go_at_call 27; refine (D0.out _ hE0).mono ?_; rintro e9 w9 ⟨rfl, rfl⟩) | (go_at_call 12; refine (awake_any _ hE).mono ?_; rintro e0 w0 ⟨rfl, hw0⟩; have hE0 := hE.new hw0))
            have B0 : Blk (w1.alloc (.cells #[.string lA, .slice A1 n c1] 25)) w0.heap.size 5 #[.int .u8 (48 + (k : Int))] := ((Blk.made w0 5 #[.int .u8 (48 + (k : Int))]).new hw1).alloc _
            have B1 := Blk.made w1 25 #[.string lA, .slice A1 n c1]
            have hEB : Env (w1.alloc (.cells #[.string lA, .slice A1 n c1] 25)) := ((hE0.new ((New.refl _).alloc _)).new hw1).new ((New.refl _).alloc _)
            have hwB0 : New w (w1.alloc (.cells #[.string lA, .slice A1 n c1] 25)) := ((hw0.alloc _).trans hw1).alloc _
            have hr1B := hr1.alloc (.cells #[.string lA, .slice A1 n c1] 25)
            generalize hwB : w1.alloc (.cells #[.string lA, .slice A1 n c1] 25) = wB at *
            clear hwB
            have hS : One wB w0.heap.size (.int .u8 (48 + (k : Int))) wB := ⟨B0.cell' 0 _ rfl, New.refl _⟩
            have hgB := B0.lt
            have k0 : ¬ (9223372036854775807 < inside.size + 1) := by omega
            have k1 : ¬ (9223372036854775807 < 7 + nb.size) := by omega
            have k2 : ¬ (9223372036854775807 < 7 + nb.size + 1) := by omega
            go_cut [11, 12] (fun s11 s12 wx => Left wB n ws2 s11 s12 wx)
            case first =>
              go_region_held3 (fun W => One wB w0.heap.size (.int .u8 (48 + (k : Int))) W) (first | exact hS | exact One.new ‹_› ‹_› | exact One.drew ‹_› | exact One.new ‹_› ((New.refl _).alloc _) | exact One.new hS ((((New.refl _).drew.trans hn3).trans hn4).alloc _) | exact (One.put (p := ⟨_, 0, none⟩) (One.new hS (((((New.refl _).drew.trans hn3).alloc _)).trans hn4)) hgB (by have := hn3.size; simp at this ⊢; omega) _).put (p := ⟨_, 1, none⟩) hgB (by have := hn3.size; simp at this ⊢; omega) _ | exact (One.put (p := ⟨_, 0, none⟩) (One.new hS (((((New.refl _).drew.alloc _).trans hn3)).trans hn4)) hgB (by simp) _).put (p := ⟨_, 1, none⟩) hgB (by simp) _) (first | (go_at_call 35; refine (D6.out _ _ (Lib.hid (by simp)) (by simp only [ByteArray.size_append, sz10]; omega)).mono ?_; rintro e3 w3 ⟨r, rfl, hrp, hrs, hn3⟩; (first | (have BX := (Blk.made _ 25 _).new hn3) | (have BX := ((Blk.made _ 25 _).drew).new hn3) | skip); have k3 : ¬ (9223372036854775807 < 7 + nb.size + 1 + r.size) := (by omega); have k4 : ¬ (9223372036854775807 < 7 + nb.size + 1 + r.size + data.size) := (by omega)) | (go_at_call 13; refine (D2.out _ _ (hEB.new (One.nw (wB := wB) (g := w0.heap.size) (a := .int .u8 (48 + (k : Int))) (by assumption))) (Lib.hid (by simp [noteHead, hrp.out, ← HB.out, S])) (by simp only [ByteArray.size_append, sz10, sz7]; omega)).mono ?_; rintro e4 w4 ⟨A2, c2, rfl, hr2, hc5, hc6, hn4⟩; (first | (have BY := (Blk.made _ 25 _).new hn4) | (have BY := BX.new hn4) | skip); (first | (have y0 := BY.cell' 0 _ rfl; have y1 := BY.cell' 1 _ rfl; have y2 := BY.free 0; have y3 := BY.free 1) | skip)))
              all_goals
                go_wp2_with fail
                go_meet
                first
                  | exact ⟨_, A2, c2, rfl, rfl, Blk.made _ _ _, hr2.alloc _, ((((New.refl _).drew.trans hn3).trans hn4).alloc _)⟩
                  | exact left_put HN2.out hr2 BY ((((New.refl _).drew.trans hn3).alloc _).trans hn4) (by have := hn3.size; simp at this ⊢; omega)
                  | exact left_put HN2.out hr2 BY (((((New.refl _).alloc _).drew).trans hn3).trans hn4) (Nat.le_refl _)
            case rest =>
              obtain ⟨g, A2, c2, rfl, rfl, B2, hr2, hn2⟩ := hcut
              have hg1 : w1.heap.size < wB.heap.size := B1.lt
              have hg2 := B2.lt
              have e11 := (B1.new hn2).cell' 1 _ rfl
              have e21 := B2.cell' 1 _ rfl
              go_wp2
              go_loopw [91] (fun v91 wr => ∃ i : Nat, v91 = .int .i64 i ∧ i ≤ n ∧ New wc wr) (fun v91 _ => n - (intOf v91).toNat)
              case atStart => exact ⟨0, rfl, by omega, New.refl _⟩
              case round =>
                obtain ⟨i, rfl, hi, hnr⟩ := hrel
                by_cases hlt : i < n
                · obtain ⟨x, hx, hx0, hx1, hy⟩ := HAT.out i hlt
                  obtain ⟨bk, o, rfl, hbk, hc⟩ := ((hr1B.below hn2).below hnr).2 (by omega)
                  obtain ⟨bk', o', rfl, hbk', hc'⟩ := (hr2.below hnr).2 (by omega)
                  obtain ⟨hx2, rfl⟩ := List.getElem?_eq_some_iff.1 hx
                  obtain ⟨hy1, hy2⟩ := List.getElem?_eq_some_iff.1 hy
                  obtain ⟨q1, q2⟩ := lxCells_at ws i hx2
                  obtain ⟨q3, q4⟩ := lxCells_at ws2 i hy1
                  rw [hy2] at q3 q4
                  have d1 := hc _ _ q1
                  have d2 : wr.cell? ⟨bk, o + i * 2 + 1, none⟩ = some (.int .i64 ws[i].2) := hc _ _ q2
                  have d3 := hc' _ _ q3
                  have hcast : ((ws[i].2 + (k + 1) : Nat) : Int) = (ws[i].2 : Int) + (k : Int) + 1 := by omega
                  have d4 : wr.cell? ⟨bk', o' + i * 2 + 1, none⟩ = some (.int .i64 ((ws[i].2 : Int) + (k : Int) + 1)) := by rw [← hcast]; exact hc' _ _ q4
                  have e11 := ((B1.new hn2).new hnr).cell' 1 _ rfl
                  have e21 := (B2.new hnr).cell' 1 _ rfl
                  have g1 : w1.heap.size < wr.heap.size := by have := hnr.size; have := hn2.size; omega
                  have g2 : g < wr.heap.size := by have := hnr.size; omega
                  have i0 : (0 : Int) ≤ (i : Int) := by omega
                  have i1 : (i : Int) < (n : Int) := by omega
                  clear q1 q2 q3 q4 hc hc' hx hy hy2 hcast
                  generalize ws[i] = x at *
                  have s1 : IntKind.i64.wrap ((x.2 : Int) + (k : Int)) = (x.2 : Int) + (k : Int) := IntWalk.i64_in _ (by omega)
                  have s2 : IntKind.i64.wrap ((x.2 : Int) + (k : Int) + 1) = (x.2 : Int) + (k : Int) + 1 := IntWalk.i64_in _ (by omega)
                  go_wp2_with (fail)
                  go_quiet (fail)
                  clear s1 s2
                  go_wp2
                  go_roundw
                  case rel => exact ⟨i + 1, by go_num, by omega, (hnr.alloc _).drewN nq⟩
                  case measure => simp [intOf]; omega
                · obtain rfl : i = n := by omega
                  go_wp2
                  go_ret
                  exact ⟨rfl, (hwB0.trans hn2).trans hnr⟩
          · have v0 : IntKind.u8.wrap (48 + (k : Int) / 10) = 48 + (k : Int) / 10 := IntWalk.u8_in _ (by omega)
            have v1 : IntKind.u8.wrap (48 + (k : Int) % 10) = 48 + (k : Int) % 10 := IntWalk.u8_in _ (by omega)
            have v2 : (10 : Int) ≤ (k : Int) := by omega
            have v3 : (0 : Int) ≤ (k : Int) := by omega
            have CV : ∀ W g, W.cell? ⟨g, 0, none⟩ = some (.int .u8 (48 + (k : Int) / 10)) → W.cell? ⟨g, 1, none⟩ = some (.int .u8 (48 + (k : Int) % 10)) → (convert 60 9 (.slice (some ⟨g, 0, none⟩) 2 2)).run Tryd.prog W = .ok (.string nb) W := fun W g h h' => by rw [← hnb]; exact conv2 W g k (by omega) hk21' h h'
            have HB := Lib.hid hnb
            clear hnb hk21'
            go_enter Tryd.func11, Tryd.ntmps11
            go_upto_region 10 with (first | (go_at_call 13; refine (D1.out _ (by first | exact hE0 | exact hE0.new ((New.refl _).alloc _) | exact hE0.new (((New.refl _).alloc _).alloc _))).mono ?_; rintro e1 w1 ⟨A1, c1, rfl, hr1, hc3, hc4, hw1⟩) | (go_at_call 28; refine (D5.out _).mono ?_; rintro e8 w8 ⟨rfl, rfl⟩) | (go_at_call 27; refine (D0.out _ hE0).mono ?_; rintro e9 w9 ⟨rfl, rfl⟩) | (go_at_call 12; refine (awake_any _ hE).mono ?_; rintro e0 w0 ⟨rfl, hw0⟩; have hE0 := hE.new hw0))
            have B0 : Blk (w1.alloc (.cells #[.string lA, .slice A1 n c1] 25)) (w0.heap.size + 1) 5 #[.int .u8 (48 + (k : Int) / 10), .int .u8 (48 + (k : Int) % 10)] := by have := ((Blk.made (w0.alloc (.cells #[.int .u8 (48 + (k : Int) % 10)] 5)) 5 #[.int .u8 (48 + (k : Int) / 10), .int .u8 (48 + (k : Int) % 10)]).new hw1).alloc (.cells #[.string lA, .slice A1 n c1] 25); rwa [World.size_alloc] at this
            have B1 := Blk.made w1 25 #[.string lA, .slice A1 n c1]
            have hEB : Env (w1.alloc (.cells #[.string lA, .slice A1 n c1] 25)) := ((hE0.new (((New.refl _).alloc _).alloc _)).new hw1).new ((New.refl _).alloc _)
            have hwB0 : New w (w1.alloc (.cells #[.string lA, .slice A1 n c1] 25)) := (((hw0.alloc _).alloc _).trans hw1).alloc _
            have hr1B := hr1.alloc (.cells #[.string lA, .slice A1 n c1] 25)
            generalize hwB : w1.alloc (.cells #[.string lA, .slice A1 n c1] 25) = wB at *
            clear hwB
            have hS : Pair wB (w0.heap.size + 1) (.int .u8 (48 + (k : Int) / 10)) (.int .u8 (48 + (k : Int) % 10)) wB := ⟨B0.cell' 0 _ rfl, B0.cell' 1 _ rfl, New.refl _⟩
            have hgB := B0.lt
            have k0 : ¬ (9223372036854775807 < inside.size + 1) := by omega
            have k1 : ¬ (9223372036854775807 < 7 + nb.size) := by omega
            have k2 : ¬ (9223372036854775807 < 7 + nb.size + 1) := by omega
            go_cut [11, 12] (fun s11 s12 wx => Left wB n ws2 s11 s12 wx)
            case first =>
              go_region_held3 (fun W => Pair wB (w0.heap.size + 1) (.int .u8 (48 + (k : Int) / 10)) (.int .u8 (48 + (k : Int) % 10)) W) (first | exact hS | exact Pair.new ‹_› ‹_› | exact Pair.drew ‹_› | exact Pair.new ‹_› ((New.refl _).alloc _) | exact Pair.new hS ((((New.refl _).drew.trans hn3).trans hn4).alloc _) | exact (Pair.put (p := ⟨_, 0, none⟩) (Pair.new hS (((((New.refl _).drew.trans hn3).alloc _)).trans hn4)) hgB (by have := hn3.size; simp at this ⊢; omega) _).put (p := ⟨_, 1, none⟩) hgB (by have := hn3.size; simp at this ⊢; omega) _ | exact (Pair.put (p := ⟨_, 0, none⟩) (Pair.new hS (((((New.refl _).drew.alloc _).trans hn3)).trans hn4)) hgB (by simp) _).put (p := ⟨_, 1, none⟩) hgB (by simp) _) (first | (go_at_call 35; refine (D6.out _ _ (Lib.hid (by simp)) (by simp only [ByteArray.size_append, sz10]; omega)).mono ?_; rintro e3 w3 ⟨r, rfl, hrp, hrs, hn3⟩; (first | (have BX := (Blk.made _ 25 _).new hn3) | (have BX := ((Blk.made _ 25 _).drew).new hn3) | skip); have k3 : ¬ (9223372036854775807 < 7 + nb.size + 1 + r.size) := (by omega); have k4 : ¬ (9223372036854775807 < 7 + nb.size + 1 + r.size + data.size) := (by omega)) | (go_at_call 13; refine (D2.out _ _ (hEB.new (Pair.nw (wB := wB) (g := w0.heap.size + 1) (a := .int .u8 (48 + (k : Int) / 10)) (b := .int .u8 (48 + (k : Int) % 10)) (by assumption))) (Lib.hid (by simp [noteHead, hrp.out, ← HB.out, S])) (by simp only [ByteArray.size_append, sz10, sz7]; omega)).mono ?_; rintro e4 w4 ⟨A2, c2, rfl, hr2, hc5, hc6, hn4⟩; (first | (have BY := (Blk.made _ 25 _).new hn4) | (have BY := BX.new hn4) | skip); (first | (have y0 := BY.cell' 0 _ rfl; have y1 := BY.cell' 1 _ rfl; have y2 := BY.free 0; have y3 := BY.free 1) | skip)))
              all_goals
                go_wp2_with fail
                go_meet
                first
                  | exact ⟨_, A2, c2, rfl, rfl, Blk.made _ _ _, hr2.alloc _, ((((New.refl _).drew.trans hn3).trans hn4).alloc _)⟩
                  | exact left_put HN2.out hr2 BY ((((New.refl _).drew.trans hn3).alloc _).trans hn4) (by have := hn3.size; simp at this ⊢; omega)
                  | exact left_put HN2.out hr2 BY (((((New.refl _).alloc _).drew).trans hn3).trans hn4) (Nat.le_refl _)
            case rest =>
              obtain ⟨g, A2, c2, rfl, rfl, B2, hr2, hn2⟩ := hcut
              have hg1 : w1.heap.size < wB.heap.size := B1.lt
              have hg2 := B2.lt
              have e11 := (B1.new hn2).cell' 1 _ rfl
              have e21 := B2.cell' 1 _ rfl
              go_wp2
              go_loopw [91] (fun v91 wr => ∃ i : Nat, v91 = .int .i64 i ∧ i ≤ n ∧ New wc wr) (fun v91 _ => n - (intOf v91).toNat)
              case atStart => exact ⟨0, rfl, by omega, New.refl _⟩
              case round =>
                obtain ⟨i, rfl, hi, hnr⟩ := hrel
                by_cases hlt : i < n
                · obtain ⟨x, hx, hx0, hx1, hy⟩ := HAT.out i hlt
                  obtain ⟨bk, o, rfl, hbk, hc⟩ := ((hr1B.below hn2).below hnr).2 (by omega)
                  obtain ⟨bk', o', rfl, hbk', hc'⟩ := (hr2.below hnr).2 (by omega)
                  obtain ⟨hx2, rfl⟩ := List.getElem?_eq_some_iff.1 hx
                  obtain ⟨hy1, hy2⟩ := List.getElem?_eq_some_iff.1 hy
                  obtain ⟨q1, q2⟩ := lxCells_at ws i hx2
                  obtain ⟨q3, q4⟩ := lxCells_at ws2 i hy1
                  rw [hy2] at q3 q4
                  have d1 := hc _ _ q1
                  have d2 : wr.cell? ⟨bk, o + i * 2 + 1, none⟩ = some (.int .i64 ws[i].2) := hc _ _ q2
                  have d3 := hc' _ _ q3
                  have hcast : ((ws[i].2 + (k + 1) : Nat) : Int) = (ws[i].2 : Int) + (k : Int) + 1 := by omega
                  have d4 : wr.cell? ⟨bk', o' + i * 2 + 1, none⟩ = some (.int .i64 ((ws[i].2 : Int) + (k : Int) + 1)) := by rw [← hcast]; exact hc' _ _ q4
                  have e11 := ((B1.new hn2).new hnr).cell' 1 _ rfl
                  have e21 := (B2.new hnr).cell' 1 _ rfl
                  have g1 : w1.heap.size < wr.heap.size := by have := hnr.size; have := hn2.size; omega
                  have g2 : g < wr.heap.size := by have := hnr.size; omega
                  have i0 : (0 : Int) ≤ (i : Int) := by omega
                  have i1 : (i : Int) < (n : Int) := by omega
                  clear q1 q2 q3 q4 hc hc' hx hy hy2 hcast
                  generalize ws[i] = x at *
                  have s1 : IntKind.i64.wrap ((x.2 : Int) + (k : Int)) = (x.2 : Int) + (k : Int) := IntWalk.i64_in _ (by omega)
                  have s2 : IntKind.i64.wrap ((x.2 : Int) + (k : Int) + 1) = (x.2 : Int) + (k : Int) + 1 := IntWalk.i64_in _ (by omega)
                  go_wp2_with (fail)
                  go_quiet (fail)
                  clear s1 s2
                  go_wp2
                  go_roundw
                  case rel => exact ⟨i + 1, by go_num, by omega, (hnr.alloc _).drewN nq⟩
                  case measure => simp [intOf]; omega
                · obtain rfl : i = n := by omega
                  go_wp2
                  go_ret
                  exact ⟨rfl, (hwB0.trans hn2).trans hnr⟩
        · have g4' : (500 : Int) < (cn : Int) := by omega
          have D0 := Lib.hid C0
          have D5 := Lib.hid C5
          clear C0 C5 hx0 g3 g4 hcn
          go_enter Tryd.func11, Tryd.ntmps11
          go_wp2_with (first
            | (go_at_call 28; refine (D5.out _).mono ?_; rintro e8 w8 ⟨rfl, rfl⟩)
            | (go_at_call 27; refine (D0.out _ hE0).mono ?_; rintro e9 w9 ⟨rfl, rfl⟩)
            | (go_at_call 12; refine (awake_any _ hE).mono ?_; rintro e0 w0 ⟨rfl, hw0⟩; have hE0 := hE.new hw0))
          go_ret
          exact ⟨rfl, hw0⟩
      · have C0 : ∀ w, Env w → Calls Tryd.prog 27 #[.string inside, .string ⟨#[10]⟩] w fun e w' => e = .returned (.bool true) ∧ w = w' := fun w h => contains_any' inside ⟨#[10]⟩ true w h (by omega) g3
        have D0 := Lib.hid C0
        clear C0 g3
        go_enter Tryd.func11, Tryd.ntmps11
        go_wp2_with (first
          | (go_at_call 27; refine (D0.out _ hE0).mono ?_; rintro e9 w9 ⟨rfl, rfl⟩)
          | (go_at_call 12; refine (awake_any _ hE).mono ?_; rintro e0 w0 ⟨rfl, hw0⟩; have hE0 := hE.new hw0))
        go_ret
        exact ⟨rfl, hw0⟩
    · have g2' : (100 : Int) < (inside.size : Int) := by omega
      clear g2
      go_enter Tryd.func11, Tryd.ntmps11
      go_wp2_with (go_at_call 12; refine (awake_any _ hE).mono ?_; rintro e0 w0 ⟨rfl, hw0⟩; have hE0 := hE.new hw0)
      go_ret
      exact ⟨rfl, hw0⟩
  · have g1' : (2000 : Int) < (data.size : Int) := by omega
    clear g1
    go_enter Tryd.func11, Tryd.ntmps11
    go_wp2_with (go_at_call 12; refine (awake_any _ hE).mono ?_; rintro e0 w0 ⟨rfl, hw0⟩; have hE0 := hE.new hw0)
    go_ret
    exact ⟨rfl, hw0⟩
theorem byte_wf {x : Int} (h : (Lit.int .u8 x).wf = true) : 0 ≤ x ∧ x ≤ 255 := by
  simp only [Lit.wf, Bool.and_eq_true, decide_eq_true_eq] at h
  exact h
theorem law_notes_i (data inside : ByteArray) (n : Int) (hn : (Lit.int .u8 n).wf = true) (w : World) (hE : Env w) :
    Calls Tryd.prog 11 #[.string data, .string inside, .int .u8 n] w fun e w' => e = .returned (.bool true) ∧ New w w' := by
  have hb := byte_wf hn
  obtain ⟨m, rfl⟩ : ∃ m : Nat, n = m := ⟨n.toNat, by omega⟩
  exact law_notes data inside m (by omega) w hE
end Go.Proofs.YtlecocmopeainaaDoor
