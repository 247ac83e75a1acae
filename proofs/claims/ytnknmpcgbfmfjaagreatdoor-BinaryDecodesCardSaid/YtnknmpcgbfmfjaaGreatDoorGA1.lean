/- Attach of the program. Conditions: sizes. (Printed by mk-a1.py.) -/
import Derived.Test.YtnknmpcgbfmfjaaGreatDoorGK3

namespace Go.Proofs.YtnknmpcgbfmfjaaGreatDoor
open Go Go.RowKit Go.Joins
set_option linter.unusedSimpArgs false
set_option linter.unusedVariables false

def attachV (b : Bn) (n : NtD) : Bn × Int :=
  if checkV b = false then (zB, 1) else if nameV n.name = false then (zB, 2) else if (noteV b.notes n.name).2 = true then (zB, 6)
  else if b.notes.length = 64 ∨ 65536 < n.text.size then (zB, 10) else ({ b with notes := b.notes ++ [n] }, 0)
def AttP (b : Bn) (n : NtD) (w : World) (e : Ending) (w' : World) : Prop := (∃ h', e = .returned (.tuple #[.agg (bcells (attachV b n).1 h'), .int .i64 (attachV b n).2]) ∧ BRd w' (attachV b n).1 h') ∧ New w w'
def AttF (b : Bn) (n : NtD) (w : World) (e : Ending) (w' : World) : Prop := (∃ h', e = .returned (.tuple #[.agg (bcells (attachV b n).1 h'), .int .i64 (attachV b n).2]) ∧ BRd w' (attachV b n).1 h' ∧ (∀ A, A = h'.a1 ∨ A = h'.a2 ∨ A = h'.a3 ∨ A = h'.a4 ∨ A = h'.a5 → ∀ a, A = some a → w.heap.size ≤ a.block) ∧ (attachV b n).1.notes.length ≤ h'.c5) ∧ New w w'
theorem AttF.p {b : Bn} {n : NtD} {w : World} {e : Ending} {w' : World} (h : AttF b n w e w') : AttP b n w e w' := by
  obtain ⟨⟨h', h1, h2, _⟩, h3⟩ := h
  exact ⟨⟨h', h1, h2⟩, h3⟩
theorem att_far_no {b : Bn} {n : NtD} {w : World} {e : Ending} {w' : World} {c : Int} (hv : attachV b n = (zB, c)) (he : e = .returned (.tuple #[.agg #[.int .i64 0, .int .i64 0, .string ⟨#[]⟩, .slice none 0 0, .slice none 0 0, .slice none 0 0, .slice none 0 0, .slice none 0 0], .int .i64 c])) (hn : New w w') : AttF b n w e w' :=
  ⟨⟨zH, by rw [hv, he]; rfl, by rw [hv]; exact zRd _, fun A hA a ha => by rcases hA with q | q | q | q | q <;> (subst q; cases ha), by rw [hv]; exact Nat.le_refl 0⟩, hn⟩
theorem att_far_yes {b : Bn} {n : NtD} {w : World} {e : Ending} {w' : World} (h : BH) (m : Nat) (hm : m = b.notes.length + 1) (hv : attachV b n = ({ b with notes := b.notes ++ [n] }, 0)) (he : e = .returned (.tuple #[.agg #[.int .i64 b.kind, .int .i64 b.entry, .string b.image, .slice h.a1 b.places.length h.c1, .slice h.a2 b.fix.length h.c2, .slice h.a3 b.imps.length h.c3, .slice h.a4 b.exps.length h.c4, .slice h.a5 m h.c5], .int .i64 0])) (hr : BRd w' { b with notes := b.notes ++ [n] } h) (hf : ∀ A, A = h.a1 ∨ A = h.a2 ∨ A = h.a3 ∨ A = h.a4 ∨ A = h.a5 → ∀ a, A = some a → w.heap.size ≤ a.block) (hc : m ≤ h.c5) (hn : New w w') : AttF b n w e w' := by
  refine ⟨⟨h, ?_, by rw [hv]; exact hr, hf, by rw [hv]; simp only [List.length_append, List.length_cons, List.length_nil]; omega⟩, hn⟩
  rw [hv, he, hm]
  simp [bcells]
theorem att_no {b : Bn} {n : NtD} {w : World} {e : Ending} {w' : World} {c : Int} (hv : attachV b n = (zB, c)) (he : e = .returned (.tuple #[.agg #[.int .i64 0, .int .i64 0, .string ⟨#[]⟩, .slice none 0 0, .slice none 0 0, .slice none 0 0, .slice none 0 0, .slice none 0 0], .int .i64 c])) (hn : New w w') : AttP b n w e w' :=
  ⟨⟨zH, by rw [hv, he]; rfl, by rw [hv]; exact zRd _⟩, hn⟩
theorem att_yes {b : Bn} {n : NtD} {w : World} {e : Ending} {w' : World} (h : BH) (m : Nat) (hm : m = b.notes.length + 1) (hv : attachV b n = ({ b with notes := b.notes ++ [n] }, 0)) (he : e = .returned (.tuple #[.agg #[.int .i64 b.kind, .int .i64 b.entry, .string b.image, .slice h.a1 b.places.length h.c1, .slice h.a2 b.fix.length h.c2, .slice h.a3 b.imps.length h.c3, .slice h.a4 b.exps.length h.c4, .slice h.a5 m h.c5], .int .i64 0])) (hr : BRd w' { b with notes := b.notes ++ [n] } h) (hn : New w w') : AttP b n w e w' := by
  refine ⟨⟨h, ?_, by rw [hv]; exact hr⟩, hn⟩
  rw [hv, he, hm]
  simp [bcells]
theorem rd_grown {w w' : World} {k n : Nat} {A : Option Addr} {xs : List Value} {row : Option Nat} {B : Nat} (h : Rd w k A n xs) (hg : w.grownBy w' row) (hb : 0 < n → ∀ a, A = some a → a.block < B) (hrow : ∀ r, row = some r → B ≤ r) : Rd w' k A n xs :=
  ⟨h.1, fun hn => by
    obtain ⟨b, o, e, hb', hc⟩ := h.2 hn
    have h1 := hb hn _ e
    simp only at h1
    exact ⟨b, o, e, Nat.lt_of_lt_of_le hb' hg.size, fun j u hu => (World.cell?_of_block (hg.block b hb' (fun he => by have := hrow b he.symm; omega))).trans (hc j u hu)⟩⟩
theorem rd_att {w4 w6 w7 : World} {k n g1 g2 B L : Nat} {A : Option Addr} {xs : List Value} {row : Option Nat} {u v0 v1 v2 v3 v4 v5 v6 v7 : Value} (h : Rd w4 k A n xs) (h46 : New w4 w6) (hg : w6.grownBy w7 row) (hb : 0 < n → ∀ a, A = some a → a.block < B) (hrow : ∀ r, row = some r → B ≤ r) (hg1 : w4.heap.size ≤ g1) (hg2 : g2 < L) (hfar : ∀ a, A = some a → L ≤ a.block) : Rd (set8 (w7.setCell ⟨g1, 7, none⟩ u) g2 v0 v1 v2 v3 v4 v5 v6 v7) k A n xs :=
  ⟨h.1, fun hn => by
    obtain ⟨b, o, e, hb', hc⟩ := h.2 hn
    have h7 := rd_grown (h.below h46) hg hb hrow
    have h8 := h7.setFar (p := ⟨g1, 7, none⟩) (fun a ha => by rw [e] at ha; injection ha with ha; rw [← ha]; simp only; omega) u
    exact (set8_rd h8 (fun a ha => by have := hfar a ha; omega)).2 hn⟩
theorem own_ne {w : World} {base : Nat} {e t : TypeId} {k n g : Nat} {A : Option Addr} {c : Nat} {xs : List Value} {cs : Array Value} (h : w.ownsRow base e k (.slice A n c) n xs) (hb : Blk w g t cs) (hne : e ≠ t) : ∀ a, A = some a → a.block ≠ g := by
  intro a ha hx
  rcases h.2 with ⟨hv, _⟩ | ⟨g', cap, cur, hv, _, hh, _⟩
  · injection hv with h1; rw [ha] at h1; cases h1
  · injection hv with h1
    rw [ha] at h1
    injection h1 with h1
    subst h1
    simp only at hx
    subst hx
    unfold Blk at hb
    rw [hb] at hh
    injection hh with hh
    injection hh with _ h2
    exact hne h2.symm
theorem own_far {w : World} {base : Nat} {e : TypeId} {k n : Nat} {A : Option Addr} {c : Nat} {xs : List Value} (h : w.ownsRow base e k (.slice A n c) n xs) : ∀ a, A = some a → base ≤ a.block := by
  intro a ha
  rcases h.2 with ⟨hv, _⟩ | ⟨g', cap, cur, hv, hg, hh, _⟩
  · injection hv with h1; rw [ha] at h1; cases h1
  · injection hv with h1
    rw [ha] at h1
    injection h1 with h1
    rw [h1]; exact hg
theorem own_min {w W : World} {b : Bn} {h : BH} (h1 : OwnN w W b h) (h2 : BRd W b h) (h3 : New w W) : ∃ B, w.heap.size ≤ B ∧ B ≤ W.heap.size ∧ W.ownsRow B 40 2 (.slice h.a5 b.notes.length h.c5) b.notes.length (b.notes.flatMap ntC) ∧ (0 < b.places.length → ∀ a, h.a1 = some a → a.block < B) ∧ (0 < b.fix.length → ∀ a, h.a2 = some a → a.block < B) ∧ (0 < b.imps.length → ∀ a, h.a3 = some a → a.block < B) ∧ (0 < b.exps.length → ∀ a, h.a4 = some a → a.block < B) := by
  obtain ⟨B, hb, hown, k1, k2, k3, k4⟩ := h1
  refine ⟨min B W.heap.size, by have := h3.size; omega, Nat.min_le_right _ _, own_base hown (Nat.min_le_left _ _), fun hn a ha => ?_, fun hn a ha => ?_, fun hn a ha => ?_, fun hn a ha => ?_⟩
  · have := k1 hn a ha; have := rd_lt h2.r1 hn a ha; omega
  · have := k2 hn a ha; have := rd_lt h2.r2 hn a ha; omega
  · have := k3 hn a ha; have := rd_lt h2.r3 hn a ha; omega
  · have := k4 hn a ha; have := rd_lt h2.r4 hn a ha; omega
theorem blk_one_rd {w : World} {g : Nat} {t : TypeId} {n : NtD} (h : Blk w g t #[.string n.name, .string n.text]) : Rd w 2 (some ⟨g, 0, none⟩) 1 ([n].flatMap ntC) := by
  refine ⟨rfl, fun _ => ⟨g, 0, rfl, h.lt, fun j u hu => ?_⟩⟩
  rw [h.cell (0 + j), Nat.zero_add]
  rw [← hu]
  rw [← Array.getElem?_toList]
  rfl
set_option maxRecDepth 100000 in
set_option maxHeartbeats 16000000 in
theorem attach_far (b : Bn) (h : BH) (n : NtD) (w : World) (hr : BRd w b h) (hz : SzB b) (hE : Env w) (hs : n.name.size ≤ 9223372036854775807) :
    Calls Tryz.prog 19 #[.agg (bcells b h), .agg #[.string n.name, .string n.text]] w (AttF b n w) := by
  have HN := Lib.hid (fun W (hn : New w W) => note_any b h n.name W (hr.new hn) hz.l5)
  have HC := Lib.hid (fun W (hn : New w W) => check_any b h W (hr.new hn) hz (hE.new hn))
  have hce : chkE b = if checkV b = true then 0 else 1 := rfl
  rw [hce] at HC
  have HNM := Lib.hid (fun W => name_any n.name W hs)
  have HCL := Lib.hid (fun W (hn : New w W) => bclone_any b h W (hr.new hn) hz.l1 hz.l2 hz.l3 hz.l4 hz.l5)
  have HNO := Lib.hid (fun (c : Int) (hv : attachV b n = (zB, c)) e w' he hn => att_far_no (w := w) (e := e) (w' := w') hv he hn)
  have HYES := Lib.hid (fun (h' : BH) (m : Nat) (hm : m = b.notes.length + 1) (hv : attachV b n = ({ b with notes := b.notes ++ [n] }, 0)) e w' he hr hf hc hn => att_far_yes (b := b) (n := n) (w := w) (e := e) (w' := w') h' m hm hv he hr hf hc hn)
  obtain ⟨cv, hcv⟩ : ∃ v, checkV b = v := ⟨_, rfl⟩
  obtain ⟨nv, hnv⟩ : ∃ v, nameV n.name = v := ⟨_, rfl⟩
  obtain ⟨⟨pt, pv⟩, hpv⟩ : ∃ v, noteV b.notes n.name = v := ⟨_, rfl⟩
  rw [hcv] at HC
  rw [hnv] at HNM
  rw [hpv] at HN
  simp only at HN
  have HV := Lib.hid (And.intro hcv (And.intro hnv hpv))
  have h5 := hz.l5
  generalize hP : AttF b n w = PP at *
  clear hce hcv hnv hpv hr hz hP hs hE
  obtain ⟨kind, entry, image, places, fix, imps, exps, notes⟩ := b
  obtain ⟨a1, c1, a2, c2, a3, c3, a4, c4, a5, c5⟩ := h
  obtain ⟨nm, tx⟩ := n
  simp only [bcells] at HN HC HNM HCL HNO HYES HV h5 ⊢
  obtain ⟨n1, hn1⟩ : ∃ n, places.length = n := ⟨_, rfl⟩
  obtain ⟨n2, hn2⟩ : ∃ n, fix.length = n := ⟨_, rfl⟩
  obtain ⟨n3, hn3⟩ : ∃ n, imps.length = n := ⟨_, rfl⟩
  obtain ⟨n4, hn4⟩ : ∃ n, exps.length = n := ⟨_, rfl⟩
  obtain ⟨n5, hn5⟩ : ∃ n, notes.length = n := ⟨_, rfl⟩
  rw [hn1, hn2, hn3, hn4, hn5] at HC HN HCL HYES ⊢
  rw [hn5] at h5
  have HL : Hid (places.length = n1 ∧ fix.length = n2 ∧ imps.length = n3 ∧ exps.length = n4 ∧ notes.length = n5) := Lib.hid ⟨hn1, hn2, hn3, hn4, hn5⟩
  clear hn1 hn2 hn3 hn4 hn5
  have BX := ((Blk.made w 28 #[.int .i64 kind, .int .i64 entry, .string image, .slice a1 n1 c1, .slice a2 n2 c2, .slice a3 n3 c3, .slice a4 n4 c4, .slice a5 n5 c5]).alloc (.cells #[.string nm, .string tx] 40)).alloc (.cells #[.int .i64 0, .int .i64 0, .string ⟨#[]⟩, .slice none 0 0, .slice none 0 0, .slice none 0 0, .slice none 0 0, .slice none 0 0] 28)
  have BQ : Blk (((w.alloc (.cells #[.int .i64 kind, .int .i64 entry, .string image, .slice a1 n1 c1, .slice a2 n2 c2, .slice a3 n3 c3, .slice a4 n4 c4, .slice a5 n5 c5] 28)).alloc (.cells #[.string nm, .string tx] 40)).alloc (.cells #[.int .i64 0, .int .i64 0, .string ⟨#[]⟩, .slice none 0 0, .slice none 0 0, .slice none 0 0, .slice none 0 0, .slice none 0 0] 28)) (w.heap.size + 1) 40 #[.string nm, .string tx] := by
    have q := (Blk.made (w.alloc (.cells #[.int .i64 kind, .int .i64 entry, .string image, .slice a1 n1 c1, .slice a2 n2 c2, .slice a3 n3 c3, .slice a4 n4 c4, .slice a5 n5 c5] 28)) 40 #[.string nm, .string tx]).alloc (.cells #[.int .i64 0, .int .i64 0, .string ⟨#[]⟩, .slice none 0 0, .slice none 0 0, .slice none 0 0, .slice none 0 0, .slice none 0 0] 28)
    rwa [World.size_alloc] at q
  have BZ : Blk (((w.alloc (.cells #[.int .i64 kind, .int .i64 entry, .string image, .slice a1 n1 c1, .slice a2 n2 c2, .slice a3 n3 c3, .slice a4 n4 c4, .slice a5 n5 c5] 28)).alloc (.cells #[.string nm, .string tx] 40)).alloc (.cells #[.int .i64 0, .int .i64 0, .string ⟨#[]⟩, .slice none 0 0, .slice none 0 0, .slice none 0 0, .slice none 0 0, .slice none 0 0] 28)) (w.heap.size + 1 + 1) 28 #[.int .i64 0, .int .i64 0, .string ⟨#[]⟩, .slice none 0 0, .slice none 0 0, .slice none 0 0, .slice none 0 0, .slice none 0 0] := by
    have q := Blk.made ((w.alloc (.cells #[.int .i64 kind, .int .i64 entry, .string image, .slice a1 n1 c1, .slice a2 n2 c2, .slice a3 n3 c3, .slice a4 n4 c4, .slice a5 n5 c5] 28)).alloc (.cells #[.string nm, .string tx] 40)) 28 #[.int .i64 0, .int .i64 0, .string ⟨#[]⟩, .slice none 0 0, .slice none 0 0, .slice none 0 0, .slice none 0 0, .slice none 0 0]
    rwa [World.size_alloc, World.size_alloc] at q
  have hnX : New w (((w.alloc (.cells #[.int .i64 kind, .int .i64 entry, .string image, .slice a1 n1 c1, .slice a2 n2 c2, .slice a3 n3 c3, .slice a4 n4 c4, .slice a5 n5 c5] 28)).alloc (.cells #[.string nm, .string tx] 40)).alloc (.cells #[.int .i64 0, .int .i64 0, .string ⟨#[]⟩, .slice none 0 0, .slice none 0 0, .slice none 0 0, .slice none 0 0, .slice none 0 0] 28)) := (((New.refl w).alloc _).alloc _).alloc _
  cases cv
  · skip
    go_enter Tryz.func19, Tryz.ntmps19
    go_wp2_with (first | (go_at_call 14; (with_reducible refine (HC.out _ (hnX.trans (k1))).mono ?_); rintro e w2 ⟨rfl, k2⟩; have XB2 := BX.new ((k1).trans k2); have QB2 := BQ.new ((k1).trans k2); have YB2 := BZ.new ((k1).trans k2); have x2_0 := XB2.cell' 0 _ rfl; have x2_1 := XB2.cell' 1 _ rfl; have x2_2 := XB2.cell' 2 _ rfl; have x2_3 := XB2.cell' 3 _ rfl; have x2_4 := XB2.cell' 4 _ rfl; have x2_5 := XB2.cell' 5 _ rfl; have x2_6 := XB2.cell' 6 _ rfl; have x2_7 := XB2.cell' 7 _ rfl; have q2_0 := QB2.cell' 0 _ rfl; have q2_1 := QB2.cell' 1 _ rfl; have y2_0 := YB2.cell' 0 _ rfl; have y2_1 := YB2.cell' 1 _ rfl; have y2_2 := YB2.cell' 2 _ rfl; have y2_3 := YB2.cell' 3 _ rfl; have y2_4 := YB2.cell' 4 _ rfl; have y2_5 := YB2.cell' 5 _ rfl; have y2_6 := YB2.cell' 6 _ rfl; have y2_7 := YB2.cell' 7 _ rfl; have z2_0 := YB2.free 0; have z2_1 := YB2.free 1; have z2_2 := YB2.free 2; have z2_3 := YB2.free 3; have z2_4 := YB2.free 4; have z2_5 := YB2.free 5; have z2_6 := YB2.free 6; have z2_7 := YB2.free 7) | (go_at_call 23; (with_reducible refine (HN.out _ (hnX)).mono ?_); rintro e w1 ⟨rfl, k1⟩; have XB1 := BX.new (k1); have QB1 := BQ.new (k1); have YB1 := BZ.new (k1); have x1_0 := XB1.cell' 0 _ rfl; have x1_1 := XB1.cell' 1 _ rfl; have x1_2 := XB1.cell' 2 _ rfl; have x1_3 := XB1.cell' 3 _ rfl; have x1_4 := XB1.cell' 4 _ rfl; have x1_5 := XB1.cell' 5 _ rfl; have x1_6 := XB1.cell' 6 _ rfl; have x1_7 := XB1.cell' 7 _ rfl; have q1_0 := QB1.cell' 0 _ rfl; have q1_1 := QB1.cell' 1 _ rfl; have y1_0 := YB1.cell' 0 _ rfl; have y1_1 := YB1.cell' 1 _ rfl; have y1_2 := YB1.cell' 2 _ rfl; have y1_3 := YB1.cell' 3 _ rfl; have y1_4 := YB1.cell' 4 _ rfl; have y1_5 := YB1.cell' 5 _ rfl; have y1_6 := YB1.cell' 6 _ rfl; have y1_7 := YB1.cell' 7 _ rfl; have z1_0 := YB1.free 0; have z1_1 := YB1.free 1; have z1_2 := YB1.free 2; have z1_3 := YB1.free 3; have z1_4 := YB1.free 4; have z1_5 := YB1.free 5; have z1_6 := YB1.free 6; have z1_7 := YB1.free 7))
    have YZ := set8_blk (v0 := .int .i64 0) (v1 := .int .i64 0) (v2 := .string ⟨#[]⟩) (v3 := .slice none 0 0) (v4 := .slice none 0 0) (v5 := .slice none 0 0) (v6 := .slice none 0 0) (v7 := .slice none 0 0) (YB2)
    have NZ := Lib.hid (set8_new (g := w.heap.size + 1 + 1) (v0 := .int .i64 0) (v1 := .int .i64 0) (v2 := .string ⟨#[]⟩) (v3 := .slice none 0 0) (v4 := .slice none 0 0) (v5 := .slice none 0 0) (v6 := .slice none 0 0) (v7 := .slice none 0 0) (hnX.trans ((k1).trans k2)) (by omega))
    have HYZ := Lib.hid YZ
    clear YZ
    change bodyPost _ _ _ _ _ (set8 w2 (w.heap.size + 1 + 1) (.int .i64 0) (.int .i64 0) (.string ⟨#[]⟩) (.slice none 0 0) (.slice none 0 0) (.slice none 0 0) (.slice none 0 0) (.slice none 0 0))
    generalize (set8 w2 (w.heap.size + 1 + 1) (.int .i64 0) (.int .i64 0) (.string ⟨#[]⟩) (.slice none 0 0) (.slice none 0 0) (.slice none 0 0) (.slice none 0 0) (.slice none 0 0)) = wZ at *
    have e0 := HYZ.out.cell' 0 _ rfl
    have e1 := HYZ.out.cell' 1 _ rfl
    have e2 := HYZ.out.cell' 2 _ rfl
    have e3 := HYZ.out.cell' 3 _ rfl
    have e4 := HYZ.out.cell' 4 _ rfl
    have e5 := HYZ.out.cell' 5 _ rfl
    have e6 := HYZ.out.cell' 6 _ rfl
    have e7 := HYZ.out.cell' 7 _ rfl
    exact bodyPost_ret (v := .tuple #[.agg #[.int .i64 0, .int .i64 0, .string ⟨#[]⟩, .slice none 0 0, .slice none 0 0, .slice none 0 0, .slice none 0 0, .slice none 0 0], .int .i64 1]) (by simp [results, Tryz.results19, go_sem, e0, e1, e2, e3, e4, e5, e6, e7]) rfl (HNO.out _ (by have hv := HV.out; have hl := HL.out.2.2.2.2; simp [attachV, hv.1, hv.2.1, hv.2.2, hl]) _ _ rfl NZ.out)
  cases nv
  · skip
    go_enter Tryz.func19, Tryz.ntmps19
    go_wp2_with (first | (go_at_call 73; (with_reducible refine ((fun _ => HNM.out _) (hnX.trans ((k1).trans k2))).mono ?_); rintro e w3 ⟨rfl, k3⟩; have XB3 := BX.new (((k1).trans k2).trans k3); have QB3 := BQ.new (((k1).trans k2).trans k3); have YB3 := BZ.new (((k1).trans k2).trans k3); have x3_0 := XB3.cell' 0 _ rfl; have x3_1 := XB3.cell' 1 _ rfl; have x3_2 := XB3.cell' 2 _ rfl; have x3_3 := XB3.cell' 3 _ rfl; have x3_4 := XB3.cell' 4 _ rfl; have x3_5 := XB3.cell' 5 _ rfl; have x3_6 := XB3.cell' 6 _ rfl; have x3_7 := XB3.cell' 7 _ rfl; have q3_0 := QB3.cell' 0 _ rfl; have q3_1 := QB3.cell' 1 _ rfl; have y3_0 := YB3.cell' 0 _ rfl; have y3_1 := YB3.cell' 1 _ rfl; have y3_2 := YB3.cell' 2 _ rfl; have y3_3 := YB3.cell' 3 _ rfl; have y3_4 := YB3.cell' 4 _ rfl; have y3_5 := YB3.cell' 5 _ rfl; have y3_6 := YB3.cell' 6 _ rfl; have y3_7 := YB3.cell' 7 _ rfl; have z3_0 := YB3.free 0; have z3_1 := YB3.free 1; have z3_2 := YB3.free 2; have z3_3 := YB3.free 3; have z3_4 := YB3.free 4; have z3_5 := YB3.free 5; have z3_6 := YB3.free 6; have z3_7 := YB3.free 7) | (go_at_call 14; (with_reducible refine (HC.out _ (hnX.trans (k1))).mono ?_); rintro e w2 ⟨rfl, k2⟩; have XB2 := BX.new ((k1).trans k2); have QB2 := BQ.new ((k1).trans k2); have YB2 := BZ.new ((k1).trans k2); have x2_0 := XB2.cell' 0 _ rfl; have x2_1 := XB2.cell' 1 _ rfl; have x2_2 := XB2.cell' 2 _ rfl; have x2_3 := XB2.cell' 3 _ rfl; have x2_4 := XB2.cell' 4 _ rfl; have x2_5 := XB2.cell' 5 _ rfl; have x2_6 := XB2.cell' 6 _ rfl; have x2_7 := XB2.cell' 7 _ rfl; have q2_0 := QB2.cell' 0 _ rfl; have q2_1 := QB2.cell' 1 _ rfl; have y2_0 := YB2.cell' 0 _ rfl; have y2_1 := YB2.cell' 1 _ rfl; have y2_2 := YB2.cell' 2 _ rfl; have y2_3 := YB2.cell' 3 _ rfl; have y2_4 := YB2.cell' 4 _ rfl; have y2_5 := YB2.cell' 5 _ rfl; have y2_6 := YB2.cell' 6 _ rfl; have y2_7 := YB2.cell' 7 _ rfl; have z2_0 := YB2.free 0; have z2_1 := YB2.free 1; have z2_2 := YB2.free 2; have z2_3 := YB2.free 3; have z2_4 := YB2.free 4; have z2_5 := YB2.free 5; have z2_6 := YB2.free 6; have z2_7 := YB2.free 7) | (go_at_call 23; (with_reducible refine (HN.out _ (hnX)).mono ?_); rintro e w1 ⟨rfl, k1⟩; have XB1 := BX.new (k1); have QB1 := BQ.new (k1); have YB1 := BZ.new (k1); have x1_0 := XB1.cell' 0 _ rfl; have x1_1 := XB1.cell' 1 _ rfl; have x1_2 := XB1.cell' 2 _ rfl; have x1_3 := XB1.cell' 3 _ rfl; have x1_4 := XB1.cell' 4 _ rfl; have x1_5 := XB1.cell' 5 _ rfl; have x1_6 := XB1.cell' 6 _ rfl; have x1_7 := XB1.cell' 7 _ rfl; have q1_0 := QB1.cell' 0 _ rfl; have q1_1 := QB1.cell' 1 _ rfl; have y1_0 := YB1.cell' 0 _ rfl; have y1_1 := YB1.cell' 1 _ rfl; have y1_2 := YB1.cell' 2 _ rfl; have y1_3 := YB1.cell' 3 _ rfl; have y1_4 := YB1.cell' 4 _ rfl; have y1_5 := YB1.cell' 5 _ rfl; have y1_6 := YB1.cell' 6 _ rfl; have y1_7 := YB1.cell' 7 _ rfl; have z1_0 := YB1.free 0; have z1_1 := YB1.free 1; have z1_2 := YB1.free 2; have z1_3 := YB1.free 3; have z1_4 := YB1.free 4; have z1_5 := YB1.free 5; have z1_6 := YB1.free 6; have z1_7 := YB1.free 7))
    have YZ := set8_blk (v0 := .int .i64 0) (v1 := .int .i64 0) (v2 := .string ⟨#[]⟩) (v3 := .slice none 0 0) (v4 := .slice none 0 0) (v5 := .slice none 0 0) (v6 := .slice none 0 0) (v7 := .slice none 0 0) (YB3)
    have NZ := Lib.hid (set8_new (g := w.heap.size + 1 + 1) (v0 := .int .i64 0) (v1 := .int .i64 0) (v2 := .string ⟨#[]⟩) (v3 := .slice none 0 0) (v4 := .slice none 0 0) (v5 := .slice none 0 0) (v6 := .slice none 0 0) (v7 := .slice none 0 0) (hnX.trans (((k1).trans k2).trans k3)) (by omega))
    have HYZ := Lib.hid YZ
    clear YZ
    change bodyPost _ _ _ _ _ (set8 w3 (w.heap.size + 1 + 1) (.int .i64 0) (.int .i64 0) (.string ⟨#[]⟩) (.slice none 0 0) (.slice none 0 0) (.slice none 0 0) (.slice none 0 0) (.slice none 0 0))
    generalize (set8 w3 (w.heap.size + 1 + 1) (.int .i64 0) (.int .i64 0) (.string ⟨#[]⟩) (.slice none 0 0) (.slice none 0 0) (.slice none 0 0) (.slice none 0 0) (.slice none 0 0)) = wZ at *
    have e0 := HYZ.out.cell' 0 _ rfl
    have e1 := HYZ.out.cell' 1 _ rfl
    have e2 := HYZ.out.cell' 2 _ rfl
    have e3 := HYZ.out.cell' 3 _ rfl
    have e4 := HYZ.out.cell' 4 _ rfl
    have e5 := HYZ.out.cell' 5 _ rfl
    have e6 := HYZ.out.cell' 6 _ rfl
    have e7 := HYZ.out.cell' 7 _ rfl
    exact bodyPost_ret (v := .tuple #[.agg #[.int .i64 0, .int .i64 0, .string ⟨#[]⟩, .slice none 0 0, .slice none 0 0, .slice none 0 0, .slice none 0 0, .slice none 0 0], .int .i64 2]) (by simp [results, Tryz.results19, go_sem, e0, e1, e2, e3, e4, e5, e6, e7]) rfl (HNO.out _ (by have hv := HV.out; have hl := HL.out.2.2.2.2; simp [attachV, hv.1, hv.2.1, hv.2.2, hl]) _ _ rfl NZ.out)
  cases pv
  rotate_left
  · skip
    go_enter Tryz.func19, Tryz.ntmps19
    go_wp2_with (first | (go_at_call 73; (with_reducible refine ((fun _ => HNM.out _) (hnX.trans ((k1).trans k2))).mono ?_); rintro e w3 ⟨rfl, k3⟩; have XB3 := BX.new (((k1).trans k2).trans k3); have QB3 := BQ.new (((k1).trans k2).trans k3); have YB3 := BZ.new (((k1).trans k2).trans k3); have x3_0 := XB3.cell' 0 _ rfl; have x3_1 := XB3.cell' 1 _ rfl; have x3_2 := XB3.cell' 2 _ rfl; have x3_3 := XB3.cell' 3 _ rfl; have x3_4 := XB3.cell' 4 _ rfl; have x3_5 := XB3.cell' 5 _ rfl; have x3_6 := XB3.cell' 6 _ rfl; have x3_7 := XB3.cell' 7 _ rfl; have q3_0 := QB3.cell' 0 _ rfl; have q3_1 := QB3.cell' 1 _ rfl; have y3_0 := YB3.cell' 0 _ rfl; have y3_1 := YB3.cell' 1 _ rfl; have y3_2 := YB3.cell' 2 _ rfl; have y3_3 := YB3.cell' 3 _ rfl; have y3_4 := YB3.cell' 4 _ rfl; have y3_5 := YB3.cell' 5 _ rfl; have y3_6 := YB3.cell' 6 _ rfl; have y3_7 := YB3.cell' 7 _ rfl; have z3_0 := YB3.free 0; have z3_1 := YB3.free 1; have z3_2 := YB3.free 2; have z3_3 := YB3.free 3; have z3_4 := YB3.free 4; have z3_5 := YB3.free 5; have z3_6 := YB3.free 6; have z3_7 := YB3.free 7) | (go_at_call 14; (with_reducible refine (HC.out _ (hnX.trans (k1))).mono ?_); rintro e w2 ⟨rfl, k2⟩; have XB2 := BX.new ((k1).trans k2); have QB2 := BQ.new ((k1).trans k2); have YB2 := BZ.new ((k1).trans k2); have x2_0 := XB2.cell' 0 _ rfl; have x2_1 := XB2.cell' 1 _ rfl; have x2_2 := XB2.cell' 2 _ rfl; have x2_3 := XB2.cell' 3 _ rfl; have x2_4 := XB2.cell' 4 _ rfl; have x2_5 := XB2.cell' 5 _ rfl; have x2_6 := XB2.cell' 6 _ rfl; have x2_7 := XB2.cell' 7 _ rfl; have q2_0 := QB2.cell' 0 _ rfl; have q2_1 := QB2.cell' 1 _ rfl; have y2_0 := YB2.cell' 0 _ rfl; have y2_1 := YB2.cell' 1 _ rfl; have y2_2 := YB2.cell' 2 _ rfl; have y2_3 := YB2.cell' 3 _ rfl; have y2_4 := YB2.cell' 4 _ rfl; have y2_5 := YB2.cell' 5 _ rfl; have y2_6 := YB2.cell' 6 _ rfl; have y2_7 := YB2.cell' 7 _ rfl; have z2_0 := YB2.free 0; have z2_1 := YB2.free 1; have z2_2 := YB2.free 2; have z2_3 := YB2.free 3; have z2_4 := YB2.free 4; have z2_5 := YB2.free 5; have z2_6 := YB2.free 6; have z2_7 := YB2.free 7) | (go_at_call 23; (with_reducible refine (HN.out _ (hnX)).mono ?_); rintro e w1 ⟨rfl, k1⟩; have XB1 := BX.new (k1); have QB1 := BQ.new (k1); have YB1 := BZ.new (k1); have x1_0 := XB1.cell' 0 _ rfl; have x1_1 := XB1.cell' 1 _ rfl; have x1_2 := XB1.cell' 2 _ rfl; have x1_3 := XB1.cell' 3 _ rfl; have x1_4 := XB1.cell' 4 _ rfl; have x1_5 := XB1.cell' 5 _ rfl; have x1_6 := XB1.cell' 6 _ rfl; have x1_7 := XB1.cell' 7 _ rfl; have q1_0 := QB1.cell' 0 _ rfl; have q1_1 := QB1.cell' 1 _ rfl; have y1_0 := YB1.cell' 0 _ rfl; have y1_1 := YB1.cell' 1 _ rfl; have y1_2 := YB1.cell' 2 _ rfl; have y1_3 := YB1.cell' 3 _ rfl; have y1_4 := YB1.cell' 4 _ rfl; have y1_5 := YB1.cell' 5 _ rfl; have y1_6 := YB1.cell' 6 _ rfl; have y1_7 := YB1.cell' 7 _ rfl; have z1_0 := YB1.free 0; have z1_1 := YB1.free 1; have z1_2 := YB1.free 2; have z1_3 := YB1.free 3; have z1_4 := YB1.free 4; have z1_5 := YB1.free 5; have z1_6 := YB1.free 6; have z1_7 := YB1.free 7))
    have YZ := set8_blk (v0 := .int .i64 0) (v1 := .int .i64 0) (v2 := .string ⟨#[]⟩) (v3 := .slice none 0 0) (v4 := .slice none 0 0) (v5 := .slice none 0 0) (v6 := .slice none 0 0) (v7 := .slice none 0 0) (YB3)
    have NZ := Lib.hid (set8_new (g := w.heap.size + 1 + 1) (v0 := .int .i64 0) (v1 := .int .i64 0) (v2 := .string ⟨#[]⟩) (v3 := .slice none 0 0) (v4 := .slice none 0 0) (v5 := .slice none 0 0) (v6 := .slice none 0 0) (v7 := .slice none 0 0) (hnX.trans (((k1).trans k2).trans k3)) (by omega))
    have HYZ := Lib.hid YZ
    clear YZ
    change bodyPost _ _ _ _ _ (set8 w3 (w.heap.size + 1 + 1) (.int .i64 0) (.int .i64 0) (.string ⟨#[]⟩) (.slice none 0 0) (.slice none 0 0) (.slice none 0 0) (.slice none 0 0) (.slice none 0 0))
    generalize (set8 w3 (w.heap.size + 1 + 1) (.int .i64 0) (.int .i64 0) (.string ⟨#[]⟩) (.slice none 0 0) (.slice none 0 0) (.slice none 0 0) (.slice none 0 0) (.slice none 0 0)) = wZ at *
    have e0 := HYZ.out.cell' 0 _ rfl
    have e1 := HYZ.out.cell' 1 _ rfl
    have e2 := HYZ.out.cell' 2 _ rfl
    have e3 := HYZ.out.cell' 3 _ rfl
    have e4 := HYZ.out.cell' 4 _ rfl
    have e5 := HYZ.out.cell' 5 _ rfl
    have e6 := HYZ.out.cell' 6 _ rfl
    have e7 := HYZ.out.cell' 7 _ rfl
    exact bodyPost_ret (v := .tuple #[.agg #[.int .i64 0, .int .i64 0, .string ⟨#[]⟩, .slice none 0 0, .slice none 0 0, .slice none 0 0, .slice none 0 0, .slice none 0 0], .int .i64 6]) (by simp [results, Tryz.results19, go_sem, e0, e1, e2, e3, e4, e5, e6, e7]) rfl (HNO.out _ (by have hv := HV.out; have hl := HL.out.2.2.2.2; simp [attachV, hv.1, hv.2.1, hv.2.2, hl]) _ _ rfl NZ.out)
  by_cases h64 : n5 = 64
  · subst h64
    go_enter Tryz.func19, Tryz.ntmps19
    go_wp2_with (first | (go_at_call 73; (with_reducible refine ((fun _ => HNM.out _) (hnX.trans ((k1).trans k2))).mono ?_); rintro e w3 ⟨rfl, k3⟩; have XB3 := BX.new (((k1).trans k2).trans k3); have QB3 := BQ.new (((k1).trans k2).trans k3); have YB3 := BZ.new (((k1).trans k2).trans k3); have x3_0 := XB3.cell' 0 _ rfl; have x3_1 := XB3.cell' 1 _ rfl; have x3_2 := XB3.cell' 2 _ rfl; have x3_3 := XB3.cell' 3 _ rfl; have x3_4 := XB3.cell' 4 _ rfl; have x3_5 := XB3.cell' 5 _ rfl; have x3_6 := XB3.cell' 6 _ rfl; have x3_7 := XB3.cell' 7 _ rfl; have q3_0 := QB3.cell' 0 _ rfl; have q3_1 := QB3.cell' 1 _ rfl; have y3_0 := YB3.cell' 0 _ rfl; have y3_1 := YB3.cell' 1 _ rfl; have y3_2 := YB3.cell' 2 _ rfl; have y3_3 := YB3.cell' 3 _ rfl; have y3_4 := YB3.cell' 4 _ rfl; have y3_5 := YB3.cell' 5 _ rfl; have y3_6 := YB3.cell' 6 _ rfl; have y3_7 := YB3.cell' 7 _ rfl; have z3_0 := YB3.free 0; have z3_1 := YB3.free 1; have z3_2 := YB3.free 2; have z3_3 := YB3.free 3; have z3_4 := YB3.free 4; have z3_5 := YB3.free 5; have z3_6 := YB3.free 6; have z3_7 := YB3.free 7) | (go_at_call 14; (with_reducible refine (HC.out _ (hnX.trans (k1))).mono ?_); rintro e w2 ⟨rfl, k2⟩; have XB2 := BX.new ((k1).trans k2); have QB2 := BQ.new ((k1).trans k2); have YB2 := BZ.new ((k1).trans k2); have x2_0 := XB2.cell' 0 _ rfl; have x2_1 := XB2.cell' 1 _ rfl; have x2_2 := XB2.cell' 2 _ rfl; have x2_3 := XB2.cell' 3 _ rfl; have x2_4 := XB2.cell' 4 _ rfl; have x2_5 := XB2.cell' 5 _ rfl; have x2_6 := XB2.cell' 6 _ rfl; have x2_7 := XB2.cell' 7 _ rfl; have q2_0 := QB2.cell' 0 _ rfl; have q2_1 := QB2.cell' 1 _ rfl; have y2_0 := YB2.cell' 0 _ rfl; have y2_1 := YB2.cell' 1 _ rfl; have y2_2 := YB2.cell' 2 _ rfl; have y2_3 := YB2.cell' 3 _ rfl; have y2_4 := YB2.cell' 4 _ rfl; have y2_5 := YB2.cell' 5 _ rfl; have y2_6 := YB2.cell' 6 _ rfl; have y2_7 := YB2.cell' 7 _ rfl; have z2_0 := YB2.free 0; have z2_1 := YB2.free 1; have z2_2 := YB2.free 2; have z2_3 := YB2.free 3; have z2_4 := YB2.free 4; have z2_5 := YB2.free 5; have z2_6 := YB2.free 6; have z2_7 := YB2.free 7) | (go_at_call 23; (with_reducible refine (HN.out _ (hnX)).mono ?_); rintro e w1 ⟨rfl, k1⟩; have XB1 := BX.new (k1); have QB1 := BQ.new (k1); have YB1 := BZ.new (k1); have x1_0 := XB1.cell' 0 _ rfl; have x1_1 := XB1.cell' 1 _ rfl; have x1_2 := XB1.cell' 2 _ rfl; have x1_3 := XB1.cell' 3 _ rfl; have x1_4 := XB1.cell' 4 _ rfl; have x1_5 := XB1.cell' 5 _ rfl; have x1_6 := XB1.cell' 6 _ rfl; have x1_7 := XB1.cell' 7 _ rfl; have q1_0 := QB1.cell' 0 _ rfl; have q1_1 := QB1.cell' 1 _ rfl; have y1_0 := YB1.cell' 0 _ rfl; have y1_1 := YB1.cell' 1 _ rfl; have y1_2 := YB1.cell' 2 _ rfl; have y1_3 := YB1.cell' 3 _ rfl; have y1_4 := YB1.cell' 4 _ rfl; have y1_5 := YB1.cell' 5 _ rfl; have y1_6 := YB1.cell' 6 _ rfl; have y1_7 := YB1.cell' 7 _ rfl; have z1_0 := YB1.free 0; have z1_1 := YB1.free 1; have z1_2 := YB1.free 2; have z1_3 := YB1.free 3; have z1_4 := YB1.free 4; have z1_5 := YB1.free 5; have z1_6 := YB1.free 6; have z1_7 := YB1.free 7))
    have YZ := set8_blk (v0 := .int .i64 0) (v1 := .int .i64 0) (v2 := .string ⟨#[]⟩) (v3 := .slice none 0 0) (v4 := .slice none 0 0) (v5 := .slice none 0 0) (v6 := .slice none 0 0) (v7 := .slice none 0 0) (YB3)
    have NZ := Lib.hid (set8_new (g := w.heap.size + 1 + 1) (v0 := .int .i64 0) (v1 := .int .i64 0) (v2 := .string ⟨#[]⟩) (v3 := .slice none 0 0) (v4 := .slice none 0 0) (v5 := .slice none 0 0) (v6 := .slice none 0 0) (v7 := .slice none 0 0) (hnX.trans (((k1).trans k2).trans k3)) (by omega))
    have HYZ := Lib.hid YZ
    clear YZ
    change bodyPost _ _ _ _ _ (set8 w3 (w.heap.size + 1 + 1) (.int .i64 0) (.int .i64 0) (.string ⟨#[]⟩) (.slice none 0 0) (.slice none 0 0) (.slice none 0 0) (.slice none 0 0) (.slice none 0 0))
    generalize (set8 w3 (w.heap.size + 1 + 1) (.int .i64 0) (.int .i64 0) (.string ⟨#[]⟩) (.slice none 0 0) (.slice none 0 0) (.slice none 0 0) (.slice none 0 0) (.slice none 0 0)) = wZ at *
    have e0 := HYZ.out.cell' 0 _ rfl
    have e1 := HYZ.out.cell' 1 _ rfl
    have e2 := HYZ.out.cell' 2 _ rfl
    have e3 := HYZ.out.cell' 3 _ rfl
    have e4 := HYZ.out.cell' 4 _ rfl
    have e5 := HYZ.out.cell' 5 _ rfl
    have e6 := HYZ.out.cell' 6 _ rfl
    have e7 := HYZ.out.cell' 7 _ rfl
    exact bodyPost_ret (v := .tuple #[.agg #[.int .i64 0, .int .i64 0, .string ⟨#[]⟩, .slice none 0 0, .slice none 0 0, .slice none 0 0, .slice none 0 0, .slice none 0 0], .int .i64 10]) (by simp [results, Tryz.results19, go_sem, e0, e1, e2, e3, e4, e5, e6, e7]) rfl (HNO.out _ (by have hv := HV.out; have hl := HL.out.2.2.2.2; simp [attachV, hv.1, hv.2.1, hv.2.2, hl]) _ _ rfl NZ.out)
  have t64 : (((n5 : Nat) : Int) == 64) = false := by simp; omega
  have t65 : ¬ (((n5 : Nat) : Int) = 64) := by omega
  by_cases htx : 65536 < tx.size
  · have ht : (65536 : Int) < (tx.size : Int) := by omega
    have HT := Lib.hid htx
    clear htx
    go_enter Tryz.func19, Tryz.ntmps19
    go_wp2_with (first | (go_at_call 73; (with_reducible refine ((fun _ => HNM.out _) (hnX.trans ((k1).trans k2))).mono ?_); rintro e w3 ⟨rfl, k3⟩; have XB3 := BX.new (((k1).trans k2).trans k3); have QB3 := BQ.new (((k1).trans k2).trans k3); have YB3 := BZ.new (((k1).trans k2).trans k3); have x3_0 := XB3.cell' 0 _ rfl; have x3_1 := XB3.cell' 1 _ rfl; have x3_2 := XB3.cell' 2 _ rfl; have x3_3 := XB3.cell' 3 _ rfl; have x3_4 := XB3.cell' 4 _ rfl; have x3_5 := XB3.cell' 5 _ rfl; have x3_6 := XB3.cell' 6 _ rfl; have x3_7 := XB3.cell' 7 _ rfl; have q3_0 := QB3.cell' 0 _ rfl; have q3_1 := QB3.cell' 1 _ rfl; have y3_0 := YB3.cell' 0 _ rfl; have y3_1 := YB3.cell' 1 _ rfl; have y3_2 := YB3.cell' 2 _ rfl; have y3_3 := YB3.cell' 3 _ rfl; have y3_4 := YB3.cell' 4 _ rfl; have y3_5 := YB3.cell' 5 _ rfl; have y3_6 := YB3.cell' 6 _ rfl; have y3_7 := YB3.cell' 7 _ rfl; have z3_0 := YB3.free 0; have z3_1 := YB3.free 1; have z3_2 := YB3.free 2; have z3_3 := YB3.free 3; have z3_4 := YB3.free 4; have z3_5 := YB3.free 5; have z3_6 := YB3.free 6; have z3_7 := YB3.free 7) | (go_at_call 14; (with_reducible refine (HC.out _ (hnX.trans (k1))).mono ?_); rintro e w2 ⟨rfl, k2⟩; have XB2 := BX.new ((k1).trans k2); have QB2 := BQ.new ((k1).trans k2); have YB2 := BZ.new ((k1).trans k2); have x2_0 := XB2.cell' 0 _ rfl; have x2_1 := XB2.cell' 1 _ rfl; have x2_2 := XB2.cell' 2 _ rfl; have x2_3 := XB2.cell' 3 _ rfl; have x2_4 := XB2.cell' 4 _ rfl; have x2_5 := XB2.cell' 5 _ rfl; have x2_6 := XB2.cell' 6 _ rfl; have x2_7 := XB2.cell' 7 _ rfl; have q2_0 := QB2.cell' 0 _ rfl; have q2_1 := QB2.cell' 1 _ rfl; have y2_0 := YB2.cell' 0 _ rfl; have y2_1 := YB2.cell' 1 _ rfl; have y2_2 := YB2.cell' 2 _ rfl; have y2_3 := YB2.cell' 3 _ rfl; have y2_4 := YB2.cell' 4 _ rfl; have y2_5 := YB2.cell' 5 _ rfl; have y2_6 := YB2.cell' 6 _ rfl; have y2_7 := YB2.cell' 7 _ rfl; have z2_0 := YB2.free 0; have z2_1 := YB2.free 1; have z2_2 := YB2.free 2; have z2_3 := YB2.free 3; have z2_4 := YB2.free 4; have z2_5 := YB2.free 5; have z2_6 := YB2.free 6; have z2_7 := YB2.free 7) | (go_at_call 23; (with_reducible refine (HN.out _ (hnX)).mono ?_); rintro e w1 ⟨rfl, k1⟩; have XB1 := BX.new (k1); have QB1 := BQ.new (k1); have YB1 := BZ.new (k1); have x1_0 := XB1.cell' 0 _ rfl; have x1_1 := XB1.cell' 1 _ rfl; have x1_2 := XB1.cell' 2 _ rfl; have x1_3 := XB1.cell' 3 _ rfl; have x1_4 := XB1.cell' 4 _ rfl; have x1_5 := XB1.cell' 5 _ rfl; have x1_6 := XB1.cell' 6 _ rfl; have x1_7 := XB1.cell' 7 _ rfl; have q1_0 := QB1.cell' 0 _ rfl; have q1_1 := QB1.cell' 1 _ rfl; have y1_0 := YB1.cell' 0 _ rfl; have y1_1 := YB1.cell' 1 _ rfl; have y1_2 := YB1.cell' 2 _ rfl; have y1_3 := YB1.cell' 3 _ rfl; have y1_4 := YB1.cell' 4 _ rfl; have y1_5 := YB1.cell' 5 _ rfl; have y1_6 := YB1.cell' 6 _ rfl; have y1_7 := YB1.cell' 7 _ rfl; have z1_0 := YB1.free 0; have z1_1 := YB1.free 1; have z1_2 := YB1.free 2; have z1_3 := YB1.free 3; have z1_4 := YB1.free 4; have z1_5 := YB1.free 5; have z1_6 := YB1.free 6; have z1_7 := YB1.free 7))
    have YZ := set8_blk (v0 := .int .i64 0) (v1 := .int .i64 0) (v2 := .string ⟨#[]⟩) (v3 := .slice none 0 0) (v4 := .slice none 0 0) (v5 := .slice none 0 0) (v6 := .slice none 0 0) (v7 := .slice none 0 0) (YB3)
    have NZ := Lib.hid (set8_new (g := w.heap.size + 1 + 1) (v0 := .int .i64 0) (v1 := .int .i64 0) (v2 := .string ⟨#[]⟩) (v3 := .slice none 0 0) (v4 := .slice none 0 0) (v5 := .slice none 0 0) (v6 := .slice none 0 0) (v7 := .slice none 0 0) (hnX.trans (((k1).trans k2).trans k3)) (by omega))
    have HYZ := Lib.hid YZ
    clear YZ
    change bodyPost _ _ _ _ _ (set8 w3 (w.heap.size + 1 + 1) (.int .i64 0) (.int .i64 0) (.string ⟨#[]⟩) (.slice none 0 0) (.slice none 0 0) (.slice none 0 0) (.slice none 0 0) (.slice none 0 0))
    generalize (set8 w3 (w.heap.size + 1 + 1) (.int .i64 0) (.int .i64 0) (.string ⟨#[]⟩) (.slice none 0 0) (.slice none 0 0) (.slice none 0 0) (.slice none 0 0) (.slice none 0 0)) = wZ at *
    have e0 := HYZ.out.cell' 0 _ rfl
    have e1 := HYZ.out.cell' 1 _ rfl
    have e2 := HYZ.out.cell' 2 _ rfl
    have e3 := HYZ.out.cell' 3 _ rfl
    have e4 := HYZ.out.cell' 4 _ rfl
    have e5 := HYZ.out.cell' 5 _ rfl
    have e6 := HYZ.out.cell' 6 _ rfl
    have e7 := HYZ.out.cell' 7 _ rfl
    exact bodyPost_ret (v := .tuple #[.agg #[.int .i64 0, .int .i64 0, .string ⟨#[]⟩, .slice none 0 0, .slice none 0 0, .slice none 0 0, .slice none 0 0, .slice none 0 0], .int .i64 10]) (by simp [results, Tryz.results19, go_sem, e0, e1, e2, e3, e4, e5, e6, e7]) rfl (HNO.out _ (by have hv := HV.out; have hl := HL.out.2.2.2.2; simp [attachV, hv.1, hv.2.1, hv.2.2, hl, HT.out]) _ _ rfl NZ.out)
  have ht : ¬ ((65536 : Int) < (tx.size : Int)) := by omega
  have HT := Lib.hid (And.intro h64 htx)
  clear htx h64
  go_enter Tryz.func19, Tryz.ntmps19
  go_wp2_with (first | (go_at_call 73; (with_reducible refine ((fun _ => HNM.out _) (hnX.trans ((k1).trans k2))).mono ?_); rintro e w3 ⟨rfl, k3⟩; have XB3 := BX.new (((k1).trans k2).trans k3); have QB3 := BQ.new (((k1).trans k2).trans k3); have YB3 := BZ.new (((k1).trans k2).trans k3); have x3_0 := XB3.cell' 0 _ rfl; have x3_1 := XB3.cell' 1 _ rfl; have x3_2 := XB3.cell' 2 _ rfl; have x3_3 := XB3.cell' 3 _ rfl; have x3_4 := XB3.cell' 4 _ rfl; have x3_5 := XB3.cell' 5 _ rfl; have x3_6 := XB3.cell' 6 _ rfl; have x3_7 := XB3.cell' 7 _ rfl; have q3_0 := QB3.cell' 0 _ rfl; have q3_1 := QB3.cell' 1 _ rfl; have y3_0 := YB3.cell' 0 _ rfl; have y3_1 := YB3.cell' 1 _ rfl; have y3_2 := YB3.cell' 2 _ rfl; have y3_3 := YB3.cell' 3 _ rfl; have y3_4 := YB3.cell' 4 _ rfl; have y3_5 := YB3.cell' 5 _ rfl; have y3_6 := YB3.cell' 6 _ rfl; have y3_7 := YB3.cell' 7 _ rfl; have z3_0 := YB3.free 0; have z3_1 := YB3.free 1; have z3_2 := YB3.free 2; have z3_3 := YB3.free 3; have z3_4 := YB3.free 4; have z3_5 := YB3.free 5; have z3_6 := YB3.free 6; have z3_7 := YB3.free 7) | (go_at_call 14; (with_reducible refine (HC.out _ (hnX.trans (k1))).mono ?_); rintro e w2 ⟨rfl, k2⟩; have XB2 := BX.new ((k1).trans k2); have QB2 := BQ.new ((k1).trans k2); have YB2 := BZ.new ((k1).trans k2); have x2_0 := XB2.cell' 0 _ rfl; have x2_1 := XB2.cell' 1 _ rfl; have x2_2 := XB2.cell' 2 _ rfl; have x2_3 := XB2.cell' 3 _ rfl; have x2_4 := XB2.cell' 4 _ rfl; have x2_5 := XB2.cell' 5 _ rfl; have x2_6 := XB2.cell' 6 _ rfl; have x2_7 := XB2.cell' 7 _ rfl; have q2_0 := QB2.cell' 0 _ rfl; have q2_1 := QB2.cell' 1 _ rfl; have y2_0 := YB2.cell' 0 _ rfl; have y2_1 := YB2.cell' 1 _ rfl; have y2_2 := YB2.cell' 2 _ rfl; have y2_3 := YB2.cell' 3 _ rfl; have y2_4 := YB2.cell' 4 _ rfl; have y2_5 := YB2.cell' 5 _ rfl; have y2_6 := YB2.cell' 6 _ rfl; have y2_7 := YB2.cell' 7 _ rfl; have z2_0 := YB2.free 0; have z2_1 := YB2.free 1; have z2_2 := YB2.free 2; have z2_3 := YB2.free 3; have z2_4 := YB2.free 4; have z2_5 := YB2.free 5; have z2_6 := YB2.free 6; have z2_7 := YB2.free 7) | (go_at_call 23; (with_reducible refine (HN.out _ (hnX)).mono ?_); rintro e w1 ⟨rfl, k1⟩; have XB1 := BX.new (k1); have QB1 := BQ.new (k1); have YB1 := BZ.new (k1); have x1_0 := XB1.cell' 0 _ rfl; have x1_1 := XB1.cell' 1 _ rfl; have x1_2 := XB1.cell' 2 _ rfl; have x1_3 := XB1.cell' 3 _ rfl; have x1_4 := XB1.cell' 4 _ rfl; have x1_5 := XB1.cell' 5 _ rfl; have x1_6 := XB1.cell' 6 _ rfl; have x1_7 := XB1.cell' 7 _ rfl; have q1_0 := QB1.cell' 0 _ rfl; have q1_1 := QB1.cell' 1 _ rfl; have y1_0 := YB1.cell' 0 _ rfl; have y1_1 := YB1.cell' 1 _ rfl; have y1_2 := YB1.cell' 2 _ rfl; have y1_3 := YB1.cell' 3 _ rfl; have y1_4 := YB1.cell' 4 _ rfl; have y1_5 := YB1.cell' 5 _ rfl; have y1_6 := YB1.cell' 6 _ rfl; have y1_7 := YB1.cell' 7 _ rfl; have z1_0 := YB1.free 0; have z1_1 := YB1.free 1; have z1_2 := YB1.free 2; have z1_3 := YB1.free 3; have z1_4 := YB1.free 4; have z1_5 := YB1.free 5; have z1_6 := YB1.free 6; have z1_7 := YB1.free 7))
  (with_reducible refine (HCL.out _ (hnX.trans (((k1).trans k2).trans k3))).mono ?_)
  rintro e w4 ⟨⟨⟨A1, C1, A2, C2, A3, C3, A4, C4, A5, C5⟩, rfl, r, on, far⟩, k4⟩
  obtain ⟨B, hB0, hBw, hown, hb1, hb2, hb3, hb4⟩ := own_min on r k4
  simp only [HL.out.2.2.2.2] at hown
  have RR := Lib.hid r
  have FA := Lib.hid far
  have HBB := Lib.hid (And.intro hb1 (And.intro hb2 (And.intro hb3 hb4)))
  clear r far on hb1 hb2 hb3 hb4
  have hl3 := YB3.lt
  have hl4 := k4.size
  have OB := Blk.made w4 28 #[.int .i64 kind, .int .i64 entry, .string image, .slice A1 n1 C1, .slice A2 n2 C2, .slice A3 n3 C3, .slice A4 n4 C4, .slice A5 n5 C5]
  have QB5 := (BQ.new ((((k1).trans k2).trans k3).trans k4)).alloc (.cells #[.int .i64 kind, .int .i64 entry, .string image, .slice A1 n1 C1, .slice A2 n2 C2, .slice A3 n3 C3, .slice A4 n4 C4, .slice A5 n5 C5] 28)
  have YB6 := ((BZ.new ((((k1).trans k2).trans k3).trans k4)).alloc (.cells #[.int .i64 kind, .int .i64 entry, .string image, .slice A1 n1 C1, .slice A2 n2 C2, .slice A3 n3 C3, .slice A4 n4 C4, .slice A5 n5 C5] 28)).alloc (.cells #[.string nm, .string tx] 40)
  have hnX6 : New w ((w4.alloc (.cells #[.int .i64 kind, .int .i64 entry, .string image, .slice A1 n1 C1, .slice A2 n2 C2, .slice A3 n3 C3, .slice A4 n4 C4, .slice A5 n5 C5] 28)).alloc (.cells #[.string nm, .string tx] 40)) := ((hnX.trans ((((k1).trans k2).trans k3).trans k4)).alloc _).alloc _
  have h46 : New w4 ((w4.alloc (.cells #[.int .i64 kind, .int .i64 entry, .string image, .slice A1 n1 C1, .slice A2 n2 C2, .slice A3 n3 C3, .slice A4 n4 C4, .slice A5 n5 C5] 28)).alloc (.cells #[.string nm, .string tx] 40)) := ((New.refl w4).alloc _).alloc _
  have HOW := Lib.hid ((hown.alloc (.cells #[.int .i64 kind, .int .i64 entry, .string image, .slice A1 n1 C1, .slice A2 n2 C2, .slice A3 n3 C3, .slice A4 n4 C4, .slice A5 n5 C5] 28)).alloc (.cells #[.string nm, .string tx] 40))
  have HLT := Lib.hid (World.ownsRow.lt hown)
  have HRD := Lib.hid (blk_one_rd (n := ⟨nm, tx⟩) (Blk.made (w4.alloc (.cells #[.int .i64 kind, .int .i64 entry, .string image, .slice A1 n1 C1, .slice A2 n2 C2, .slice A3 n3 C3, .slice A4 n4 C4, .slice A5 n5 C5] 28)) 40 #[.string nm, .string tx]))
  rw [World.size_alloc] at HRD
  have hbs : B ≤ ((w4.alloc (.cells #[.int .i64 kind, .int .i64 entry, .string image, .slice A1 n1 C1, .slice A2 n2 C2, .slice A3 n3 C3, .slice A4 n4 C4, .slice A5 n5 C5] 28)).alloc (.cells #[.string nm, .string tx] 40)).heap.size := by simp only [World.size_alloc]; omega
  clear hown
  have o0 := OB.cell' 0 _ rfl; have o1 := OB.cell' 1 _ rfl; have o2 := OB.cell' 2 _ rfl; have o3 := OB.cell' 3 _ rfl; have o4 := OB.cell' 4 _ rfl; have o5 := OB.cell' 5 _ rfl; have o6 := OB.cell' 6 _ rfl; have o7 := OB.cell' 7 _ rfl
  have of0 := OB.free 0; have of1 := OB.free 1; have of2 := OB.free 2; have of3 := OB.free 3; have of4 := OB.free 4; have of5 := OB.free 5; have of6 := OB.free 6; have of7 := OB.free 7
  have q5_0 := QB5.cell' 0 _ rfl; have q5_1 := QB5.cell' 1 _ rfl
  go_wp2_with (at_builtin; refine wpList_app_nt rfl _ _ rfl B _ n5 _ rfl HOW.out (some ⟨w4.heap.size + 1, 0, none⟩) 1 1 [⟨nm, tx⟩] rfl HRD.out (by omega) hbs ?_; intro v' w7 hown7 hg7; obtain ⟨m5, hm5⟩ : ∃ m, m = n5 + 1 := ⟨_, rfl⟩; rw [← hm5] at hown7; obtain ⟨A6, C6, hv6, hc6, _, r6⟩ := own_form hown7; subst hv6; have HC6 := Lib.hid hc6; clear hc6; have HM := Lib.hid hm5; clear hm5; have OB7 := (OB.alloc (.cells #[.string nm, .string tx] 40)).grown hg7 (fun he => by have := HLT.out _ he.symm; omega); have YB7 := YB6.grown hg7 (fun he => by have := HLT.out _ he.symm; omega); have nB7 : New w w7 := Below.grown hnX6 hg7 hnX6.size (fun k hk => by have := (HLT.out k hk).1; omega); have nB8 : New w (w7.setCell ⟨w4.heap.size, 7, none⟩ (.slice A6 m5 C6)) := below_setCell' nB7 (by show w.heap.size ≤ w4.heap.size; omega) _; have OB8 := OB7.put 7 (.slice A6 m5 C6); have YB8 := YB7.far (p := ⟨w4.heap.size, 7, none⟩) (by show w.heap.size + 1 + 1 ≠ w4.heap.size; omega) (.slice A6 m5 C6); have HO7 := Lib.hid hown7; have HG7 := Lib.hid hg7; have HR6 := Lib.hid r6; clear hown7 hg7 r6; have o7_0 := OB7.cell' 0 _ rfl; have o7_1 := OB7.cell' 1 _ rfl; have o7_2 := OB7.cell' 2 _ rfl; have o7_3 := OB7.cell' 3 _ rfl; have o7_4 := OB7.cell' 4 _ rfl; have o7_5 := OB7.cell' 5 _ rfl; have o7_6 := OB7.cell' 6 _ rfl; have o7_7 := OB7.cell' 7 _ rfl; have of7_0 := OB7.free 0; have of7_1 := OB7.free 1; have of7_2 := OB7.free 2; have of7_3 := OB7.free 3; have of7_4 := OB7.free 4; have of7_5 := OB7.free 5; have of7_6 := OB7.free 6; have of7_7 := OB7.free 7; have o8_0 := OB8.cell' 0 _ rfl; have o8_1 := OB8.cell' 1 _ rfl; have o8_2 := OB8.cell' 2 _ rfl; have o8_3 := OB8.cell' 3 _ rfl; have o8_4 := OB8.cell' 4 _ rfl; have o8_5 := OB8.cell' 5 _ rfl; have o8_6 := OB8.cell' 6 _ rfl; have o8_7 := OB8.cell' 7 _ rfl; have y8_0 := YB8.cell' 0 _ rfl; have y8_1 := YB8.cell' 1 _ rfl; have y8_2 := YB8.cell' 2 _ rfl; have y8_3 := YB8.cell' 3 _ rfl; have y8_4 := YB8.cell' 4 _ rfl; have y8_5 := YB8.cell' 5 _ rfl; have y8_6 := YB8.cell' 6 _ rfl; have y8_7 := YB8.cell' 7 _ rfl; have z8_0 := YB8.free 0; have z8_1 := YB8.free 1; have z8_2 := YB8.free 2; have z8_3 := YB8.free 3; have z8_4 := YB8.free 4; have z8_5 := YB8.free 5; have z8_6 := YB8.free 6; have z8_7 := YB8.free 7)
  have YZ := set8_blk (v0 := .int .i64 kind) (v1 := .int .i64 entry) (v2 := .string image) (v3 := .slice A1 n1 C1) (v4 := .slice A2 n2 C2) (v5 := .slice A3 n3 C3) (v6 := .slice A4 n4 C4) (v7 := .slice A6 m5 C6) (YB8)
  have NZ := Lib.hid (set8_new (g := w.heap.size + 1 + 1) (v0 := .int .i64 kind) (v1 := .int .i64 entry) (v2 := .string image) (v3 := .slice A1 n1 C1) (v4 := .slice A2 n2 C2) (v5 := .slice A3 n3 C3) (v6 := .slice A4 n4 C4) (v7 := .slice A6 m5 C6) (nB8) (by omega))
  have HYZ := Lib.hid YZ
  clear YZ
  change bodyPost _ _ _ _ _ (set8 (w7.setCell ⟨w4.heap.size, 7, none⟩ (.slice A6 m5 C6)) (w.heap.size + 1 + 1) (.int .i64 kind) (.int .i64 entry) (.string image) (.slice A1 n1 C1) (.slice A2 n2 C2) (.slice A3 n3 C3) (.slice A4 n4 C4) (.slice A6 m5 C6))
  have HB : Hid (BRd (set8 (w7.setCell ⟨w4.heap.size, 7, none⟩ (.slice A6 m5 C6)) (w.heap.size + 1 + 1) (.int .i64 kind) (.int .i64 entry) (.string image) (.slice A1 n1 C1) (.slice A2 n2 C2) (.slice A3 n3 C3) (.slice A4 n4 C4) (.slice A6 m5 C6)) ⟨kind, entry, image, places, fix, imps, exps, notes ++ [⟨nm, tx⟩]⟩ ⟨A1, C1, A2, C2, A3, C3, A4, C4, A6, C6⟩) := Lib.hid (by
    have hrow : ∀ r, (Value.slice A5 n5 C5).ownBlock = some r → B ≤ r := fun r hr => (HLT.out r hr).1
    obtain ⟨hb1, hb2, hb3, hb4⟩ := HBB.out
    refine ⟨?_, ?_, ?_, ?_, ?_⟩
    · exact rd_att RR.out.r1 h46 HG7.out hb1 hrow (Nat.le_refl _) hl3 (FA.out _ (Or.inl rfl))
    · exact rd_att RR.out.r2 h46 HG7.out hb2 hrow (Nat.le_refl _) hl3 (FA.out _ (Or.inr (Or.inl rfl)))
    · exact rd_att RR.out.r3 h46 HG7.out hb3 hrow (Nat.le_refl _) hl3 (FA.out _ (Or.inr (Or.inr (Or.inl rfl))))
    · exact rd_att RR.out.r4 h46 HG7.out hb4 hrow (Nat.le_refl _) hl3 (FA.out _ (Or.inr (Or.inr (Or.inr (Or.inl rfl)))))
    · have e1 : (notes ++ [(⟨nm, tx⟩ : NtD)]).length = m5 := by rw [HM.out]; simp [HL.out.2.2.2.2]
      have e2 : (notes ++ [(⟨nm, tx⟩ : NtD)]).flatMap ntC = notes.flatMap ntC ++ [(⟨nm, tx⟩ : NtD)].flatMap ntC := List.flatMap_append
      simp only
      rw [e1, e2]
      exact set8_rd (HR6.out.setFar (own_ne HO7.out OB7 (by decide)) _) (fun a ha => by have := own_far HO7.out a ha; omega))
  have HFR : Hid (∀ A, A = A1 ∨ A = A2 ∨ A = A3 ∨ A = A4 ∨ A = A6 → ∀ a, A = some a → w.heap.size ≤ a.block) := Lib.hid (fun A hA a ha => by
    rcases hA with q | q | q | q | q
    · subst q; have h1 := FA.out _ (Or.inl rfl) a ha; omega
    · subst q; have h1 := FA.out _ (Or.inr (Or.inl rfl)) a ha; omega
    · subst q; have h1 := FA.out _ (Or.inr (Or.inr (Or.inl rfl))) a ha; omega
    · subst q; have h1 := FA.out _ (Or.inr (Or.inr (Or.inr (Or.inl rfl)))) a ha; omega
    · subst q; have h1 := own_far HO7.out a ha; omega)
  generalize (set8 (w7.setCell ⟨w4.heap.size, 7, none⟩ (.slice A6 m5 C6)) (w.heap.size + 1 + 1) (.int .i64 kind) (.int .i64 entry) (.string image) (.slice A1 n1 C1) (.slice A2 n2 C2) (.slice A3 n3 C3) (.slice A4 n4 C4) (.slice A6 m5 C6)) = wZ at *
  have e0 := HYZ.out.cell' 0 _ rfl
  have e1 := HYZ.out.cell' 1 _ rfl
  have e2 := HYZ.out.cell' 2 _ rfl
  have e3 := HYZ.out.cell' 3 _ rfl
  have e4 := HYZ.out.cell' 4 _ rfl
  have e5 := HYZ.out.cell' 5 _ rfl
  have e6 := HYZ.out.cell' 6 _ rfl
  have e7 := HYZ.out.cell' 7 _ rfl
  exact bodyPost_ret (v := .tuple #[.agg #[.int .i64 kind, .int .i64 entry, .string image, .slice A1 n1 C1, .slice A2 n2 C2, .slice A3 n3 C3, .slice A4 n4 C4, .slice A6 m5 C6], .int .i64 0]) (by simp [results, Tryz.results19, go_sem, e0, e1, e2, e3, e4, e5, e6, e7]) rfl (HYES.out ⟨A1, C1, A2, C2, A3, C3, A4, C4, A6, C6⟩ m5 HM.out (by have hv := HV.out; have hl := HL.out.2.2.2.2; have ht := HT.out; simp [attachV, hv.1, hv.2.1, hv.2.2, hl, ht.1, ht.2]) _ _ rfl HB.out HFR.out HC6.out NZ.out)
theorem attach_any (b : Bn) (h : BH) (n : NtD) (w : World) (hr : BRd w b h) (hz : SzB b) (hE : Env w) (hs : n.name.size ≤ 9223372036854775807) :
    Calls Tryz.prog 19 #[.agg (bcells b h), .agg #[.string n.name, .string n.text]] w (AttP b n w) := (attach_far b h n w hr hz hE hs).mono fun _ _ q => q.p
end Go.Proofs.YtnknmpcgbfmfjaaGreatDoor

