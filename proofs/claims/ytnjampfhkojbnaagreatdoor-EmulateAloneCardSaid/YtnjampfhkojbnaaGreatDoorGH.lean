/- Binaries as data: what they read as; which places are right. No conditions. binary.At: the place to which an address belongs. Conditions: the numbers are numbers of int. binary.noted: which notes are right. Conditions: the names' and texts' lengths. binary.word: the word that stands at a place of an image. Condition: the place lies in the image. -/
import Derived.Test.YtnjampfhkojbnaaGreatDoorGE

namespace Go.Proofs.YtnjampfhkojbnaaGreatDoor
open Go Go.RowKit Go.Joins
set_option linter.unusedSimpArgs false
set_option linter.unusedVariables false

/-! ### rows of structs -/
theorem flat_at {α : Type} {f : α → List Value} {k : Nat} (hf : ∀ x, (f x).length = k) : ∀ (l : List α) (i j : Nat) (h : i < l.length), j < k → (l.flatMap f)[i * k + j]? = (f l[i])[j]?
  | x :: r, 0, j, _, hj => by rw [List.flatMap_cons, Nat.zero_mul, Nat.zero_add, List.getElem?_append_left (by rw [hf]; exact hj)]; rfl
  | x :: r, i + 1, j, h, hj => by
    have ih := flat_at hf r i j (by simpa using h) hj
    rw [List.flatMap_cons, List.getElem?_append_right (by rw [hf, Nat.add_mul]; omega), hf, show (i + 1) * k + j - k = i * k + j by rw [Nat.add_mul]; omega, ih]
    rfl
theorem rd_row {α : Type} {f : α → List Value} {k : Nat} (hf : ∀ x, (f x).length = k) {w : World} {A : Option Addr} {n : Nat} {l : List α} (hl : l.length = n) (h : Rd w k A n (l.flatMap f)) {i : Nat} (hi : i < n) :
    ∃ b o, A = some ⟨b, o, none⟩ ∧ b < w.heap.size ∧ ∃ x, l[i]? = some x ∧ ∀ j u, j < k → (f x)[j]? = some u → w.cell? ⟨b, o + (i * k + j), none⟩ = some u := by
  obtain ⟨b, o, rfl, hb, hc⟩ := h.2 (by omega)
  have hil : i < l.length := by omega
  refine ⟨b, o, rfl, hb, l[i], List.getElem?_eq_getElem hil, fun j u hj hu => hc _ u ?_⟩
  rw [flat_at hf l i j hil hj]; exact hu

/-! ### binaries -/
structure PlD where
  obj : ByteArray
  sym : ByteArray
  kind : Int
  pos : Int
  size : Int
structure ImD where
  lib : ByteArray
  sym : ByteArray
  pos : Int
structure ExD where
  sym : ByteArray
  pos : Int
structure NtD where
  name : ByteArray
  text : ByteArray
structure Bn where
  kind : Int
  entry : Int
  image : ByteArray
  places : List PlD
  fix : List Int
  imps : List ImD
  exps : List ExD
  notes : List NtD
def plC (p : PlD) : List Value := [.string p.obj, .string p.sym, .int .i64 p.kind, .int .i64 p.pos, .int .i64 p.size]
def imC (p : ImD) : List Value := [.string p.lib, .string p.sym, .int .i64 p.pos]
def exC (p : ExD) : List Value := [.string p.sym, .int .i64 p.pos]
def ntC (p : NtD) : List Value := [.string p.name, .string p.text]
def fxC (n : Int) : List Value := [.int .i64 n]
structure BH where
  a1 : Option Addr
  c1 : Nat
  a2 : Option Addr
  c2 : Nat
  a3 : Option Addr
  c3 : Nat
  a4 : Option Addr
  c4 : Nat
  a5 : Option Addr
  c5 : Nat
abbrev bcells (b : Bn) (h : BH) : Array Value := #[.int .i64 b.kind, .int .i64 b.entry, .string b.image, .slice h.a1 b.places.length h.c1, .slice h.a2 b.fix.length h.c2, .slice h.a3 b.imps.length h.c3, .slice h.a4 b.exps.length h.c4, .slice h.a5 b.notes.length h.c5]
structure BRd (w : World) (b : Bn) (h : BH) : Prop where
  r1 : Rd w 5 h.a1 b.places.length (b.places.flatMap plC)
  r2 : Rd w 1 h.a2 b.fix.length (b.fix.flatMap fxC)
  r3 : Rd w 3 h.a3 b.imps.length (b.imps.flatMap imC)
  r4 : Rd w 2 h.a4 b.exps.length (b.exps.flatMap exC)
  r5 : Rd w 2 h.a5 b.notes.length (b.notes.flatMap ntC)
theorem BRd.new {w w' : World} {b : Bn} {h : BH} (r : BRd w b h) (hn : New w w') : BRd w' b h := ⟨r.r1.below hn, r.r2.below hn, r.r3.below hn, r.r4.below hn, r.r5.below hn⟩

/-! ### places -/
def up4 (n : Nat) : Nat := (n + 3) / 4 * 4
def zeroB (s : ByteArray) (a b : Nat) : Bool := (s.extract a b).data.toList.all (· == 0)
def kindOK (p : PlD) : Bool := (p.kind == 1 && decide (2 ≤ p.size)) || (p.kind == 2 && decide (0 ≤ p.size) && p.size % 4 == 0)
def placeOK (img : ByteArray) (e : Nat) (p : PlD) : Bool :=
  namedV p.obj && nameV p.sym && kindOK p && decide (p.size ≤ 8192) && decide (p.pos = (up4 e : Nat)) && decide ((up4 e : Nat) + p.size ≤ (img.size : Int)) && zeroB img e (up4 e)
def seenB (seen : List (ByteArray × ByteArray)) (o s : ByteArray) : Bool := seen.any fun q => decide (q.1 = o) && decide (q.2 = s)
theorem seenB_iff {seen : List (ByteArray × ByteArray)} {o s : ByteArray} : seenB seen o s = true ↔ (o, s) ∈ seen := by
  unfold seenB
  rw [List.any_eq_true]
  constructor
  · rintro ⟨⟨a, b⟩, h1, h2⟩
    simp only [Bool.and_eq_true, decide_eq_true_eq] at h2
    obtain ⟨rfl, rfl⟩ := h2
    exact h1
  · intro h
    exact ⟨_, h, by simp⟩
def placedGo (img : ByteArray) : List PlD → Nat → List (ByteArray × ByteArray) → Option Nat
  | [], e, _ => some e
  | p :: r, e, seen => if seenB seen p.obj p.sym = false ∧ placeOK img e p = true then placedGo img r (up4 e + p.size.toNat) ((p.obj, p.sym) :: seen) else none
def placedV (b : Bn) : Bool := decide (1 ≤ b.places.length) && decide (b.places.length ≤ 128) && decide (b.image.size ≤ 65536) && decide (placedGo b.image b.places 0 [] = some b.image.size)
theorem dw_nil {p : UInt8 → Bool} : ∀ {l : List UInt8}, l.dropWhile p = [] ↔ l.all p = true
  | [] => by simp
  | c :: r => by
    cases hc : p c with
    | true => rw [List.dropWhile_cons_of_pos hc, dw_nil, List.all_cons, hc, Bool.true_and]
    | false => rw [List.dropWhile_cons_of_neg (by rw [hc]; decide), List.all_cons, hc]; simp
theorem trim_nil (l : List UInt8) (c : UInt8) : Lib.trimB l c = [] ↔ l.all (· == c) = true := by
  unfold Lib.trimB Lib.trimLeftB Lib.trimRightB
  rw [dw_nil]
  rw [List.all_reverse]
  constructor
  · intro h
    have h2 : (l.reverse.dropWhile (· == c)) = [] := by
      cases hd : l.reverse.dropWhile (· == c) with
      | nil => rfl
      | cons x r =>
        exfalso
        have hx : (x == c) = false := by
          have := List.head?_dropWhile_not (· == c) l.reverse
          rw [hd] at this
          simpa using this
        rw [hd, List.all_cons, hx] at h
        simp at h
    rw [dw_nil, List.all_reverse] at h2
    exact h2
  · intro h
    have h2 : l.reverse.dropWhile (· == c) = [] := dw_nil.2 (by rw [List.all_reverse]; exact h)
    rw [h2]; rfl
end Go.Proofs.YtnjampfhkojbnaaGreatDoor

namespace Go.Proofs.YtnjampfhkojbnaaGreatDoor
open Go Go.RowKit Go.Joins
set_option linter.unusedSimpArgs false
set_option linter.unusedVariables false

def W64 (n : Int) : Prop := -9223372036854775808 ≤ n ∧ n ≤ 9223372036854775807
def inV (p : PlD) (a : Int) : Bool := decide (p.pos ≤ a) && decide (0 < p.size) && decide (a - p.pos < p.size)
theorem u64_eq (n : Int) : IntKind.u64.wrap n = n % 18446744073709551616 := by
  simp [IntKind.wrap, IntKind.signed, IntKind.bits]
theorem u64_sub (a b : Int) (h : b ≤ a) (ha : W64 a) (hb : W64 b) : IntKind.u64.wrap (IntKind.u64.wrap a - IntKind.u64.wrap b) = a - b := by
  rw [u64_eq, u64_eq, u64_eq]
  unfold W64 at ha hb
  omega
theorem u64_pos (n : Int) (h : 0 ≤ n) (hn : W64 n) : IntKind.u64.wrap n = n := by
  rw [u64_eq]; unfold W64 at hn; omega
set_option maxRecDepth 100000 in
set_option maxHeartbeats 2000000 in
theorem in_any (p : PlD) (a : Int) (g : Nat) (w : World) (hg : w.cell? ⟨g, 0, none⟩ = some (.int .i64 a)) (ha : W64 a) (h1 : W64 p.pos) (h2 : W64 p.size) :
    Calls Tryz.prog 137 #[.agg #[.string p.obj, .string p.sym, .int .i64 p.kind, .int .i64 p.pos, .int .i64 p.size], .pointer (some ⟨g, 0, none⟩)] w fun e w' => e = .returned (.bool (inV p a)) ∧ New w w' := by
  obtain ⟨po, ps, pk, pa, pz⟩ := p
  simp only at h1 h2 ⊢
  have hn := (New.refl w).alloc (.cells #[.string po, .string ps, .int .i64 pk, .int .i64 pa, .int .i64 pz] 52)
  have g1 := (World.cell?_alloc_lt w (.cells #[.string po, .string ps, .int .i64 pk, .int .i64 pa, .int .i64 pz] 52) ⟨g, 0, none⟩ (World.block_lt_of_cell? w ⟨g, 0, none⟩ hg)).trans hg
  have hv : inV ⟨po, ps, pk, pa, pz⟩ a = (decide (pa ≤ a) && decide (0 < pz) && decide (a - pa < pz)) := rfl
  by_cases c1 : pa ≤ a
  · by_cases c2 : 0 < pz
    · have w1 := u64_sub a pa c1 ha h1
      have w2 := u64_pos pz (by omega) h2
      have hr : inV ⟨po, ps, pk, pa, pz⟩ a = decide (a - pa < pz) := by rw [hv]; simp [c1, c2]
      rw [hr]
      clear hv hr
      go_enter Tryz.func137, Tryz.ntmps137
      go_wp2
      go_ret
      exact ⟨rfl, hn⟩
    · have hr : inV ⟨po, ps, pk, pa, pz⟩ a = false := by rw [hv]; simp [c1, c2]
      rw [hr]
      clear hv hr
      go_enter Tryz.func137, Tryz.ntmps137
      go_wp2
      go_ret
      exact ⟨rfl, hn⟩
  · have hr : inV ⟨po, ps, pk, pa, pz⟩ a = false := by rw [hv]; simp [c1]
    rw [hr]
    clear hv hr
    go_enter Tryz.func137, Tryz.ntmps137
    go_wp2
    go_ret
    exact ⟨rfl, hn⟩
def idxV (l : List PlD) (a : Int) : Int := match l.findIdx? (inV · a) with
  | some k => (k : Int)
  | none => -1
def WfP (l : List PlD) : Prop := ∀ p ∈ l, W64 p.pos ∧ W64 p.size
theorem idx_find {l : List PlD} {a : Int} {k : Nat} {p : PlD} (hp : l[k]? = some p) (hno : ∀ q ∈ l.take k, inV q a = false) (hin : inV p a = true) : idxV l a = (k : Int) := by
  have : l.findIdx? (inV · a) = some k := by
    rw [List.findIdx?_eq_some_iff_getElem]
    obtain ⟨hk, rfl⟩ := List.getElem?_eq_some_iff.1 hp
    refine ⟨hk, hin, fun j hj => ?_⟩
    have := hno l[j] (List.mem_take_iff_getElem.2 ⟨j, by omega, rfl⟩)
    rw [this]; decide
  unfold idxV
  rw [this]
theorem idx_none {l : List PlD} {a : Int} (hno : ∀ q ∈ l, inV q a = false) : idxV l a = -1 := by
  have : l.findIdx? (inV · a) = none := by
    rw [List.findIdx?_eq_none_iff]
    intro q hq
    rw [hno q hq]
  unfold idxV
  rw [this]
set_option maxRecDepth 100000 in
set_option maxHeartbeats 2000000 in
theorem index_any (l : List PlD) (a : Int) (g : Nat) (A : Option Addr) (n c : Nat) (w : World) (hl : l.length = n) (hr : Rd w 5 A n (l.flatMap plC)) (hg : w.cell? ⟨g, 0, none⟩ = some (.int .i64 a)) (ha : W64 a) (hw : WfP l) (hn : n ≤ 4294967295) :
    Calls Tryz.prog 136 #[.slice A n c, .func (.func 137) #[] #[.pointer (some ⟨g, 0, none⟩)]] w fun e w' => e = .returned (.int .i64 (idxV l a)) ∧ New w w' := by
  have HL := Lib.hid hl
  have HR := Lib.hid hr
  have HW := Lib.hid hw
  have HGC := Lib.hid hg
  obtain ⟨X, hX⟩ : ∃ X, idxV l a = X := ⟨_, rfl⟩
  rw [hX]
  have HX := Lib.hid hX
  clear hl hr hw hg hX
  go_enter Tryz.func136, Tryz.ntmps136
  go_wp2
  go_loopw [8] (fun v8 wr => ∃ k : Nat, v8 = .int .i64 k ∧ k ≤ n ∧ New w wr ∧ Hid (∀ q ∈ l.take k, inV q a = false)) (fun v8 _ => n - (intOf v8).toNat)
  case atStart => exact ⟨0, rfl, by omega, New.refl _, Lib.hid (by simp)⟩
  case round =>
    obtain ⟨k, rfl, hk, hnr, HNO⟩ := hrel
    by_cases hlt : k < n
    · obtain ⟨bk, o, rfl, hbk, p, hp, hcell⟩ := rd_row (f := plC) (k := 5) (fun _ => rfl) HL.out (HR.out.below hnr) hlt
      obtain ⟨w1, w2⟩ := HW.out p (List.mem_of_getElem? hp)
      have HF := Lib.hid (in_any p a g wr (cell_new hnr HGC.out) ha w1 w2)
      have HY := Lib.hid (fun h => idx_find (a := a) hp HNO.out h)
      have HTK : Hid (∀ q ∈ l.take (k + 1), q ∈ l.take k ∨ q = p) := Lib.hid (fun q hq => by
        obtain ⟨hi, he⟩ := List.getElem?_eq_some_iff.1 hp
        rw [List.take_succ_eq_append_getElem hi, List.mem_append, he] at hq
        simpa using hq)
      have q0 := hcell 0 (.string p.obj) (by omega) rfl
      have q1 := hcell 1 (.string p.sym) (by omega) rfl
      have q2 := hcell 2 (.int .i64 p.kind) (by omega) rfl
      have q3 := hcell 3 (.int .i64 p.pos) (by omega) rfl
      have q4 := hcell 4 (.int .i64 p.size) (by omega) rfl
      simp only [Nat.add_zero] at q0
      rw [← Nat.add_assoc] at q1 q2 q3 q4
      have i0 : (0 : Int) ≤ (k : Int) := by omega
      have i1 : (k : Int) < (n : Int) := by omega
      clear hcell hp w1 w2
      cases hb : inV p a
      · have HB := Lib.hid hb
        rw [hb] at HF
        clear hb
        go_wp2_with (go_at_call 137; (with_reducible refine HF.out.mono ?_); rintro e w1 ⟨rfl, n1⟩)
        go_roundw
        case rel => exact ⟨k + 1, by go_num, by omega, hnr.trans n1, Lib.hid (fun q hq => by
          rcases HTK.out q hq with h | rfl
          · exact HNO.out q h
          · exact HB.out)⟩
        case measure => simp [intOf]; omega
      · have hx : X = (k : Int) := by rw [← HX.out]; exact HY.out hb
        rw [hb] at HF
        subst hx
        clear hb
        go_wp2_with (go_at_call 137; (with_reducible refine HF.out.mono ?_); rintro e w1 ⟨rfl, n1⟩)
        go_ret
        exact ⟨rfl, hnr.trans n1⟩
    · obtain rfl : k = n := by omega
      have hx : X = -1 := by
        rw [← HX.out]
        exact idx_none (fun q hq => HNO.out q (by rw [List.take_of_length_le (by rw [HL.out]; exact Nat.le_refl _)]; exact hq))
      subst hx
      go_wp2
      go_ret
      exact ⟨rfl, hnr⟩
theorem idxV_ge (l : List PlD) (a : Int) : -1 ≤ idxV l a ∧ idxV l a ≤ l.length := by
  unfold idxV
  cases h : l.findIdx? (inV · a) with
  | none => simp <;> omega
  | some k =>
    have := (List.findIdx?_eq_some_iff_getElem.1 h).1
    simp; omega
set_option maxRecDepth 100000 in
set_option maxHeartbeats 2000000 in
theorem at_any (b : Bn) (h : BH) (a : Int) (w : World) (hr : BRd w b h) (ha : W64 a) (hw : WfP b.places) (hl : b.places.length ≤ 1000000) :
    Calls Tryz.prog 112 #[.agg (bcells b h), .int .i64 a] w fun e w' => e = .returned (.tuple #[.int .i64 (max (idxV b.places a) 0), .bool (decide (0 ≤ idxV b.places a))]) ∧ New w w' := by
  obtain ⟨kind, entry, image, places, fix, imps, exps, notes⟩ := b
  obtain ⟨a1, c1, a2, c2, a3, c3, a4, c4, a5, c5⟩ := h
  simp only [bcells] at hr hw hl ⊢
  have hR := hr.r1
  simp only at hR
  have hx := idxV_ge places a
  clear hr
  generalize fix.length = n2 at *
  generalize imps.length = n3 at *
  generalize exps.length = n4 at *
  generalize notes.length = n5 at *
  obtain ⟨n, hn⟩ : ∃ n, places.length = n := ⟨_, rfl⟩
  rw [hn] at hR hl hx ⊢
  have hn1 := ((New.refl w).alloc (.cells #[.int .i64 kind, .int .i64 entry, .string image, .slice a1 n c1, .slice a2 n2 c2, .slice a3 n3 c3, .slice a4 n4 c4, .slice a5 n5 c5] 28)).alloc (.cells #[.int .i64 a] 3)
  have BA : Blk ((w.alloc (.cells #[.int .i64 kind, .int .i64 entry, .string image, .slice a1 n c1, .slice a2 n2 c2, .slice a3 n3 c3, .slice a4 n4 c4, .slice a5 n5 c5] 28)).alloc (.cells #[.int .i64 a] 3)) (w.heap.size + 1) 3 #[.int .i64 a] := by
    have q := Blk.made (w.alloc (.cells #[.int .i64 kind, .int .i64 entry, .string image, .slice a1 n c1, .slice a2 n2 c2, .slice a3 n3 c3, .slice a4 n4 c4, .slice a5 n5 c5] 28)) 3 #[.int .i64 a]
    rw [World.size_alloc] at q; exact q
  have HI := Lib.hid (index_any places a (w.heap.size + 1) a1 n c1 _ hn (hR.below hn1) (BA.cell' 0 _ rfl) ha hw (by omega))
  generalize idxV places a = X at *
  clear BA hn hR hw
  by_cases hX : 0 ≤ X
  · rw [decide_eq_true hX]
    go_enter Tryz.func112, Tryz.ntmps112
    go_wp2_with (go_at_call 136; (with_reducible refine HI.out.mono ?_); rintro e w1 ⟨rfl, n1⟩)
    exact bodyPost_ret (v := .tuple #[.int .i64 (max X 0), .bool true]) (by simp [results, Tryz.results112, go_sem]) rfl ⟨rfl, hn1.trans n1⟩
  · rw [decide_eq_false hX]
    obtain rfl : X = -1 := by omega
    go_enter Tryz.func112, Tryz.ntmps112
    go_wp2_with (go_at_call 136; (with_reducible refine HI.out.mono ?_); rintro e w1 ⟨rfl, n1⟩)
    exact bodyPost_ret (v := .tuple #[.int .i64 (max (-1) 0), .bool false]) (by simp [results, Tryz.results112, go_sem]) rfl ⟨rfl, hn1.trans n1⟩
end Go.Proofs.YtnjampfhkojbnaaGreatDoor

namespace Go.Proofs.YtnjampfhkojbnaaGreatDoor
open Go Go.RowKit Go.Joins
set_option linter.unusedSimpArgs false
set_option linter.unusedVariables false

def SzN (l : List NtD) : Prop := ∀ p ∈ l, p.name.size ≤ 1000000 ∧ p.text.size ≤ 1000000
def seenN (seen : List ByteArray) (s : ByteArray) : Bool := seen.any fun q => decide (q = s)
def noteOK (p : NtD) : Bool := nameV p.name && decide (p.text.size ≤ 65536)
def notedGo : List NtD → List ByteArray → Bool
  | [], _ => true
  | p :: r, seen => if seenN seen p.name = false ∧ noteOK p = true then notedGo r (p.name :: seen) else false
def notedV (l : List NtD) : Bool := notedGo l [] && decide (l.length ≤ 64)
theorem seenN_iff {seen : List ByteArray} {s : ByteArray} : seenN seen s = true ↔ Lit.string s.data.toList ∈ seen.map fun q => Lit.string q.data.toList := by
  unfold seenN
  rw [List.any_eq_true, List.mem_map]
  constructor
  · rintro ⟨q, h1, h2⟩
    exact ⟨q, h1, by rw [of_decide_eq_true h2]⟩
  · rintro ⟨q, h1, h2⟩
    injection h2 with h2
    exact ⟨q, h1, decide_eq_true (bytes_ext h2)⟩
theorem notedGo_at {l : List NtD} {i : Nat} {seen : List ByteArray} {p : NtD} (h : l[i]? = some p) :
    notedGo (l.drop i) seen = if seenN seen p.name = false ∧ noteOK p = true then notedGo (l.drop (i + 1)) (p.name :: seen) else false := by
  obtain ⟨hi, he⟩ := List.getElem?_eq_some_iff.1 h
  rw [List.drop_eq_getElem_cons hi, notedGo, he]
set_option maxRecDepth 100000 in
set_option maxHeartbeats 4000000 in
theorem noted_any (l : List NtD) (A : Option Addr) (n c : Nat) (w : World) (hl : l.length = n) (hr : Rd w 2 A n (l.flatMap ntC)) (hz : SzN l) (hn : n ≤ 1000000) :
    Calls Tryz.prog 80 #[.slice A n c] w fun e w' => e = .returned (.bool (notedV l)) ∧ New w w' := by
  have HL := Lib.hid hl
  have HR := Lib.hid hr
  have HZ := Lib.hid hz
  have hv : notedV l = (notedGo l [] && decide (n ≤ 64)) := by unfold notedV; rw [hl]
  rw [hv]
  obtain ⟨R, hR⟩ : ∃ R, notedGo l [] = R := ⟨_, rfl⟩
  rw [hR]
  have HRR := Lib.hid hR
  have K1 : KSet Tryz.prog 9 4 (w.alloc (.map #[] 0)) w.heap.size 0 ([].map fun q : ByteArray => Lit.string q.data.toList) := KSet.made w
  have hn1 := (New.refl w).alloc (.map #[] 0)
  have hmm := @run_makeMap Tryz.prog
  clear hl hr hz hv hR
  go_enter Tryz.func80, Tryz.ntmps80
  go_wp2
  go_loopw [9] (fun v9 wr => ∃ (i : Nat) (seen : List ByteArray), v9 = .int .i64 i ∧ i ≤ n ∧ KSet Tryz.prog 9 4 wr w.heap.size i (seen.map fun q => Lit.string q.data.toList) ∧ New w wr ∧ Hid (notedGo (l.drop i) seen = R)) (fun v9 _ => n - (intOf v9).toNat)
  case atStart => exact ⟨0, [], rfl, by omega, K1, hn1, Lib.hid HRR.out⟩
  case round =>
    clear K1 hn1
    obtain ⟨i, seen, rfl, hi9, KS, hnr, HGo⟩ := hrel
    by_cases hlt : i < n
    · obtain ⟨bk, o, rfl, hbk, p, hp, hcell⟩ := rd_row (f := ntC) (k := 2) (fun _ => rfl) HL.out (HR.out.below hnr) hlt
      obtain ⟨z1, z2⟩ := HZ.out p (List.mem_of_getElem? hp)
      have hgo := notedGo_at (seen := seen) hp
      rw [HGo.out] at hgo
      obtain ⟨pn, pt⟩ := p
      have q0 := hcell 0 (.string pn) (by omega) rfl
      have q1 := hcell 1 (.string pt) (by omega) rfl
      simp only [Nat.add_zero] at q0
      rw [← Nat.add_assoc] at q1
      simp only at z1 z2 hgo
      have kN : keyOf Tryz.prog 9 (.string pn) = some (.string pn.data.toList) := Go.WideMaps.keyOf_string_mk Tryz.underlying9 (by simp only [maxLen]; omega)
      have nA := (New.refl wr).alloc (.cells #[.string pn, .string pt] 66)
      have KA := KS.new nA
      have BP := Blk.made wr 66 #[.string pn, .string pt]
      have HK := Lib.hid (seenN_iff (seen := seen) (s := pn))
      have HA2 := Lib.hid (fun w => name_any pn w (by omega))
      have klt := KS.lt
      have kne : some wr.heap.size ≠ some w.heap.size := fun q => by have := Option.some.inj q; omega
      have kle : ∀ q, some w.heap.size = some q → w.heap.size ≤ q := fun q hq => by have := Option.some.inj hq; omega
      have HG := Lib.hid hgo
      clear hcell hgo hp
      unfold noteOK at HG
      simp only at HG
      generalize nameV pn = b2 at *
      cases hs : seenN seen pn
      · have hG := HG.out
        rw [hs] at hG HK
        cases b2
        · have hRf : R = false := by rw [hG]; simp
          subst hRf
          clear hG hs HG
          go_wp2_with (first
            | (go_at_call 109; (with_reducible refine (HA2.out _).mono ?_); rintro e w2 ⟨rfl, n2⟩)
            | (at_lookup; refine wpList_klook _ ktS rfl (.tmp 13) (.tmp 15) rfl w.heap.size i _ rfl KA (.string pn) (.string pn.data.toList) kN false HK.out rfl ?_))
          go_ret
          exact ⟨rfl, (hnr.trans nA).trans n2⟩
        · by_cases hbig : pt.size ≤ 65536
          · have t1 : ¬ (65536 : Int) < (pt.size : Int) := by omega
            have hR2 : R = notedGo (l.drop (i + 1)) (pn :: seen) := by rw [hG]; simp [hbig]
            have HG2 := Lib.hid hR2
            clear hG hs HG hR2
            go_wp2_with (first
              | (at_mapUpdate; refine wpList_kput _ ktS rfl (.tmp 29) (.tmp 31) (.const (.bool true)) (Or.inr rfl) w.heap.size i _ rfl (KS.new (nA.trans n2)) (by simp only [maxLen]; omega) (.string pn) (.string pn.data.toList) kN rfl rfl ?_; intro wz KZ hgz)
              | (go_at_call 109; (with_reducible refine (HA2.out _).mono ?_); rintro e w2 ⟨rfl, n2⟩; have f1 := (BP.new n2).cell' 0 _ rfl; have f2 := (BP.new n2).cell' 1 _ rfl)
              | (at_lookup; refine wpList_klook _ ktS rfl (.tmp 13) (.tmp 15) rfl w.heap.size i _ rfl KA (.string pn) (.string pn.data.toList) kN false HK.out rfl ?_))
            have hnz : New w wz := Below.grown ((hnr.trans nA).trans n2) hgz (by have h1 := hnr.size; have h2 := nA.size; have h3 := n2.size; omega) kle
            go_roundw
            case rel => exact ⟨i + 1, pn :: seen, by go_num, by omega, KZ, hnz, Lib.hid HG2.out.symm⟩
            case measure => simp [intOf]; omega
          · have t1 : (65536 : Int) < (pt.size : Int) := by omega
            have hRf : R = false := by rw [hG]; simp [hbig]
            subst hRf
            clear hG hs HG
            go_wp2_with (first
              | (go_at_call 109; (with_reducible refine (HA2.out _).mono ?_); rintro e w2 ⟨rfl, n2⟩; have f2 := (BP.new n2).cell' 1 _ rfl)
              | (at_lookup; refine wpList_klook _ ktS rfl (.tmp 13) (.tmp 15) rfl w.heap.size i _ rfl KA (.string pn) (.string pn.data.toList) kN false HK.out rfl ?_))
            go_ret
            exact ⟨rfl, (hnr.trans nA).trans n2⟩
      · have hG := HG.out
        rw [hs] at hG HK
        have hRf : R = false := by rw [hG]; simp
        subst hRf
        clear hG hs HG
        go_wp2_with (at_lookup; refine wpList_klook _ ktS rfl (.tmp 13) (.tmp 15) rfl w.heap.size i _ rfl KA (.string pn) (.string pn.data.toList) kN true HK.out rfl ?_)
        go_ret
        exact ⟨rfl, hnr.trans nA⟩
    · obtain rfl : i = n := by omega
      have hG := HGo.out
      rw [List.drop_of_length_le (by rw [HL.out]; exact Nat.le_refl _), notedGo] at hG
      subst hG
      by_cases h64 : i ≤ 64
      · have t1 : (i : Int) ≤ 64 := by omega
        go_wp2
        go_ret
        exact ⟨by first | (rw [decide_eq_true h64]; first | done | rfl) | simp [h64], hnr⟩
      · have t1 : ¬ (i : Int) ≤ 64 := by omega
        go_wp2
        go_ret
        exact ⟨by first | (rw [decide_eq_false h64]; first | done | rfl) | simp [h64], hnr⟩
end Go.Proofs.YtnjampfhkojbnaaGreatDoor

namespace Go.Proofs.YtnjampfhkojbnaaGreatDoor
open Go Go.RowKit Go.Joins
set_option linter.unusedSimpArgs false
set_option linter.unusedVariables false

def byN (s : ByteArray) (k : Nat) : Nat := if h : k < s.size then s[k].toNat else 0
theorem byN_in {s : ByteArray} {k : Nat} (h : k < s.size) : byN s k = s[k].toNat := by unfold byN; rw [dif_pos h]
theorem byN_lt (s : ByteArray) (k : Nat) : byN s k < 256 := by
  unfold byN; split
  · exact UInt8.toNat_lt _
  · omega
def wordV (s : ByteArray) (k : Nat) : Int := ((byN s k + 256 * byN s (k + 1) + 65536 * byN s (k + 2) + 16777216 * byN s (k + 3) : Nat) : Int)
theorem ofInt64 (a : Nat) (ha : a < 9223372036854775808) : (BitVec.ofInt 64 (a : Int)).toNat = a := by
  rw [BitVec.ofInt_natCast, BitVec.toNat_ofNat]; exact Nat.mod_eq_of_lt (by omega)
theorem or64_nat (a b : Nat) (ha : a < 9223372036854775808) (hb : b < 9223372036854775808) : bits .or .i64 (a : Int) (b : Int) = ((a ||| b : Nat) : Int) := by
  have hx : a ||| b < 2 ^ 63 := Nat.or_lt_two_pow (by omega) (by omega)
  show IntKind.i64.wrap ((BitVec.ofInt 64 (a : Int) ||| BitVec.ofInt 64 (b : Int)).toNat : Int) = _
  rw [BitVec.toNat_or, ofInt64 a ha, ofInt64 b hb, IntWalk.i64_in _ (by omega)]
theorem or64 (x y : Nat) (m : Nat) (hx : x < 2 ^ m) (hb : x + 2 ^ m * y < 9223372036854775808) : bits .or .i64 (x : Int) ((2 ^ m * y : Nat) : Int) = ((x + 2 ^ m * y : Nat) : Int) := by
  have h1 : 2 ^ m * y + x = 2 ^ m * y ||| x := Nat.two_pow_add_eq_or_of_lt hx y
  have h2 : x ||| 2 ^ m * y = x + 2 ^ m * y := by rw [Nat.or_comm, ← h1, Nat.add_comm]
  generalize 2 ^ m * y = z at *
  rw [or64_nat _ _ (by omega) (by omega), h2]
theorem word_sum (a b c d : Nat) (ha : a < 256) (hb : b < 256) (hc : c < 256) (hd : d < 256) :
    bits .or .i64 (bits .or .i64 (bits .or .i64 (wrap64 a) (wrap64 (wrap64 b * 256))) (wrap64 (wrap64 c * 65536))) (wrap64 (wrap64 d * 16777216)) = ((a + 256 * b + 65536 * c + 16777216 * d : Nat) : Int) := by
  rw [IntWalk.wrap64_in (a : Int) (by omega), IntWalk.wrap64_in (b : Int) (by omega), IntWalk.wrap64_in (c : Int) (by omega), IntWalk.wrap64_in (d : Int) (by omega), IntWalk.wrap64_in _ (by omega), IntWalk.wrap64_in _ (by omega), IntWalk.wrap64_in _ (by omega)]
  have e1 : (b : Int) * 256 = ((2 ^ 8 * b : Nat) : Int) := by omega
  have e2 : (c : Int) * 65536 = ((2 ^ 16 * c : Nat) : Int) := by omega
  have e3 : (d : Int) * 16777216 = ((2 ^ 24 * d : Nat) : Int) := by omega
  rw [e1, e2, e3, or64 a b 8 (by omega) (by omega), or64 _ c 16 (by omega) (by omega), or64 _ d 24 (by omega) (by omega)]
set_option maxRecDepth 100000 in
set_option maxHeartbeats 2000000 in
theorem word_any (s : ByteArray) (k : Nat) (w : World) (hk : k + 4 ≤ s.size) (hs : s.size ≤ 1000000000) :
    Calls Tryz.prog 114 #[.string s, .int .i64 k] w fun e w' => e = .returned (.int .i64 (wordV s k)) ∧ New w w' := by
  have k1 : IntKind.i64.wrap ((k : Int) + 1) = (k : Int) + 1 := IntWalk.i64_in _ (by omega)
  have k2 : IntKind.i64.wrap ((k : Int) + 2) = (k : Int) + 2 := IntWalk.i64_in _ (by omega)
  have k3 : IntKind.i64.wrap ((k : Int) + 3) = (k : Int) + 3 := IntWalk.i64_in _ (by omega)
  have j0 : (k : Int) < (s.size : Int) := by omega
  have j1 : (k : Int) + 1 < (s.size : Int) := by omega
  have j2 : (k : Int) + 2 < (s.size : Int) := by omega
  have j3 : (k : Int) + 3 < (s.size : Int) := by omega
  have i1 : (0 : Int) ≤ (k : Int) + 1 := by omega
  have i2 : (0 : Int) ≤ (k : Int) + 2 := by omega
  have i3 : (0 : Int) ≤ (k : Int) + 3 := by omega
  have m1 : ((k : Int) + 1).toNat = k + 1 := by omega
  have m2 : ((k : Int) + 2).toNat = k + 2 := by omega
  have m3 : ((k : Int) + 3).toNat = k + 3 := by omega
  have l0 : k < s.size := by omega
  have l1 : k + 1 < s.size := by omega
  have l2 : k + 2 < s.size := by omega
  have l3 : k + 3 < s.size := by omega
  go_enter Tryz.func114, Tryz.ntmps114
  go_wp2
  go_quiet (fail)
  go_wp2
  go_ret
  refine ⟨?_, (New.refl w).drewN nq⟩
  have hv := word_sum _ _ _ _ (byN_lt s k) (byN_lt s (k + 1)) (byN_lt s (k + 2)) (byN_lt s (k + 3))
  rw [byN_in l0, byN_in l1, byN_in l2, byN_in l3] at hv
  unfold wordV
  rw [byN_in l0, byN_in l1, byN_in l2, byN_in l3, ← hv]
  rfl
end Go.Proofs.YtnjampfhkojbnaaGreatDoor

