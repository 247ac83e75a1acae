/- The program's Parse. Conditions: sizes. (Printed by mk-u.py.) -/
import Derived.Test.YtfeknjpinboknaaGreatDoorGQ
import Derived.Deep.DeepCutAuto

namespace Go.Proofs.YtfeknjpinboknaaGreatDoor
open Go Go.RowKit Go.Joins Go.Shelf
set_option linter.unusedSimpArgs false
set_option linter.unusedVariables false

theorem pre_after (p l : List UInt8) : Lib.hasPrefix l p = (afterL p l).isSome ∧ (∀ r, afterL p l = some r → Lib.trimPrefix l p = r) := by
  have e : Lib.hasPrefix l p = decide (l.take p.length = p) := by
    rw [Lib.hasPrefix, Bool.eq_iff_iff, List.isPrefixOf_iff_prefix, decide_eq_true_eq]
    constructor
    · intro h; obtain ⟨t, rfl⟩ := h; simp
    · intro h; exact ⟨l.drop p.length, by conv => rhs; rw [← List.take_append_drop p.length l, h]⟩
  constructor
  · rw [e, afterL]
    by_cases h : l.take p.length = p
    · rw [if_pos h, decide_eq_true h]; rfl
    · rw [if_neg h, decide_eq_false h]; rfl
  · intro r hr
    unfold afterL at hr
    split at hr
    · rename_i h
      injection hr with hr
      rw [Lib.trimPrefix, e, decide_eq_true h, if_pos rfl]; exact hr
    · cases hr
def rowH (r : List ByteArray) (A : Option Addr) (c : Nat) : Hm := ⟨0, 0, r, A, c⟩
theorem LnOK.tail {w : World} {x : Hm} {hs : List Hm} (h : LnOK w (x :: hs)) : LnOK w hs := fun y hy => h y (List.mem_cons_of_mem _ hy)
theorem LnOK.cons {w : World} {x y : Hm} {hs : List Hm} (h : LnOK w (x :: hs)) (hy : LnOK w [y]) : LnOK w (y :: hs) := fun z hz => by
  rcases List.mem_cons.1 hz with rfl | hz
  · exact hy z (by simp)
  · exact h z (List.mem_cons_of_mem _ hz)
theorem LnOK.cut {w : World} {r : List ByteArray} {A : Option Addr} {c : Nat} {hs : List Hm} (h : LnOK w (rowH r A c :: hs)) (k : Nat) (hk : k ≤ r.length) :
    LnOK w (rowH (r.drop k) (if c = k then A else A.map (·.add k)) (c - k) :: hs) := by
  refine h.cons fun y hy => ?_
  rw [List.mem_singleton] at hy
  subst hy
  obtain ⟨h1, h2, h3⟩ := h (rowH r A c) (by simp)
  simp only [rowH] at h1 h2 h3 ⊢
  refine ⟨by rw [List.length_drop]; omega, ?_, fun h0 => ?_⟩
  · have := Rd.cut h2 hk h1
    rw [Nat.mul_one] at this
    rw [List.length_drop, sCells, List.map_drop]
    exact this
  · rw [List.length_drop] at h0
    obtain ⟨b, o, cs, fz, e, hb⟩ := h3 (by omega)
    subst e
    rw [if_neg (by omega)]
    exact ⟨b, o + k, cs, fz, by simp [Addr.add], hb⟩
theorem LnOK.take {w : World} {r : List ByteArray} {A : Option Addr} {c : Nat} {hs : List Hm} (h : LnOK w (rowH r A c :: hs)) (k : Nat) (hk : k ≤ r.length) : Rd w 1 A k (sCells (r.take k)) := by
  obtain ⟨h1, h2, h3⟩ := h (rowH r A c) (by simp)
  have := Rd.take h2 hk
  rw [Nat.mul_one] at this
  rw [sCells, List.map_take]; exact this
structure PS (text : ByteArray) (w wc : World) (g : Nat) (base : ByteArray) (ls r : List ByteArray) (A : Option Addr) (c : Nat) (V : Value) (hs : List Hm) : Prop where
  sz : ∀ s ∈ r, s.size ≤ 1000000
  rl : hs.length + r.length ≤ 1024
  b2 : Blk wc w.heap.size 24 #[.string ⟨#[]⟩, .slice none 0 0]
  b6 : Blk wc g 24 #[.string base, V]
  own : wc.ownsRow w.heap.size 55 3 V hs.length (hs.flatMap hmC)
  ln : LnOK wc (rowH r A c :: hs)
  nw : New w wc
  inv : Inv ls r (hs.map Hm.d)
  g2 : w.heap.size < g
  szh : SzH hs
theorem PS.new {text : ByteArray} {w wc w' : World} {g : Nat} {base : ByteArray} {ls r : List ByteArray} {A : Option Addr} {c : Nat} {V : Value} {hs : List Hm} (h : PS text w wc g base ls r A c V hs) (hn : New wc w') : PS text w w' g base ls r A c V hs :=
  ⟨h.sz, h.rl, h.b2.new hn, h.b6.new hn, own_new h.own hn, h.ln.new hn, h.nw.trans hn, h.inv, h.g2, h.szh⟩
theorem PS.rc {text : ByteArray} {w wc : World} {g : Nat} {base : ByteArray} {ls r : List ByteArray} {A : Option Addr} {c : Nat} {V : Value} {hs : List Hm} (h : PS text w wc g base ls r A c V hs) : r.length ≤ c := (h.ln (rowH r A c) (by simp)).1
theorem PS.cell {text : ByteArray} {w wc : World} {g : Nat} {base : ByteArray} {ls r : List ByteArray} {A : Option Addr} {c : Nat} {V : Value} {hs : List Hm} {x : ByteArray} (h : PS text w wc g base ls (x :: r) A c V hs) : ∃ b o, A = some ⟨b, o, none⟩ ∧ wc.cell? ⟨b, o, none⟩ = some (.string x) := by
  obtain ⟨b, o, e, _, hc⟩ := (h.ln (rowH (x :: r) A c) (by simp)).2.1.2 (by simp [rowH])
  exact ⟨b, o, e, by simpa using hc 0 (.string x) (by simp [rowH, sCells])⟩
theorem put2 {w : World} {g : Nat} {x y : Value} (B : Blk w g 24 #[x, y]) (a b : Value) : Blk ((w.setCell ⟨g, 0, none⟩ a).setCell ⟨g, 1, none⟩ b) g 24 #[a, b] := ((B.put 0 a).put 1 b).same (by simp)
theorem ne_kind {w : World} {B e size n g t : Nat} {v : Value} {xs cs : List Value} {cs' : Array Value} (h : w.ownsRow B e size v n xs) (hB : Blk w g t cs') (ht : t ≠ e) : v.ownBlock ≠ some g := by
  intro q
  obtain ⟨c, fz, hc⟩ := own_kind3 h g q
  unfold Blk at hB
  rw [hB] at hc
  injection hc with hc
  injection hc with _ q2
  exact ht q2
theorem PS.put {text : ByteArray} {w wc : World} {g : Nat} {base : ByteArray} {ls r : List ByteArray} {A : Option Addr} {c : Nat} {V : Value} {hs : List Hm} (h : PS text w wc g base ls r A c V hs) (i : Nat) (u : Value) :
    (wc.setCell ⟨w.heap.size, i, none⟩ u).ownsRow w.heap.size 55 3 V hs.length (hs.flatMap hmC) ∧ LnOK (wc.setCell ⟨w.heap.size, i, none⟩ u) hs ∧ New w (wc.setCell ⟨w.heap.size, i, none⟩ u) :=
  ⟨h.own.kept (grown_set _ _ _ _) (Or.inr (ne_kind (cs := []) h.own h.b2 (by decide))), h.ln.tail.keep (grown_set _ _ _ _) (fun q e => by injection e with e; subst e; exact ⟨_, 24, _, h.b2, by decide⟩), h.nw.setCell (p := ⟨w.heap.size, i, none⟩) (Nat.le_refl _) u⟩
theorem ps_out {text : ByteArray} {w wc : World} {g : Nat} {base : ByteArray} {ls r : List ByteArray} {A A' : Option Addr} {c c' n : Nat} {hs : List Hm} (h : PS text w wc g base ls r A c (.slice A' n c') hs) (a b : Value) :
    Blk ((wc.setCell ⟨w.heap.size, 0, none⟩ a).setCell ⟨w.heap.size, 1, none⟩ b) w.heap.size 24 #[a, b] ∧ PRd ((wc.setCell ⟨w.heap.size, 0, none⟩ a).setCell ⟨w.heap.size, 1, none⟩ b) A' hs.length hs ∧ n = hs.length ∧ hs.length ≤ c' ∧ New w ((wc.setCell ⟨w.heap.size, 0, none⟩ a).setCell ⟨w.heap.size, 1, none⟩ b) := by
  obtain ⟨o1, l1, n1⟩ := h.put 0 a
  have B1 := h.b2.put 0 a
  have o2 := o1.kept (grown_set (wc.setCell ⟨w.heap.size, 0, none⟩ a) w.heap.size 1 b) (Or.inr (ne_kind (cs := []) o1 B1 (by decide)))
  have l2 := l1.keep (grown_set (wc.setCell ⟨w.heap.size, 0, none⟩ a) w.heap.size 1 b) (fun q e => by injection e with e; subst e; exact ⟨_, 24, _, B1, by decide⟩)
  obtain ⟨A1, c1, e, h1, h2⟩ := own_prd o2 l2
  injection e with e1 e2 e3
  subst e1 e2 e3
  exact ⟨put2 h.b2 a b, h2, rfl, h1, n1.setCell (p := ⟨w.heap.size, 1, none⟩) (Nat.le_refl _) b⟩
def PS0 (text : ByteArray) (w wc : World) (g : Nat) (v4 : Value) : Prop := ∃ (base : ByteArray) (ls : List ByteArray) (A : Option Addr) (c : Nat), v4 = .slice A ls.length c ∧ PS text w wc g base ls ls A c (.slice none 0 0) [] ∧ parseV text = finV base ls ∧ base.size ≤ 1000
theorem ps0_plain {text : ByteArray} {w wc : World} {g : Nat} {base : ByteArray} {ls : List ByteArray} {A : Option Addr} {c n : Nat} (hn : n = ls.length) (hp : parseV text = finV base ls) (hb : base.size ≤ 1000) (hz : ∀ s ∈ ls, s.size ≤ 1000000) (hl : ls.length ≤ 1024) (B2 : Blk wc w.heap.size 24 #[.string ⟨#[]⟩, .slice none 0 0]) (B6 : Blk wc g 24 #[.string base, .slice none 0 0]) (LN : LnOK wc [rowH ls A c]) (nw : New w wc) (hg : w.heap.size < g) : PS0 text w wc g (.slice A n c) := by
  subst hn
  exact ⟨base, ls, A, c, rfl, ⟨hz, by simpa using hl, B2, B6, World.ownsRow_nil _ _ _ _, LN, nw, Inv.start _, hg, ⟨by simp, fun _ h => (by cases h), fun _ h => (by cases h)⟩⟩, hp, hb⟩
theorem PS.app {text : ByteArray} {w wa w5 : World} {g : Nat} {base : ByteArray} {ls rx r' : List ByteArray} {A A' : Option Addr} {c c' : Nat} {V V' : Value} {hs : List Hm} (h : PS text w wa g base ls rx A c V hs) (hk : Hm)
    (hr : LnOK wa (rowH r' A' c' :: hs)) (k1 : LnOK wa [hk]) (own5 : w5.ownsRow w.heap.size 55 3 V' (hs.length + 1) (hs.flatMap hmC ++ hmC hk)) (hg : wa.grownBy w5 V.ownBlock)
    (inv : Inv ls r' ((hs ++ [hk]).map Hm.d)) (sz : ∀ s ∈ r', s.size ≤ 1000000) (rl : hs.length + 1 + r'.length ≤ 1024) (kz : ∀ s ∈ hk.lines, s.size ≤ 1000000) (kl : hk.lines.length ≤ 1024) :
    PS text w (w5.setCell ⟨g, 1, none⟩ V') g base ls r' A' c' V' (hs ++ [hk]) := by
  have e1 : (hs ++ [hk]).length = hs.length + 1 := by simp
  have e2 : (hs ++ [hk]).flatMap hmC = hs.flatMap hmC ++ hmC hk := by simp
  have ne2 := ne_kind (cs := []) h.own h.b2 (by decide)
  have ne6 := ne_kind (cs := []) h.own h.b6 (by decide)
  have b2 := h.b2.grown hg (fun e => ne2 e.symm)
  have b6 := h.b6.grown hg (fun e => ne6 e.symm)
  have hl : LnOK wa (rowH r' A' c' :: (hs ++ [hk])) := fun y hy => by
    rw [← List.cons_append] at hy
    rcases List.mem_append.1 hy with hy | hy
    · exact hr y hy
    · exact k1 y hy
  have hl5 := hl.keep hg (fun q e => by
    obtain ⟨cs, fz, hc⟩ := own_kind3 h.own q e
    exact ⟨cs, 55, fz, hc, by decide⟩)
  have hlt := h.g2
  refine ⟨sz, by rw [e1]; exact rl, b2.far (show w.heap.size ≠ g by omega) _, (b6.put 1 _).same (by simp), ?_, hl5.keep (grown_set w5 g 1 V') (fun q e => by injection e with e; subst e; exact ⟨_, 24, _, b6, by decide⟩), ?_, inv, hlt, ?_⟩
  · rw [e1, e2]
    exact own5.kept (grown_set _ _ _ _) (Or.inr (ne_kind (cs := []) own5 b6 (by decide)))
  · exact (Below.grown h.nw hg (by have := h.nw.size; omega) (fun q hq => (h.own.lt q hq).1)).setCell (p := ⟨g, 1, none⟩) (show w.heap.size ≤ g by omega) V'
  · refine ⟨by rw [e1]; omega, fun y hy => ?_, fun y hy s hs' => ?_⟩
    · rcases List.mem_append.1 hy with hy | hy
      · exact h.szh.ll y hy
      · rw [List.mem_singleton] at hy; subst hy; omega
    · rcases List.mem_append.1 hy with hy | hy
      · exact h.szh.ls y hy s hs'
      · rw [List.mem_singleton] at hy; subst hy; exact kz s hs'
theorem tl_mk (l : List UInt8) : (⟨l.toArray⟩ : ByteArray).toList = l := by rw [toList_eq]
theorem ln_none (w : World) (k v : Int) : LnOK w [⟨k, v, [], none, 0⟩] := fun y hy => by
  rw [List.mem_singleton] at hy
  subst hy
  exact ⟨Nat.le_refl _, Rd.none_ _, fun h => absurd h (by simp)⟩
set_option maxRecDepth 100000 in
set_option maxHeartbeats 32000000 in
theorem parse_any (text : ByteArray) (w : World) (hs : text.size ≤ 1000000) (hE : Env w) : Calls Tryz.prog 17 #[.string text] w (ParP text w) := by
  have n0 := (New.refl w).alloc (.cells #[.string ⟨#[]⟩, .slice none 0 0] 24)
  have B0 := Blk.made w 24 #[.string ⟨#[]⟩, .slice none 0 0]
  obtain ⟨m, hm⟩ := hE.maxlen
  have HE := Lib.hid hE
  by_cases hl : linesE text = 0
  · have HLI0 := lines_eq text (w.alloc (.cells #[.string ⟨#[]⟩, .slice none 0 0] 24)) (by omega) (hE.new n0) hl
    have HNO := Lib.hid (fun (hp : parseV text = none) w' e he hn => par_no (text := text) (w := w) (w' := w') (e := e) (x := 4) hp (by rw [if_pos hl]) he hn)
    have HPV : Hid (parseV text = lineV (parts 10 text)) := Lib.hid (by rw [parseV, if_pos hl])
    have HPS := Lib.hid (fun s (h : s ∈ parts 10 text) => parts_size h)
    have HPL : Hid ((parts 10 text).length ≤ 1024) := Lib.hid (by
      unfold linesE at hl
      split at hl
      · cases hl
      · omega)
    obtain ⟨x, r, hxr⟩ : ∃ x r, parts 10 text = x :: r := by
      cases e : parts 10 text with
      | nil => exact absurd e (parts_ne text)
      | cons x r => exact ⟨x, r, rfl⟩
    rw [hxr] at HLI0 HPV HPS HPL
    rw [World.size_alloc] at HLI0
    have HXZ : Hid (x.size ≤ 1000000) := Lib.hid (Nat.le_trans (HPS.out x (by simp)) hs)
    have HPR : Hid (∀ s ∈ r, s.size ≤ 1000000) := Lib.hid (fun s h => Nat.le_trans (HPS.out s (List.mem_cons_of_mem _ h)) hs)
    have hrl : r.length + 1 ≤ 1024 := HPL.out
    have HCP := Lib.hid (fun W => Tryz.strings_CutPrefix x ⟨#[98, 97, 115, 101, 32]⟩ W)
    obtain ⟨q1, q2⟩ := pre_after baseW x.data.toList
    have HQ1 := Lib.hid q1
    have HQ2 := Lib.hid q2
    clear hl hxr q1 q2
    have hB1 := Blk.made (w.alloc (.cells #[.string ⟨#[]⟩, .slice none 0 0] 24)) 9 (sCells (x :: r)).toArray
    rw [World.size_alloc] at hB1
    have n1 := n0.alloc (.cells (sCells (x :: r)).toArray 9)
    have B1 := B0.alloc (.cells (sCells (x :: r)).toArray 9)
    have hRd : Rd ((w.alloc (.cells #[.string ⟨#[]⟩, .slice none 0 0] 24)).alloc (.cells (sCells (x :: r)).toArray 9)) 1 (some ⟨w.heap.size + 1, 0, none⟩) (x :: r).length (sCells (x :: r)) := by
      have := rd_new (w.alloc (.cells #[.string ⟨#[]⟩, .slice none 0 0] 24)) (sCells (x :: r)) 9 (x :: r).length (by simp [sCells])
      rw [World.size_alloc] at this; exact this
    obtain ⟨w1, hw1⟩ : ∃ w1, (w.alloc (.cells #[.string ⟨#[]⟩, .slice none 0 0] 24)).alloc (.cells (sCells (x :: r)).toArray 9) = w1 := ⟨_, rfl⟩
    rw [hw1] at HLI0 hB1 n1 B1 hRd
    have LN1 : LnOK w1 [rowH (x :: r) (some ⟨w.heap.size + 1, 0, none⟩) (x :: r).length] := fun y hy => by
      rw [List.mem_singleton] at hy
      subst hy
      exact ⟨Nat.le_refl _, hRd, fun _ => ⟨_, 0, _, _, rfl, hB1⟩⟩
    obtain ⟨b, o, hA, hx0⟩ : ∃ b o, (some ⟨w.heap.size + 1, 0, none⟩ : Option Addr) = some ⟨b, o, none⟩ ∧ w1.cell? ⟨b, o, none⟩ = some (.string x) := by
      obtain ⟨b, o, e, _, hc⟩ := hRd.2 (by simp)
      exact ⟨b, o, e, by simpa using hc 0 (.string x) (by simp [sCells])⟩
    rw [hA] at HLI0 LN1
    have HLI := Lib.hid HLI0
    have hx1 := cell_new ((New.refl w1).alloc (.cells #[.string ⟨#[]⟩, .slice none 0 0] 24)) hx0
    have B2 := B1.alloc (.cells #[.string ⟨#[]⟩, .slice none 0 0] 24)
    have n2 := n1.alloc (.cells #[.string ⟨#[]⟩, .slice none 0 0] 24)
    have B6 := Blk.made w1 24 #[.string ⟨#[]⟩, .slice none 0 0]
    have LN2 := LN1.new ((New.refl w1).alloc (.cells #[.string ⟨#[]⟩, .slice none 0 0] 24))
    have hg6 : w.heap.size < w1.heap.size := B1.lt
    obtain ⟨nr, hnr⟩ : ∃ nr, (x :: r).length = nr := ⟨_, rfl⟩
    have hnr1 : nr = r.length + 1 := by rw [← hnr]; simp
    rw [hnr] at HLI LN2
    have HNR := Lib.hid hnr1
    have h1 : 1 ≤ nr := by omega
    have h2 : (1 : Int) ≤ (nr : Int) := by omega
    have h3 : (0 : Int) < (nr : Int) := by omega
    have h4 : nr ≤ 1024 := by omega
    clear hnr hnr1 hA hx0 hRd hw1 hB1 HLI0 LN1 B1 n1 hE hm m
    go_enter Tryz.func17, Tryz.ntmps17
    go_wp2
    go_step3
    go_upto_if 33 with (first | (go_at_call 40; (with_reducible refine (HCP.out _).mono ?_); rintro e w2 ⟨rfl, rfl⟩) | (go_at_call 39; (with_reducible refine HLI.out.mono ?_); rintro e w2 ⟨rfl, rfl⟩))
    go_cut [4, 7, 8] (fun v4 v7 v8 wc => PS0 text w wc w2.heap.size v4)
    case first =>
      cases ha : afterL baseW x.data.toList with
      | none =>
        have hpre : Lib.hasPrefix x.data.toList [98, 97, 115, 101, 32] = false := by rw [show ([98, 97, 115, 101, 32] : List UInt8) = baseW from rfl, HQ1.out, ha]; rfl
        have HV : Hid (parseV text = finV ⟨#[]⟩ (x :: r)) := Lib.hid (by rw [HPV.out, lineV, ha])
        rw [hpre]
        clear ha hpre
        go_wp2
        go_meet
        case rel => exact ps0_plain (by rw [HNR.out]; rfl) HV.out (by decide) (fun s h => by
          rcases List.mem_cons.1 h with rfl | h
          · exact HXZ.out
          · exact HPR.out s h) (by simpa using hrl) B2 B6 LN2 n2 hg6
      | some hh =>
        have hpre : Lib.hasPrefix x.data.toList [98, 97, 115, 101, 32] = true := by rw [show ([98, 97, 115, 101, 32] : List UInt8) = baseW from rfl, HQ1.out, ha]; rfl
        have hT : Lib.trimPrefix x.data.toList [98, 97, 115, 101, 32] = hh := HQ2.out hh ha
        rw [hpre, hT]
        have HDP := Lib.hid (dparse_any ⟨hh.toArray⟩ (w2.alloc (.cells #[.string ⟨#[]⟩, .slice none 0 0] 24)))
        have b60 := B6.cell' 0 _ rfl
        have f60 := B6.free 0
        cases hb : baseP hh with
        | none =>
          have e1 : dpT hh = ⟨#[]⟩ := by rw [dpT, hb]
          have e2 : dpE hh = 4 := by rw [dpE, hb]
          have HD2 : Hid (Calls Tryz.prog 41 #[.string ⟨hh.toArray⟩] (w2.alloc (.cells #[.string ⟨#[]⟩, .slice none 0 0] 24)) fun e w' => e = .returned (.tuple #[.string ⟨#[]⟩, .int .i64 4]) ∧ New (w2.alloc (.cells #[.string ⟨#[]⟩, .slice none 0 0] 24)) w') := Lib.hid (HDP.out.mono fun e w' ⟨he, hn⟩ => ⟨by rw [he, show (⟨hh.toArray⟩ : ByteArray).data.toList = hh from rfl, e1, e2], hn⟩)
          have HV := HNO.out (by rw [HPV.out, lineV, ha]; simp only [hb])
          have HVV := Lib.hid HV
          clear ha hpre hT hb e1 e2 HDP HV
          go_wp2_with (go_at_call 41; (with_reducible refine HD2.out.mono ?_); rintro e w3 ⟨rfl, n3⟩; have B63 := B6.new n3; have B23 := B2.new n3; have c60 := B63.cell' 0 _ rfl; have g60 := B63.free 0; have c20 := B23.cell' 0 _ rfl; have g20 := B23.free 0; have c21 := B23.cell' 1 _ rfl; have g21 := B23.free 1)
          rw [Exit.noGoto_ret]
          have BE := put2 (B23.far (p := ⟨w2.heap.size, 0, none⟩) (show w.heap.size ≠ w2.heap.size by omega) (.string ⟨#[]⟩)) (.string ⟨#[]⟩) (.slice none 0 0)
          have e0 := BE.cell' 0 _ rfl
          have e1 := BE.cell' 1 _ rfl
          have nn := (((n2.trans n3).setCell (p := ⟨w2.heap.size, 0, none⟩) (show w.heap.size ≤ w2.heap.size by omega) (.string ⟨#[]⟩)).setCell (p := ⟨w.heap.size, 0, none⟩) (Nat.le_refl _) (.string ⟨#[]⟩)).setCell (p := ⟨w.heap.size, 1, none⟩) (Nat.le_refl _) (.slice none 0 0)
          exact bodyPost_ret (v := .tuple #[.agg #[.string ⟨#[]⟩, .slice none 0 0], .int .i64 4]) (by simp [results, Tryz.results17, go_sem, e0, e1]) rfl (HVV.out _ _ rfl nn)
        | some bb =>
          have e1 : dpT hh = S bb := by rw [dpT, hb]
          have e2 : dpE hh = 0 := by rw [dpE, hb]
          have HD2 : Hid (Calls Tryz.prog 41 #[.string ⟨hh.toArray⟩] (w2.alloc (.cells #[.string ⟨#[]⟩, .slice none 0 0] 24)) fun e w' => e = .returned (.tuple #[.string (S bb), .int .i64 0]) ∧ New (w2.alloc (.cells #[.string ⟨#[]⟩, .slice none 0 0] 24)) w') := Lib.hid (HDP.out.mono fun e w' ⟨he, hn⟩ => ⟨by rw [he, show (⟨hh.toArray⟩ : ByteArray).data.toList = hh from rfl, e1, e2], hn⟩)
          have HV : Hid (parseV text = finV (S bb) r) := Lib.hid (by rw [HPV.out, lineV, ha]; simp only [hb])
          have HBZ : Hid ((S bb).size ≤ 1000) := Lib.hid (by
            have : hh.length = 64 := by
              unfold baseP at hb
              split at hb
              · assumption
              · cases hb
            unfold baseP at hb
            rw [if_pos this] at hb
            have := hexP_len hb
            rw [size_S]; omega)
          have LC := LN2.cut 1 (by simp)
          simp only [List.drop_succ_cons, List.drop_zero, Option.map_some] at LC
          have hadd : (⟨b, o, none⟩ : Addr).add 1 = ⟨b, o + 1, none⟩ := add_none rfl 1
          rw [hadd] at LC
          obtain ⟨A', hA'⟩ : ∃ A', (if nr = 1 then (some ⟨b, o, none⟩ : Option Addr) else some ⟨b, o + 1, none⟩) = A' := ⟨_, rfl⟩
          rw [hA'] at LC
          have hle : (1 : Int) ≤ (nr : Int) := h2
          clear ha hpre hT hb e1 e2 HDP
          generalize S bb = base at *
          go_wp2_with (go_at_call 41; (with_reducible refine HD2.out.mono ?_); rintro e w3 ⟨rfl, n3⟩; have B63 := B6.new n3; have B23 := B2.new n3; have LN3 := LC.new n3; have c60 := B63.cell' 0 _ rfl; have g60 := B63.free 0; have c20 := B23.cell' 0 _ rfl; have g20 := B23.free 0; have c21 := B23.cell' 1 _ rfl; have g21 := B23.free 1)
          go_meet
          case rel => exact ps0_plain (by rw [HNR.out]; omega) HV.out HBZ.out HPR.out (by omega) (B23.far (p := ⟨w2.heap.size, 0, none⟩) (show w.heap.size ≠ w2.heap.size by omega) _) ((B63.put 0 _).same (by simp)) (LN3.keep (grown_set w3 w2.heap.size 0 _) (fun q e => by injection e with e; subst e; exact ⟨_, 24, _, B63, by decide⟩)) ((n2.trans n3).setCell (p := ⟨w2.heap.size, 0, none⟩) (show w.heap.size ≤ w2.heap.size by omega) _) hg6
    case rest =>
      obtain ⟨base, ls, A, c, rfl, hps, hpv, hbz⟩ := hcut
      have HPVV := Lib.hid hpv
      clear hpv HPR HXZ HPS HPL HPV hrl HCP HQ1 HQ2 hx1 B2 n2 B6 LN2 HLI HNR h1 h2 h3 h4
      generalize w2.heap.size = g at *
      go_wp2
      go_step3
      go_wp2
      go_loopw [4] (fun v4 wr => ∃ (r : List ByteArray) (A : Option Addr) (c : Nat) (V : Value) (hs : List Hm), v4 = .slice A r.length c ∧ PS text w wr g base ls r A c V hs) (fun v4 _ => match v4 with | .slice _ n _ => n | _ => 0)
      case atStart => exact ⟨ls, A, c, _, [], rfl, hps⟩
      case round =>
        clear hps
        obtain ⟨r, A, c, V, hs, rfl, hps⟩ := hrel
        cases r with
        | nil =>
          have HQ : Hid (Inv ls [] (hs.map Hm.d) ∨ refGo ls = none) := Lib.hid (Or.inl hps.inv)
          obtain ⟨A9, c9, hV9, hc9, hprd⟩ := own_prd hps.own hps.ln.tail
          subst hV9
          have HC := Lib.hid (check_any base A9 hs.length c9 hs wr hprd hps.szh (by omega) (HE.out.new hps.nw))
          have HPX := Lib.hid hps
          have c60 := hps.b6.cell' 0 _ rfl
          have c61 := hps.b6.cell' 1 _ rfl
          have HFB := Lib.hid (fun hb => fin_bad HPVV.out HQ.out hb)
          have HT := Lib.hid (fun (hv : validV base (hs.map Hm.d) = false) => chk_bad hv)
          have HT2 : Hid (validV base (hs.map Hm.d) = true → chkT base (hs.map Hm.d) = textV base (hs.map Hm.d)) := Lib.hid (fun hv => by rw [chkT, if_pos hv])
          have HYES := Lib.hid (fun (hv : validV base (hs.map Hm.d) = true) (ht : textV base (hs.map Hm.d) = text) (w' : World) (e : Ending) he hr hc hn => par_yes (text := text) (base := base) (w := w) (w' := w') (e := e) (A := A9) (c := c9) (hs := hs) hv ht he hr hc hn)
          have HST := Lib.hid (str_eq (chkT base (hs.map Hm.d)) text)
          clear hprd hps HQ
          generalize hs.length = m9 at *
          generalize textV base (hs.map Hm.d) = tx at *
          generalize chkT base (hs.map Hm.d) = ck at *
          generalize validV base (hs.map Hm.d) = vv at *
          cases vv
          · have hck := HT.out rfl
            subst hck
            have HN := Lib.hid (HNO.out (HFB.out (by simp)))
            clear HT HT2 HYES HFB HST
            go_wp2_with (go_at_call 33; (with_reducible refine HC.out.mono ?_); rintro e w5 ⟨rfl, n5⟩; have PX := HPX.out.new n5; have d20 := PX.b2.cell' 0 _ rfl; have d21 := PX.b2.cell' 1 _ rfl; have e20 := PX.b2.free 0; have e21 := PX.b2.free 1)
            rw [Exit.noGoto_ret]
            obtain ⟨BE, _, _, _, nn⟩ := ps_out PX (.string ⟨#[]⟩) (.slice none 0 0)
            have e0 := BE.cell' 0 _ rfl
            have e1 := BE.cell' 1 _ rfl
            exact bodyPost_ret (v := .tuple #[.agg #[.string ⟨#[]⟩, .slice none 0 0], .int .i64 4]) (by simp [results, Tryz.results17, go_sem, e0, e1]) rfl (HN.out _ _ rfl nn)
          · have hck := HT2.out rfl
            by_cases htx : tx = text
            · subst htx
              subst hck
              have HN := Lib.hid (HYES.out rfl rfl)
              clear HT HT2 HYES HFB HST
              go_wp2_with (go_at_call 33; (with_reducible refine HC.out.mono ?_); rintro e w5 ⟨rfl, n5⟩; have PX := HPX.out.new n5; have d20 := PX.b2.cell' 0 _ rfl; have d21 := PX.b2.cell' 1 _ rfl; have e20 := PX.b2.free 0; have e21 := PX.b2.free 1; have c62 := PX.b6.cell' 0 _ rfl; have c63 := PX.b6.cell' 1 _ rfl)
              rw [Exit.noGoto_ret]
              obtain ⟨BE, hr9, hm9, hc99, nn⟩ := ps_out PX (.string base) (.slice A9 m9 c9)
              have e0 := BE.cell' 0 _ rfl
              have e1 := BE.cell' 1 _ rfl
              exact bodyPost_ret (v := .tuple #[.agg #[.string base, .slice A9 m9 c9], .int .i64 0]) (by simp [results, Tryz.results17, go_sem, e0, e1]) rfl (HN.out _ _ rfl (hm9 ▸ hr9) (hm9 ▸ hc99) nn)
            · have hst : (ck.toList == text.toList) = false := by rw [HST.out, hck, decide_eq_false htx]
              have HN := Lib.hid (HNO.out (HFB.out (fun h => htx h.2)))
              clear HT HT2 HYES HFB HST hck htx
              go_wp2_with (go_at_call 33; (with_reducible refine HC.out.mono ?_); rintro e w5 ⟨rfl, n5⟩; have PX := HPX.out.new n5; have d20 := PX.b2.cell' 0 _ rfl; have d21 := PX.b2.cell' 1 _ rfl; have e20 := PX.b2.free 0; have e21 := PX.b2.free 1)
              rw [Exit.noGoto_ret]
              obtain ⟨BE, _, _, _, nn⟩ := ps_out PX (.string ⟨#[]⟩) (.slice none 0 0)
              have e0 := BE.cell' 0 _ rfl
              have e1 := BE.cell' 1 _ rfl
              exact bodyPost_ret (v := .tuple #[.agg #[.string ⟨#[]⟩, .slice none 0 0], .int .i64 4]) (by simp [results, Tryz.results17, go_sem, e0, e1]) rfl (HN.out _ _ rfl nn)
        | cons x r =>
          obtain ⟨b, o, rfl, hx⟩ := hps.cell
          have hxz := hps.sz x (by simp)
          obtain ⟨m, hm⟩ := (HE.out.new hps.nw).maxlen
          have HCU := Lib.hid (Tryz.strings_Cut x ⟨#[32]⟩ m wr (by omega) hm)
          obtain ⟨⟨word, cnt, bb⟩, hcut⟩ : ∃ p, Lib.cut x.data.toList [32] = p := ⟨_, rfl⟩
          have HCT := Lib.hid hcut
          have HCU2 : Hid (Calls Tryz.prog 42 #[.string x, .string ⟨#[32]⟩] wr fun e w' => e = .returned (.tuple #[.string ⟨word.toArray⟩, .string ⟨cnt.toArray⟩, .bool bb]) ∧ New wr w') := Lib.hid (HCU.out.mono fun e w' ⟨he, k, hw⟩ => ⟨by rw [he, show (⟨#[32]⟩ : ByteArray).data.toList = [32] from rfl, HCT.out], hw ▸ (New.refl wr).drewN k⟩)
          have HPX := Lib.hid hps
          have hcz : cnt.length ≤ 1000000 := by
            have h1 := HCT.out
            rw [Lib.cut] at h1
            have h2 := size_eq x
            split at h1
            · injection h1 with _ h1; injection h1 with h1 _
              rw [← h1, List.length_drop]; omega
            · injection h1 with _ h1; injection h1 with h1 _
              rw [← h1]; simp
          have hcz2 : (⟨cnt.toArray⟩ : ByteArray).size ≤ 1000000 := by rw [show (⟨cnt.toArray⟩ : ByteArray) = S cnt from rfl, size_S]; exact hcz
          have hsl : (x :: r).length = r.length + 1 := rfl
          have hll := hps.rl
          have hrc := hps.rc
          rw [hsl] at hll hrc ⊢
          have i1 : (0 : Int) < (r.length : Int) + 1 := by omega
          have i2 : (1 : Int) ≤ (r.length : Int) + 1 := by omega
          clear HCU hcut hm hsl hps hcz
          by_cases hok : ∃ v, Lib.atoiAll cnt = .ok v
          · obtain ⟨v, ha⟩ := hok
            have HA := Lib.hid (fun W => atoi_ok ⟨cnt.toArray⟩ v W hcz2 ha)
            have hvr := atoi_range ha
            have HAV := Lib.hid ha
            clear ha
            by_cases hv1 : v < 1
            · have HN := Lib.hid (HNO.out (HPVV.out.trans (fin_none (HPX.out.inv.none_ (no_num HCT.out (fun v' h => by rw [HAV.out] at h; injection h with h; omega))))))
              clear hvr
              go_wp2_with (first | (go_at_call 43; (with_reducible refine (HA.out _).mono ?_); rintro e w4 ⟨rfl, n4⟩; have PX := HPX.out.new (n3.trans n4); have d20 := PX.b2.cell' 0 _ rfl; have d21 := PX.b2.cell' 1 _ rfl; have e20 := PX.b2.free 0; have e21 := PX.b2.free 1) | (go_at_call 42; (with_reducible refine HCU2.out.mono ?_); rintro e w3 ⟨rfl, n3⟩))
              rw [Exit.noGoto_ret]
              have BE := put2 PX.b2 (.string ⟨#[]⟩) (.slice none 0 0)
              have e0 := BE.cell' 0 _ rfl
              have e1 := BE.cell' 1 _ rfl
              have nn := (PX.nw.setCell (p := ⟨w.heap.size, 0, none⟩) (Nat.le_refl _) (.string ⟨#[]⟩)).setCell (p := ⟨w.heap.size, 1, none⟩) (Nat.le_refl _) (.slice none 0 0)
              exact bodyPost_ret (v := .tuple #[.agg #[.string ⟨#[]⟩, .slice none 0 0], .int .i64 4]) (by simp [results, Tryz.results17, go_sem, e0, e1]) rfl (HN.out _ _ rfl nn)
            · by_cases hv2 : 1024 < v
              · have HN := Lib.hid (HNO.out (HPVV.out.trans (fin_none (HPX.out.inv.none_ (no_num HCT.out (fun v' h => by rw [HAV.out] at h; injection h with h; omega))))))
                clear hvr
                go_wp2_with (first | (go_at_call 43; (with_reducible refine (HA.out _).mono ?_); rintro e w4 ⟨rfl, n4⟩; have PX := HPX.out.new (n3.trans n4); have d20 := PX.b2.cell' 0 _ rfl; have d21 := PX.b2.cell' 1 _ rfl; have e20 := PX.b2.free 0; have e21 := PX.b2.free 1) | (go_at_call 42; (with_reducible refine HCU2.out.mono ?_); rintro e w3 ⟨rfl, n3⟩))
                rw [Exit.noGoto_ret]
                have BE := put2 PX.b2 (.string ⟨#[]⟩) (.slice none 0 0)
                have e0 := BE.cell' 0 _ rfl
                have e1 := BE.cell' 1 _ rfl
                have nn := (PX.nw.setCell (p := ⟨w.heap.size, 0, none⟩) (Nat.le_refl _) (.string ⟨#[]⟩)).setCell (p := ⟨w.heap.size, 1, none⟩) (Nat.le_refl _) (.slice none 0 0)
                exact bodyPost_ret (v := .tuple #[.agg #[.string ⟨#[]⟩, .slice none 0 0], .int .i64 4]) (by simp [results, Tryz.results17, go_sem, e0, e1]) rfl (HN.out _ _ rfl nn)
              · obtain ⟨nv, rfl⟩ : ∃ nv : Nat, v = (nv : Int) := ⟨v.toNat, by omega⟩
                have hn1 : 1 ≤ nv := by omega
                have hn2 : nv ≤ 1024 := by omega
                obtain ⟨A', hA'⟩ : ∃ A', (if c = 1 then (some ⟨b, o, none⟩ : Option Addr) else some ⟨b, o + 1, none⟩) = A' := ⟨_, rfl⟩
                have HLC : Hid (∀ W, New wr W → LnOK W (rowH r A' (c - 1) :: hs)) := Lib.hid (fun W hN => by
                  have LC := (HPX.out.ln.new hN).cut 1 (by simp)
                  simp only [List.drop_succ_cons, List.drop_zero, Option.map_some] at LC
                  have hadd : (⟨b, o, none⟩ : Addr).add 1 = ⟨b, o + 1, none⟩ := add_none rfl 1
                  rw [hadd, hA'] at LC
                  exact LC)
                have HSZ : Hid (∀ s ∈ r, s.size ≤ 1000000) := Lib.hid (fun s h => HPX.out.sz s (List.mem_cons_of_mem _ h))
                have HTL := Lib.hid (tl_mk word)
                generalize hrl : r.length = rl at *
                have HRL := Lib.hid hrl
                clear hrl hvr
                by_cases hw1 : word = wordN 1
                · have HF : Hid (Fits x 1 nv) := Lib.hid (fits_of HCT.out HAV.out (word_case hw1 (by omega) (by omega)))
                  have t1 : word = [107, 101, 101, 112] := hw1
                  clear hw1
                  subst t1
                  go_wp2_with (fail)
                  with_reducible refine HCU2.out.mono ?_
                  rintro e w3 ⟨rfl, n3⟩
                  go_wp2_with (fail)
                  with_reducible refine (HA.out _).mono ?_
                  rintro e w4 ⟨rfl, n4⟩
                  have PX := HPX.out.new (n3.trans n4)
                  have nA := (New.refl w4).alloc (.cells #[.int .i64 1, .int .i64 (nv : Int), .slice none 0 0] 55)
                  have PA := PX.new nA
                  have c60 := PA.b6.cell' 0 _ rfl
                  have c61 := PA.b6.cell' 1 _ rfl
                  have hown := PX.own
                  have hzw := PX.nw.size
                  obtain ⟨j0, hinf, hz0, hz1, hz2⟩ := info_parts Tryz.info55'
                  obtain ⟨AV, cV, rfl, _, _, _⟩ := own_form hown
                  have HOW := Lib.hid hown
                  have HPA := Lib.hid PA
                  have hml : hs.length + (rl + 1) ≤ 1024 := hll
                  generalize hhl : hs.length = hl at *
                  have HHL := Lib.hid hhl
                  clear hown PX PA hhl
                  go_wp2_with (at_builtin; refine wpList_append_own _ rfl _ _ 22 rfl w.heap.size 55 j0 (.agg #[.int .i64 0, .int .i64 0, .slice none 0 0]) 3 40 Tryz.underlying22 hinf hz0 hz1 hz2 rfl (by decide) _ hl _ rfl ((HOW.out.alloc _).alloc _) ⟨w4.heap.size + 1, 0, none⟩ 1 1 [.int .i64 1, .int .i64 (nv : Int), .slice none 0 0] rfl rfl ?c1 ?c2 ?c3 ?c4 ?c5 ?_)
                  case c1 =>
                    have := World.news_of_block (cs := #[.int .i64 1, .int .i64 (nv : Int), .slice none 0 0]) (t := 55) (fr := (0, 0)) (heap_alloc_new (w4.alloc (.cells #[.int .i64 1, .int .i64 (nv : Int), .slice none 0 0] 55)) (.cells #[.int .i64 1, .int .i64 (nv : Int), .slice none 0 0] 55))
                    rw [World.size_alloc] at this
                    exact this
                  case c2 => simp [Value.oneCell']
                  case c3 => simp [maxLen]; omega
                  case c4 => omega
                  case c5 => simp; omega
                  intro v' w5 own5 hg5 _
                  obtain ⟨A9, c9, rfl, _, _, _⟩ := own_form own5
                  have PB := HPA.out.new ((New.refl _).alloc (.cells #[.int .i64 1, .int .i64 (nv : Int), .slice none 0 0] 55))
                  have hnB : New wr _ := (n3.trans n4).trans (nA.alloc (.cells #[.int .i64 1, .int .i64 (nv : Int), .slice none 0 0] 55))
                  have LB := HLC.out _ hnB
                  have B65 := PB.b6.grown hg5 (fun e => (ne_kind (cs := []) PB.own PB.b6 (by decide)) e.symm)
                  have d61 := B65.cell' 1 _ rfl
                  have f61 := B65.free 1
                  have PN := Lib.hid (PB.app ⟨1, nv, [], none, 0⟩ LB (ln_none _ _ _) (HHL.out ▸ own5) hg5 (by rw [List.map_append]; exact HPX.out.inv.one HF.out (show (1 : Int) ≠ 3 by decide)) HSZ.out (by rw [HHL.out, HRL.out]; omega) (fun s h => (by cases h)) (by simp))
                  clear PB own5 hg5
                  go_wp2
                  go_roundw
                  case rel => exact ⟨r, A', c - 1, .slice A9 (hl + 1) c9, _, by rw [HRL.out], HHL.out ▸ PN.out⟩
                  case measure => exact Nat.lt_succ_self _
                · have t1 : ((⟨word.toArray⟩ : ByteArray).toList == [107, 101, 101, 112]) = false := by rw [HTL.out]; simpa [wordN] using hw1
                  have s1 : (word == [107, 101, 101, 112]) = false := by simpa [wordN] using hw1
                  have r1 : ¬ word = [107, 101, 101, 112] := hw1
                  by_cases hw2 : word = wordN 2
                  · have HF : Hid (Fits x 2 nv) := Lib.hid (fits_of HCT.out HAV.out (word_case hw2 (by omega) (by omega)))
                    have t2 : word = [100, 114, 111, 112] := hw2
                    clear hw1 hw2
                    subst t2
                    go_wp2_with (fail)
                    with_reducible refine HCU2.out.mono ?_
                    rintro e w3 ⟨rfl, n3⟩
                    go_wp2_with (fail)
                    with_reducible refine (HA.out _).mono ?_
                    rintro e w4 ⟨rfl, n4⟩
                    have PX := HPX.out.new (n3.trans n4)
                    have nA := (New.refl w4).alloc (.cells #[.int .i64 2, .int .i64 (nv : Int), .slice none 0 0] 55)
                    have PA := PX.new nA
                    have c60 := PA.b6.cell' 0 _ rfl
                    have c61 := PA.b6.cell' 1 _ rfl
                    have hown := PX.own
                    have hzw := PX.nw.size
                    obtain ⟨j0, hinf, hz0, hz1, hz2⟩ := info_parts Tryz.info55'
                    obtain ⟨AV, cV, rfl, _, _, _⟩ := own_form hown
                    have HOW := Lib.hid hown
                    have HPA := Lib.hid PA
                    have hml : hs.length + (rl + 1) ≤ 1024 := hll
                    generalize hhl : hs.length = hl at *
                    have HHL := Lib.hid hhl
                    clear hown PX PA hhl
                    go_wp2_with (at_builtin; refine wpList_append_own _ rfl _ _ 22 rfl w.heap.size 55 j0 (.agg #[.int .i64 0, .int .i64 0, .slice none 0 0]) 3 40 Tryz.underlying22 hinf hz0 hz1 hz2 rfl (by decide) _ hl _ rfl ((HOW.out.alloc _).alloc _) ⟨w4.heap.size + 1, 0, none⟩ 1 1 [.int .i64 2, .int .i64 (nv : Int), .slice none 0 0] rfl rfl ?c1 ?c2 ?c3 ?c4 ?c5 ?_)
                    case c1 =>
                      have := World.news_of_block (cs := #[.int .i64 2, .int .i64 (nv : Int), .slice none 0 0]) (t := 55) (fr := (0, 0)) (heap_alloc_new (w4.alloc (.cells #[.int .i64 2, .int .i64 (nv : Int), .slice none 0 0] 55)) (.cells #[.int .i64 2, .int .i64 (nv : Int), .slice none 0 0] 55))
                      rw [World.size_alloc] at this
                      exact this
                    case c2 => simp [Value.oneCell']
                    case c3 => simp [maxLen]; omega
                    case c4 => omega
                    case c5 => simp; omega
                    intro v' w5 own5 hg5 _
                    obtain ⟨A9, c9, rfl, _, _, _⟩ := own_form own5
                    have PB := HPA.out.new ((New.refl _).alloc (.cells #[.int .i64 2, .int .i64 (nv : Int), .slice none 0 0] 55))
                    have hnB : New wr _ := (n3.trans n4).trans (nA.alloc (.cells #[.int .i64 2, .int .i64 (nv : Int), .slice none 0 0] 55))
                    have LB := HLC.out _ hnB
                    have B65 := PB.b6.grown hg5 (fun e => (ne_kind (cs := []) PB.own PB.b6 (by decide)) e.symm)
                    have d61 := B65.cell' 1 _ rfl
                    have f61 := B65.free 1
                    have PN := Lib.hid (PB.app ⟨2, nv, [], none, 0⟩ LB (ln_none _ _ _) (HHL.out ▸ own5) hg5 (by rw [List.map_append]; exact HPX.out.inv.one HF.out (show (2 : Int) ≠ 3 by decide)) HSZ.out (by rw [HHL.out, HRL.out]; omega) (fun s h => (by cases h)) (by simp))
                    clear PB own5 hg5
                    go_wp2
                    go_roundw
                    case rel => exact ⟨r, A', c - 1, .slice A9 (hl + 1) c9, _, by rw [HRL.out], HHL.out ▸ PN.out⟩
                    case measure => exact Nat.lt_succ_self _
                  · have t2 : ((⟨word.toArray⟩ : ByteArray).toList == [100, 114, 111, 112]) = false := by rw [HTL.out]; simpa [wordN] using hw2
                    have s2 : (word == [100, 114, 111, 112]) = false := by simpa [wordN] using hw2
                    have r2 : ¬ word = [100, 114, 111, 112] := hw2
                    by_cases hw3 : word = wordN 3
                    · have HF : Hid (Fits x 3 nv) := Lib.hid (fits_of HCT.out HAV.out (word_case hw3 (by omega) (by omega)))
                      have t3 : word = [97, 100, 100] := hw3
                      clear hw1 hw2 hw3
                      subst t3
                      go_wp2_with (fail)
                      with_reducible refine HCU2.out.mono ?_
                      rintro e w3 ⟨rfl, n3⟩
                      go_wp2_with (fail)
                      with_reducible refine (HA.out _).mono ?_
                      rintro e w4 ⟨rfl, n4⟩
                      have nA := (New.refl w4).alloc (.cells #[.int .i64 0, .int .i64 (nv : Int), .slice none 0 0] 55)
                      by_cases hlong : rl < nv
                      · have hps := HPX.out.new ((n3.trans n4).trans nA)
                        have HQ : Hid (Inv ls [] (hs.map Hm.d) ∨ refGo ls = none) := Lib.hid (Or.inr (HPX.out.inv.short HF.out (by rw [HRL.out]; omega)))
                        have tl : (rl : Int) < (nv : Int) := by omega
                        obtain ⟨A9, c9, hV9, hc9, hprd⟩ := own_prd hps.own hps.ln.tail
                        subst hV9
                        have HC := Lib.hid (check_any base A9 hs.length c9 hs _ hprd hps.szh (by omega) (HE.out.new hps.nw))
                        have HPX := Lib.hid hps
                        have c60 := hps.b6.cell' 0 _ rfl
                        have c61 := hps.b6.cell' 1 _ rfl
                        have HFB := Lib.hid (fun hb => fin_bad HPVV.out HQ.out hb)
                        have HT := Lib.hid (fun (hv : validV base (hs.map Hm.d) = false) => chk_bad hv)
                        have HT2 : Hid (validV base (hs.map Hm.d) = true → chkT base (hs.map Hm.d) = textV base (hs.map Hm.d)) := Lib.hid (fun hv => by rw [chkT, if_pos hv])
                        have HYES := Lib.hid (fun (hv : validV base (hs.map Hm.d) = true) (ht : textV base (hs.map Hm.d) = text) (w' : World) (e : Ending) he hr hc hn => par_yes (text := text) (base := base) (w := w) (w' := w') (e := e) (A := A9) (c := c9) (hs := hs) hv ht he hr hc hn)
                        have HST := Lib.hid (str_eq (chkT base (hs.map Hm.d)) text)
                        clear hprd hps HQ
                        generalize hs.length = m9 at *
                        generalize textV base (hs.map Hm.d) = tx at *
                        generalize chkT base (hs.map Hm.d) = ck at *
                        generalize validV base (hs.map Hm.d) = vv at *
                        cases vv
                        · have hck := HT.out rfl
                          subst hck
                          have HN := Lib.hid (HNO.out (HFB.out (by simp)))
                          clear HT HT2 HYES HFB HST
                          go_wp2_with (go_at_call 33; (with_reducible refine HC.out.mono ?_); rintro e w5 ⟨rfl, n5⟩; have PX := HPX.out.new n5; have d20 := PX.b2.cell' 0 _ rfl; have d21 := PX.b2.cell' 1 _ rfl; have e20 := PX.b2.free 0; have e21 := PX.b2.free 1)
                          try rw [Exit.noGoto_ret]
                          obtain ⟨BE, _, _, _, nn⟩ := ps_out PX (.string ⟨#[]⟩) (.slice none 0 0)
                          have e0 := BE.cell' 0 _ rfl
                          have e1 := BE.cell' 1 _ rfl
                          exact bodyPost_ret (v := .tuple #[.agg #[.string ⟨#[]⟩, .slice none 0 0], .int .i64 4]) (by simp [results, Tryz.results17, go_sem, e0, e1]) rfl (HN.out _ _ rfl nn)
                        · have hck := HT2.out rfl
                          by_cases htx : tx = text
                          · subst htx
                            subst hck
                            have HN := Lib.hid (HYES.out rfl rfl)
                            clear HT HT2 HYES HFB HST
                            go_wp2_with (go_at_call 33; (with_reducible refine HC.out.mono ?_); rintro e w5 ⟨rfl, n5⟩; have PX := HPX.out.new n5; have d20 := PX.b2.cell' 0 _ rfl; have d21 := PX.b2.cell' 1 _ rfl; have e20 := PX.b2.free 0; have e21 := PX.b2.free 1; have c62 := PX.b6.cell' 0 _ rfl; have c63 := PX.b6.cell' 1 _ rfl)
                            try rw [Exit.noGoto_ret]
                            obtain ⟨BE, hr9, hm9, hc99, nn⟩ := ps_out PX (.string base) (.slice A9 m9 c9)
                            have e0 := BE.cell' 0 _ rfl
                            have e1 := BE.cell' 1 _ rfl
                            exact bodyPost_ret (v := .tuple #[.agg #[.string base, .slice A9 m9 c9], .int .i64 0]) (by simp [results, Tryz.results17, go_sem, e0, e1]) rfl (HN.out _ _ rfl (hm9 ▸ hr9) (hm9 ▸ hc99) nn)
                          · have hst : (ck.toList == text.toList) = false := by rw [HST.out, hck, decide_eq_false htx]
                            have HN := Lib.hid (HNO.out (HFB.out (fun h => htx h.2)))
                            clear HT HT2 HYES HFB HST hck htx
                            go_wp2_with (go_at_call 33; (with_reducible refine HC.out.mono ?_); rintro e w5 ⟨rfl, n5⟩; have PX := HPX.out.new n5; have d20 := PX.b2.cell' 0 _ rfl; have d21 := PX.b2.cell' 1 _ rfl; have e20 := PX.b2.free 0; have e21 := PX.b2.free 1)
                            try rw [Exit.noGoto_ret]
                            obtain ⟨BE, _, _, _, nn⟩ := ps_out PX (.string ⟨#[]⟩) (.slice none 0 0)
                            have e0 := BE.cell' 0 _ rfl
                            have e1 := BE.cell' 1 _ rfl
                            exact bodyPost_ret (v := .tuple #[.agg #[.string ⟨#[]⟩, .slice none 0 0], .int .i64 4]) (by simp [results, Tryz.results17, go_sem, e0, e1]) rfl (HN.out _ _ rfl nn)
                      · have PX := HPX.out.new (n3.trans n4)
                        have PA := PX.new nA
                        have hc1 : ¬ c = 1 := by omega
                        have hA3 : A' = some ⟨b, o + 1, none⟩ := by rw [← hA', if_neg hc1]
                        subst hA3
                        clear hA'
                        have hrc1 : rl ≤ c - 1 := by omega
                        have HCL : Hid (∀ W, New wr W → Calls Tryz.prog 44 #[.slice (some ⟨b, o + 1, none⟩) nv (c - 1)] W fun e w' => ∃ A9 c9, e = .returned (.slice A9 nv c9) ∧ nv ≤ c9 ∧ LnOK w' [⟨3, nv, r.take nv, A9, c9⟩] ∧ New W w') := Lib.hid (fun W hN => by
                          have hT := (HLC.out W hN).take nv (by rw [HRL.out]; omega)
                          have hlt : (r.take nv).length = nv := by rw [List.length_take, HRL.out]; omega
                          obtain ⟨b2, o2, e2, _, hc2⟩ := hT.2 (by omega)
                          injection e2 with e2
                          injection e2 with e3 e4
                          subst e3 e4
                          refine (Tryz.slices_Clone_string b (o + 1) nv (c - 1) (r.take nv) W (by omega) (by omega) (fun j hj => hc2 j _ (by
                            simp only [sCells, List.getElem?_map, List.getElem?_eq_getElem hj, Option.map_some, List.getD_eq_getElem?_getD, Option.getD_some]))).mono ?_
                          rintro e w' ⟨v', rfl, ho, _, hn⟩
                          have e5 : ((r.take nv).take nv).map Value.string = sCells (r.take nv) := by rw [List.take_take, Nat.min_self]; rfl
                          rw [e5] at ho
                          obtain ⟨A9, c9, rfl, h1, h2, h3, h4⟩ := own_lines ho
                          refine ⟨A9, c9, rfl, h1, fun y hy => ?_, hn⟩
                          rw [List.mem_singleton] at hy
                          subst hy
                          exact ⟨by simp only; omega, by simp only; rw [hlt]; exact h3, fun h0 => h4 (by omega)⟩)
                        have tl : ¬ (rl : Int) < (nv : Int) := by omega
                        have tl2 : (nv : Int) ≤ (rl : Int) := by omega
                        have tl3 : (nv : Int) ≤ ((c - 1 : Nat) : Int) := by omega
                        have tl4 : (0 : Int) ≤ (nv : Int) := by omega
                        have tl5 : (nv : Int).toNat = nv := by omega
                        obtain ⟨A2, hA2⟩ : ∃ A2, (if c - 1 = nv then (some ⟨b, o + 1, none⟩ : Option Addr) else some ⟨b, o + 1 + nv, none⟩) = A2 := ⟨_, rfl⟩
                        have HLD : Hid (∀ W, New wr W → LnOK W (rowH (r.drop nv) A2 (c - 1 - nv) :: hs)) := Lib.hid (fun W hN => by
                          have LC := (HLC.out W hN).cut nv (by rw [HRL.out]; omega)
                          simp only [Option.map_some] at LC
                          have hadd : (⟨b, o + 1, none⟩ : Addr).add nv = ⟨b, o + 1 + nv, none⟩ := add_none rfl nv
                          rw [hadd, hA2] at LC
                          exact LC)
                        have BH := Blk.made w4 55 #[.int .i64 0, .int .i64 (nv : Int), .slice none 0 0]
                        go_wp2_with (fail)
                        go_region_held3 (fun _ => True) (trivial) ((go_at_call 44; (with_reducible refine (HCL.out _ ((n3.trans n4).trans nA).drew).mono ?_); rintro e w9 ⟨A9, c9, rfl, hc9, HL9, n9⟩; have BH9 := BH.drew.new n9; have h90 := BH9.cell' 0 _ rfl; have h91 := BH9.cell' 1 _ rfl; have h92 := BH9.cell' 2 _ rfl; have z90 := BH9.free 0; have z91 := BH9.free 1; have z92 := BH9.free 2))
                        have nW : New w4 ((w9.setCell ⟨w4.heap.size, 0, none⟩ (.int .i64 3)).setCell ⟨w4.heap.size, 2, none⟩ (.slice A9 nv c9)) := ((nA.drew.trans n9).setCell (p := ⟨w4.heap.size, 0, none⟩) (Nat.le_refl _) _).setCell (p := ⟨w4.heap.size, 2, none⟩) (Nat.le_refl _) _
                        have PB0 := HPX.out.new ((n3.trans n4).trans nW)
                        have LD0 := HLD.out _ ((n3.trans n4).trans nW)
                        have BH2 : Blk ((w9.setCell ⟨w4.heap.size, 0, none⟩ (.int .i64 3)).setCell ⟨w4.heap.size, 2, none⟩ (.slice A9 nv c9)) w4.heap.size 55 #[.int .i64 3, .int .i64 (nv : Int), .slice A9 nv c9] := ((BH9.put 0 (.int .i64 3)).put 2 (.slice A9 nv c9)).same (by simp)
                        have HK2 := (HL9.keep (grown_set w9 w4.heap.size 0 (.int .i64 3)) (fun q e => by injection e with e; subst e; exact ⟨_, 55, _, BH9, by decide⟩)).keep (grown_set (w9.setCell ⟨w4.heap.size, 0, none⟩ (.int .i64 3)) w4.heap.size 2 (.slice A9 nv c9)) (fun q e => by injection e with e; subst e; exact ⟨_, 55, _, BH9.put 0 (.int .i64 3), by decide⟩)
                        generalize (w9.setCell ⟨w4.heap.size, 0, none⟩ (.int .i64 3)).setCell ⟨w4.heap.size, 2, none⟩ (.slice A9 nv c9) = W2 at *
                        have c60 := PB0.b6.cell' 0 _ rfl
                        have c61 := PB0.b6.cell' 1 _ rfl
                        have h20 := BH2.cell' 0 _ rfl
                        have h21 := BH2.cell' 1 _ rfl
                        have h22 := BH2.cell' 2 _ rfl
                        have hown := PB0.own
                        have hzw := PB0.nw.size
                        obtain ⟨j0, hinf, hz0, hz1, hz2⟩ := info_parts Tryz.info55'
                        obtain ⟨AV, cV, rfl, _, _, _⟩ := own_form hown
                        have HOW := Lib.hid hown
                        have HPB := Lib.hid PB0
                        have hml : hs.length + (rl + 1) ≤ 1024 := hll
                        have HRD : Hid ((r.drop nv).length = rl - nv) := Lib.hid (by rw [List.length_drop, HRL.out])
                        have HRT : Hid ((r.take nv).length = nv) := Lib.hid (by rw [List.length_take, HRL.out]; omega)
                        generalize hhl : hs.length = hl at *
                        have HHL := Lib.hid hhl
                        clear hown PB0 PA PX hhl BH2 nW nA BH BH9 h90 h91 h92 z90 z91 z92 HL9 n9
                        go_wp2_with (at_builtin; refine wpList_append_own _ rfl _ _ 22 rfl w.heap.size 55 j0 (.agg #[.int .i64 0, .int .i64 0, .slice none 0 0]) 3 40 Tryz.underlying22 hinf hz0 hz1 hz2 rfl (by decide) _ hl _ rfl (HOW.out.alloc _) ⟨W2.heap.size, 0, none⟩ 1 1 [.int .i64 3, .int .i64 (nv : Int), .slice A9 nv c9] rfl rfl ?c1 ?c2 ?c3 ?c4 ?c5 ?_)
                        case c1 => exact World.news_of_block (cs := #[.int .i64 3, .int .i64 (nv : Int), .slice A9 nv c9]) (t := 55) (fr := (0, 0)) (heap_alloc_new W2 (.cells #[.int .i64 3, .int .i64 (nv : Int), .slice A9 nv c9] 55))
                        case c2 => simp [Value.oneCell']
                        case c3 => simp [maxLen]; omega
                        case c4 => omega
                        case c5 => simp; omega
                        intro v' w5 own5 hg5 _
                        obtain ⟨A5, c5, rfl, _, _, _⟩ := own_form own5
                        have nB : New W2 (W2.alloc (.cells #[.int .i64 3, .int .i64 (nv : Int), .slice A9 nv c9] 55)) := (New.refl W2).alloc _
                        have PB := HPB.out.new nB
                        have LB := LD0.new nB
                        have HKB := HK2.new nB
                        have B65 := PB.b6.grown hg5 (fun e => (ne_kind (cs := []) PB.own PB.b6 (by decide)) e.symm)
                        have d61 := B65.cell' 1 _ rfl
                        have f61 := B65.free 1
                        have e3 : hmC ⟨3, nv, r.take nv, A9, c9⟩ = [.int .i64 3, .int .i64 (nv : Int), .slice A9 nv c9] := by simp only [hmC, HRT.out]
                        have PN := Lib.hid (PB.app ⟨3, nv, r.take nv, A9, c9⟩ LB HKB (by rw [e3]; exact HHL.out ▸ own5) hg5 (by rw [List.map_append]; exact HPX.out.inv.add HF.out (by rw [HRL.out]; omega)) (fun s h => HSZ.out s (List.mem_of_mem_drop h)) (by rw [HHL.out, HRD.out]; omega) (fun s h => HSZ.out s (List.mem_of_mem_take h)) (by simp only [HRT.out]; omega))
                        clear PB own5 hg5 e3 LB HKB LD0 HK2 nB
                        go_wp2
                        go_roundw
                        case rel => exact ⟨r.drop nv, A2, c - 1 - nv, .slice A5 (hl + 1) c5, _, by rw [HRD.out], HHL.out ▸ PN.out⟩
                        case measure => exact (show rl - nv < rl + 1 by omega)
                    · have t3 : ((⟨word.toArray⟩ : ByteArray).toList == [97, 100, 100]) = false := by rw [HTL.out]; simpa [wordN] using hw3
                      have s3 : (word == [97, 100, 100]) = false := by simpa [wordN] using hw3
                      have r3 : ¬ word = [97, 100, 100] := hw3
                      have HF : Hid (Fits x 0 nv) := Lib.hid (fun k' n' h => by rw [no_word HCT.out hw1 hw2 hw3] at h; cases h)
                      clear hw1 hw2 hw3
                      go_wp2_with (fail)
                      with_reducible refine HCU2.out.mono ?_
                      rintro e w3 ⟨rfl, n3⟩
                      go_wp2_with (fail)
                      with_reducible refine (HA.out _).mono ?_
                      rintro e w4 ⟨rfl, n4⟩
                      have PX := HPX.out.new (n3.trans n4)
                      have nA := (New.refl w4).alloc (.cells #[.int .i64 0, .int .i64 (nv : Int), .slice none 0 0] 55)
                      have PA := PX.new nA
                      have c60 := PA.b6.cell' 0 _ rfl
                      have c61 := PA.b6.cell' 1 _ rfl
                      have hown := PX.own
                      have hzw := PX.nw.size
                      obtain ⟨j0, hinf, hz0, hz1, hz2⟩ := info_parts Tryz.info55'
                      obtain ⟨AV, cV, rfl, _, _, _⟩ := own_form hown
                      have HOW := Lib.hid hown
                      have HPA := Lib.hid PA
                      have hml : hs.length + (rl + 1) ≤ 1024 := hll
                      generalize hhl : hs.length = hl at *
                      have HHL := Lib.hid hhl
                      clear hown PX PA hhl
                      go_wp2_with (at_builtin; refine wpList_append_own _ rfl _ _ 22 rfl w.heap.size 55 j0 (.agg #[.int .i64 0, .int .i64 0, .slice none 0 0]) 3 40 Tryz.underlying22 hinf hz0 hz1 hz2 rfl (by decide) _ hl _ rfl ((HOW.out.alloc _).alloc _) ⟨w4.heap.size + 1, 0, none⟩ 1 1 [.int .i64 0, .int .i64 (nv : Int), .slice none 0 0] rfl rfl ?c1 ?c2 ?c3 ?c4 ?c5 ?_)
                      case c1 =>
                        have := World.news_of_block (cs := #[.int .i64 0, .int .i64 (nv : Int), .slice none 0 0]) (t := 55) (fr := (0, 0)) (heap_alloc_new (w4.alloc (.cells #[.int .i64 0, .int .i64 (nv : Int), .slice none 0 0] 55)) (.cells #[.int .i64 0, .int .i64 (nv : Int), .slice none 0 0] 55))
                        rw [World.size_alloc] at this
                        exact this
                      case c2 => simp [Value.oneCell']
                      case c3 => simp [maxLen]; omega
                      case c4 => omega
                      case c5 => simp; omega
                      intro v' w5 own5 hg5 _
                      obtain ⟨A9, c9, rfl, _, _, _⟩ := own_form own5
                      have PB := HPA.out.new ((New.refl _).alloc (.cells #[.int .i64 0, .int .i64 (nv : Int), .slice none 0 0] 55))
                      have hnB : New wr _ := (n3.trans n4).trans (nA.alloc (.cells #[.int .i64 0, .int .i64 (nv : Int), .slice none 0 0] 55))
                      have LB := HLC.out _ hnB
                      have B65 := PB.b6.grown hg5 (fun e => (ne_kind (cs := []) PB.own PB.b6 (by decide)) e.symm)
                      have d61 := B65.cell' 1 _ rfl
                      have f61 := B65.free 1
                      have PN := Lib.hid (PB.app ⟨0, nv, [], none, 0⟩ LB (ln_none _ _ _) (HHL.out ▸ own5) hg5 (by rw [List.map_append]; exact HPX.out.inv.one HF.out (show (0 : Int) ≠ 3 by decide)) HSZ.out (by rw [HHL.out, HRL.out]; omega) (fun s h => (by cases h)) (by simp))
                      clear PB own5 hg5
                      go_wp2
                      go_roundw
                      case rel => exact ⟨r, A', c - 1, .slice A9 (hl + 1) c9, _, by rw [HRL.out], HHL.out ▸ PN.out⟩
                      case measure => exact Nat.lt_succ_self _
          · have HA := Lib.hid (fun W (hN : Env W) => atoi_bad ⟨cnt.toArray⟩ W hcz2 hN (fun v h => hok ⟨v, h⟩))
            have HN := Lib.hid (HNO.out (HPVV.out.trans (fin_none (HPX.out.inv.none_ (no_num HCT.out (fun v' h => absurd ⟨v', h⟩ hok))))))
            clear hok
            go_wp2_with (first | (go_at_call 43; (with_reducible refine (HA.out _ (HE.out.new (HPX.out.nw.trans n3))).mono ?_); rintro e w4 ⟨⟨en, eN, rfl⟩, n4⟩; have PX := HPX.out.new (n3.trans n4); have d20 := PX.b2.cell' 0 _ rfl; have d21 := PX.b2.cell' 1 _ rfl; have e20 := PX.b2.free 0; have e21 := PX.b2.free 1) | (go_at_call 42; (with_reducible refine HCU2.out.mono ?_); rintro e w3 ⟨rfl, n3⟩))
            rw [Exit.noGoto_ret]
            have BE := put2 PX.b2 (.string ⟨#[]⟩) (.slice none 0 0)
            have e0 := BE.cell' 0 _ rfl
            have e1 := BE.cell' 1 _ rfl
            have nn := (PX.nw.setCell (p := ⟨w.heap.size, 0, none⟩) (Nat.le_refl _) (.string ⟨#[]⟩)).setCell (p := ⟨w.heap.size, 1, none⟩) (Nat.le_refl _) (.slice none 0 0)
            exact bodyPost_ret (v := .tuple #[.agg #[.string ⟨#[]⟩, .slice none 0 0], .int .i64 4]) (by simp [results, Tryz.results17, go_sem, e0, e1]) rfl (HN.out _ _ rfl nn)
  · have hp : parseV text = none := by rw [parseV, if_neg hl]
    have HB := Lib.hid (lines_bad text (w.alloc (.cells #[.string ⟨#[]⟩, .slice none 0 0] 24)) (by omega) (hE.new n0) hl)
    have HN := Lib.hid (fun w' e he hn => par_no (text := text) (w := w) (w' := w') (e := e) (x := 10) hp (by rw [if_neg hl]) he hn)
    clear hl hp
    go_enter Tryz.func17, Tryz.ntmps17
    go_wp2
    go_step3
    go_wp2_with (go_at_call 39; (with_reducible refine HB.out.mono ?_); rintro e w' ⟨rfl, rfl⟩)
    rw [Exit.noGoto_ret]
    exact bodyPost_ret (v := .tuple #[.agg #[.string ⟨#[]⟩, .slice none 0 0], .int .i64 10]) (by simp [results, Tryz.results17, go_sem]) rfl (HN.out _ _ rfl n0)
end Go.Proofs.YtfeknjpinboknaaGreatDoor

