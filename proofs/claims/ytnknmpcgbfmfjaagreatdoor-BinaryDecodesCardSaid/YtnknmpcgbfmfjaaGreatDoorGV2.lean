/- binary.Encode. Conditions: sizes. (Printed by mk-v2.py.) -/
import Derived.Test.YtnknmpcgbfmfjaaGreatDoorGV1
import Derived.Test.YtnknmpcgbfmfjaaGreatDoorGD
import Derived.Laws.EntriesVeiled

namespace Go.Proofs.YtnknmpcgbfmfjaaGreatDoor
open Go Go.RowKit Go.Joins
set_option linter.unusedSimpArgs false
set_option linter.unusedVariables false

def plE (p : PlD) : List UInt8 := [p.obj, p.sym].flatMap txtB ++ [p.kind, p.pos, p.size].flatMap numB
def imE (x : ImD) : List UInt8 := [x.lib, x.sym].flatMap txtB ++ [x.pos].flatMap numB
def exE (x : ExD) : List UInt8 := [x.sym].flatMap txtB ++ [x.pos].flatMap numB
def ntE (x : NtD) : List UInt8 := [x.name, x.text].flatMap txtB
def headE (b : Bn) : List UInt8 := ((([] ++ [(⟨#[98, 105, 110, 97, 114, 121]⟩ : ByteArray)].flatMap txtB) ++ [b.kind, b.entry + 1].flatMap numB) ++ [b.image].flatMap txtB) ++ [(b.places.length : Int)].flatMap numB
def encL (b : Bn) : List UInt8 :=
  ((((((((headE b ++ b.places.flatMap plE) ++ [(b.fix.length : Int)].flatMap numB) ++ b.fix.flatMap numB) ++ [(b.imps.length : Int)].flatMap numB) ++ b.imps.flatMap imE) ++ [(b.exps.length : Int)].flatMap numB) ++ b.exps.flatMap exE) ++ [(b.notes.length : Int)].flatMap numB) ++ b.notes.flatMap ntE
def encV (b : Bn) : List UInt8 × Int := if checkV b = true then (if (encL b).length ≤ 65536 then (encL b, 0) else ([], 10)) else ([], 1)
def SzX (l : List ExD) : Prop := ∀ x ∈ l, x.sym.size ≤ 1000000 ∧ W64 x.pos

theorem plE_len (p : PlD) : (plE p).length ≤ 200000 := by
  unfold plE
  have h1 := flat_len txtB 65559 txtB_len [p.obj, p.sym]
  have h2 := flat_len numB 22 numB_len [p.kind, p.pos, p.size]
  simp only [List.length_append, List.length_cons, List.length_nil] at *; omega
theorem imE_len (p : ImD) : (imE p).length ≤ 200000 := by
  unfold imE
  have h1 := flat_len txtB 65559 txtB_len [p.lib, p.sym]
  have h2 := flat_len numB 22 numB_len [p.pos]
  simp only [List.length_append, List.length_cons, List.length_nil] at *; omega
theorem exE_len (p : ExD) : (exE p).length ≤ 200000 := by
  unfold exE
  have h1 := flat_len txtB 65559 txtB_len [p.sym]
  have h2 := flat_len numB 22 numB_len [p.pos]
  simp only [List.length_append, List.length_cons, List.length_nil] at *; omega
theorem ntE_len (p : NtD) : (ntE p).length ≤ 200000 := by
  unfold ntE
  have h1 := flat_len txtB 65559 txtB_len [p.name, p.text]
  simp only [List.length_append, List.length_cons, List.length_nil] at *; omega
structure ES (w w1 : World) (bb gw gb : Nat) (C : Array Value) (out : List UInt8) (W : World) : Prop where
  is_ : IsB bb bb out W
  bel : Below bb w1 W
  new : New w W
  blk : Blk W gb 28 C
  wr : Blk W gw 97 #[.func (.func 37) #[] #[.pointer (some ⟨bb, 0, none⟩)], .func (.func 40) #[] #[.pointer (some ⟨bb, 0, none⟩)]]
  sz : bb ≤ W.heap.size
  lo : gb < bb
  lw : gw ≠ bb
theorem placed_kinds {img : ByteArray} : ∀ {l : List PlD} {e z : Nat} {seen : List (ByteArray × ByteArray)}, placedGo img l e seen = some z → ∀ p ∈ l, W64 p.kind
  | [], e, z, seen, h, p, hp => by cases hp
  | q :: r, e, z, seen, h, p, hp => by
    rw [placedGo] at h
    split at h
    · rename_i hc
      obtain ⟨_, hc⟩ := hc
      rcases List.mem_cons.1 hp with rfl | hp
      · unfold placeOK at hc
        simp only [Bool.and_eq_true] at hc
        have hk := hc.1.1.1.1.2
        unfold kindOK at hk
        simp only [Bool.or_eq_true, Bool.and_eq_true, beq_iff_eq, decide_eq_true_eq] at hk
        unfold W64
        omega
      · exact placed_kinds h p hp
    · cases h
theorem placedV_kinds {b : Bn} (h : placedV b = true) : ∀ p ∈ b.places, W64 p.kind := by
  unfold placedV at h
  simp only [Bool.and_eq_true, decide_eq_true_eq] at h
  exact placed_kinds h.2
section
variable {w w1 W W' : World} {bb gw gb : Nat} {C : Array Value} {out out' : List UInt8}
theorem ES.step (s : ES w w1 bb gw gb C out W) (hn : New W W') {W2 : World} (h : WrB bb bb out' W' W2) (hw : w.heap.size ≤ bb) : ES w w1 bb gw gb C out' W2 :=
  have h2 := s.sz
  ⟨h.at_, Below.trans (Below.trans s.bel (hn.mono h2)) h.below, Below.trans (New.trans s.new hn) (h.below.mono hw), (s.blk.new hn).below h.below s.lo, (s.wr.new hn).keptB h.kept s.lw (by decide), by have := h.below.size; have := hn.size; omega, s.lo, s.lw⟩
theorem ES.later (s : ES w w1 bb gw gb C out W) (hn : New W W') : ES w w1 bb gw gb C out W' :=
  have h2 := s.sz
  ⟨s.is_.new hn, Below.trans s.bel (hn.mono h2), New.trans s.new hn, s.blk.new hn, s.wr.new hn, by have := hn.size; omega, s.lo, s.lw⟩
theorem rd_kept {b : Nat} {W w' : World} {g : Nat} {t : TypeId} {cs : List Value} {m : Nat} (h : Blk W g t cs.toArray) (ht : t ≠ 5) (hg : g ≠ b) (hm : cs.length = m) (hk : Lib.OthersKept 5 (some b) W w') : Rd w' 1 (some ⟨g, 0, none⟩) m cs := by
  have hb := h.keptB hk hg ht
  refine ⟨by omega, fun _ => ⟨g, 0, rfl, hb.lt, fun j u hu => ?_⟩⟩
  rw [Nat.zero_add]
  exact hb.cell' j u (by rw [List.getElem?_toArray]; exact hu)
theorem fx_map : ∀ l : List Int, l.flatMap fxC = l.map (Value.int .i64)
  | [] => rfl
  | a :: r => by rw [List.flatMap_cons, fx_map r]; rfl
theorem es_num (s : ES w w1 bb gw gb C out W) (hw : w.heap.size ≤ bb) (hE : Env w) (zs : List Int) (m : Nat) (hm : zs.length = m) (hm2 : m ≤ 10) (cs : Array Value) (hcs : (zs.map (Value.int .i64)).toArray = cs) (hl : out.length ≤ 10000000000000) (hz : ∀ z ∈ zs, W64 z) :
    Calls Tryz.prog 37 #[.slice (some ⟨W.heap.size, 0, none⟩) m m, .pointer (some ⟨bb, 0, none⟩)] (W.alloc (.cells cs 3)) fun e w' => e = .returned (.tuple #[]) ∧ ES w w1 bb gw gb C (out ++ zs.flatMap numB) w' ∧ Lib.OthersKept 5 (some bb) W w' := by
  subst hcs
  have hn := (New.refl W).alloc (.cells (zs.map (Value.int .i64)).toArray 3)
  have hs := s.sz
  have hf := fx_map zs
  exact (wnum_any bb bb out zs (some ⟨W.heap.size, 0, none⟩) m m _ (s.is_.new hn) (by simp; omega) hm (by omega) (by omega)
    (fun w' h1 h2 => by rw [hf]; exact rd_kept (Blk.made W 3 _) (by decide) (by have := s.is_.lt; omega) (by simpa using hm) h2)
    (fun w' h1 => hE.new (Below.trans (New.trans s.new hn) (h1.mono hw))) hz).mono fun e w' ⟨he, h⟩ => ⟨he, s.step hn h hw, (others_new bb hn).trans h.kept⟩
theorem es_txt (s : ES w w1 bb gw gb C out W) (hw : w.heap.size ≤ bb) (hE : Env w) (zs : List ByteArray) (m : Nat) (hm : zs.length = m) (hm2 : m ≤ 10) (cs : Array Value) (hcs : (zs.map Value.string).toArray = cs) (hl : out.length ≤ 10000000000000) (hz : ∀ z ∈ zs, z.size ≤ 1000000) :
    Calls Tryz.prog 40 #[.slice (some ⟨W.heap.size, 0, none⟩) m m, .pointer (some ⟨bb, 0, none⟩)] (W.alloc (.cells cs 9)) fun e w' => e = .returned (.tuple #[]) ∧ ES w w1 bb gw gb C (out ++ zs.flatMap txtB) w' ∧ Lib.OthersKept 5 (some bb) W w' := by
  subst hcs
  have hn := (New.refl W).alloc (.cells (zs.map Value.string).toArray 9)
  have hs := s.sz
  exact (wtxt_any bb bb out zs (some ⟨W.heap.size, 0, none⟩) m m _ (s.is_.new hn) (by simp; omega) hm (by omega) (by omega)
    (fun w' h1 h2 => rd_kept (Blk.made W 9 _) (by decide) (by have := s.is_.lt; omega) (by simpa using hm) h2)
    (fun w' h1 => hE.new (Below.trans (New.trans s.new hn) (h1.mono hw))) hz).mono fun e w' ⟨he, h⟩ => ⟨he, s.step hn h hw, (others_new bb hn).trans h.kept⟩
theorem es_fix (s : ES w w1 bb gw gb C out W) (hw : w.heap.size ≤ bb) (hE : Env w) (zs : List Int) (A : Option Addr) (n c : Nat) (hm : zs.length = n) (hn : n ≤ 1000000) (hr : Rd w 1 A n (zs.flatMap fxC)) (hl : out.length ≤ 10000000000000) (hz : ∀ z ∈ zs, W64 z) :
    Calls Tryz.prog 37 #[.slice A n c, .pointer (some ⟨bb, 0, none⟩)] W fun e w' => e = .returned (.tuple #[]) ∧ ES w w1 bb gw gb C (out ++ zs.flatMap numB) w' :=
  (wnum_any bb bb out zs A n c W s.is_ s.sz hm hn (by omega)
    (fun w' h1 h2 => hr.below (Below.trans s.new (h1.mono hw)))
    (fun w' h1 => hE.new (Below.trans s.new (h1.mono hw))) hz).mono fun e w' ⟨he, h⟩ => ⟨he, s.step (New.refl W) h hw⟩
end
theorem check_nums {b : Bn} (h : checkV b = true) : 0 ≤ b.kind ∧ b.kind ≤ 2 ∧ (-1 ≤ b.entry ∧ b.entry ≤ 0) ∧ ∀ p ∈ b.places, W64 p.kind ∧ W64 p.pos ∧ W64 p.size := by
  have hp := (check_words h).1
  have hw := (placed_ok hp).wf
  have hk := placedV_kinds hp
  unfold checkV at h
  simp only [Bool.and_eq_true, Bool.or_eq_true, decide_eq_true_eq] at h
  obtain ⟨_, h⟩ := h
  refine ⟨?_, ?_, ?_, fun p hp => ⟨hk p hp, hw p hp⟩⟩ <;> omega
set_option maxRecDepth 100000 in
set_option maxHeartbeats 8000000 in
theorem encode_any (b : Bn) (h : BH) (w : World) (hr : BRd w b h) (hz : SzB b) (hx : SzX b.exps) (hE : Env w) :
    Calls Tryz.prog 12 #[.agg (bcells b h)] w fun e w' => e = .returned (.tuple #[.string (S (encV b).1), .int .i64 (encV b).2]) ∧ New w w' := by
  have HC := Lib.hid (fun W (hn : New w W) => check_any b h W (hr.new hn) hz (hE.new hn))
  have hce : chkE b = if checkV b = true then 0 else 1 := rfl
  rw [hce] at HC
  obtain ⟨X, hX⟩ : ∃ X, encV b = X := ⟨_, rfl⟩
  have HX : Hid (X = if checkV b = true then (if (encL b).length ≤ 65536 then (encL b, 0) else ([], 10)) else ([], 1)) := Lib.hid hX.symm
  have BX := Blk.made w 28 (bcells b h)
  have hnX := (New.refl w).alloc (.cells (bcells b h) 28)
  rw [hX]
  have HWF := Lib.hid (fun hc : checkV b = true => check_nums hc)
  have HR1 := Lib.hid hr.r1
  have HR2 := Lib.hid hr.r2
  have HR3 := Lib.hid hr.r3
  have HR4 := Lib.hid hr.r4
  have HR5 := Lib.hid hr.r5
  have HZP := Lib.hid hz.pl
  have HZN := Lib.hid hz.nt
  have HZI := Lib.hid hz.im
  have HZF := Lib.hid hz.fx
  have HZX := Lib.hid hx
  have hz1 := hz.l1
  have hz2 := hz.l2
  have hz3 := hz.l3
  have hz4 := hz.l4
  have hz5 := hz.l5
  have himg := hz.img
  have HE := Lib.hid hE
  have HEL : Hid (encL b = ((((((((headE b ++ b.places.flatMap plE) ++ [(b.fix.length : Int)].flatMap numB) ++ b.fix.flatMap numB) ++ [(b.imps.length : Int)].flatMap numB) ++ b.imps.flatMap imE) ++ [(b.exps.length : Int)].flatMap numB) ++ b.exps.flatMap exE) ++ [(b.notes.length : Int)].flatMap numB) ++ b.notes.flatMap ntE) := Lib.hid rfl
  have HHD : Hid (headE b = ((([] ++ [(⟨#[98, 105, 110, 97, 114, 121]⟩ : ByteArray)].flatMap txtB) ++ [b.kind, b.entry + 1].flatMap numB) ++ [b.image].flatMap txtB) ++ [(b.places.length : Int)].flatMap numB) := Lib.hid rfl
  obtain ⟨cv, hcv⟩ : ∃ v, checkV b = v := ⟨_, rfl⟩
  obtain ⟨EL, hEL⟩ : ∃ v, encL b = v := ⟨_, rfl⟩
  rw [hcv] at HX HC HWF
  rw [hEL] at HX HEL
  clear hce hX hcv hEL hr hz hx hE
  obtain ⟨kind, entry, image, places, fix, imps, exps, notes⟩ := b
  obtain ⟨a1, c1, a2, c2, a3, c3, a4, c4, a5, c5⟩ := h
  simp only [bcells] at BX hnX HC HX HWF HR1 HR2 HR3 HR4 HR5 HZP HZN HZI HZF HZX hz1 hz2 hz3 hz4 hz5 himg HEL HHD ⊢
  obtain ⟨n1, hn1⟩ : ∃ n, places.length = n := ⟨_, rfl⟩
  obtain ⟨n2, hn2⟩ : ∃ n, fix.length = n := ⟨_, rfl⟩
  obtain ⟨n3, hn3⟩ : ∃ n, imps.length = n := ⟨_, rfl⟩
  obtain ⟨n4, hn4⟩ : ∃ n, exps.length = n := ⟨_, rfl⟩
  obtain ⟨n5, hn5⟩ : ∃ n, notes.length = n := ⟨_, rfl⟩
  have HL1 := Lib.hid hn1
  have HL2 := Lib.hid hn2
  have HL3 := Lib.hid hn3
  have HL4 := Lib.hid hn4
  have HL5 := Lib.hid hn5
  rw [hn1, hn2, hn3, hn4, hn5] at BX hnX HC ⊢
  rw [hn2, hn3, hn4, hn5] at HEL
  rw [hn1] at HHD HR1 hz1
  rw [hn2] at HR2 hz2
  rw [hn3] at HR3 hz3
  rw [hn4] at HR4 hz4
  rw [hn5] at HR5 hz5
  clear hn1 hn2 hn3 hn4 hn5
  cases cv
  · have hx : X = ([], 1) := HX.out
    subst hx
    go_enter Tryz.func12, Tryz.ntmps12
    go_wp2_with (go_at_call 14; (with_reducible refine (HC.out _ hnX).mono ?_); rintro e w1 ⟨rfl, k1⟩)
    exact bodyPost_ret (v := .tuple #[.string (S []), .int .i64 1]) (by simp [results, Tryz.results12, go_sem, S]) rfl ⟨rfl, hnX.trans k1⟩
  · have HX2 : Hid (X = if EL.length ≤ 65536 then (EL, 0) else ([], 10)) := Lib.hid HX.out
    obtain ⟨hk1, hk2, hk3, hk4⟩ := HWF.out rfl
    have HWP := Lib.hid hk4
    clear HX HWF hk4
    go_enter Tryz.func12, Tryz.ntmps12
    go_wp2_with (go_at_call 14; (with_reducible refine (HC.out _ hnX).mono ?_); rintro e w1 ⟨rfl, k1⟩)
    have hwB : w.heap.size ≤ w1.heap.size := by have := (hnX.trans k1).size; exact this
    have S0 : ES w w1 w1.heap.size (w1.heap.size + 1) w.heap.size #[.int .i64 kind, .int .i64 entry, .string image, .slice a1 n1 c1, .slice a2 n2 c2, .slice a3 n3 c3, .slice a4 n4 c4, .slice a5 n5 c5] [] ((w1.alloc (.cells #[.pointer none, .slice none 0 0] 87)).alloc (.cells #[.func (.func 37) #[] #[.pointer (some ⟨w1.heap.size, 0, none⟩)], .func (.func 40) #[] #[.pointer (some ⟨w1.heap.size, 0, none⟩)]] 97)) := by
      have nn : New w1 ((w1.alloc (.cells #[.pointer none, .slice none 0 0] 87)).alloc (.cells #[.func (.func 37) #[] #[.pointer (some ⟨w1.heap.size, 0, none⟩)], .func (.func 40) #[] #[.pointer (some ⟨w1.heap.size, 0, none⟩)]] 97)) := ((New.refl w1).alloc _).alloc _
      refine ⟨(IsB.fresh w1 (Nat.le_refl _)).alloc _, nn, New.trans (hnX.trans k1) nn, (BX.new k1).new nn, ?_, by simp only [World.size_alloc]; omega, (BX.new k1).lt, by omega⟩
      have q := Blk.made (w1.alloc (.cells #[.pointer none, .slice none 0 0] 87)) 97 #[.func (.func 37) #[] #[.pointer (some ⟨w1.heap.size, 0, none⟩)], .func (.func 40) #[] #[.pointer (some ⟨w1.heap.size, 0, none⟩)]]
      rwa [World.size_alloc] at q
    obtain ⟨o0, ho0⟩ : ∃ o : List UInt8, [] = o := ⟨_, rfl⟩
    have hl_o0 : o0.length ≤ 0 := by rw [← ho0]; exact Nat.le_refl _
    rw [ho0] at S0
    have HO_o0 := Lib.hid ho0
    clear ho0
    have cc := es_txt S0 hwB HE.out ([(⟨#[98, 105, 110, 97, 114, 121]⟩ : ByteArray)] : List ByteArray) 1 rfl (by omega) #[.string (⟨#[98, 105, 110, 97, 114, 121]⟩ : ByteArray)] rfl (by omega) (by intro z hz; rw [List.mem_singleton] at hz; subst hz; decide)
    simp only [World.size_alloc] at cc
    with_reducible refine cc.mono ?_
    rintro e w2 ⟨rfl, S1, hk_o1⟩
    clear cc
    obtain ⟨o1, ho_o1⟩ : ∃ o, o0 ++ ([(⟨#[98, 105, 110, 97, 114, 121]⟩ : ByteArray)] : List ByteArray).flatMap txtB = o := ⟨_, rfl⟩
    have hl_o1 : o1.length ≤ 65559 := by rw [← ho_o1, List.length_append]; have := flat_len txtB 65559 txtB_len ([(⟨#[98, 105, 110, 97, 114, 121]⟩ : ByteArray)] : List ByteArray); simp only [List.length_cons, List.length_nil] at this; omega
    rw [ho_o1] at S1
    have HO_o1 := Lib.hid ho_o1
    clear ho_o1
    have pf0 := S1.wr.cell' 0 _ rfl
    have pf1 := S1.wr.cell' 1 _ rfl
    have pg0 := S1.blk.cell' 0 _ rfl
    have pg1 := S1.blk.cell' 1 _ rfl
    have pg2 := S1.blk.cell' 2 _ rfl
    have pg3 := S1.blk.cell' 3 _ rfl
    have pg4 := S1.blk.cell' 4 _ rfl
    have pg5 := S1.blk.cell' 5 _ rfl
    have pg6 := S1.blk.cell' 6 _ rfl
    have pg7 := S1.blk.cell' 7 _ rfl
    go_wp2_with (fail)
    have cc := es_num S1 hwB HE.out ([kind, entry + 1] : List Int) 2 rfl (by omega) #[.int .i64 kind, .int .i64 (entry + 1)] rfl (by omega) (by intro z hz; simp only [List.mem_cons, List.not_mem_nil, or_false] at hz; unfold W64; rcases hz with rfl | rfl <;> omega)
    with_reducible refine cc.mono ?_
    rintro e w3 ⟨rfl, S2, hk_o2⟩
    clear cc
    clear pf0 pf1 pg0 pg1 pg2 pg3 pg4 pg5 pg6 pg7
    obtain ⟨o2, ho_o2⟩ : ∃ o, o1 ++ ([kind, entry + 1] : List Int).flatMap numB = o := ⟨_, rfl⟩
    have hl_o2 : o2.length ≤ 70000 := by rw [← ho_o2, List.length_append]; have := flat_len numB 22 numB_len ([kind, entry + 1] : List Int); simp only [List.length_cons, List.length_nil] at this; omega
    rw [ho_o2] at S2
    have HO_o2 := Lib.hid ho_o2
    clear ho_o2
    have qf0 := S2.wr.cell' 0 _ rfl
    have qf1 := S2.wr.cell' 1 _ rfl
    have qg0 := S2.blk.cell' 0 _ rfl
    have qg1 := S2.blk.cell' 1 _ rfl
    have qg2 := S2.blk.cell' 2 _ rfl
    have qg3 := S2.blk.cell' 3 _ rfl
    have qg4 := S2.blk.cell' 4 _ rfl
    have qg5 := S2.blk.cell' 5 _ rfl
    have qg6 := S2.blk.cell' 6 _ rfl
    have qg7 := S2.blk.cell' 7 _ rfl
    go_wp2_with (fail)
    have cc := es_txt S2 hwB HE.out ([image] : List ByteArray) 1 rfl (by omega) #[.string image] rfl (by omega) (by intro z hz; rw [List.mem_singleton] at hz; subst hz; exact himg)
    with_reducible refine cc.mono ?_
    rintro e w4 ⟨rfl, S3, hk_o3⟩
    clear cc
    clear qf0 qf1 qg0 qg1 qg2 qg3 qg4 qg5 qg6 qg7
    obtain ⟨o3, ho_o3⟩ : ∃ o, o2 ++ ([image] : List ByteArray).flatMap txtB = o := ⟨_, rfl⟩
    have hl_o3 : o3.length ≤ 200000 := by rw [← ho_o3, List.length_append]; have := flat_len txtB 65559 txtB_len ([image] : List ByteArray); simp only [List.length_cons, List.length_nil] at this; omega
    rw [ho_o3] at S3
    have HO_o3 := Lib.hid ho_o3
    clear ho_o3
    have pf0 := S3.wr.cell' 0 _ rfl
    have pf1 := S3.wr.cell' 1 _ rfl
    have pg0 := S3.blk.cell' 0 _ rfl
    have pg1 := S3.blk.cell' 1 _ rfl
    have pg2 := S3.blk.cell' 2 _ rfl
    have pg3 := S3.blk.cell' 3 _ rfl
    have pg4 := S3.blk.cell' 4 _ rfl
    have pg5 := S3.blk.cell' 5 _ rfl
    have pg6 := S3.blk.cell' 6 _ rfl
    have pg7 := S3.blk.cell' 7 _ rfl
    go_wp2_with (fail)
    have cc := es_num S3 hwB HE.out ([(n1 : Int)] : List Int) 1 rfl (by omega) #[.int .i64 (n1 : Int)] rfl (by omega) (by intro z hz; rw [List.mem_singleton] at hz; subst hz; unfold W64; omega)
    with_reducible refine cc.mono ?_
    rintro e w5 ⟨rfl, S4, hk_o4⟩
    clear cc
    clear pf0 pf1 pg0 pg1 pg2 pg3 pg4 pg5 pg6 pg7
    obtain ⟨o4, ho_o4⟩ : ∃ o, o3 ++ ([(n1 : Int)] : List Int).flatMap numB = o := ⟨_, rfl⟩
    have hl_o4 : o4.length ≤ 300000 := by rw [← ho_o4, List.length_append]; have := flat_len numB 22 numB_len ([(n1 : Int)] : List Int); simp only [List.length_cons, List.length_nil] at this; omega
    rw [ho_o4] at S4
    have HO_o4 := Lib.hid ho_o4
    clear ho_o4
    have qf0 := S4.wr.cell' 0 _ rfl
    have qf1 := S4.wr.cell' 1 _ rfl
    have qg0 := S4.blk.cell' 0 _ rfl
    have qg1 := S4.blk.cell' 1 _ rfl
    have qg2 := S4.blk.cell' 2 _ rfl
    have qg3 := S4.blk.cell' 3 _ rfl
    have qg4 := S4.blk.cell' 4 _ rfl
    have qg5 := S4.blk.cell' 5 _ rfl
    have qg6 := S4.blk.cell' 6 _ rfl
    have qg7 := S4.blk.cell' 7 _ rfl
    go_wp2_with (fail)
    have HS9 : Hid (ES w w1 w1.heap.size (w1.heap.size + 1) w.heap.size #[.int .i64 kind, .int .i64 entry, .string image, .slice a1 n1 c1, .slice a2 n2 c2, .slice a3 n3 c3, .slice a4 n4 c4, .slice a5 n5 c5] (o4 ++ (places.take 0).flatMap plE) w5) := Lib.hid (by simpa using S4)
    clear S4
    clear qf0 qf1 qg0 qg1 qg2 qg3 qg4 qg5 qg6 qg7
    go_loopw [52] (fun v52 wr => ∃ i : Nat, v52 = .int .i64 i ∧ i ≤ n1 ∧ Hid (ES w w1 w1.heap.size (w1.heap.size + 1) w.heap.size #[.int .i64 kind, .int .i64 entry, .string image, .slice a1 n1 c1, .slice a2 n2 c2, .slice a3 n3 c3, .slice a4 n4 c4, .slice a5 n5 c5] (o4 ++ (places.take i).flatMap plE) wr)) (fun v52 _ => n1 - (intOf v52).toNat)
    case atStart => exact ⟨0, rfl, by omega, HS9⟩
    case round =>
      clear HS9
      obtain ⟨i, rfl, hi9, HS⟩ := hrel
      by_cases hlt : i < n1
      · obtain ⟨bk, o, rfl, hbk, x, hx, hcell⟩ := rd_row (f := plC) (k := 5) (fun _ => rfl) HL1.out (HR1.out.below HS.out.new) hlt
        have hzx := HZP.out x (List.mem_of_getElem? hx)
        have hzp := HWP.out x (List.mem_of_getElem? hx)
        have HT : Hid (places.take (i + 1) = places.take i ++ [x]) := Lib.hid (by
          obtain ⟨h1, h2⟩ := List.getElem?_eq_some_iff.1 hx
          rw [List.take_succ_eq_append_getElem h1, h2])
        obtain ⟨po, ps, pk, pa, pz⟩ := x
        have q0 := hcell 0 (.string po) (by omega) rfl
        have q1 := hcell 1 (.string ps) (by omega) rfl
        have q2 := hcell 2 (.int .i64 pk) (by omega) rfl
        have q3 := hcell 3 (.int .i64 pa) (by omega) rfl
        have q4 := hcell 4 (.int .i64 pz) (by omega) rfl
        simp only [Nat.add_zero] at q0
        rw [← Nat.add_assoc] at q1 q2 q3 q4
        simp only at hzx
        simp only at hzp
        have SA := HS.out.later ((New.refl wr).alloc (.cells #[.string po, .string ps, .int .i64 pk, .int .i64 pa, .int .i64 pz] 60))
        have BP := Blk.made wr 60 #[.string po, .string ps, .int .i64 pk, .int .i64 pa, .int .i64 pz]
        obtain ⟨r0, hr0⟩ : ∃ o, o4 ++ (places.take i).flatMap plE = o := ⟨_, rfl⟩
        rw [hr0] at SA
        have hl_r0 : r0.length ≤ 200000300000 := by
          rw [← hr0, List.length_append]
          have := flat_len plE 200000 plE_len (places.take i)
          rw [List.length_take] at this
          have h2 : min i places.length ≤ 1000000 := by omega
          have := Nat.mul_le_mul_right 200000 h2
          omega
        have HR0 := Lib.hid hr0
        clear hr0 hcell hx
        have i0 : (0 : Int) ≤ (i : Int) := by omega
        have i1 : (i : Int) < (n1 : Int) := by omega
        have sf0 := SA.wr.cell' 0 _ rfl
        have sf1 := SA.wr.cell' 1 _ rfl
        have sg0 := SA.blk.cell' 0 _ rfl
        have sg1 := SA.blk.cell' 1 _ rfl
        have sg2 := SA.blk.cell' 2 _ rfl
        have sg3 := SA.blk.cell' 3 _ rfl
        have sg4 := SA.blk.cell' 4 _ rfl
        have sg5 := SA.blk.cell' 5 _ rfl
        have sg6 := SA.blk.cell' 6 _ rfl
        have sg7 := SA.blk.cell' 7 _ rfl
        go_wp2_with (fail)
        have cc := es_txt SA hwB HE.out ([po, ps] : List ByteArray) 2 rfl (by omega) #[.string po, .string ps] rfl (by omega) (fun z hz => by simp only [List.mem_cons, List.not_mem_nil, or_false] at hz; rcases hz with rfl | rfl <;> first | exact hzx.1 | exact hzx.2)
        simp only [World.size_alloc] at cc
        with_reducible refine cc.mono ?_
        rintro e y0 ⟨rfl, R0, hk_r1⟩
        clear cc
        clear sf0 sf1 sg0 sg1 sg2 sg3 sg4 sg5 sg6 sg7
        have BP0 := BP.keptB hk_r1 (by have := HS.out.is_.lt; omega) (by decide)
        have b00 := BP0.cell' 0 _ rfl
        have b01 := BP0.cell' 1 _ rfl
        have b02 := BP0.cell' 2 _ rfl
        have b03 := BP0.cell' 3 _ rfl
        have b04 := BP0.cell' 4 _ rfl
        obtain ⟨r1, ho_r1⟩ : ∃ o, r0 ++ ([po, ps] : List ByteArray).flatMap txtB = o := ⟨_, rfl⟩
        have hl_r1 : r1.length ≤ 200000500000 := by rw [← ho_r1, List.length_append]; have := flat_len txtB 65559 txtB_len ([po, ps] : List ByteArray); simp only [List.length_cons, List.length_nil] at this; omega
        rw [ho_r1] at R0
        have HO_r1 := Lib.hid ho_r1
        clear ho_r1
        have tf0 := R0.wr.cell' 0 _ rfl
        have tf1 := R0.wr.cell' 1 _ rfl
        have tg0 := R0.blk.cell' 0 _ rfl
        have tg1 := R0.blk.cell' 1 _ rfl
        have tg2 := R0.blk.cell' 2 _ rfl
        have tg3 := R0.blk.cell' 3 _ rfl
        have tg4 := R0.blk.cell' 4 _ rfl
        have tg5 := R0.blk.cell' 5 _ rfl
        have tg6 := R0.blk.cell' 6 _ rfl
        have tg7 := R0.blk.cell' 7 _ rfl
        go_wp2_with (fail)
        have cc := es_num R0 hwB HE.out ([pk, pa, pz] : List Int) 3 rfl (by omega) #[.int .i64 pk, .int .i64 pa, .int .i64 pz] rfl (by omega) (fun z hz => by simp only [List.mem_cons, List.not_mem_nil, or_false] at hz; rcases hz with rfl | rfl | rfl <;> first | exact hzp.1 | exact hzp.2.1 | exact hzp.2.2)
        with_reducible refine cc.mono ?_
        rintro e y1 ⟨rfl, R1, hk_r2⟩
        clear cc
        clear tf0 tf1 tg0 tg1 tg2 tg3 tg4 tg5 tg6 tg7
        obtain ⟨r2, ho_r2⟩ : ∃ o, r1 ++ ([pk, pa, pz] : List Int).flatMap numB = o := ⟨_, rfl⟩
        have hl_r2 : r2.length ≤ 200000700000 := by rw [← ho_r2, List.length_append]; have := flat_len numB 22 numB_len ([pk, pa, pz] : List Int); simp only [List.length_cons, List.length_nil] at this; omega
        rw [ho_r2] at R1
        have HO_r2 := Lib.hid ho_r2
        clear ho_r2
        have sf0 := R1.wr.cell' 0 _ rfl
        have sf1 := R1.wr.cell' 1 _ rfl
        have sg0 := R1.blk.cell' 0 _ rfl
        have sg1 := R1.blk.cell' 1 _ rfl
        have sg2 := R1.blk.cell' 2 _ rfl
        have sg3 := R1.blk.cell' 3 _ rfl
        have sg4 := R1.blk.cell' 4 _ rfl
        have sg5 := R1.blk.cell' 5 _ rfl
        have sg6 := R1.blk.cell' 6 _ rfl
        have sg7 := R1.blk.cell' 7 _ rfl
        go_wp2_with (fail)
        have HF : Hid (ES w w1 w1.heap.size (w1.heap.size + 1) w.heap.size #[.int .i64 kind, .int .i64 entry, .string image, .slice (some ⟨bk, o, none⟩) n1 c1, .slice a2 n2 c2, .slice a3 n3 c3, .slice a4 n4 c4, .slice a5 n5 c5] (o4 ++ (places.take (i + 1)).flatMap plE) y1) := Lib.hid (by
          rw [HT.out, List.flatMap_append, ← List.append_assoc, HR0.out]
          have e : r2 = r0 ++ [(⟨po, ps, pk, pa, pz⟩ : PlD)].flatMap plE := by
            rw [← HO_r2.out, ← HO_r1.out]
            simp [plE]
          rw [← e]; exact R1)
        go_roundw
        case rel => exact ⟨i + 1, by go_num, by omega, HF⟩
        case measure => simp [intOf]; omega
      · obtain rfl : n1 = i := by omega
        have S9 : ES w w1 w1.heap.size (w1.heap.size + 1) w.heap.size #[.int .i64 kind, .int .i64 entry, .string image, .slice a1 n1 c1, .slice a2 n2 c2, .slice a3 n3 c3, .slice a4 n4 c4, .slice a5 n5 c5] (o4 ++ places.flatMap plE) wr := by have := HS.out; rwa [List.take_of_length_le (by rw [HL1.out]; exact Nat.le_refl _)] at this
        obtain ⟨o5, ho_o5⟩ : ∃ o, o4 ++ places.flatMap plE = o := ⟨_, rfl⟩
        have hl_o5 : o5.length ≤ 200000300000 := by
          rw [← ho_o5, List.length_append]
          have := flat_len plE 200000 plE_len places
          have h2 : places.length ≤ 1000000 := by rw [HL1.out]; omega
          have := Nat.mul_le_mul_right 200000 h2
          omega
        rw [ho_o5] at S9
        have HO_o5 := Lib.hid ho_o5
        clear ho_o5 HS hlt hi9
        obtain ⟨wxo5, rfl⟩ : ∃ wx : World, wx = wr := ⟨_, rfl⟩
        have pf0 := S9.wr.cell' 0 _ rfl
        have pf1 := S9.wr.cell' 1 _ rfl
        have pg0 := S9.blk.cell' 0 _ rfl
        have pg1 := S9.blk.cell' 1 _ rfl
        have pg2 := S9.blk.cell' 2 _ rfl
        have pg3 := S9.blk.cell' 3 _ rfl
        have pg4 := S9.blk.cell' 4 _ rfl
        have pg5 := S9.blk.cell' 5 _ rfl
        have pg6 := S9.blk.cell' 6 _ rfl
        have pg7 := S9.blk.cell' 7 _ rfl
        go_wp2_with (fail)
        have cc := es_num S9 hwB HE.out ([(n2 : Int)] : List Int) 1 rfl (by omega) #[.int .i64 (n2 : Int)] rfl (by omega) (by intro z hz; rw [List.mem_singleton] at hz; subst hz; unfold W64; omega)
        with_reducible refine cc.mono ?_
        rintro e w6 ⟨rfl, S11, hk_o6⟩
        clear cc
        clear pf0 pf1 pg0 pg1 pg2 pg3 pg4 pg5 pg6 pg7
        obtain ⟨o6, ho_o6⟩ : ∃ o, o5 ++ ([(n2 : Int)] : List Int).flatMap numB = o := ⟨_, rfl⟩
        have hl_o6 : o6.length ≤ 200000400000 := by rw [← ho_o6, List.length_append]; have := flat_len numB 22 numB_len ([(n2 : Int)] : List Int); simp only [List.length_cons, List.length_nil] at this; omega
        rw [ho_o6] at S11
        have HO_o6 := Lib.hid ho_o6
        clear ho_o6
        have qf0 := S11.wr.cell' 0 _ rfl
        have qf1 := S11.wr.cell' 1 _ rfl
        have qg0 := S11.blk.cell' 0 _ rfl
        have qg1 := S11.blk.cell' 1 _ rfl
        have qg2 := S11.blk.cell' 2 _ rfl
        have qg3 := S11.blk.cell' 3 _ rfl
        have qg4 := S11.blk.cell' 4 _ rfl
        have qg5 := S11.blk.cell' 5 _ rfl
        have qg6 := S11.blk.cell' 6 _ rfl
        have qg7 := S11.blk.cell' 7 _ rfl
        go_wp2_with (fail)
        have cc := es_fix S11 hwB HE.out fix a2 n2 c2 HL2.out hz2 HR2.out (by omega) HZF.out
        with_reducible refine cc.mono ?_
        rintro e w7 ⟨rfl, S12⟩
        clear cc
        clear qf0 qf1 qg0 qg1 qg2 qg3 qg4 qg5 qg6 qg7
        obtain ⟨o7, ho_o7⟩ : ∃ o, o6 ++ fix.flatMap numB = o := ⟨_, rfl⟩
        have hl_o7 : o7.length ≤ 200022400000 := by
          rw [← ho_o7, List.length_append]
          have := flat_len numB 22 numB_len fix
          have h2 : fix.length ≤ 1000000 := by rw [HL2.out]; omega
          have := Nat.mul_le_mul_right 22 h2
          omega
        rw [ho_o7] at S12
        have HO_o7 := Lib.hid ho_o7
        clear ho_o7
        have pf0 := S12.wr.cell' 0 _ rfl
        have pf1 := S12.wr.cell' 1 _ rfl
        have pg0 := S12.blk.cell' 0 _ rfl
        have pg1 := S12.blk.cell' 1 _ rfl
        have pg2 := S12.blk.cell' 2 _ rfl
        have pg3 := S12.blk.cell' 3 _ rfl
        have pg4 := S12.blk.cell' 4 _ rfl
        have pg5 := S12.blk.cell' 5 _ rfl
        have pg6 := S12.blk.cell' 6 _ rfl
        have pg7 := S12.blk.cell' 7 _ rfl
        go_wp2_with (fail)
        have cc := es_num S12 hwB HE.out ([(n3 : Int)] : List Int) 1 rfl (by omega) #[.int .i64 (n3 : Int)] rfl (by omega) (by intro z hz; rw [List.mem_singleton] at hz; subst hz; unfold W64; omega)
        with_reducible refine cc.mono ?_
        rintro e w8 ⟨rfl, S13, hk_o8⟩
        clear cc
        clear pf0 pf1 pg0 pg1 pg2 pg3 pg4 pg5 pg6 pg7
        obtain ⟨o8, ho_o8⟩ : ∃ o, o7 ++ ([(n3 : Int)] : List Int).flatMap numB = o := ⟨_, rfl⟩
        have hl_o8 : o8.length ≤ 200030300000 := by rw [← ho_o8, List.length_append]; have := flat_len numB 22 numB_len ([(n3 : Int)] : List Int); simp only [List.length_cons, List.length_nil] at this; omega
        rw [ho_o8] at S13
        have HO_o8 := Lib.hid ho_o8
        clear ho_o8
        have qf0 := S13.wr.cell' 0 _ rfl
        have qf1 := S13.wr.cell' 1 _ rfl
        have qg0 := S13.blk.cell' 0 _ rfl
        have qg1 := S13.blk.cell' 1 _ rfl
        have qg2 := S13.blk.cell' 2 _ rfl
        have qg3 := S13.blk.cell' 3 _ rfl
        have qg4 := S13.blk.cell' 4 _ rfl
        have qg5 := S13.blk.cell' 5 _ rfl
        have qg6 := S13.blk.cell' 6 _ rfl
        have qg7 := S13.blk.cell' 7 _ rfl
        go_wp2_with (fail)
        have HS9 : Hid (ES w w1 w1.heap.size (w1.heap.size + 1) w.heap.size #[.int .i64 kind, .int .i64 entry, .string image, .slice a1 n1 c1, .slice a2 n2 c2, .slice a3 n3 c3, .slice a4 n4 c4, .slice a5 n5 c5] (o8 ++ (imps.take 0).flatMap imE) w8) := Lib.hid (by simpa using S13)
        clear S13
        clear qf0 qf1 qg0 qg1 qg2 qg3 qg4 qg5 qg6 qg7
        go_loopw [97] (fun v97 wr => ∃ i : Nat, v97 = .int .i64 i ∧ i ≤ n3 ∧ Hid (ES w w1 w1.heap.size (w1.heap.size + 1) w.heap.size #[.int .i64 kind, .int .i64 entry, .string image, .slice a1 n1 c1, .slice a2 n2 c2, .slice a3 n3 c3, .slice a4 n4 c4, .slice a5 n5 c5] (o8 ++ (imps.take i).flatMap imE) wr)) (fun v97 _ => n3 - (intOf v97).toNat)
        case atStart => exact ⟨0, rfl, by omega, HS9⟩
        case round =>
          clear HS9
          obtain ⟨i, rfl, hi9, HS⟩ := hrel
          by_cases hlt : i < n3
          · obtain ⟨bk, o, rfl, hbk, x, hx, hcell⟩ := rd_row (f := imC) (k := 3) (fun _ => rfl) HL3.out (HR3.out.below HS.out.new) hlt
            have hzx := HZI.out x (List.mem_of_getElem? hx)
            have HT : Hid (imps.take (i + 1) = imps.take i ++ [x]) := Lib.hid (by
              obtain ⟨h1, h2⟩ := List.getElem?_eq_some_iff.1 hx
              rw [List.take_succ_eq_append_getElem h1, h2])
            obtain ⟨xl, xs, xp⟩ := x
            have q0 := hcell 0 (.string xl) (by omega) rfl
            have q1 := hcell 1 (.string xs) (by omega) rfl
            have q2 := hcell 2 (.int .i64 xp) (by omega) rfl
            simp only [Nat.add_zero] at q0
            rw [← Nat.add_assoc] at q1 q2
            simp only at hzx
            have SA := HS.out.later ((New.refl wr).alloc (.cells #[.string xl, .string xs, .int .i64 xp] 81))
            have BP := Blk.made wr 81 #[.string xl, .string xs, .int .i64 xp]
            obtain ⟨r0, hr0⟩ : ∃ o, o8 ++ (imps.take i).flatMap imE = o := ⟨_, rfl⟩
            rw [hr0] at SA
            have hl_r0 : r0.length ≤ 400030300000 := by
              rw [← hr0, List.length_append]
              have := flat_len imE 200000 imE_len (imps.take i)
              rw [List.length_take] at this
              have h2 : min i imps.length ≤ 1000000 := by omega
              have := Nat.mul_le_mul_right 200000 h2
              omega
            have HR0 := Lib.hid hr0
            clear hr0 hcell hx
            have i0 : (0 : Int) ≤ (i : Int) := by omega
            have i1 : (i : Int) < (n3 : Int) := by omega
            have sf0 := SA.wr.cell' 0 _ rfl
            have sf1 := SA.wr.cell' 1 _ rfl
            have sg0 := SA.blk.cell' 0 _ rfl
            have sg1 := SA.blk.cell' 1 _ rfl
            have sg2 := SA.blk.cell' 2 _ rfl
            have sg3 := SA.blk.cell' 3 _ rfl
            have sg4 := SA.blk.cell' 4 _ rfl
            have sg5 := SA.blk.cell' 5 _ rfl
            have sg6 := SA.blk.cell' 6 _ rfl
            have sg7 := SA.blk.cell' 7 _ rfl
            go_wp2_with (fail)
            have cc := es_txt SA hwB HE.out ([xl, xs] : List ByteArray) 2 rfl (by omega) #[.string xl, .string xs] rfl (by omega) (fun z hz => by simp only [List.mem_cons, List.not_mem_nil, or_false] at hz; rcases hz with rfl | rfl <;> first | exact hzx.1 | exact hzx.2.1)
            simp only [World.size_alloc] at cc
            with_reducible refine cc.mono ?_
            rintro e y0 ⟨rfl, R0, hk_r1⟩
            clear cc
            clear sf0 sf1 sg0 sg1 sg2 sg3 sg4 sg5 sg6 sg7
            have BP0 := BP.keptB hk_r1 (by have := HS.out.is_.lt; omega) (by decide)
            have b00 := BP0.cell' 0 _ rfl
            have b01 := BP0.cell' 1 _ rfl
            have b02 := BP0.cell' 2 _ rfl
            obtain ⟨r1, ho_r1⟩ : ∃ o, r0 ++ ([xl, xs] : List ByteArray).flatMap txtB = o := ⟨_, rfl⟩
            have hl_r1 : r1.length ≤ 400030500000 := by rw [← ho_r1, List.length_append]; have := flat_len txtB 65559 txtB_len ([xl, xs] : List ByteArray); simp only [List.length_cons, List.length_nil] at this; omega
            rw [ho_r1] at R0
            have HO_r1 := Lib.hid ho_r1
            clear ho_r1
            have tf0 := R0.wr.cell' 0 _ rfl
            have tf1 := R0.wr.cell' 1 _ rfl
            have tg0 := R0.blk.cell' 0 _ rfl
            have tg1 := R0.blk.cell' 1 _ rfl
            have tg2 := R0.blk.cell' 2 _ rfl
            have tg3 := R0.blk.cell' 3 _ rfl
            have tg4 := R0.blk.cell' 4 _ rfl
            have tg5 := R0.blk.cell' 5 _ rfl
            have tg6 := R0.blk.cell' 6 _ rfl
            have tg7 := R0.blk.cell' 7 _ rfl
            go_wp2_with (fail)
            have cc := es_num R0 hwB HE.out ([xp] : List Int) 1 rfl (by omega) #[.int .i64 xp] rfl (by omega) (fun z hz => by simp only [List.mem_cons, List.not_mem_nil, or_false] at hz; rcases hz with rfl <;> first | exact hzx.2.2)
            with_reducible refine cc.mono ?_
            rintro e y1 ⟨rfl, R1, hk_r2⟩
            clear cc
            clear tf0 tf1 tg0 tg1 tg2 tg3 tg4 tg5 tg6 tg7
            obtain ⟨r2, ho_r2⟩ : ∃ o, r1 ++ ([xp] : List Int).flatMap numB = o := ⟨_, rfl⟩
            have hl_r2 : r2.length ≤ 400030700000 := by rw [← ho_r2, List.length_append]; have := flat_len numB 22 numB_len ([xp] : List Int); simp only [List.length_cons, List.length_nil] at this; omega
            rw [ho_r2] at R1
            have HO_r2 := Lib.hid ho_r2
            clear ho_r2
            have sf0 := R1.wr.cell' 0 _ rfl
            have sf1 := R1.wr.cell' 1 _ rfl
            have sg0 := R1.blk.cell' 0 _ rfl
            have sg1 := R1.blk.cell' 1 _ rfl
            have sg2 := R1.blk.cell' 2 _ rfl
            have sg3 := R1.blk.cell' 3 _ rfl
            have sg4 := R1.blk.cell' 4 _ rfl
            have sg5 := R1.blk.cell' 5 _ rfl
            have sg6 := R1.blk.cell' 6 _ rfl
            have sg7 := R1.blk.cell' 7 _ rfl
            go_wp2_with (fail)
            have HF : Hid (ES w w1 w1.heap.size (w1.heap.size + 1) w.heap.size #[.int .i64 kind, .int .i64 entry, .string image, .slice a1 n1 c1, .slice a2 n2 c2, .slice (some ⟨bk, o, none⟩) n3 c3, .slice a4 n4 c4, .slice a5 n5 c5] (o8 ++ (imps.take (i + 1)).flatMap imE) y1) := Lib.hid (by
              rw [HT.out, List.flatMap_append, ← List.append_assoc, HR0.out]
              have e : r2 = r0 ++ [(⟨xl, xs, xp⟩ : ImD)].flatMap imE := by
                rw [← HO_r2.out, ← HO_r1.out]
                simp [imE]
              rw [← e]; exact R1)
            go_roundw
            case rel => exact ⟨i + 1, by go_num, by omega, HF⟩
            case measure => simp [intOf]; omega
          · obtain rfl : n3 = i := by omega
            have S9 : ES w w1 w1.heap.size (w1.heap.size + 1) w.heap.size #[.int .i64 kind, .int .i64 entry, .string image, .slice a1 n1 c1, .slice a2 n2 c2, .slice a3 n3 c3, .slice a4 n4 c4, .slice a5 n5 c5] (o8 ++ imps.flatMap imE) wr := by have := HS.out; rwa [List.take_of_length_le (by rw [HL3.out]; exact Nat.le_refl _)] at this
            obtain ⟨o9, ho_o9⟩ : ∃ o, o8 ++ imps.flatMap imE = o := ⟨_, rfl⟩
            have hl_o9 : o9.length ≤ 400030300000 := by
              rw [← ho_o9, List.length_append]
              have := flat_len imE 200000 imE_len imps
              have h2 : imps.length ≤ 1000000 := by rw [HL3.out]; omega
              have := Nat.mul_le_mul_right 200000 h2
              omega
            rw [ho_o9] at S9
            have HO_o9 := Lib.hid ho_o9
            clear ho_o9 HS hlt hi9
            obtain ⟨wxo9, rfl⟩ : ∃ wx : World, wx = wr := ⟨_, rfl⟩
            have pf0 := S9.wr.cell' 0 _ rfl
            have pf1 := S9.wr.cell' 1 _ rfl
            have pg0 := S9.blk.cell' 0 _ rfl
            have pg1 := S9.blk.cell' 1 _ rfl
            have pg2 := S9.blk.cell' 2 _ rfl
            have pg3 := S9.blk.cell' 3 _ rfl
            have pg4 := S9.blk.cell' 4 _ rfl
            have pg5 := S9.blk.cell' 5 _ rfl
            have pg6 := S9.blk.cell' 6 _ rfl
            have pg7 := S9.blk.cell' 7 _ rfl
            go_wp2_with (fail)
            have cc := es_num S9 hwB HE.out ([(n4 : Int)] : List Int) 1 rfl (by omega) #[.int .i64 (n4 : Int)] rfl (by omega) (by intro z hz; rw [List.mem_singleton] at hz; subst hz; unfold W64; omega)
            with_reducible refine cc.mono ?_
            rintro e w9 ⟨rfl, S15, hk_o10⟩
            clear cc
            clear pf0 pf1 pg0 pg1 pg2 pg3 pg4 pg5 pg6 pg7
            obtain ⟨o10, ho_o10⟩ : ∃ o, o9 ++ ([(n4 : Int)] : List Int).flatMap numB = o := ⟨_, rfl⟩
            have hl_o10 : o10.length ≤ 400040300000 := by rw [← ho_o10, List.length_append]; have := flat_len numB 22 numB_len ([(n4 : Int)] : List Int); simp only [List.length_cons, List.length_nil] at this; omega
            rw [ho_o10] at S15
            have HO_o10 := Lib.hid ho_o10
            clear ho_o10
            have qf0 := S15.wr.cell' 0 _ rfl
            have qf1 := S15.wr.cell' 1 _ rfl
            have qg0 := S15.blk.cell' 0 _ rfl
            have qg1 := S15.blk.cell' 1 _ rfl
            have qg2 := S15.blk.cell' 2 _ rfl
            have qg3 := S15.blk.cell' 3 _ rfl
            have qg4 := S15.blk.cell' 4 _ rfl
            have qg5 := S15.blk.cell' 5 _ rfl
            have qg6 := S15.blk.cell' 6 _ rfl
            have qg7 := S15.blk.cell' 7 _ rfl
            go_wp2_with (fail)
            have HS9 : Hid (ES w w1 w1.heap.size (w1.heap.size + 1) w.heap.size #[.int .i64 kind, .int .i64 entry, .string image, .slice a1 n1 c1, .slice a2 n2 c2, .slice a3 n3 c3, .slice a4 n4 c4, .slice a5 n5 c5] (o10 ++ (exps.take 0).flatMap exE) w9) := Lib.hid (by simpa using S15)
            clear S15
            clear qf0 qf1 qg0 qg1 qg2 qg3 qg4 qg5 qg6 qg7
            go_loopw [126] (fun v126 wr => ∃ i : Nat, v126 = .int .i64 i ∧ i ≤ n4 ∧ Hid (ES w w1 w1.heap.size (w1.heap.size + 1) w.heap.size #[.int .i64 kind, .int .i64 entry, .string image, .slice a1 n1 c1, .slice a2 n2 c2, .slice a3 n3 c3, .slice a4 n4 c4, .slice a5 n5 c5] (o10 ++ (exps.take i).flatMap exE) wr)) (fun v126 _ => n4 - (intOf v126).toNat)
            case atStart => exact ⟨0, rfl, by omega, HS9⟩
            case round =>
              clear HS9
              obtain ⟨i, rfl, hi9, HS⟩ := hrel
              by_cases hlt : i < n4
              · obtain ⟨bk, o, rfl, hbk, x, hx, hcell⟩ := rd_row (f := exC) (k := 2) (fun _ => rfl) HL4.out (HR4.out.below HS.out.new) hlt
                have hzx := HZX.out x (List.mem_of_getElem? hx)
                have HT : Hid (exps.take (i + 1) = exps.take i ++ [x]) := Lib.hid (by
                  obtain ⟨h1, h2⟩ := List.getElem?_eq_some_iff.1 hx
                  rw [List.take_succ_eq_append_getElem h1, h2])
                obtain ⟨xs, xp⟩ := x
                have q0 := hcell 0 (.string xs) (by omega) rfl
                have q1 := hcell 1 (.int .i64 xp) (by omega) rfl
                simp only [Nat.add_zero] at q0
                rw [← Nat.add_assoc] at q1
                simp only at hzx
                have SA := HS.out.later ((New.refl wr).alloc (.cells #[.string xs, .int .i64 xp] 83))
                have BP := Blk.made wr 83 #[.string xs, .int .i64 xp]
                obtain ⟨r0, hr0⟩ : ∃ o, o10 ++ (exps.take i).flatMap exE = o := ⟨_, rfl⟩
                rw [hr0] at SA
                have hl_r0 : r0.length ≤ 600040300000 := by
                  rw [← hr0, List.length_append]
                  have := flat_len exE 200000 exE_len (exps.take i)
                  rw [List.length_take] at this
                  have h2 : min i exps.length ≤ 1000000 := by omega
                  have := Nat.mul_le_mul_right 200000 h2
                  omega
                have HR0 := Lib.hid hr0
                clear hr0 hcell hx
                have i0 : (0 : Int) ≤ (i : Int) := by omega
                have i1 : (i : Int) < (n4 : Int) := by omega
                have sf0 := SA.wr.cell' 0 _ rfl
                have sf1 := SA.wr.cell' 1 _ rfl
                have sg0 := SA.blk.cell' 0 _ rfl
                have sg1 := SA.blk.cell' 1 _ rfl
                have sg2 := SA.blk.cell' 2 _ rfl
                have sg3 := SA.blk.cell' 3 _ rfl
                have sg4 := SA.blk.cell' 4 _ rfl
                have sg5 := SA.blk.cell' 5 _ rfl
                have sg6 := SA.blk.cell' 6 _ rfl
                have sg7 := SA.blk.cell' 7 _ rfl
                go_wp2_with (fail)
                have cc := es_txt SA hwB HE.out ([xs] : List ByteArray) 1 rfl (by omega) #[.string xs] rfl (by omega) (fun z hz => by simp only [List.mem_cons, List.not_mem_nil, or_false] at hz; rcases hz with rfl <;> first | exact hzx.1)
                simp only [World.size_alloc] at cc
                with_reducible refine cc.mono ?_
                rintro e y0 ⟨rfl, R0, hk_r1⟩
                clear cc
                clear sf0 sf1 sg0 sg1 sg2 sg3 sg4 sg5 sg6 sg7
                have BP0 := BP.keptB hk_r1 (by have := HS.out.is_.lt; omega) (by decide)
                have b00 := BP0.cell' 0 _ rfl
                have b01 := BP0.cell' 1 _ rfl
                obtain ⟨r1, ho_r1⟩ : ∃ o, r0 ++ ([xs] : List ByteArray).flatMap txtB = o := ⟨_, rfl⟩
                have hl_r1 : r1.length ≤ 600040500000 := by rw [← ho_r1, List.length_append]; have := flat_len txtB 65559 txtB_len ([xs] : List ByteArray); simp only [List.length_cons, List.length_nil] at this; omega
                rw [ho_r1] at R0
                have HO_r1 := Lib.hid ho_r1
                clear ho_r1
                have tf0 := R0.wr.cell' 0 _ rfl
                have tf1 := R0.wr.cell' 1 _ rfl
                have tg0 := R0.blk.cell' 0 _ rfl
                have tg1 := R0.blk.cell' 1 _ rfl
                have tg2 := R0.blk.cell' 2 _ rfl
                have tg3 := R0.blk.cell' 3 _ rfl
                have tg4 := R0.blk.cell' 4 _ rfl
                have tg5 := R0.blk.cell' 5 _ rfl
                have tg6 := R0.blk.cell' 6 _ rfl
                have tg7 := R0.blk.cell' 7 _ rfl
                go_wp2_with (fail)
                have cc := es_num R0 hwB HE.out ([xp] : List Int) 1 rfl (by omega) #[.int .i64 xp] rfl (by omega) (fun z hz => by simp only [List.mem_cons, List.not_mem_nil, or_false] at hz; rcases hz with rfl <;> first | exact hzx.2)
                with_reducible refine cc.mono ?_
                rintro e y1 ⟨rfl, R1, hk_r2⟩
                clear cc
                clear tf0 tf1 tg0 tg1 tg2 tg3 tg4 tg5 tg6 tg7
                obtain ⟨r2, ho_r2⟩ : ∃ o, r1 ++ ([xp] : List Int).flatMap numB = o := ⟨_, rfl⟩
                have hl_r2 : r2.length ≤ 600040700000 := by rw [← ho_r2, List.length_append]; have := flat_len numB 22 numB_len ([xp] : List Int); simp only [List.length_cons, List.length_nil] at this; omega
                rw [ho_r2] at R1
                have HO_r2 := Lib.hid ho_r2
                clear ho_r2
                have sf0 := R1.wr.cell' 0 _ rfl
                have sf1 := R1.wr.cell' 1 _ rfl
                have sg0 := R1.blk.cell' 0 _ rfl
                have sg1 := R1.blk.cell' 1 _ rfl
                have sg2 := R1.blk.cell' 2 _ rfl
                have sg3 := R1.blk.cell' 3 _ rfl
                have sg4 := R1.blk.cell' 4 _ rfl
                have sg5 := R1.blk.cell' 5 _ rfl
                have sg6 := R1.blk.cell' 6 _ rfl
                have sg7 := R1.blk.cell' 7 _ rfl
                go_wp2_with (fail)
                have HF : Hid (ES w w1 w1.heap.size (w1.heap.size + 1) w.heap.size #[.int .i64 kind, .int .i64 entry, .string image, .slice a1 n1 c1, .slice a2 n2 c2, .slice a3 n3 c3, .slice (some ⟨bk, o, none⟩) n4 c4, .slice a5 n5 c5] (o10 ++ (exps.take (i + 1)).flatMap exE) y1) := Lib.hid (by
                  rw [HT.out, List.flatMap_append, ← List.append_assoc, HR0.out]
                  have e : r2 = r0 ++ [(⟨xs, xp⟩ : ExD)].flatMap exE := by
                    rw [← HO_r2.out, ← HO_r1.out]
                    simp [exE]
                  rw [← e]; exact R1)
                go_roundw
                case rel => exact ⟨i + 1, by go_num, by omega, HF⟩
                case measure => simp [intOf]; omega
              · obtain rfl : n4 = i := by omega
                have S9 : ES w w1 w1.heap.size (w1.heap.size + 1) w.heap.size #[.int .i64 kind, .int .i64 entry, .string image, .slice a1 n1 c1, .slice a2 n2 c2, .slice a3 n3 c3, .slice a4 n4 c4, .slice a5 n5 c5] (o10 ++ exps.flatMap exE) wr := by have := HS.out; rwa [List.take_of_length_le (by rw [HL4.out]; exact Nat.le_refl _)] at this
                obtain ⟨o11, ho_o11⟩ : ∃ o, o10 ++ exps.flatMap exE = o := ⟨_, rfl⟩
                have hl_o11 : o11.length ≤ 600040300000 := by
                  rw [← ho_o11, List.length_append]
                  have := flat_len exE 200000 exE_len exps
                  have h2 : exps.length ≤ 1000000 := by rw [HL4.out]; omega
                  have := Nat.mul_le_mul_right 200000 h2
                  omega
                rw [ho_o11] at S9
                have HO_o11 := Lib.hid ho_o11
                clear ho_o11 HS hlt hi9
                obtain ⟨wxo11, rfl⟩ : ∃ wx : World, wx = wr := ⟨_, rfl⟩
                have pf0 := S9.wr.cell' 0 _ rfl
                have pf1 := S9.wr.cell' 1 _ rfl
                have pg0 := S9.blk.cell' 0 _ rfl
                have pg1 := S9.blk.cell' 1 _ rfl
                have pg2 := S9.blk.cell' 2 _ rfl
                have pg3 := S9.blk.cell' 3 _ rfl
                have pg4 := S9.blk.cell' 4 _ rfl
                have pg5 := S9.blk.cell' 5 _ rfl
                have pg6 := S9.blk.cell' 6 _ rfl
                have pg7 := S9.blk.cell' 7 _ rfl
                go_wp2_with (fail)
                have cc := es_num S9 hwB HE.out ([(n5 : Int)] : List Int) 1 rfl (by omega) #[.int .i64 (n5 : Int)] rfl (by omega) (by intro z hz; rw [List.mem_singleton] at hz; subst hz; unfold W64; omega)
                with_reducible refine cc.mono ?_
                rintro e w10 ⟨rfl, S17, hk_o12⟩
                clear cc
                clear pf0 pf1 pg0 pg1 pg2 pg3 pg4 pg5 pg6 pg7
                obtain ⟨o12, ho_o12⟩ : ∃ o, o11 ++ ([(n5 : Int)] : List Int).flatMap numB = o := ⟨_, rfl⟩
                have hl_o12 : o12.length ≤ 600050300000 := by rw [← ho_o12, List.length_append]; have := flat_len numB 22 numB_len ([(n5 : Int)] : List Int); simp only [List.length_cons, List.length_nil] at this; omega
                rw [ho_o12] at S17
                have HO_o12 := Lib.hid ho_o12
                clear ho_o12
                have qf0 := S17.wr.cell' 0 _ rfl
                have qf1 := S17.wr.cell' 1 _ rfl
                have qg0 := S17.blk.cell' 0 _ rfl
                have qg1 := S17.blk.cell' 1 _ rfl
                have qg2 := S17.blk.cell' 2 _ rfl
                have qg3 := S17.blk.cell' 3 _ rfl
                have qg4 := S17.blk.cell' 4 _ rfl
                have qg5 := S17.blk.cell' 5 _ rfl
                have qg6 := S17.blk.cell' 6 _ rfl
                have qg7 := S17.blk.cell' 7 _ rfl
                go_wp2_with (fail)
                have HS9 : Hid (ES w w1 w1.heap.size (w1.heap.size + 1) w.heap.size #[.int .i64 kind, .int .i64 entry, .string image, .slice a1 n1 c1, .slice a2 n2 c2, .slice a3 n3 c3, .slice a4 n4 c4, .slice a5 n5 c5] (o12 ++ (notes.take 0).flatMap ntE) w10) := Lib.hid (by simpa using S17)
                clear S17
                clear qf0 qf1 qg0 qg1 qg2 qg3 qg4 qg5 qg6 qg7
                go_loopw [153] (fun v153 wr => ∃ i : Nat, v153 = .int .i64 i ∧ i ≤ n5 ∧ Hid (ES w w1 w1.heap.size (w1.heap.size + 1) w.heap.size #[.int .i64 kind, .int .i64 entry, .string image, .slice a1 n1 c1, .slice a2 n2 c2, .slice a3 n3 c3, .slice a4 n4 c4, .slice a5 n5 c5] (o12 ++ (notes.take i).flatMap ntE) wr)) (fun v153 _ => n5 - (intOf v153).toNat)
                case atStart => exact ⟨0, rfl, by omega, HS9⟩
                case round =>
                  clear HS9
                  obtain ⟨i, rfl, hi9, HS⟩ := hrel
                  by_cases hlt : i < n5
                  · obtain ⟨bk, o, rfl, hbk, x, hx, hcell⟩ := rd_row (f := ntC) (k := 2) (fun _ => rfl) HL5.out (HR5.out.below HS.out.new) hlt
                    have hzx := HZN.out x (List.mem_of_getElem? hx)
                    have HT : Hid (notes.take (i + 1) = notes.take i ++ [x]) := Lib.hid (by
                      obtain ⟨h1, h2⟩ := List.getElem?_eq_some_iff.1 hx
                      rw [List.take_succ_eq_append_getElem h1, h2])
                    obtain ⟨xs, xt⟩ := x
                    have q0 := hcell 0 (.string xs) (by omega) rfl
                    have q1 := hcell 1 (.string xt) (by omega) rfl
                    simp only [Nat.add_zero] at q0
                    rw [← Nat.add_assoc] at q1
                    simp only at hzx
                    have SA := HS.out.later ((New.refl wr).alloc (.cells #[.string xs, .string xt] 40))
                    have BP := Blk.made wr 40 #[.string xs, .string xt]
                    obtain ⟨r0, hr0⟩ : ∃ o, o12 ++ (notes.take i).flatMap ntE = o := ⟨_, rfl⟩
                    rw [hr0] at SA
                    have hl_r0 : r0.length ≤ 800050300000 := by
                      rw [← hr0, List.length_append]
                      have := flat_len ntE 200000 ntE_len (notes.take i)
                      rw [List.length_take] at this
                      have h2 : min i notes.length ≤ 1000000 := by omega
                      have := Nat.mul_le_mul_right 200000 h2
                      omega
                    have HR0 := Lib.hid hr0
                    clear hr0 hcell hx
                    have i0 : (0 : Int) ≤ (i : Int) := by omega
                    have i1 : (i : Int) < (n5 : Int) := by omega
                    have sf0 := SA.wr.cell' 0 _ rfl
                    have sf1 := SA.wr.cell' 1 _ rfl
                    have sg0 := SA.blk.cell' 0 _ rfl
                    have sg1 := SA.blk.cell' 1 _ rfl
                    have sg2 := SA.blk.cell' 2 _ rfl
                    have sg3 := SA.blk.cell' 3 _ rfl
                    have sg4 := SA.blk.cell' 4 _ rfl
                    have sg5 := SA.blk.cell' 5 _ rfl
                    have sg6 := SA.blk.cell' 6 _ rfl
                    have sg7 := SA.blk.cell' 7 _ rfl
                    go_wp2_with (fail)
                    have cc := es_txt SA hwB HE.out ([xs, xt] : List ByteArray) 2 rfl (by omega) #[.string xs, .string xt] rfl (by omega) (fun z hz => by simp only [List.mem_cons, List.not_mem_nil, or_false] at hz; rcases hz with rfl | rfl <;> first | exact hzx.1 | exact hzx.2)
                    simp only [World.size_alloc] at cc
                    with_reducible refine cc.mono ?_
                    rintro e y0 ⟨rfl, R0, hk_r1⟩
                    clear cc
                    clear sf0 sf1 sg0 sg1 sg2 sg3 sg4 sg5 sg6 sg7
                    obtain ⟨r1, ho_r1⟩ : ∃ o, r0 ++ ([xs, xt] : List ByteArray).flatMap txtB = o := ⟨_, rfl⟩
                    have hl_r1 : r1.length ≤ 800050500000 := by rw [← ho_r1, List.length_append]; have := flat_len txtB 65559 txtB_len ([xs, xt] : List ByteArray); simp only [List.length_cons, List.length_nil] at this; omega
                    rw [ho_r1] at R0
                    have HO_r1 := Lib.hid ho_r1
                    clear ho_r1
                    have tf0 := R0.wr.cell' 0 _ rfl
                    have tf1 := R0.wr.cell' 1 _ rfl
                    have tg0 := R0.blk.cell' 0 _ rfl
                    have tg1 := R0.blk.cell' 1 _ rfl
                    have tg2 := R0.blk.cell' 2 _ rfl
                    have tg3 := R0.blk.cell' 3 _ rfl
                    have tg4 := R0.blk.cell' 4 _ rfl
                    have tg5 := R0.blk.cell' 5 _ rfl
                    have tg6 := R0.blk.cell' 6 _ rfl
                    have tg7 := R0.blk.cell' 7 _ rfl
                    go_wp2_with (fail)
                    have HF : Hid (ES w w1 w1.heap.size (w1.heap.size + 1) w.heap.size #[.int .i64 kind, .int .i64 entry, .string image, .slice a1 n1 c1, .slice a2 n2 c2, .slice a3 n3 c3, .slice a4 n4 c4, .slice (some ⟨bk, o, none⟩) n5 c5] (o12 ++ (notes.take (i + 1)).flatMap ntE) y0) := Lib.hid (by
                      rw [HT.out, List.flatMap_append, ← List.append_assoc, HR0.out]
                      have e : r1 = r0 ++ [(⟨xs, xt⟩ : NtD)].flatMap ntE := by
                        rw [← HO_r1.out]
                        simp [ntE]
                      rw [← e]; exact R0)
                    go_roundw
                    case rel => exact ⟨i + 1, by go_num, by omega, HF⟩
                    case measure => simp [intOf]; omega
                  · obtain rfl : n5 = i := by omega
                    have S9 : ES w w1 w1.heap.size (w1.heap.size + 1) w.heap.size #[.int .i64 kind, .int .i64 entry, .string image, .slice a1 n1 c1, .slice a2 n2 c2, .slice a3 n3 c3, .slice a4 n4 c4, .slice a5 n5 c5] (o12 ++ notes.flatMap ntE) wr := by have := HS.out; rwa [List.take_of_length_le (by rw [HL5.out]; exact Nat.le_refl _)] at this
                    obtain ⟨o13, ho_o13⟩ : ∃ o, o12 ++ notes.flatMap ntE = o := ⟨_, rfl⟩
                    have hl_o13 : o13.length ≤ 800050300000 := by
                      rw [← ho_o13, List.length_append]
                      have := flat_len ntE 200000 ntE_len notes
                      have h2 : notes.length ≤ 1000000 := by rw [HL5.out]; omega
                      have := Nat.mul_le_mul_right 200000 h2
                      omega
                    rw [ho_o13] at S9
                    have HO_o13 := Lib.hid ho_o13
                    clear ho_o13 HS hlt hi9
                    obtain ⟨wxo13, rfl⟩ : ∃ wx : World, wx = wr := ⟨_, rfl⟩
                    have hEO : EL = o13 := by rw [HEL.out, HHD.out, ← HO_o13.out, ← HO_o12.out, ← HO_o11.out, ← HO_o10.out, ← HO_o9.out, ← HO_o8.out, ← HO_o7.out, ← HO_o6.out, ← HO_o5.out, ← HO_o4.out, ← HO_o3.out, ← HO_o2.out, ← HO_o1.out, ← HO_o0.out]
                    have HEO := Lib.hid hEO
                    clear hEO
                    go_wp2_with (fail)
                    have cl := Tryz.Builder_Len w1.heap.size w1.heap.size (Lib.byteCells o13) _ S9.is_
                    rw [Lib.byteCells_length] at cl
                    with_reducible refine cl.mono ?_
                    rintro e w' ⟨rfl, rfl⟩
                    clear cl
                    have cs := Tryz.Builder_String_any w1.heap.size w1.heap.size o13 _ S9.is_ S9.sz
                    have nS := S9.new
                    by_cases hbig : o13.length ≤ 65536
                    · have hx : X = (o13, 0) := by rw [HX2.out, HEO.out, if_pos hbig]
                      subst hx
                      have t9 : ¬ (65536 : Int) < (o13.length : Int) := by omega
                      go_wp2_with (fail)
                      with_reducible refine cs.mono ?_
                      rintro e w' ⟨rfl, nb⟩
                      go_wp2_with (fail)
                      exact bodyPost_ret (v := .tuple #[.string ⟨o13.toArray⟩, .int .i64 0]) (by simp [results, Tryz.results12, go_sem]) rfl ⟨rfl, Below.trans nS (nb.mono hwB)⟩
                    · have hx : X = ([], 10) := by rw [HX2.out, HEO.out, if_neg hbig]
                      subst hx
                      have t9 : (65536 : Int) < (o13.length : Int) := by omega
                      go_wp2_with (fail)
                      exact bodyPost_ret (v := .tuple #[.string ⟨#[]⟩, .int .i64 10]) (by simp [results, Tryz.results12, go_sem]) rfl ⟨rfl, nS⟩

end Go.Proofs.YtnknmpcgbfmfjaaGreatDoor

