/- What the rows' lists of package-level variables give (Env), and a world that has them. The rows' last step where the call only made memory. No conditions of ours. Turned from the kit's page of small extras. Arguments opened, over any program: a slice that is read as data has its cells; what is read is read again where only new memory was made. No conditions. The rows' last step for a law that returns true and makes new memory only. No conditions of ours. Binaries, notes and lists of notes that are read as data. No conditions. (Printed by mk-law2.py.) Libraries and calls that are read as data. No conditions. -/
import Derived.Test.YtnjampfhkojbnaaGreatDoorGA
import Derived.Test.YtnjampfhkojbnaaGreatDoorCards
import Derived.Test.YtnjampfhkojbnaaGreatDoorTie
import Derived.ProofKit
import Derived.OpenShut
import Derived.ChangeMaps5
import Derived.ChangeSame
import Derived.Deep.DeepHandedRow
import Derived.Lib.LaidTab
import Derived.Stop.LaidErr
import Derived.Lib.SmallJoins
import Derived.Test.YtnjampfhkojbnaaGreatDoorGBase
import Derived.Deep.Slices
import Derived.Deep.Strs
import Derived.Carry
import Derived.Test.YtnjampfhkojbnaaGreatDoorGE
import Derived.Test.YtnjampfhkojbnaaGreatDoorGC1
import Derived.Test.YtnjampfhkojbnaaGreatDoorGU7
import Derived.Test.YtnjampfhkojbnaaGreatDoorGQ

namespace Go.Proofs.YtnjampfhkojbnaaGreatDoor
open Go Go.RowKit Go.Joins Go.ChangeShapes Go.WideShapes Go.ChangeAt

abbrev laidList : List (String × DataW Unit) := Rows.emulateLongerRow.laid
theorem laid_plain {W : World} (h : laidMetH Tryz.prog laidList W) : laidMet Tryz.prog laidList W := by
  have e : laidMetH Tryz.prog laidList W = laidMet Tryz.prog laidList W := by kernel_rfl
  exact e ▸ h
theorem env_of {W : World} (_h : laidMetH Tryz.prog laidList W) (hsh : W.ShapedOpen Tryz.prog) : Env W := by
  exact ⟨Go.Proofs.cell_of_shapedOpen_int (zero := #[.int .i64 0]) (t := 3) hsh (of_decide_eq_true (by kernel_rfl)) (by kernel_rfl) rfl (by kernel_rfl) (by kernel_rfl) Tryz.underlying3⟩

noncomputable def setVar (g : Nat) (cs : Array Value) (h : Array Obj) : Array Obj := h.modify g fun
  | .cells _ t frozen => .cells cs t frozen
  | o => o
def nums (zs : List Nat) : Array Value := (zs.map fun (z : Nat) => Value.int .u8 (z : Int)).toArray
def tabAccept : List Nat := [128, 191, 160, 191, 128, 159, 144, 191, 128, 143, 0, 0, 0, 0, 0, 0, 0, 0, 0, 0, 0, 0, 0, 0, 0, 0, 0, 0, 0, 0, 0, 0]
noncomputable def laidWorld (os : Os) : World :=
  let w0 := World.holding Tryz.prog os ⟨#[], #[], []⟩
  { w0 with heap := setVar 1 (nums Go.Pinned.utf8FirstZ) (setVar 2 (nums tabAccept) w0.heap) }
theorem laid_met (os : Os) (args : Array Value) : laidMet Tryz.prog laidList ((laidWorld os).forCall (fun _ _ => 0) ⟨#[], args, []⟩).memory :=
  laidMet_of_run' 8 (by kernel_rfl) (by kernel_rfl)
end Go.Proofs.YtnjampfhkojbnaaGreatDoor

namespace Go.Proofs.YtnjampfhkojbnaaGreatDoor
open Go Go.RowKit Go.WideShapes Go.ChangeShapes
section
variable {H : Type} {enc : TypeId × Value → H} {P : Program}
theorem post_of_below {f : Func} {s : ChangeSpec} {apart fresh handsOn again : Bool} {W W' : World} {args : Array Value} {v : Value} {ds gs : List (DataW H)} {before pa pv : List MemPlace}
    (hW : DataW.Whole enc P f.params.toList s.vars apart W args.toList ds gs before)
    (hres : ∀ (b : Nat) (sp : Nat → Bool) (hd : Bool), DataW.TrodAll enc P W' b sp hd f.resultTypes.toList (v.resultList f.resultTypes.size) (s.fn H (ds ++ gs)).results [])
    (hargs : ∀ sp : Nat → Bool, (∀ p ∈ before, sp p.block = true) → DataW.TrodAll enc P W' 0 sp true f.params.toList args.toList (s.fn H (ds ++ gs)).args pa)
    (hvars : ∀ sp : Nat → Bool, (∀ p ∈ before, sp p.block = true) → DataW.TrodVars enc P W' sp s.vars (s.fn H (ds ++ gs)).vars pv)
    (hps : before = pa ++ pv) (hb : Below W.heap.size W W')
    (hok : ∀ (j : Nat) (t : TypeId) (r : Value), f.resultTypes[j]? = some t → (v.resultList f.resultTypes.size)[j]? = some r → Value.okWide P W' .any 0 t r) :
    s.post enc P f apart fresh handsOn again W args v W' := by
  have hlt : ∀ p ∈ before, p.block < W.heap.size := fun p hp => hW.lt p hp
  have hold : ∀ p ∈ before, (fun b => decide (b < W.heap.size)) p.block = true := fun p hp => by simpa using hlt p hp
  refine ⟨ds, gs, before, [], pa, pv, hW, hres _ _ _, hargs _ hold, hvars _ hold, World.keptBut_mono (fun p hp => ⟨hp, ?_⟩) (hb.frame (· ∈ before)), fun _ => ?_⟩
  · rw [hps, List.mem_append] at hp
    exact Or.inr hp
  · obtain ⟨_, _, _, _, _, hz, hn⟩ := hW
    refine ⟨hok, _, _, ([] ++ pa) ++ pv, ⟨[] ++ pa, pv, trodAll_append (hargs _ (fun _ _ => rfl)) (hres _ _ _), hvars _ (fun _ _ => rfl), rfl, ?_, ?_⟩, ?_⟩
    · intro b off hp
      have hin : MemPlace.cell b off ∈ before := by rw [hps]; simpa using hp
      rw [hb.frozen (hlt _ hin)]
      exact hz b off hin
    · intro ha
      have := hn ha
      rw [hps] at this
      simpa using this
    · intro p hp _
      rw [hps]
      simpa using hp
end
end Go.Proofs.YtnjampfhkojbnaaGreatDoor

namespace Go.Proofs.YtnjampfhkojbnaaGreatDoor
open Go Go.RowKit Go.ChangeShapes Go.WideShapes Go.Deep
section
variable {H : Type} {enc : TypeId × Value → H} {P : Program} {w : World} {base : Nat} {spare : Nat → Bool} {held : Bool}

theorem add_none {a : Addr} (h : a.spot = none) (i : Nat) : a.add i = ⟨a.block, a.off + i, none⟩ := by
  unfold Addr.add
  split
  · rename_i h0; subst h0; cases a; simp_all
  · rfl
theorem spot_none {a : Addr} {v : Value} (h : w.cell? a = some v) : a.spot = none := by
  unfold World.cell? at h
  split at h
  · split at h
    · cases h
    · rename_i h1; simpa using h1
  · cases h
theorem flatten_at {α : Type} {k : Nat} : ∀ {l : List (List α)}, (∀ x ∈ l, x.length = k) → ∀ (i j : Nat), j < k → l.flatten[i * k + j]? = (l[i]?).bind (·[j]?)
  | [], _, i, j, _ => by simp
  | x :: r, h, 0, j, hj => by
    have hx : x.length = k := h x (by simp)
    rw [List.flatten_cons, Nat.zero_mul, Nat.zero_add, List.getElem?_append_left (by omega)]; rfl
  | x :: r, h, i + 1, j, hj => by
    have hx : x.length = k := h x (by simp)
    have ih := flatten_at (l := r) (fun y hy => h y (by simp [hy])) i j hj
    rw [List.flatten_cons, List.getElem?_append_right (by rw [hx, Nat.add_mul]; omega), hx, show (i + 1) * k + j - k = i * k + j by rw [Nat.add_mul]; omega, ih]
    rfl
theorem flatten_len {α : Type} {k : Nat} : ∀ {l : List (List α)}, (∀ x ∈ l, x.length = k) → l.flatten.length = l.length * k
  | [], _ => by simp
  | x :: r, h => by
    have hx : x.length = k := h x (by simp)
    have ih := flatten_len (l := r) (fun y hy => h y (by simp [hy]))
    rw [List.flatten_cons, List.length_append, hx, ih, List.length_cons, Nat.add_mul]; omega

theorem open_rows {t e k : Nat} {fuel : Nat} {v : Value} {x : DataW H × List MemPlace} (ht : P.underlying t = some (.slice e)) (hc : P.cellsOf e = k) (hk : 0 < k)
    (h : DataW.trod enc P w base spare held fuel t [v] = some x) :
    ∃ (A : Option Addr) (c fuel' : Nat) (css : List (List Value)), v = .slice A css.length c ∧ css.length ≤ c ∧ c ≤ maxLen ∧ (∀ cs ∈ css, cs.length = k) ∧ Rd w k A css.length css.flatten ∧
      ∀ cs ∈ css, ∃ y, DataW.trod enc P w base spare held fuel' e cs = some y := by
  rcases open_slice ht h with ⟨h0, _⟩ | ⟨a, len, cap, m, n, D, Pl, h0, hb, hl, hm, hmm, _, hx⟩
  · injection h0 with h0 _
    subst h0
    exact ⟨none, 0, 0, [], rfl, Nat.le_refl _, by simp [maxLen], by simp, Rd.none_ none, by simp⟩
  · injection h0 with h0 _
    subst h0
    have hlm : len ≤ m := by rw [hmm]; split <;> omega
    rw [hc] at hx
    obtain ⟨F, hF⟩ := choose_lt (α := List Value) (p := fun i cs => w.cells? base (a.add (i * k)) k = some cs ∧ DataW.trod enc P w base spare held n e cs = some (D i, Pl i)) (fun i (hi : i < len) => hx i (by omega))
    have hlen : ∀ i, i < len → (F i).length = k := fun i hi => (World.cells?_some (hF i hi).1).2.1
    have hmem : ∀ cs ∈ (List.range len).map F, cs.length = k := fun cs hcs => by
      obtain ⟨i, hi, rfl⟩ := List.mem_map.1 hcs
      exact hlen i (List.mem_range.1 hi)
    have hl2 : ((List.range len).map F).length = len := by simp
    refine ⟨some a, cap, n, (List.range len).map F, by rw [hl2], by rw [hl2]; exact hl, hm, hmem, ?_, fun cs hcs => ?_⟩
    · rw [hl2]
      refine ⟨by rw [flatten_len hmem, hl2], fun hn => ?_⟩
      have h00 := (World.cells?_some (hF 0 hn).1).2.2 0 hk
      rw [Nat.zero_mul, add_zero_, add_zero_] at h00
      have h01 : (F 0)[0]? = some ((F 0)[0]'(by rw [hlen 0 hn]; exact hk)) := List.getElem?_eq_getElem _
      have hsp := spot_none (h00.trans h01)
      have hblk := World.block_lt_of_cell? w a (h00.trans h01)
      refine ⟨a.block, a.off, by cases a; simp_all, hblk, fun j u hu => ?_⟩
      have hjl : j < len * k := by
        have := (List.getElem?_eq_some_iff.1 hu).1
        rwa [flatten_len hmem, hl2] at this
      have hjk : j % k < k := Nat.mod_lt _ hk
      have hji : j / k < len := (Nat.div_lt_iff_lt_mul hk).2 hjl
      have hdm : j / k * k + j % k = j := by rw [Nat.mul_comm]; exact Nat.div_add_mod j k
      rw [← hdm, flatten_at hmem _ _ hjk] at hu
      simp only [List.getElem?_map, List.getElem?_range hji, Option.map_some, Option.bind_some] at hu
      have := (World.cells?_some (hF _ hji).1).2.2 _ hjk
      rw [hu, add_add, hdm, add_none hsp] at this
      exact this
    · obtain ⟨i, hi, rfl⟩ := List.mem_map.1 hcs
      exact ⟨_, (hF i (List.mem_range.1 hi)).2⟩
where
  add_zero_ {a : Addr} : a.add 0 = a := by unfold Addr.add; simp

theorem len2 {α : Type} : ∀ {l : List α}, l.length = 2 → ∃ a b, l = [a, b]
  | [a, b], _ => ⟨a, b, rfl⟩
theorem len3 {α : Type} : ∀ {l : List α}, l.length = 3 → ∃ a b c, l = [a, b, c]
  | [a, b, c], _ => ⟨a, b, c, rfl⟩
theorem len4 {α : Type} : ∀ {l : List α}, l.length = 4 → ∃ a b c d, l = [a, b, c, d]
  | [a, b, c, d], _ => ⟨a, b, c, d, rfl⟩
theorem list_of_all {α β : Type} {f : α → β} {q : α → Prop} : ∀ {l : List β}, (∀ b ∈ l, ∃ a, b = f a ∧ q a) → ∃ r : List α, l = r.map f ∧ ∀ a ∈ r, q a
  | [], _ => ⟨[], rfl, by simp⟩
  | b :: l, h => by
    obtain ⟨r, hr, hq⟩ := list_of_all (l := l) (fun x hx => h x (by simp [hx]))
    obtain ⟨a, rfl, ha⟩ := h b (by simp)
    exact ⟨a :: r, by rw [hr]; rfl, by simpa using ⟨ha, hq⟩⟩

theorem trodAll_stays (hl : laidOutB P = true) {W W' : World} (hb : Below W.heap.size W W') {sp : Nat → Bool} :
    ∀ {ts : List TypeId} {vs : List Value} {ds : List (DataW H)} {ps : List MemPlace}, (ts.all fun t => P.readableRec t && decide (t < P.types.size)) = true → DataW.TrodAll enc P W 0 (fun _ => true) true ts vs ds ps →
      (∀ x ∈ ps, x.block < W.heap.size) → (∀ x ∈ ps, sp x.block = true) → DataW.TrodAll enc P W' 0 sp true ts vs ds ps
  | [], [], [], _, _, h, _, _ => h
  | [], [], _ :: _, _, _, h, _, _ => h.elim
  | [], _ :: _, _, _, _, h, _, _ => by cases h
  | _ :: _, [], _, _, _, h, _, _ => by cases h
  | _ :: _, _ :: _, [], _, _, h, _, _ => h.elim
  | t :: ts, v :: vs, d :: ds, ps, ht, h, hlt, hsp => by
    obtain ⟨p, q, h1, h2, rfl⟩ := h
    simp only [List.all_cons, Bool.and_eq_true, decide_eq_true_eq] at ht
    obtain ⟨⟨t1, t2⟩, t3⟩ := ht
    exact ⟨p, q, WideElems.Trod_stays hl t1 t2 h1 (fun x hx => hb.same (hlt x (by simp [hx]))) (fun x hx => hsp x (by simp [hx])),
      trodAll_stays hl hb (by simpa using t3) h2 (fun x hx => hlt x (by simp [hx])) (fun x hx => hsp x (by simp [hx])), rfl⟩
end
end Go.Proofs.YtnjampfhkojbnaaGreatDoor

namespace Go.Proofs.YtnjampfhkojbnaaGreatDoor
open Go Go.RowKit Go.WideShapes Go.ChangeShapes Go.Joins Go.ChangeMaps Go.Deep
section
variable {H : Type} {enc : TypeId × Value → H} {P : Program}
theorem law_post {f : Func} {s : ChangeSpec} {W W' : World} {args : Array Value} {ds gs : List (DataW H)} {before : List MemPlace}
    (hs : s.vars = []) (hr : f.resultTypes = #[4]) (u4 : P.underlying 4 = some .bool) (hl : laidOutB P = true) (hp : (f.params.toList.all fun t => P.readableRec t && decide (t < P.types.size)) = true)
    (h1 : (s.fn H ds).results = [.lit (.bool true)]) (h2 : (s.fn H ds).args = ds) (h3 : (s.fn H ds).vars = [])
    (hW : DataW.Whole enc P f.params.toList s.vars false W args.toList ds gs before) (hb : New W W') : s.post enc P f false true false false W args (.bool true) W' := by
  have hW' := hW
  obtain ⟨p, q, hA, hV, rfl, hfz, hnd⟩ := hW
  have hlt := fun x hx => hW'.lt x hx
  rw [hs] at hV
  obtain ⟨rfl, rfl⟩ := trodVars_none hV
  refine post_of_below (pa := p) (pv := []) hW' (fun _ _ _ => ?_) (fun sp hsp => ?_) (fun _ _ => ?_) rfl hb (ok_one hr rfl (okWide_bool_mk u4 _))
  · rw [List.append_nil, h1, hr]; exact trodAll_cons_mk (shut_bool u4 _) trodAll_mk0
  · rw [List.append_nil, h2]
    exact trodAll_stays hl hb hp hA (fun x hx => hlt x (by simp [hx])) (fun x hx => hsp x (by simp [hx]))
  · rw [List.append_nil, h3, hs]; rfl
end
theorem own_ : ownKnob Tryz.prog.godebug = none := by kernel_rfl

end Go.Proofs.YtnjampfhkojbnaaGreatDoor

namespace Go.Proofs.YtnjampfhkojbnaaGreatDoor
open Go Go.RowKit Go.WideShapes Go.ChangeShapes Go.Joins Go.ChangeMaps Go.Deep
structure W64B (b : Bn) : Prop where
  kind : W64 b.kind
  entry : W64 b.entry
  pl : ∀ p ∈ b.places, W64 p.kind ∧ W64 p.pos ∧ W64 p.size
  fx : ∀ a ∈ b.fix, W64 a
  im : ∀ x ∈ b.imps, W64 x.pos
  ex : ∀ x ∈ b.exps, W64 x.pos
section
variable {H : Type} {enc : TypeId × Value → H} {P : Program} {w : World} {base : Nat} {spare : Nat → Bool} {held : Bool}
theorem take_one {α : Type} {l : List α} {i : Nat} {v : α} (h : l[i]? = some v) : (l.drop i).take 1 = [v] := by
  obtain ⟨hi, rfl⟩ := List.getElem?_eq_some_iff.1 h
  rw [List.drop_eq_getElem_cons hi]; rfl
theorem trod_fields {t : TypeId} {fs : Array Field} {fuel : Nat} {cs : List Value} {x : DataW H × List MemPlace} (hs : P.underlying t = some (.struct fs)) (hone : oneCellFields P fs = true) (h : DataW.trod enc P w base spare held fuel t cs = some x) :
    cs.length = P.cellsOf t ∧ ∃ n, ∀ (i : Nat) (f : Field) (v : Value), fs[i]? = some f → cs[i]? = some v → ∃ y, DataW.trod enc P w base spare held n f.type [v] = some y := by
  obtain ⟨xs, n, _, rfl, hl, hlen, hf⟩ := DataW.trod_struct hs h
  refine ⟨hl, n, fun i f v hi hv => ?_⟩
  have := hf i f hi
  obtain ⟨o0, k0⟩ := hone_of hone i f hi
  rw [o0, k0, take_one hv] at this
  have hix : i < xs.length := by have := (Array.getElem?_eq_some_iff.1 hi).1; omega
  rw [List.getElem?_eq_getElem hix] at this
  exact ⟨_, this⟩
theorem len5 {α : Type} : ∀ {l : List α}, l.length = 5 → ∃ a b c d e, l = [a, b, c, d, e]
  | [a, b, c, d, e], _ => ⟨a, b, c, d, e, rfl⟩
theorem array8 {α : Type} {cs : Array α} (h : cs.size = 8) : ∃ c0 c1 c2 c3 c4 c5 c6 c7, cs = #[c0, c1, c2, c3, c4, c5, c6, c7] := by
  obtain ⟨l⟩ := cs
  match l, h with
  | [c0, c1, c2, c3, c4, c5, c6, c7], _ => exact ⟨c0, c1, c2, c3, c4, c5, c6, c7, rfl⟩
end
section
variable {H : Type} {enc : TypeId × Value → H} {w : World} {spare : Nat → Bool} {held : Bool}
theorem w64_of {n : Int} (h : (Lit.int .i64 n).wf = true) : W64 n := by
  simp [Lit.wf, IntKind.min, IntKind.max, IntKind.signed, IntKind.bits] at h
  exact h
theorem open_s {n : Nat} {v : Value} {y : DataW H × List MemPlace} (h : DataW.trod enc Tryz.prog w 0 spare held n 9 [v] = some y) : ∃ s : ByteArray, v = .string s ∧ s.size ≤ 9223372036854775807 := by
  obtain ⟨s, e, _, hs⟩ := DataW.trod_string Tryz.underlying9 h
  exact ⟨s, by simpa using e, hs⟩
theorem open_n {n : Nat} {v : Value} {y : DataW H × List MemPlace} (h : DataW.trod enc Tryz.prog w 0 spare held n 3 [v] = some y) : ∃ m : Int, v = .int .i64 m ∧ W64 m := by
  obtain ⟨m, e, _, hw⟩ := DataW.trod_int Tryz.underlying3 h
  exact ⟨m, by simpa using e, w64_of hw⟩
theorem cells60x : Tryz.prog.cellsOf 52 = 5 := by kernel_rfl
theorem one60x : ∃ f0 f1 f2 f3 f4, Tryz.prog.underlying 52 = some (.struct #[f0, f1, f2, f3, f4]) ∧ oneCellFields Tryz.prog #[f0, f1, f2, f3, f4] = true ∧ f0.type = 9 ∧ f1.type = 9 ∧ f2.type = 3 ∧ f3.type = 3 ∧ f4.type = 3 := ⟨_, _, _, _, _, Tryz.underlying52, by kernel_rfl, rfl, rfl, rfl, rfl, rfl⟩
theorem open_pl {fuel : Nat} {cs : List Value} {x : DataW H × List MemPlace} (h : DataW.trod enc Tryz.prog w 0 spare held fuel 52 cs = some x) : ∃ p : PlD, cs = plC p ∧ (W64 p.kind ∧ W64 p.pos ∧ W64 p.size) := by
  obtain ⟨f0, f1, f2, f3, f4, hu, hone, t0, t1, t2, t3, t4⟩ := one60x
  obtain ⟨hl, n, hf⟩ := trod_fields hu hone h
  rw [cells60x] at hl
  obtain ⟨c0, c1, c2, c3, c4, rfl⟩ := len5 hl
  obtain ⟨y0, h0⟩ := hf 0 f0 c0 rfl rfl
  rw [t0] at h0
  obtain ⟨v0, rfl, w0⟩ := open_s h0
  obtain ⟨y1, h1⟩ := hf 1 f1 c1 rfl rfl
  rw [t1] at h1
  obtain ⟨v1, rfl, w1⟩ := open_s h1
  obtain ⟨y2, h2⟩ := hf 2 f2 c2 rfl rfl
  rw [t2] at h2
  obtain ⟨v2, rfl, w2⟩ := open_n h2
  obtain ⟨y3, h3⟩ := hf 3 f3 c3 rfl rfl
  rw [t3] at h3
  obtain ⟨v3, rfl, w3⟩ := open_n h3
  obtain ⟨y4, h4⟩ := hf 4 f4 c4 rfl rfl
  rw [t4] at h4
  obtain ⟨v4, rfl, w4⟩ := open_n h4
  exact ⟨⟨v0, v1, v2, v3, v4⟩, rfl, ⟨w2, w3, w4⟩⟩
theorem open_pls {fuel : Nat} {v : Value} {x : DataW H × List MemPlace} (h : DataW.trod enc Tryz.prog w 0 spare held fuel 22 [v] = some x) :
    ∃ A c l, v = .slice A (l : List PlD).length c ∧ l.length ≤ 9223372036854775807 ∧ Rd w 5 A l.length (l.flatMap plC) ∧ ∀ p ∈ l, (W64 p.kind ∧ W64 p.pos ∧ W64 p.size) := by
  obtain ⟨A, c, f', css, rfl, hc1, hc2, _, hr, hall⟩ := open_rows Tryz.underlying22 cells60x (by decide) h
  obtain ⟨l, rfl, hq⟩ := list_of_all (f := plC) (q := fun p => W64 p.kind ∧ W64 p.pos ∧ W64 p.size) (l := css) (fun cs hcs => by
    obtain ⟨y, hy⟩ := hall cs hcs
    exact open_pl hy)
  rw [List.length_map] at hc1 hr
  rw [← List.flatMap_def] at hr
  have hm : maxLen ≤ 9223372036854775807 := by simp [maxLen]
  exact ⟨A, c, l, by rw [List.length_map], by omega, hr, hq⟩
theorem cells81x : Tryz.prog.cellsOf 85 = 3 := by kernel_rfl
theorem one81x : ∃ f0 f1 f2, Tryz.prog.underlying 85 = some (.struct #[f0, f1, f2]) ∧ oneCellFields Tryz.prog #[f0, f1, f2] = true ∧ f0.type = 9 ∧ f1.type = 9 ∧ f2.type = 3 := ⟨_, _, _, Tryz.underlying85, by kernel_rfl, rfl, rfl, rfl⟩
theorem open_im {fuel : Nat} {cs : List Value} {x : DataW H × List MemPlace} (h : DataW.trod enc Tryz.prog w 0 spare held fuel 85 cs = some x) : ∃ p : ImD, cs = imC p ∧ (W64 p.pos) := by
  obtain ⟨f0, f1, f2, hu, hone, t0, t1, t2⟩ := one81x
  obtain ⟨hl, n, hf⟩ := trod_fields hu hone h
  rw [cells81x] at hl
  obtain ⟨c0, c1, c2, rfl⟩ := len3 hl
  obtain ⟨y0, h0⟩ := hf 0 f0 c0 rfl rfl
  rw [t0] at h0
  obtain ⟨v0, rfl, w0⟩ := open_s h0
  obtain ⟨y1, h1⟩ := hf 1 f1 c1 rfl rfl
  rw [t1] at h1
  obtain ⟨v1, rfl, w1⟩ := open_s h1
  obtain ⟨y2, h2⟩ := hf 2 f2 c2 rfl rfl
  rw [t2] at h2
  obtain ⟨v2, rfl, w2⟩ := open_n h2
  exact ⟨⟨v0, v1, v2⟩, rfl, w2⟩
theorem open_ims {fuel : Nat} {v : Value} {x : DataW H × List MemPlace} (h : DataW.trod enc Tryz.prog w 0 spare held fuel 24 [v] = some x) :
    ∃ A c l, v = .slice A (l : List ImD).length c ∧ l.length ≤ 9223372036854775807 ∧ Rd w 3 A l.length (l.flatMap imC) ∧ ∀ p ∈ l, (W64 p.pos) := by
  obtain ⟨A, c, f', css, rfl, hc1, hc2, _, hr, hall⟩ := open_rows Tryz.underlying24 cells81x (by decide) h
  obtain ⟨l, rfl, hq⟩ := list_of_all (f := imC) (q := fun p => W64 p.pos) (l := css) (fun cs hcs => by
    obtain ⟨y, hy⟩ := hall cs hcs
    exact open_im hy)
  rw [List.length_map] at hc1 hr
  rw [← List.flatMap_def] at hr
  have hm : maxLen ≤ 9223372036854775807 := by simp [maxLen]
  exact ⟨A, c, l, by rw [List.length_map], by omega, hr, hq⟩
theorem cells83x : Tryz.prog.cellsOf 81 = 2 := by kernel_rfl
theorem one83x : ∃ f0 f1, Tryz.prog.underlying 81 = some (.struct #[f0, f1]) ∧ oneCellFields Tryz.prog #[f0, f1] = true ∧ f0.type = 9 ∧ f1.type = 3 := ⟨_, _, Tryz.underlying81, by kernel_rfl, rfl, rfl⟩
theorem open_ex {fuel : Nat} {cs : List Value} {x : DataW H × List MemPlace} (h : DataW.trod enc Tryz.prog w 0 spare held fuel 81 cs = some x) : ∃ p : ExD, cs = exC p ∧ (W64 p.pos) := by
  obtain ⟨f0, f1, hu, hone, t0, t1⟩ := one83x
  obtain ⟨hl, n, hf⟩ := trod_fields hu hone h
  rw [cells83x] at hl
  obtain ⟨c0, c1, rfl⟩ := len2 hl
  obtain ⟨y0, h0⟩ := hf 0 f0 c0 rfl rfl
  rw [t0] at h0
  obtain ⟨v0, rfl, w0⟩ := open_s h0
  obtain ⟨y1, h1⟩ := hf 1 f1 c1 rfl rfl
  rw [t1] at h1
  obtain ⟨v1, rfl, w1⟩ := open_n h1
  exact ⟨⟨v0, v1⟩, rfl, w1⟩
theorem open_exs {fuel : Nat} {v : Value} {x : DataW H × List MemPlace} (h : DataW.trod enc Tryz.prog w 0 spare held fuel 25 [v] = some x) :
    ∃ A c l, v = .slice A (l : List ExD).length c ∧ l.length ≤ 9223372036854775807 ∧ Rd w 2 A l.length (l.flatMap exC) ∧ ∀ p ∈ l, (W64 p.pos) := by
  obtain ⟨A, c, f', css, rfl, hc1, hc2, _, hr, hall⟩ := open_rows Tryz.underlying25 cells83x (by decide) h
  obtain ⟨l, rfl, hq⟩ := list_of_all (f := exC) (q := fun p => W64 p.pos) (l := css) (fun cs hcs => by
    obtain ⟨y, hy⟩ := hall cs hcs
    exact open_ex hy)
  rw [List.length_map] at hc1 hr
  rw [← List.flatMap_def] at hr
  have hm : maxLen ≤ 9223372036854775807 := by simp [maxLen]
  exact ⟨A, c, l, by rw [List.length_map], by omega, hr, hq⟩
theorem cells40x : Tryz.prog.cellsOf 66 = 2 := by kernel_rfl
theorem one40x : ∃ f0 f1, Tryz.prog.underlying 66 = some (.struct #[f0, f1]) ∧ oneCellFields Tryz.prog #[f0, f1] = true ∧ f0.type = 9 ∧ f1.type = 9 := ⟨_, _, Tryz.underlying66, by kernel_rfl, rfl, rfl⟩
theorem open_nt {fuel : Nat} {cs : List Value} {x : DataW H × List MemPlace} (h : DataW.trod enc Tryz.prog w 0 spare held fuel 66 cs = some x) : ∃ p : NtD, cs = ntC p ∧ (True) := by
  obtain ⟨f0, f1, hu, hone, t0, t1⟩ := one40x
  obtain ⟨hl, n, hf⟩ := trod_fields hu hone h
  rw [cells40x] at hl
  obtain ⟨c0, c1, rfl⟩ := len2 hl
  obtain ⟨y0, h0⟩ := hf 0 f0 c0 rfl rfl
  rw [t0] at h0
  obtain ⟨v0, rfl, w0⟩ := open_s h0
  obtain ⟨y1, h1⟩ := hf 1 f1 c1 rfl rfl
  rw [t1] at h1
  obtain ⟨v1, rfl, w1⟩ := open_s h1
  exact ⟨⟨v0, v1⟩, rfl, trivial⟩
theorem open_nts {fuel : Nat} {v : Value} {x : DataW H × List MemPlace} (h : DataW.trod enc Tryz.prog w 0 spare held fuel 26 [v] = some x) :
    ∃ A c l, v = .slice A (l : List NtD).length c ∧ l.length ≤ 9223372036854775807 ∧ Rd w 2 A l.length (l.flatMap ntC) ∧ ∀ p ∈ l, (True) := by
  obtain ⟨A, c, f', css, rfl, hc1, hc2, _, hr, hall⟩ := open_rows Tryz.underlying26 cells40x (by decide) h
  obtain ⟨l, rfl, hq⟩ := list_of_all (f := ntC) (q := fun p => True) (l := css) (fun cs hcs => by
    obtain ⟨y, hy⟩ := hall cs hcs
    exact open_nt hy)
  rw [List.length_map] at hc1 hr
  rw [← List.flatMap_def] at hr
  have hm : maxLen ≤ 9223372036854775807 := by simp [maxLen]
  exact ⟨A, c, l, by rw [List.length_map], by omega, hr, hq⟩
theorem cells3x : Tryz.prog.cellsOf 3 = 1 := by kernel_rfl
theorem open_fxs {fuel : Nat} {v : Value} {x : DataW H × List MemPlace} (h : DataW.trod enc Tryz.prog w 0 spare held fuel 23 [v] = some x) :
    ∃ A c l, v = .slice A (l : List Int).length c ∧ l.length ≤ 9223372036854775807 ∧ Rd w 1 A l.length (l.flatMap fxC) ∧ ∀ p ∈ l, W64 p := by
  obtain ⟨A, c, f', css, rfl, hc1, hc2, hcl, hr, hall⟩ := open_rows Tryz.underlying23 cells3x (by decide) h
  obtain ⟨l, rfl, hq⟩ := list_of_all (f := fxC) (q := fun p => W64 p) (l := css) (fun cs hcs => by
    obtain ⟨y, hy⟩ := hall cs hcs
    have hl1 := hcl cs hcs
    obtain ⟨u, rfl⟩ : ∃ u, cs = [u] := by
      match cs, hl1 with
      | [u], _ => exact ⟨u, rfl⟩
    obtain ⟨m, rfl, hw⟩ := open_n hy
    exact ⟨m, rfl, hw⟩)
  rw [List.length_map] at hc1 hr
  rw [← List.flatMap_def] at hr
  have hm : maxLen ≤ 9223372036854775807 := by simp [maxLen]
  exact ⟨A, c, l, by rw [List.length_map], by omega, hr, hq⟩
theorem cells28x : Tryz.prog.cellsOf 28 = 8 := by kernel_rfl
theorem one28x : ∃ f0 f1 f2 f3 f4 f5 f6 f7, Tryz.prog.underlying 28 = some (.struct #[f0, f1, f2, f3, f4, f5, f6, f7]) ∧ oneCellFields Tryz.prog #[f0, f1, f2, f3, f4, f5, f6, f7] = true ∧ f0.type = 3 ∧ f1.type = 3 ∧ f2.type = 9 ∧ f3.type = 22 ∧ f4.type = 23 ∧ f5.type = 24 ∧ f6.type = 25 ∧ f7.type = 26 := ⟨_, _, _, _, _, _, _, _, Tryz.underlying28, by kernel_rfl, rfl, rfl, rfl, rfl, rfl, rfl, rfl, rfl⟩
set_option maxRecDepth 100000 in
theorem open_bc {fuel : Nat} {c0 c1 c2 c3 c4 c5 c6 c7 : Value} {x : DataW H × List MemPlace} (hf0 : DataW.trod enc Tryz.prog w 0 spare held fuel 28 [c0, c1, c2, c3, c4, c5, c6, c7] = some x) :
    ∃ (b : Bn) (h : BH), (#[c0, c1, c2, c3, c4, c5, c6, c7] : Array Value) = bcells b h ∧ BRd w b h ∧ LensB b ∧ W64B b := by
  obtain ⟨f0, f1, f2, f3, f4, f5, f6, f7, hu, hone, t0, t1, t2, t3, t4, t5, t6, t7⟩ := one28x
  obtain ⟨hl, n, hf⟩ := trod_fields (cs := [c0, c1, c2, c3, c4, c5, c6, c7]) hu hone hf0
  obtain ⟨y0, h0⟩ := hf 0 f0 c0 rfl rfl
  rw [t0] at h0
  obtain ⟨y1, h1⟩ := hf 1 f1 c1 rfl rfl
  rw [t1] at h1
  obtain ⟨y2, h2⟩ := hf 2 f2 c2 rfl rfl
  rw [t2] at h2
  obtain ⟨y3, h3⟩ := hf 3 f3 c3 rfl rfl
  rw [t3] at h3
  obtain ⟨y4, h4⟩ := hf 4 f4 c4 rfl rfl
  rw [t4] at h4
  obtain ⟨y5, h5⟩ := hf 5 f5 c5 rfl rfl
  rw [t5] at h5
  obtain ⟨y6, h6⟩ := hf 6 f6 c6 rfl rfl
  rw [t6] at h6
  obtain ⟨y7, h7⟩ := hf 7 f7 c7 rfl rfl
  rw [t7] at h7
  obtain ⟨k, rfl, w0⟩ := open_n h0
  obtain ⟨e, rfl, w1⟩ := open_n h1
  obtain ⟨im, rfl, _⟩ := open_s h2
  obtain ⟨A1, C1, l1, rfl, z1, r1, q1⟩ := open_pls h3
  obtain ⟨A2, C2, l2, rfl, z2, r2, q2⟩ := open_fxs h4
  obtain ⟨A3, C3, l3, rfl, z3, r3, q3⟩ := open_ims h5
  obtain ⟨A4, C4, l4, rfl, z4, r4, q4⟩ := open_exs h6
  obtain ⟨A5, C5, l5, rfl, z5, r5, q5⟩ := open_nts h7
  exact ⟨⟨k, e, im, l1, l2, l3, l4, l5⟩, ⟨A1, C1, A2, C2, A3, C3, A4, C4, A5, C5⟩, rfl, ⟨r1, r2, r3, r4, r5⟩, ⟨z1, z2, z3, z4, z5⟩, ⟨w0, w1, q1, q2, q3, q4⟩⟩
set_option maxRecDepth 100000 in
theorem open_b {r : Reach} {b0 : Nat} {v : Value} {d : DataW H} {p : List MemPlace} (hv : Value.okWide Tryz.prog w r b0 28 v) (h : DataW.Trod enc Tryz.prog w 0 spare held 28 v d p) :
    ∃ (b : Bn) (h : BH), v = .agg (bcells b h) ∧ BRd w b h ∧ LensB b ∧ W64B b := by
  obtain ⟨f0, f1, f2, f3, f4, f5, f6, f7, hu, hone, t0, t1, t2, t3, t4, t5, t6, t7⟩ := one28x
  obtain ⟨cs, rfl, hsz⟩ := okWide_struct hu hv
  obtain ⟨c0, c1, c2, c3, c4, c5, c6, c7, rfl⟩ := array8 (hsz.trans cells28x)
  obtain ⟨fuel, hf0⟩ := h
  obtain ⟨b, g, e, q⟩ := open_bc (c0 := c0) (c1 := c1) (c2 := c2) (c3 := c3) (c4 := c4) (c5 := c5) (c6 := c6) (c7 := c7) hf0
  exact ⟨b, g, by rw [e], q⟩
end
theorem FewS.szb {b : Bn} (h : FewS b) (hw : W64B b) : SzB b := by
  have i1 := h.img
  have i2 := h.l1
  have i3 := h.l2
  have i4 := h.l3
  have i5 := h.l4
  have i6 := h.l5
  refine ⟨fun p hp => ?_, fun p hp => ?_, fun p hp => ?_, hw.fx, by omega, by omega, by omega, by omega, by omega, by omega⟩
  · have := h.pl p hp; unfold fPl at this; omega
  · have := h.nt p hp; unfold fNt at this; omega
  · have := h.im p hp; unfold fIm at this; exact ⟨by omega, by omega, hw.im p hp⟩
theorem W64B.wf {b : Bn} (hw : W64B b) : WfP b.places := fun p hp => (hw.pl p hp).2
end Go.Proofs.YtnjampfhkojbnaaGreatDoor

namespace Go.Proofs.YtnjampfhkojbnaaGreatDoor
open Go Go.RowKit Go.WideShapes Go.ChangeShapes Go.Joins Go.ChangeMaps Go.Deep
section
variable {H : Type} {enc : TypeId × Value → H} {w : World} {spare : Nat → Bool} {held : Bool}
theorem cells79x : Tryz.prog.cellsOf 79 = 9 := by kernel_rfl
theorem one79 : ∃ f0 f1 : Field, Tryz.prog.underlying 79 = some (.struct #[f0, f1]) ∧ f0.type = 9 ∧ f0.offset = 0 ∧ f1.type = 28 ∧ f1.offset = 1 := ⟨_, _, Tryz.underlying79, rfl, rfl, rfl, rfl⟩
theorem cells9x : Tryz.prog.cellsOf 9 = 1 := by kernel_rfl
theorem len9 {α : Type} : ∀ {l : List α}, l.length = 9 → ∃ a b c d e f g h i, l = [a, b, c, d, e, f, g, h, i]
  | [a, b, c, d, e, f, g, h, i], _ => ⟨a, b, c, d, e, f, g, h, i, rfl⟩
theorem open_lb {fuel : Nat} {cs : List Value} {x : DataW H × List MemPlace} (h : DataW.trod enc Tryz.prog w 0 spare held fuel 79 cs = some x) :
    ∃ p : LbD, cs = lbC p ∧ (BRd w p.bin p.at' ∧ LensB p.bin ∧ W64B p.bin) := by
  obtain ⟨f0, f1, hu, t0, o0, t1, o1⟩ := one79
  obtain ⟨xs, n, _, _, hl, hxs, hf⟩ := DataW.trod_struct hu h
  rw [cells79x] at hl
  obtain ⟨c, c0, c1, c2, c3, c4, c5, c6, c7, rfl⟩ := len9 hl
  have h0 := hf 0 f0 rfl
  have h1 := hf 1 f1 rfl
  rw [t0, o0, cells9x] at h0
  rw [t1, o1, cells28x] at h1
  obtain ⟨y0, y1, rfl⟩ := len2 (show xs.length = 2 from hxs)
  obtain ⟨s, rfl, _⟩ := open_s (v := c) h0
  obtain ⟨b, g, e, q⟩ := open_bc (c0 := c0) (c1 := c1) (c2 := c2) (c3 := c3) (c4 := c4) (c5 := c5) (c6 := c6) (c7 := c7) h1
  exact ⟨⟨s, b, g⟩, by unfold lbC; rw [← e], q⟩
set_option maxRecDepth 100000 in
theorem open_libs {r : Reach} {b0 : Nat} {v : Value} {d : DataW H} {p : List MemPlace} (hv : Value.okWide Tryz.prog w r b0 29 v) (h : DataW.Trod enc Tryz.prog w 0 spare held 29 v d p) :
    ∃ A n c l, v = .slice A n c ∧ LsRd w A n l ∧ n ≤ 9223372036854775807 ∧ ∀ x ∈ l, LensB x.bin ∧ W64B x.bin := by
  obtain ⟨a, len, cap, rfl⟩ := okWide_slice Tryz.underlying29 hv
  obtain ⟨fuel, hf0⟩ := h
  obtain ⟨A, c, f', css, e1, hc1, hc2, _, hr, hall⟩ := open_rows Tryz.underlying29 cells79x (by decide) (show DataW.trod enc Tryz.prog w 0 spare held fuel 29 [.slice a len cap] = some (d, p) from hf0)
  obtain ⟨l, rfl, hq⟩ := list_of_all (f := lbC) (q := fun p => BRd w p.bin p.at' ∧ LensB p.bin ∧ W64B p.bin) (l := css) (fun cs hcs => by
    obtain ⟨y, hy⟩ := hall cs hcs
    exact open_lb hy)
  rw [List.length_map] at hc1 hr e1
  rw [← List.flatMap_def] at hr
  have hm : maxLen ≤ 9223372036854775807 := by simp [maxLen]
  exact ⟨A, l.length, c, l, e1, ⟨rfl, hr, fun x hx => (hq x hx).1⟩, by omega, fun x hx => (hq x hx).2⟩
theorem cells36x : Tryz.prog.cellsOf 36 = 1 := by kernel_rfl
theorem open_uc {fuel : Nat} {cs : List Value} {x : DataW H × List MemPlace} (h : DataW.trod enc Tryz.prog w 0 spare held fuel 36 cs = some x) : ∃ n : Nat, cs = [.int .u32 (n : Int)] ∧ n < 4294967296 := by
  obtain ⟨m, e, _, hw⟩ := DataW.trod_int Tryz.underlying36 h
  simp [Lit.wf, IntKind.min, IntKind.max, IntKind.signed, IntKind.bits] at hw
  exact ⟨m.toNat, by rw [e, Int.toNat_of_nonneg hw.1], by omega⟩
theorem flat_uC (l : List Nat) : l.flatMap (fun n : Nat => [Value.int .u32 (n : Int)]) = uC l := by
  induction l with
  | nil => rfl
  | cons x r ih => rw [List.flatMap_cons, ih]; rfl
theorem open_ucs {fuel : Nat} {v : Value} {x : DataW H × List MemPlace} (h : DataW.trod enc Tryz.prog w 0 spare held fuel 30 [v] = some x) :
    ∃ A c l, v = .slice A (l : List Nat).length c ∧ l.length ≤ 9223372036854775807 ∧ Rd w 1 A l.length (uC l) ∧ ∀ a ∈ l, a < 4294967296 := by
  obtain ⟨A, c, f', css, rfl, hc1, hc2, _, hr, hall⟩ := open_rows Tryz.underlying30 cells36x (by decide) h
  obtain ⟨l, rfl, hq⟩ := list_of_all (f := fun n : Nat => [Value.int .u32 (n : Int)]) (q := fun n => n < 4294967296) (l := css) (fun cs hcs => by
    obtain ⟨y, hy⟩ := hall cs hcs
    exact open_uc hy)
  rw [List.length_map] at hc1 hr
  rw [← List.flatMap_def, flat_uC] at hr
  have hm : maxLen ≤ 9223372036854775807 := by simp [maxLen]
  exact ⟨A, c, l, by rw [List.length_map], by omega, hr, hq⟩
structure CaOK (w : World) (x : CaD) (args : List Nat) : Prop where
  len : args.length = x.n
  rd : Rd w 1 x.at' x.n (uC args)
  w32 : ∀ a ∈ args, a < 4294967296
  pl : W64 x.place
  off : W64 x.off
  lim : W64 x.lim
  inp : x.inp.size ≤ 9223372036854775807
theorem CaOK.new {w w' : World} {x : CaD} {args : List Nat} (h : CaOK w x args) (hn : New w w') : CaOK w' x args := ⟨h.len, h.rd.below hn, h.w32, h.pl, h.off, h.lim, h.inp⟩
theorem cells32x : Tryz.prog.cellsOf 32 = 5 := by kernel_rfl
theorem one32 : ∃ f0 f1 f2 f3 f4, Tryz.prog.underlying 32 = some (.struct #[f0, f1, f2, f3, f4]) ∧ oneCellFields Tryz.prog #[f0, f1, f2, f3, f4] = true ∧ f0.type = 3 ∧ f1.type = 3 ∧ f2.type = 9 ∧ f3.type = 3 ∧ f4.type = 30 := ⟨_, _, _, _, _, Tryz.underlying32, by kernel_rfl, rfl, rfl, rfl, rfl, rfl⟩
theorem open_ca {fuel : Nat} {cs : List Value} {x : DataW H × List MemPlace} (h : DataW.trod enc Tryz.prog w 0 spare held fuel 32 cs = some x) :
    ∃ p : CaD, cs = caC p ∧ ∃ args, CaOK w p args := by
  obtain ⟨f0, f1, f2, f3, f4, hu, hone, t0, t1, t2, t3, t4⟩ := one32
  obtain ⟨hl, n, hf⟩ := trod_fields hu hone h
  rw [cells32x] at hl
  obtain ⟨c0, c1, c2, c3, c4, rfl⟩ := len5 hl
  obtain ⟨y0, h0⟩ := hf 0 f0 c0 rfl rfl
  rw [t0] at h0
  obtain ⟨v0, rfl, w0⟩ := open_n h0
  obtain ⟨y1, h1⟩ := hf 1 f1 c1 rfl rfl
  rw [t1] at h1
  obtain ⟨v1, rfl, w1⟩ := open_n h1
  obtain ⟨y2, h2⟩ := hf 2 f2 c2 rfl rfl
  rw [t2] at h2
  obtain ⟨v2, rfl, w2⟩ := open_s h2
  obtain ⟨y3, h3⟩ := hf 3 f3 c3 rfl rfl
  rw [t3] at h3
  obtain ⟨v3, rfl, w3⟩ := open_n h3
  obtain ⟨y4, h4⟩ := hf 4 f4 c4 rfl rfl
  rw [t4] at h4
  obtain ⟨A, c, args, rfl, z4, r4, q4⟩ := open_ucs h4
  exact ⟨⟨v0, v1, v2, v3, A, args.length, c⟩, rfl, args, ⟨rfl, r4, q4, w0, w1, w3, w2⟩⟩
theorem array5 {α : Type} {cs : Array α} (h : cs.size = 5) : ∃ c0 c1 c2 c3 c4, cs = #[c0, c1, c2, c3, c4] := by
  obtain ⟨l⟩ := cs
  match l, h with
  | [c0, c1, c2, c3, c4], _ => exact ⟨c0, c1, c2, c3, c4, rfl⟩
set_option maxRecDepth 100000 in
theorem open_c {r : Reach} {b0 : Nat} {v : Value} {d : DataW H} {p : List MemPlace} (hv : Value.okWide Tryz.prog w r b0 32 v) (h : DataW.Trod enc Tryz.prog w 0 spare held 32 v d p) :
    ∃ (x : CaD) (args : List Nat), v = .agg #[.int .i64 x.place, .int .i64 x.off, .string x.inp, .int .i64 x.lim, .slice x.at' x.n x.cap] ∧ CaOK w x args := by
  obtain ⟨f0, f1, f2, f3, f4, hu, hone, t0, t1, t2, t3, t4⟩ := one32
  obtain ⟨cs, rfl, hsz⟩ := okWide_struct hu hv
  obtain ⟨c0, c1, c2, c3, c4, rfl⟩ := array5 (hsz.trans cells32x)
  obtain ⟨fuel, hf0⟩ := h
  obtain ⟨x, e, args, hx⟩ := open_ca (cs := [c0, c1, c2, c3, c4]) hf0
  injection e with e0 e
  injection e with e1 e
  injection e with e2 e
  injection e with e3 e
  injection e with e4 e
  subst e0 e1 e2 e3 e4
  exact ⟨x, args, rfl, hx⟩
set_option maxRecDepth 100000 in
theorem open_cs {r : Reach} {b0 : Nat} {v : Value} {d : DataW H} {p : List MemPlace} (hv : Value.okWide Tryz.prog w r b0 35 v) (h : DataW.Trod enc Tryz.prog w 0 spare held 35 v d p) :
    ∃ A n c l, v = .slice A n c ∧ l.length = n ∧ Rd w 5 A n ((l : List CaD).flatMap caC) ∧ n ≤ 9223372036854775807 ∧ ∀ x ∈ l, ∃ args, CaOK w x args := by
  obtain ⟨a, len, cap, rfl⟩ := okWide_slice Tryz.underlying35 hv
  obtain ⟨fuel, hf0⟩ := h
  obtain ⟨A, c, f', css, e1, hc1, hc2, _, hr, hall⟩ := open_rows Tryz.underlying35 cells32x (by decide) (show DataW.trod enc Tryz.prog w 0 spare held fuel 35 [.slice a len cap] = some (d, p) from hf0)
  obtain ⟨l, rfl, hq⟩ := list_of_all (f := caC) (q := fun p => ∃ args, CaOK w p args) (l := css) (fun cs hcs => by
    obtain ⟨y, hy⟩ := hall cs hcs
    exact open_ca hy)
  rw [List.length_map] at hc1 hr e1
  rw [← List.flatMap_def] at hr
  have hm : maxLen ≤ 9223372036854775807 := by simp [maxLen]
  exact ⟨A, l.length, c, l, e1, rfl, hr, by omega, hq⟩
end
end Go.Proofs.YtnjampfhkojbnaaGreatDoor

