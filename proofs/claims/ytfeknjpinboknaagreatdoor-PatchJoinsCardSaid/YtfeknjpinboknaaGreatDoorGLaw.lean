/- What the rows' lists of package-level variables give (Env), and a world that has them. The rows' last step where the call only made memory. No conditions of ours. Turned from the kit's page of small extras. Arguments opened, over any program: a slice that is read as data has its cells; what is read is read again where only new memory was made. No conditions. The rows' last step for a law that returns true and makes new memory only. No conditions of ours. Patches that are read as data. No conditions. -/
import Derived.Test.YtfeknjpinboknaaGreatDoorGA
import Derived.Test.YtfeknjpinboknaaGreatDoorCards
import Derived.Test.YtfeknjpinboknaaGreatDoorTie
import Derived.ProofKit
import Derived.OpenShut
import Derived.ChangeMaps5
import Derived.ChangeSame
import Derived.Deep.DeepHandedRow
import Derived.Lib.LaidTab
import Derived.Stop.LaidErr
import Derived.Lib.SmallJoins
import Derived.Lib.ItoaNum
import Derived.Test.YtfeknjpinboknaaGreatDoorGBase
import Derived.Deep.Slices
import Derived.Deep.Strs
import Derived.Carry

namespace Go.Proofs.YtfeknjpinboknaaGreatDoor
open Go Go.RowKit Go.Joins Go.Shelf Go.ChangeShapes Go.WideShapes Go.ChangeAt

theorem gMax : Tryz.prog.globalNamed "internal/bytealg.MaxLen" = some 0 := by kernel_rfl
theorem gSyn : Tryz.prog.globalNamed "strconv.ErrSyntax" = some 1 := by kernel_rfl
theorem gRange : Tryz.prog.globalNamed "strconv.ErrRange" = some 2 := by kernel_rfl
theorem gSynT : (Tryz.prog.globals[1]?).map (·.type) = some 67 := by kernel_rfl
theorem gRangeT : (Tryz.prog.globals[2]?).map (·.type) = some 67 := by kernel_rfl
theorem gPow10T : (Tryz.prog.globals[3]?).map (·.type) = some 164 := by kernel_rfl
theorem cells164 : Tryz.prog.cellsOf 164 = 20 := by kernel_rfl

theorem laid_iface {P : Program} {n nm : String} {d : DataW Unit} {r : List (String × DataW Unit)} {W : World} {g ti : Nat} {ms : Array (String × TypeId)} (h : laidMet P ((n, .iface nm d) :: r) W) (hg : P.globalNamed n = some g) (ht : (P.globals[g]?).map (·.type) = some ti) (hi : P.underlying ti = some (.interface ms)) :
    ∃ u v, W.cell? ⟨g, 0, none⟩ = some (.iface u v) := by
  obtain ⟨ps, ⟨g0, t0, cs0, f0, p0, q0, hg0, ht0, hv0, hd0, _, e0⟩, _, _⟩ := h
  obtain rfl := Option.some.inj (hg.symm.trans hg0)
  obtain rfl := Option.some.inj (ht.symm.trans ht0)
  obtain ⟨l0⟩ := cs0
  obtain ⟨_, u, v, e, _, _⟩ := iface_of_trod hi hd0
  subst e
  exact ⟨u, v, by simpa using World.var?_cell hg hv0 0⟩

abbrev laidList : List (String × DataW Unit) := Rows.patchTextsRow.laid
theorem laid_plain {W : World} (h : laidMetH Tryz.prog laidList W) : laidMet Tryz.prog laidList W := by
  have e : laidMetH Tryz.prog laidList W = laidMet Tryz.prog laidList W := by kernel_rfl
  exact e ▸ h
theorem env_of {W : World} (h : laidMetH Tryz.prog laidList W) (hsh : W.ShapedOpen Tryz.prog) : Env W := by
  have h0 := laid_plain h
  have h2 := h0.tail.tail
  have h4 := h2.tail.tail
  obtain ⟨u4, v4, e4⟩ := laid_iface h4 gRange gRangeT Tryz.underlying67
  obtain ⟨u3, v3, e3⟩ := laid_iface h4.tail gSyn gSynT Tryz.underlying67
  exact ⟨Go.Proofs.cell_of_shapedOpen_int (zero := #[.int .i64 0]) (t := 3) hsh (of_decide_eq_true (by kernel_rfl)) (by kernel_rfl) rfl (by kernel_rfl) (by kernel_rfl) Tryz.underlying3, ⟨u3, v3, e3⟩, ⟨u4, v4, e4⟩, Lib.tabIs_of_head (rest := _) gPow10 gPow10T Tryz.underlying164 Tryz.underlying107 (by kernel_rfl) cells164 h2⟩

noncomputable def lowest : Nat := (World.holding Tryz.prog default ⟨#[], #[], []⟩).heap.size
noncomputable def setVar (g : Nat) (cs : Array Value) (h : Array Obj) : Array Obj := h.modify g fun
  | .cells _ t frozen => .cells cs t frozen
  | o => o
def nums (zs : List Nat) : Array Value := (zs.map fun (z : Nat) => Value.int .u8 (z : Int)).toArray
def tab32 : List Nat := [0, 1, 28, 2, 29, 14, 24, 3, 30, 22, 20, 15, 25, 17, 4, 8, 31, 27, 13, 23, 21, 19, 16, 7, 26, 12, 18, 6, 11, 5, 10, 9]
def tabAccept : List Nat := [128, 191, 160, 191, 128, 159, 144, 191, 128, 143, 0, 0, 0, 0, 0, 0, 0, 0, 0, 0, 0, 0, 0, 0, 0, 0, 0, 0, 0, 0, 0, 0]
def tab64 : List Nat := [0, 1, 56, 2, 57, 49, 28, 3, 61, 58, 42, 50, 38, 29, 17, 4, 62, 47, 59, 36, 45, 43, 51, 22, 53, 39, 33, 30, 24, 18, 12, 5, 63, 55, 48, 27, 60, 41, 37, 16, 46, 35, 44, 21, 52, 32, 23, 11, 54, 26, 40, 15, 34, 20, 31, 10, 25, 14, 19, 9, 13, 8, 7, 6]
noncomputable def laidWorld (os : Os) : World :=
  let w0 := World.holding Tryz.prog os ⟨#[.cells #[.string ⟨#[118, 97, 108, 117, 101, 32, 111, 117, 116, 32, 111, 102, 32, 114, 97, 110, 103, 101]⟩] 152, .cells #[.string ⟨#[105, 110, 118, 97, 108, 105, 100, 32, 115, 121, 110, 116, 97, 120]⟩] 152], #[], []⟩
  { w0 with heap := setVar 4 (nums Go.Pinned.utf8FirstZ) (setVar 5 (nums tabAccept) (setVar 1 #[.iface 150 (.pointer (some ⟨lowest + 1, 0, none⟩))] (setVar 2 #[.iface 150 (.pointer (some ⟨lowest, 0, none⟩))]
      (setVar 3 (Lib.pow10Tab.map fun z => Value.int .u64 z).toArray (setVar 6 (nums tab32) (setVar 7 (nums tab64) w0.heap)))))) }
theorem laid_met (os : Os) (args : Array Value) : laidMet Tryz.prog laidList ((laidWorld os).forCall (fun _ _ => 0) ⟨#[], args, []⟩).memory :=
  laidMet_of_run' 8 (by kernel_rfl) (by kernel_rfl)
end Go.Proofs.YtfeknjpinboknaaGreatDoor

namespace Go.Proofs.YtfeknjpinboknaaGreatDoor
open Go Go.RowKit Go.WideShapes Go.ChangeShapes
section
variable {H : Type} {enc : TypeId × Value → H} {P : Program}
theorem post_of_below {f : Func} {s : ChangeSpec} {apart fresh handsOn again : Bool} {W W' : World} {args : Array Value} {v : Value} {ds gs : List (DataW H)} {before pa pv : List MemPlace}
    (hW : DataW.Whole enc P f.params.toList s.vars apart W args.toList ds gs before)
    (hres : ∀ (b : Nat) (sp : Nat → Bool) (hd : Bool), DataW.TrodAll enc P W' b sp hd f.resultTypes.toList (v.resultList f.resultTypes.size) (s.fn H (ds ++ gs)).results [])
    (hargs : ∀ sp : Nat → Bool, (∀ p ∈ before, sp p.block = true) → DataW.TrodAll enc P W' 0 sp true f.params.toList args.toList (s.fn H (ds ++ gs)).args pa)
    (hvars : ∀ sp : Nat → Bool, (∀ p ∈ before, sp p.block = true) → DataW.TrodVars enc P W' sp s.vars (s.fn H (ds ++ gs)).vars pv)
    (hps : before = pa ++ pv) (hb : Below W.heap.size W W')
    (hok : ∀ (j : Nat) (t : TypeId) (r : Value), f.resultTypes[j]? = some t → (v.resultList f.resultTypes.size)[j]? = some r → Value.okWide P W' .any 0 t r) :
    s.post enc P f apart fresh handsOn again W args v W' := by
  have hlt : ∀ p ∈ before, p.block < W.heap.size := fun p hp => hW.lt p hp
  have hold : ∀ p ∈ before, (fun b => decide (b < W.heap.size)) p.block = true := fun p hp => by simpa using hlt p hp
  refine ⟨ds, gs, before, [], pa, pv, hW, hres _ _ _, hargs _ hold, hvars _ hold, World.keptBut_mono (fun p hp => ⟨hp, ?_⟩) (hb.frame (· ∈ before)), fun _ => ?_⟩
  · rw [hps, List.mem_append] at hp
    exact Or.inr hp
  · obtain ⟨_, _, _, _, _, hz, hn⟩ := hW
    refine ⟨hok, _, _, ([] ++ pa) ++ pv, ⟨[] ++ pa, pv, trodAll_append (hargs _ (fun _ _ => rfl)) (hres _ _ _), hvars _ (fun _ _ => rfl), rfl, ?_, ?_⟩, ?_⟩
    · intro b off hp
      have hin : MemPlace.cell b off ∈ before := by rw [hps]; simpa using hp
      rw [hb.frozen (hlt _ hin)]
      exact hz b off hin
    · intro ha
      have := hn ha
      rw [hps] at this
      simpa using this
    · intro p hp _
      rw [hps]
      simpa using hp
end
end Go.Proofs.YtfeknjpinboknaaGreatDoor

namespace Go.Proofs.YtfeknjpinboknaaGreatDoor
open Go Go.RowKit Go.ChangeShapes Go.WideShapes Go.Deep
section
variable {H : Type} {enc : TypeId × Value → H} {P : Program} {w : World} {base : Nat} {spare : Nat → Bool} {held : Bool}

theorem add_noneO {a : Addr} (h : a.spot = none) (i : Nat) : a.add i = ⟨a.block, a.off + i, none⟩ := by
  unfold Addr.add
  split
  · rename_i h0; subst h0; cases a; simp_all
  · rfl
theorem spot_none {a : Addr} {v : Value} (h : w.cell? a = some v) : a.spot = none := by
  unfold World.cell? at h
  split at h
  · split at h
    · cases h
    · rename_i h1; simpa using h1
  · cases h
theorem flatten_at {α : Type} {k : Nat} : ∀ {l : List (List α)}, (∀ x ∈ l, x.length = k) → ∀ (i j : Nat), j < k → l.flatten[i * k + j]? = (l[i]?).bind (·[j]?)
  | [], _, i, j, _ => by simp
  | x :: r, h, 0, j, hj => by
    have hx : x.length = k := h x (by simp)
    rw [List.flatten_cons, Nat.zero_mul, Nat.zero_add, List.getElem?_append_left (by omega)]; rfl
  | x :: r, h, i + 1, j, hj => by
    have hx : x.length = k := h x (by simp)
    have ih := flatten_at (l := r) (fun y hy => h y (by simp [hy])) i j hj
    rw [List.flatten_cons, List.getElem?_append_right (by rw [hx, Nat.add_mul]; omega), hx, show (i + 1) * k + j - k = i * k + j by rw [Nat.add_mul]; omega, ih]
    rfl
theorem flatten_len {α : Type} {k : Nat} : ∀ {l : List (List α)}, (∀ x ∈ l, x.length = k) → l.flatten.length = l.length * k
  | [], _ => by simp
  | x :: r, h => by
    have hx : x.length = k := h x (by simp)
    have ih := flatten_len (l := r) (fun y hy => h y (by simp [hy]))
    rw [List.flatten_cons, List.length_append, hx, ih, List.length_cons, Nat.add_mul]; omega

theorem open_rows {t e k : Nat} {fuel : Nat} {v : Value} {x : DataW H × List MemPlace} (ht : P.underlying t = some (.slice e)) (hc : P.cellsOf e = k) (hk : 0 < k)
    (h : DataW.trod enc P w base spare held fuel t [v] = some x) :
    ∃ (A : Option Addr) (c fuel' : Nat) (css : List (List Value)), v = .slice A css.length c ∧ css.length ≤ c ∧ c ≤ maxLen ∧ (∀ cs ∈ css, cs.length = k) ∧ Rd w k A css.length css.flatten ∧
      ∀ cs ∈ css, ∃ y, DataW.trod enc P w base spare held fuel' e cs = some y := by
  rcases open_slice ht h with ⟨h0, _⟩ | ⟨a, len, cap, m, n, D, Pl, h0, hb, hl, hm, hmm, _, hx⟩
  · injection h0 with h0 _
    subst h0
    exact ⟨none, 0, 0, [], rfl, Nat.le_refl _, by simp [maxLen], by simp, Rd.none_ none, by simp⟩
  · injection h0 with h0 _
    subst h0
    have hlm : len ≤ m := by rw [hmm]; split <;> omega
    rw [hc] at hx
    obtain ⟨F, hF⟩ := choose_lt (α := List Value) (p := fun i cs => w.cells? base (a.add (i * k)) k = some cs ∧ DataW.trod enc P w base spare held n e cs = some (D i, Pl i)) (fun i (hi : i < len) => hx i (by omega))
    have hlen : ∀ i, i < len → (F i).length = k := fun i hi => (World.cells?_some (hF i hi).1).2.1
    have hmem : ∀ cs ∈ (List.range len).map F, cs.length = k := fun cs hcs => by
      obtain ⟨i, hi, rfl⟩ := List.mem_map.1 hcs
      exact hlen i (List.mem_range.1 hi)
    have hl2 : ((List.range len).map F).length = len := by simp
    refine ⟨some a, cap, n, (List.range len).map F, by rw [hl2], by rw [hl2]; exact hl, hm, hmem, ?_, fun cs hcs => ?_⟩
    · rw [hl2]
      refine ⟨by rw [flatten_len hmem, hl2], fun hn => ?_⟩
      have h00 := (World.cells?_some (hF 0 hn).1).2.2 0 hk
      rw [Nat.zero_mul, add_zero_, add_zero_] at h00
      have h01 : (F 0)[0]? = some ((F 0)[0]'(by rw [hlen 0 hn]; exact hk)) := List.getElem?_eq_getElem _
      have hsp := spot_none (h00.trans h01)
      have hblk := World.block_lt_of_cell? w a (h00.trans h01)
      refine ⟨a.block, a.off, by cases a; simp_all, hblk, fun j u hu => ?_⟩
      have hjl : j < len * k := by
        have := (List.getElem?_eq_some_iff.1 hu).1
        rwa [flatten_len hmem, hl2] at this
      have hjk : j % k < k := Nat.mod_lt _ hk
      have hji : j / k < len := (Nat.div_lt_iff_lt_mul hk).2 hjl
      have hdm : j / k * k + j % k = j := by rw [Nat.mul_comm]; exact Nat.div_add_mod j k
      rw [← hdm, flatten_at hmem _ _ hjk] at hu
      simp only [List.getElem?_map, List.getElem?_range hji, Option.map_some, Option.bind_some] at hu
      have := (World.cells?_some (hF _ hji).1).2.2 _ hjk
      rw [hu, add_add, hdm, add_noneO hsp] at this
      exact this
    · obtain ⟨i, hi, rfl⟩ := List.mem_map.1 hcs
      exact ⟨_, (hF i (List.mem_range.1 hi)).2⟩
where
  add_zero_ {a : Addr} : a.add 0 = a := by unfold Addr.add; simp

theorem len2 {α : Type} : ∀ {l : List α}, l.length = 2 → ∃ a b, l = [a, b]
  | [a, b], _ => ⟨a, b, rfl⟩
theorem len3 {α : Type} : ∀ {l : List α}, l.length = 3 → ∃ a b c, l = [a, b, c]
  | [a, b, c], _ => ⟨a, b, c, rfl⟩
theorem len4 {α : Type} : ∀ {l : List α}, l.length = 4 → ∃ a b c d, l = [a, b, c, d]
  | [a, b, c, d], _ => ⟨a, b, c, d, rfl⟩
theorem list_of_all {α β : Type} {f : α → β} {q : α → Prop} : ∀ {l : List β}, (∀ b ∈ l, ∃ a, b = f a ∧ q a) → ∃ r : List α, l = r.map f ∧ ∀ a ∈ r, q a
  | [], _ => ⟨[], rfl, by simp⟩
  | b :: l, h => by
    obtain ⟨r, hr, hq⟩ := list_of_all (l := l) (fun x hx => h x (by simp [hx]))
    obtain ⟨a, rfl, ha⟩ := h b (by simp)
    exact ⟨a :: r, by rw [hr]; rfl, by simpa using ⟨ha, hq⟩⟩

theorem trodAll_stays (hl : laidOutB P = true) {W W' : World} (hb : Below W.heap.size W W') {sp : Nat → Bool} :
    ∀ {ts : List TypeId} {vs : List Value} {ds : List (DataW H)} {ps : List MemPlace}, (ts.all fun t => P.readableRec t && decide (t < P.types.size)) = true → DataW.TrodAll enc P W 0 (fun _ => true) true ts vs ds ps →
      (∀ x ∈ ps, x.block < W.heap.size) → (∀ x ∈ ps, sp x.block = true) → DataW.TrodAll enc P W' 0 sp true ts vs ds ps
  | [], [], [], _, _, h, _, _ => h
  | [], [], _ :: _, _, _, h, _, _ => h.elim
  | [], _ :: _, _, _, _, h, _, _ => by cases h
  | _ :: _, [], _, _, _, h, _, _ => by cases h
  | _ :: _, _ :: _, [], _, _, h, _, _ => h.elim
  | t :: ts, v :: vs, d :: ds, ps, ht, h, hlt, hsp => by
    obtain ⟨p, q, h1, h2, rfl⟩ := h
    simp only [List.all_cons, Bool.and_eq_true, decide_eq_true_eq] at ht
    obtain ⟨⟨t1, t2⟩, t3⟩ := ht
    exact ⟨p, q, WideElems.Trod_stays hl t1 t2 h1 (fun x hx => hb.same (hlt x (by simp [hx]))) (fun x hx => hsp x (by simp [hx])),
      trodAll_stays hl hb (by simpa using t3) h2 (fun x hx => hlt x (by simp [hx])) (fun x hx => hsp x (by simp [hx])), rfl⟩
end
end Go.Proofs.YtfeknjpinboknaaGreatDoor

namespace Go.Proofs.YtfeknjpinboknaaGreatDoor
open Go Go.RowKit Go.WideShapes Go.ChangeShapes Go.Joins Go.ChangeMaps Go.Deep
section
variable {H : Type} {enc : TypeId × Value → H} {P : Program}
theorem law_post {f : Func} {s : ChangeSpec} {W W' : World} {args : Array Value} {ds gs : List (DataW H)} {before : List MemPlace}
    (hs : s.vars = []) (hr : f.resultTypes = #[4]) (u4 : P.underlying 4 = some .bool) (hl : laidOutB P = true) (hp : (f.params.toList.all fun t => P.readableRec t && decide (t < P.types.size)) = true)
    (h1 : (s.fn H ds).results = [.lit (.bool true)]) (h2 : (s.fn H ds).args = ds) (h3 : (s.fn H ds).vars = [])
    (hW : DataW.Whole enc P f.params.toList s.vars false W args.toList ds gs before) (hb : New W W') : s.post enc P f false true false false W args (.bool true) W' := by
  have hW' := hW
  obtain ⟨p, q, hA, hV, rfl, hfz, hnd⟩ := hW
  have hlt := fun x hx => hW'.lt x hx
  rw [hs] at hV
  obtain ⟨rfl, rfl⟩ := trodVars_none hV
  refine post_of_below (pa := p) (pv := []) hW' (fun _ _ _ => ?_) (fun sp hsp => ?_) (fun _ _ => ?_) rfl hb (ok_one hr rfl (okWide_bool_mk u4 _))
  · rw [List.append_nil, h1, hr]; exact trodAll_cons_mk (shut_bool u4 _) trodAll_mk0
  · rw [List.append_nil, h2]
    exact trodAll_stays hl hb hp hA (fun x hx => hlt x (by simp [hx])) (fun x hx => hsp x (by simp [hx]))
  · rw [List.append_nil, h3, hs]; rfl
end
theorem laidOut_ : laidOutB Tryz.prog = true := by kernel_rfl
theorem own_ : ownKnob Tryz.prog.godebug = none := by kernel_rfl

end Go.Proofs.YtfeknjpinboknaaGreatDoor

namespace Go.Proofs.YtfeknjpinboknaaGreatDoor
open Go Go.RowKit Go.WideShapes Go.ChangeShapes Go.Joins Go.ChangeMaps Go.Deep
set_option linter.unusedVariables false
section
variable {H : Type} {enc : TypeId × Value → H} {P : Program} {w : World} {base : Nat} {spare : Nat → Bool} {held : Bool}
theorem take_one {α : Type} {l : List α} {i : Nat} {v : α} (h : l[i]? = some v) : (l.drop i).take 1 = [v] := by
  obtain ⟨hi, rfl⟩ := List.getElem?_eq_some_iff.1 h
  rw [List.drop_eq_getElem_cons hi]; rfl
theorem trod_fields {t : TypeId} {fs : Array Field} {fuel : Nat} {cs : List Value} {x : DataW H × List MemPlace} (hs : P.underlying t = some (.struct fs)) (hone : oneCellFields P fs = true) (h : DataW.trod enc P w base spare held fuel t cs = some x) :
    cs.length = P.cellsOf t ∧ ∃ n, ∀ (i : Nat) (f : Field) (v : Value), fs[i]? = some f → cs[i]? = some v → ∃ y, DataW.trod enc P w base spare held n f.type [v] = some y := by
  obtain ⟨xs, n, _, rfl, hl, hlen, hf⟩ := DataW.trod_struct hs h
  refine ⟨hl, n, fun i f v hi hv => ?_⟩
  have := hf i f hi
  obtain ⟨o0, k0⟩ := hone_of hone i f hi
  rw [o0, k0, take_one hv] at this
  have hix : i < xs.length := by have := (Array.getElem?_eq_some_iff.1 hi).1; omega
  rw [List.getElem?_eq_getElem hix] at this
  exact ⟨_, this⟩
end
section
variable {H : Type} {enc : TypeId × Value → H} {w : World} {spare : Nat → Bool} {held : Bool}
theorem open_s {n : Nat} {v : Value} {y : DataW H × List MemPlace} (h : DataW.trod enc Tryz.prog w 0 spare held n 9 [v] = some y) : ∃ s : ByteArray, v = .string s ∧ s.size ≤ 9223372036854775807 := by
  obtain ⟨s, e, _, hs⟩ := DataW.trod_string Tryz.underlying9 h
  exact ⟨s, by simpa using e, hs⟩
theorem open_n {n : Nat} {v : Value} {y : DataW H × List MemPlace} (h : DataW.trod enc Tryz.prog w 0 spare held n 3 [v] = some y) : ∃ m : Int, v = .int .i64 m := by
  obtain ⟨m, e, _, hw⟩ := DataW.trod_int Tryz.underlying3 h
  exact ⟨m, by simpa using e⟩
theorem cells9 : Tryz.prog.cellsOf 9 = 1 := by kernel_rfl
theorem cells55 : Tryz.prog.cellsOf 55 = 3 := by kernel_rfl
theorem cells24 : Tryz.prog.cellsOf 24 = 2 := by kernel_rfl
theorem one55 : ∃ f0 f1 f2, Tryz.prog.underlying 55 = some (.struct #[f0, f1, f2]) ∧ oneCellFields Tryz.prog #[f0, f1, f2] = true ∧ f0.type = 3 ∧ f1.type = 3 ∧ f2.type = 49 := ⟨_, _, _, Tryz.underlying55, by kernel_rfl, rfl, rfl, rfl⟩
theorem one24 : ∃ f0 f1, Tryz.prog.underlying 24 = some (.struct #[f0, f1]) ∧ oneCellFields Tryz.prog #[f0, f1] = true ∧ f0.type = 9 ∧ f1.type = 22 := ⟨_, _, Tryz.underlying24, by kernel_rfl, rfl, rfl⟩
theorem str_flat : ∀ (l : List ByteArray), (l.map fun s => [Value.string s]).flatten = sCells l
  | [] => rfl
  | s :: l => by rw [List.map_cons, List.flatten_cons, str_flat l]; rfl
theorem open_strs {fuel : Nat} {v : Value} {x : DataW H × List MemPlace} (h : DataW.trod enc Tryz.prog w 0 spare held fuel 49 [v] = some x) : ∃ A c ws, v = .slice A (ws : List ByteArray).length c ∧ ws.length ≤ c ∧ c ≤ maxLen ∧ Rd w 1 A ws.length (sCells ws) := by
  obtain ⟨A, c, f', css, rfl, hc1, hc2, _, hr, hall⟩ := open_rows Tryz.underlying49 cells9 (by decide) h
  obtain ⟨ws, rfl, hw⟩ := list_of_all (f := fun s : ByteArray => [Value.string s]) (q := fun s => s.size ≤ 9223372036854775807) (l := css) (fun cs hcs => by
    obtain ⟨y, hy⟩ := hall cs hcs
    obtain ⟨s, e1, _, hs⟩ := DataW.trod_string Tryz.underlying9 hy
    exact ⟨s, e1, hs⟩)
  rw [List.length_map] at hc1 hr
  rw [str_flat] at hr
  exact ⟨A, c, ws, by rw [List.length_map], hc1, hc2, hr⟩
def HmQ (w : World) (h : Hm) : Prop := Rd w 1 h.adr h.lines.length (sCells h.lines) ∧ h.lines.length ≤ h.cap ∧ h.lines.length ≤ maxLen
theorem open_hm {fuel : Nat} {cs : List Value} {x : DataW H × List MemPlace} (h : DataW.trod enc Tryz.prog w 0 spare held fuel 55 cs = some x) : ∃ p : Hm, cs = hmC p ∧ HmQ w p := by
  obtain ⟨f0, f1, f2, hu, hone, t0, t1, t2⟩ := one55
  obtain ⟨hl, n, hf⟩ := trod_fields hu hone h
  rw [cells55] at hl
  obtain ⟨c0, c1, c2, rfl⟩ := len3 hl
  obtain ⟨y0, h0⟩ := hf 0 f0 c0 rfl rfl
  rw [t0] at h0
  obtain ⟨v0, rfl⟩ := open_n h0
  obtain ⟨y1, h1⟩ := hf 1 f1 c1 rfl rfl
  rw [t1] at h1
  obtain ⟨v1, rfl⟩ := open_n h1
  obtain ⟨y2, h2⟩ := hf 2 f2 c2 rfl rfl
  rw [t2] at h2
  obtain ⟨A, c, ws, rfl, q1, q2, q3⟩ := open_strs h2
  exact ⟨⟨v0, v1, ws, A, c⟩, rfl, q3, q1, by simp only; omega⟩
theorem open_hms {fuel : Nat} {v : Value} {x : DataW H × List MemPlace} (h : DataW.trod enc Tryz.prog w 0 spare held fuel 22 [v] = some x) :
    ∃ A c hs, v = .slice A (hs : List Hm).length c ∧ hs.length ≤ maxLen ∧ PRd w A hs.length hs ∧ ∀ h ∈ hs, h.lines.length ≤ maxLen := by
  obtain ⟨A, c, f', css, rfl, hc1, hc2, _, hr, hall⟩ := open_rows Tryz.underlying22 cells55 (by decide) h
  obtain ⟨hs, rfl, hq⟩ := list_of_all (f := hmC) (q := HmQ w) (l := css) (fun cs hcs => by
    obtain ⟨y, hy⟩ := hall cs hcs
    exact open_hm hy)
  rw [List.length_map] at hc1 hr
  rw [← List.flatMap_def] at hr
  exact ⟨A, c, hs, by rw [List.length_map], by omega, ⟨rfl, hr, fun x hx => ⟨(hq x hx).1, (hq x hx).2.1⟩⟩, fun x hx => (hq x hx).2.2⟩
set_option maxRecDepth 100000 in
theorem open_p {r : Reach} {b0 : Nat} {v : Value} {d : DataW H} {p : List MemPlace} (hv : Value.okWide Tryz.prog w r b0 24 v) (h : DataW.Trod enc Tryz.prog w 0 spare held 24 v d p) :
    ∃ base A c hs, v = .agg #[.string base, .slice A (hs : List Hm).length c] ∧ PRd w A hs.length hs ∧ hs.length ≤ maxLen ∧ ∀ h ∈ hs, h.lines.length ≤ maxLen := by
  obtain ⟨f0, f1, hu, hone, t0, t1⟩ := one24
  obtain ⟨cs, rfl, hsz⟩ := okWide_struct hu hv
  obtain ⟨c0, c1, rfl⟩ : ∃ c0 c1, cs = #[c0, c1] := by
    obtain ⟨l⟩ := cs
    match l, hsz.trans cells24 with
    | [c0, c1], _ => exact ⟨c0, c1, rfl⟩
  obtain ⟨fuel, hf0⟩ := h
  obtain ⟨hl, n, hf⟩ := trod_fields (cs := [c0, c1]) hu hone hf0
  obtain ⟨y0, h0⟩ := hf 0 f0 c0 rfl rfl
  rw [t0] at h0
  obtain ⟨s, rfl, _⟩ := open_s h0
  obtain ⟨y1, h1⟩ := hf 1 f1 c1 rfl rfl
  rw [t1] at h1
  obtain ⟨A, c, hs, rfl, q1, q2, q3⟩ := open_hms h1
  exact ⟨s, A, c, hs, rfl, q2, q1, q3⟩
end
end Go.Proofs.YtfeknjpinboknaaGreatDoor

