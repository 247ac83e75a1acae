/- What the rows' lists of package-level variables give (Env), and a world that has them. The rows' last step where the call only made memory. No conditions of ours. Turned from the kit's page of small extras. Arguments opened, over any program: a slice that is read as data has its cells; what is read is read again where only new memory was made. No conditions. The rows' last step for a law that returns true and makes new memory only. No conditions of ours. -/
import Derived.Test.YtnknmpcgbfmfjaaGreatDoorGA
import Derived.Test.YtnknmpcgbfmfjaaGreatDoorCards
import Derived.Test.YtnknmpcgbfmfjaaGreatDoorTie
import Derived.ProofKit
import Derived.OpenShut
import Derived.ChangeMaps5
import Derived.ChangeSame
import Derived.Deep.DeepHandedRow
import Derived.Lib.LaidTab
import Derived.Stop.LaidErr
import Derived.Lib.SmallJoins
import Derived.Lib.ItoaNum
import Derived.Test.YtnknmpcgbfmfjaaGreatDoorGBase
import Derived.Deep.Slices
import Derived.Deep.Strs
import Derived.Carry

namespace Go.Proofs.YtnknmpcgbfmfjaaGreatDoor
open Go Go.RowKit Go.Joins Go.ChangeShapes Go.WideShapes Go.ChangeAt

theorem gMax : Tryz.prog.globalNamed "internal/bytealg.MaxLen" = some 1 := by kernel_rfl
theorem gPow10T : (Tryz.prog.globals[0]?).map (·.type) = some 234 := by kernel_rfl
theorem cellsPow : Tryz.prog.cellsOf 234 = 20 := by kernel_rfl
abbrev laidList : List (String × DataW Unit) := Rows.binaryPlacesRow.laid
theorem laid_plain {W : World} (h : laidMetH Tryz.prog laidList W) : laidMet Tryz.prog laidList W := by
  have e : laidMetH Tryz.prog laidList W = laidMet Tryz.prog laidList W := by kernel_rfl
  exact e ▸ h
theorem env_of {W : World} (h : laidMetH Tryz.prog laidList W) (hsh : W.ShapedOpen Tryz.prog) : Env W := by
  have h0 := laid_plain h
  have h2 := h0.tail.tail
  exact ⟨Go.Proofs.cell_of_shapedOpen_int (zero := #[.int .i64 0]) (t := 3) hsh (of_decide_eq_true (by kernel_rfl)) (by kernel_rfl) rfl (by kernel_rfl) (by kernel_rfl) Tryz.underlying3, Lib.tabIs_of_head (rest := _) gPow10 gPow10T Tryz.underlying234 Tryz.underlying124 (by kernel_rfl) cellsPow h2⟩

noncomputable def setVar (g : Nat) (cs : Array Value) (h : Array Obj) : Array Obj := h.modify g fun
  | .cells _ t frozen => .cells cs t frozen
  | o => o
def nums (zs : List Nat) : Array Value := (zs.map fun (z : Nat) => Value.int .u8 (z : Int)).toArray
def tab32 : List Nat := [0, 1, 28, 2, 29, 14, 24, 3, 30, 22, 20, 15, 25, 17, 4, 8, 31, 27, 13, 23, 21, 19, 16, 7, 26, 12, 18, 6, 11, 5, 10, 9]
def tabAccept : List Nat := [128, 191, 160, 191, 128, 159, 144, 191, 128, 143, 0, 0, 0, 0, 0, 0, 0, 0, 0, 0, 0, 0, 0, 0, 0, 0, 0, 0, 0, 0, 0, 0]
def tab64 : List Nat := [0, 1, 56, 2, 57, 49, 28, 3, 61, 58, 42, 50, 38, 29, 17, 4, 62, 47, 59, 36, 45, 43, 51, 22, 53, 39, 33, 30, 24, 18, 12, 5, 63, 55, 48, 27, 60, 41, 37, 16, 46, 35, 44, 21, 52, 32, 23, 11, 54, 26, 40, 15, 34, 20, 31, 10, 25, 14, 19, 9, 13, 8, 7, 6]
noncomputable def laidWorld (os : Os) : World :=
  let w0 := World.holding Tryz.prog os ⟨#[], #[], []⟩
  { w0 with heap := setVar 2 (nums Go.Pinned.utf8FirstZ) (setVar 3 (nums tabAccept) (setVar 0 (Lib.pow10Tab.map fun z => Value.int .u64 z).toArray (setVar 4 (nums tab32) (setVar 5 (nums tab64) w0.heap)))) }
theorem laid_met (os : Os) (args : Array Value) : laidMet Tryz.prog laidList ((laidWorld os).forCall (fun _ _ => 0) ⟨#[], args, []⟩).memory :=
  laidMet_of_run' 8 (by kernel_rfl) (by kernel_rfl)
end Go.Proofs.YtnknmpcgbfmfjaaGreatDoor

namespace Go.Proofs.YtnknmpcgbfmfjaaGreatDoor
open Go Go.RowKit Go.WideShapes Go.ChangeShapes
section
variable {H : Type} {enc : TypeId × Value → H} {P : Program}
theorem post_of_below {f : Func} {s : ChangeSpec} {apart fresh handsOn again : Bool} {W W' : World} {args : Array Value} {v : Value} {ds gs : List (DataW H)} {before pa pv : List MemPlace}
    (hW : DataW.Whole enc P f.params.toList s.vars apart W args.toList ds gs before)
    (hres : ∀ (b : Nat) (sp : Nat → Bool) (hd : Bool), DataW.TrodAll enc P W' b sp hd f.resultTypes.toList (v.resultList f.resultTypes.size) (s.fn H (ds ++ gs)).results [])
    (hargs : ∀ sp : Nat → Bool, (∀ p ∈ before, sp p.block = true) → DataW.TrodAll enc P W' 0 sp true f.params.toList args.toList (s.fn H (ds ++ gs)).args pa)
    (hvars : ∀ sp : Nat → Bool, (∀ p ∈ before, sp p.block = true) → DataW.TrodVars enc P W' sp s.vars (s.fn H (ds ++ gs)).vars pv)
    (hps : before = pa ++ pv) (hb : Below W.heap.size W W')
    (hok : ∀ (j : Nat) (t : TypeId) (r : Value), f.resultTypes[j]? = some t → (v.resultList f.resultTypes.size)[j]? = some r → Value.okWide P W' .any 0 t r) :
    s.post enc P f apart fresh handsOn again W args v W' := by
  have hlt : ∀ p ∈ before, p.block < W.heap.size := fun p hp => hW.lt p hp
  have hold : ∀ p ∈ before, (fun b => decide (b < W.heap.size)) p.block = true := fun p hp => by simpa using hlt p hp
  refine ⟨ds, gs, before, [], pa, pv, hW, hres _ _ _, hargs _ hold, hvars _ hold, World.keptBut_mono (fun p hp => ⟨hp, ?_⟩) (hb.frame (· ∈ before)), fun _ => ?_⟩
  · rw [hps, List.mem_append] at hp
    exact Or.inr hp
  · obtain ⟨_, _, _, _, _, hz, hn⟩ := hW
    refine ⟨hok, _, _, ([] ++ pa) ++ pv, ⟨[] ++ pa, pv, trodAll_append (hargs _ (fun _ _ => rfl)) (hres _ _ _), hvars _ (fun _ _ => rfl), rfl, ?_, ?_⟩, ?_⟩
    · intro b off hp
      have hin : MemPlace.cell b off ∈ before := by rw [hps]; simpa using hp
      rw [hb.frozen (hlt _ hin)]
      exact hz b off hin
    · intro ha
      have := hn ha
      rw [hps] at this
      simpa using this
    · intro p hp _
      rw [hps]
      simpa using hp
end
end Go.Proofs.YtnknmpcgbfmfjaaGreatDoor

namespace Go.Proofs.YtnknmpcgbfmfjaaGreatDoor
open Go Go.RowKit Go.ChangeShapes Go.WideShapes Go.Deep
section
variable {H : Type} {enc : TypeId × Value → H} {P : Program} {w : World} {base : Nat} {spare : Nat → Bool} {held : Bool}

theorem add_none {a : Addr} (h : a.spot = none) (i : Nat) : a.add i = ⟨a.block, a.off + i, none⟩ := by
  unfold Addr.add
  split
  · rename_i h0; subst h0; cases a; simp_all
  · rfl
theorem spot_none {a : Addr} {v : Value} (h : w.cell? a = some v) : a.spot = none := by
  unfold World.cell? at h
  split at h
  · split at h
    · cases h
    · rename_i h1; simpa using h1
  · cases h
theorem flatten_at {α : Type} {k : Nat} : ∀ {l : List (List α)}, (∀ x ∈ l, x.length = k) → ∀ (i j : Nat), j < k → l.flatten[i * k + j]? = (l[i]?).bind (·[j]?)
  | [], _, i, j, _ => by simp
  | x :: r, h, 0, j, hj => by
    have hx : x.length = k := h x (by simp)
    rw [List.flatten_cons, Nat.zero_mul, Nat.zero_add, List.getElem?_append_left (by omega)]; rfl
  | x :: r, h, i + 1, j, hj => by
    have hx : x.length = k := h x (by simp)
    have ih := flatten_at (l := r) (fun y hy => h y (by simp [hy])) i j hj
    rw [List.flatten_cons, List.getElem?_append_right (by rw [hx, Nat.add_mul]; omega), hx, show (i + 1) * k + j - k = i * k + j by rw [Nat.add_mul]; omega, ih]
    rfl
theorem flatten_len {α : Type} {k : Nat} : ∀ {l : List (List α)}, (∀ x ∈ l, x.length = k) → l.flatten.length = l.length * k
  | [], _ => by simp
  | x :: r, h => by
    have hx : x.length = k := h x (by simp)
    have ih := flatten_len (l := r) (fun y hy => h y (by simp [hy]))
    rw [List.flatten_cons, List.length_append, hx, ih, List.length_cons, Nat.add_mul]; omega

theorem open_rows {t e k : Nat} {fuel : Nat} {v : Value} {x : DataW H × List MemPlace} (ht : P.underlying t = some (.slice e)) (hc : P.cellsOf e = k) (hk : 0 < k)
    (h : DataW.trod enc P w base spare held fuel t [v] = some x) :
    ∃ (A : Option Addr) (c fuel' : Nat) (css : List (List Value)), v = .slice A css.length c ∧ css.length ≤ c ∧ c ≤ maxLen ∧ (∀ cs ∈ css, cs.length = k) ∧ Rd w k A css.length css.flatten ∧
      ∀ cs ∈ css, ∃ y, DataW.trod enc P w base spare held fuel' e cs = some y := by
  rcases open_slice ht h with ⟨h0, _⟩ | ⟨a, len, cap, m, n, D, Pl, h0, hb, hl, hm, hmm, _, hx⟩
  · injection h0 with h0 _
    subst h0
    exact ⟨none, 0, 0, [], rfl, Nat.le_refl _, by simp [maxLen], by simp, Rd.none_ none, by simp⟩
  · injection h0 with h0 _
    subst h0
    have hlm : len ≤ m := by rw [hmm]; split <;> omega
    rw [hc] at hx
    obtain ⟨F, hF⟩ := choose_lt (α := List Value) (p := fun i cs => w.cells? base (a.add (i * k)) k = some cs ∧ DataW.trod enc P w base spare held n e cs = some (D i, Pl i)) (fun i (hi : i < len) => hx i (by omega))
    have hlen : ∀ i, i < len → (F i).length = k := fun i hi => (World.cells?_some (hF i hi).1).2.1
    have hmem : ∀ cs ∈ (List.range len).map F, cs.length = k := fun cs hcs => by
      obtain ⟨i, hi, rfl⟩ := List.mem_map.1 hcs
      exact hlen i (List.mem_range.1 hi)
    have hl2 : ((List.range len).map F).length = len := by simp
    refine ⟨some a, cap, n, (List.range len).map F, by rw [hl2], by rw [hl2]; exact hl, hm, hmem, ?_, fun cs hcs => ?_⟩
    · rw [hl2]
      refine ⟨by rw [flatten_len hmem, hl2], fun hn => ?_⟩
      have h00 := (World.cells?_some (hF 0 hn).1).2.2 0 hk
      rw [Nat.zero_mul, add_zero_, add_zero_] at h00
      have h01 : (F 0)[0]? = some ((F 0)[0]'(by rw [hlen 0 hn]; exact hk)) := List.getElem?_eq_getElem _
      have hsp := spot_none (h00.trans h01)
      have hblk := World.block_lt_of_cell? w a (h00.trans h01)
      refine ⟨a.block, a.off, by cases a; simp_all, hblk, fun j u hu => ?_⟩
      have hjl : j < len * k := by
        have := (List.getElem?_eq_some_iff.1 hu).1
        rwa [flatten_len hmem, hl2] at this
      have hjk : j % k < k := Nat.mod_lt _ hk
      have hji : j / k < len := (Nat.div_lt_iff_lt_mul hk).2 hjl
      have hdm : j / k * k + j % k = j := by rw [Nat.mul_comm]; exact Nat.div_add_mod j k
      rw [← hdm, flatten_at hmem _ _ hjk] at hu
      simp only [List.getElem?_map, List.getElem?_range hji, Option.map_some, Option.bind_some] at hu
      have := (World.cells?_some (hF _ hji).1).2.2 _ hjk
      rw [hu, add_add, hdm, add_none hsp] at this
      exact this
    · obtain ⟨i, hi, rfl⟩ := List.mem_map.1 hcs
      exact ⟨_, (hF i (List.mem_range.1 hi)).2⟩
where
  add_zero_ {a : Addr} : a.add 0 = a := by unfold Addr.add; simp

theorem len2 {α : Type} : ∀ {l : List α}, l.length = 2 → ∃ a b, l = [a, b]
  | [a, b], _ => ⟨a, b, rfl⟩
theorem len3 {α : Type} : ∀ {l : List α}, l.length = 3 → ∃ a b c, l = [a, b, c]
  | [a, b, c], _ => ⟨a, b, c, rfl⟩
theorem len4 {α : Type} : ∀ {l : List α}, l.length = 4 → ∃ a b c d, l = [a, b, c, d]
  | [a, b, c, d], _ => ⟨a, b, c, d, rfl⟩
theorem list_of_all {α β : Type} {f : α → β} {q : α → Prop} : ∀ {l : List β}, (∀ b ∈ l, ∃ a, b = f a ∧ q a) → ∃ r : List α, l = r.map f ∧ ∀ a ∈ r, q a
  | [], _ => ⟨[], rfl, by simp⟩
  | b :: l, h => by
    obtain ⟨r, hr, hq⟩ := list_of_all (l := l) (fun x hx => h x (by simp [hx]))
    obtain ⟨a, rfl, ha⟩ := h b (by simp)
    exact ⟨a :: r, by rw [hr]; rfl, by simpa using ⟨ha, hq⟩⟩

theorem trodAll_stays (hl : laidOutB P = true) {W W' : World} (hb : Below W.heap.size W W') {sp : Nat → Bool} :
    ∀ {ts : List TypeId} {vs : List Value} {ds : List (DataW H)} {ps : List MemPlace}, (ts.all fun t => P.readableRec t && decide (t < P.types.size)) = true → DataW.TrodAll enc P W 0 (fun _ => true) true ts vs ds ps →
      (∀ x ∈ ps, x.block < W.heap.size) → (∀ x ∈ ps, sp x.block = true) → DataW.TrodAll enc P W' 0 sp true ts vs ds ps
  | [], [], [], _, _, h, _, _ => h
  | [], [], _ :: _, _, _, h, _, _ => h.elim
  | [], _ :: _, _, _, _, h, _, _ => by cases h
  | _ :: _, [], _, _, _, h, _, _ => by cases h
  | _ :: _, _ :: _, [], _, _, h, _, _ => h.elim
  | t :: ts, v :: vs, d :: ds, ps, ht, h, hlt, hsp => by
    obtain ⟨p, q, h1, h2, rfl⟩ := h
    simp only [List.all_cons, Bool.and_eq_true, decide_eq_true_eq] at ht
    obtain ⟨⟨t1, t2⟩, t3⟩ := ht
    exact ⟨p, q, WideElems.Trod_stays hl t1 t2 h1 (fun x hx => hb.same (hlt x (by simp [hx]))) (fun x hx => hsp x (by simp [hx])),
      trodAll_stays hl hb (by simpa using t3) h2 (fun x hx => hlt x (by simp [hx])) (fun x hx => hsp x (by simp [hx])), rfl⟩
end
end Go.Proofs.YtnknmpcgbfmfjaaGreatDoor

namespace Go.Proofs.YtnknmpcgbfmfjaaGreatDoor
open Go Go.RowKit Go.WideShapes Go.ChangeShapes Go.Joins Go.ChangeMaps Go.Deep
section
variable {H : Type} {enc : TypeId × Value → H} {P : Program}
theorem law_post {f : Func} {s : ChangeSpec} {W W' : World} {args : Array Value} {ds gs : List (DataW H)} {before : List MemPlace}
    (hs : s.vars = []) (hr : f.resultTypes = #[4]) (u4 : P.underlying 4 = some .bool) (hl : laidOutB P = true) (hp : (f.params.toList.all fun t => P.readableRec t && decide (t < P.types.size)) = true)
    (h1 : (s.fn H ds).results = [.lit (.bool true)]) (h2 : (s.fn H ds).args = ds) (h3 : (s.fn H ds).vars = [])
    (hW : DataW.Whole enc P f.params.toList s.vars false W args.toList ds gs before) (hb : New W W') : s.post enc P f false true false false W args (.bool true) W' := by
  have hW' := hW
  obtain ⟨p, q, hA, hV, rfl, hfz, hnd⟩ := hW
  have hlt := fun x hx => hW'.lt x hx
  rw [hs] at hV
  obtain ⟨rfl, rfl⟩ := trodVars_none hV
  refine post_of_below (pa := p) (pv := []) hW' (fun _ _ _ => ?_) (fun sp hsp => ?_) (fun _ _ => ?_) rfl hb (ok_one hr rfl (okWide_bool_mk u4 _))
  · rw [List.append_nil, h1, hr]; exact trodAll_cons_mk (shut_bool u4 _) trodAll_mk0
  · rw [List.append_nil, h2]
    exact trodAll_stays hl hb hp hA (fun x hx => hlt x (by simp [hx])) (fun x hx => hsp x (by simp [hx]))
  · rw [List.append_nil, h3, hs]; rfl
end
theorem laidOut_ : laidOutB Tryz.prog = true := by kernel_rfl
theorem own_ : ownKnob Tryz.prog.godebug = none := by kernel_rfl

end Go.Proofs.YtnknmpcgbfmfjaaGreatDoor

