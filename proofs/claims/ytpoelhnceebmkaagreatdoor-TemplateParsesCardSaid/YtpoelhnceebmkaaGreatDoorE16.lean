/- The reference's Parse: what stands between the steps of its walk. No conditions. -/
import Derived.Test.YtpoelhnceebmkaaGreatDoorE15
namespace Go.Proofs.YtpoelhnceebmkaaGreatDoor
open Go Go.RowKit Go.Shelf
set_option linter.unusedSimpArgs false
set_option linter.unusedVariables false

abbrev rz : Array Value := #[.string ⟨#[]⟩, .slice none 0 0, .int .i64 0, .int .i64 0]
/-- The parts so far are qs; the last one has the hole h, the words ws so far; its row lies apart from the others. -/
structure InvR (nm : ByteArray) (w : World) (m g cP : Nat) (qs : List QV) (h : Int) (ws : List ByteArray) (u : Value) (wr : World) : Prop where
  new : New w wr
  len : qs.length = m
  res : Blk wr w.heap.size 30 rz
  tpl : Blk wr (w.heap.size + 2) 25 #[.string nm, .slice (some ⟨g, 0, none⟩) (m + 1) cP]
  row : wr.ownsRow w.heap.size 58 2 (.slice (some ⟨g, 0, none⟩) (m + 1) cP) (m + 1) (qCells qs ++ [.int .i64 h, u])
  own : ∀ q ∈ qs, wr.ownsRow w.heap.size 9 1 q.2 q.1.2.length (sCells q.1.2)
  last : wr.ownsRow w.heap.size 9 1 u ws.length (sCells ws)
  apart : ∀ q ∈ qs, ∀ b, u.ownBlock = some b → q.2.ownBlock ≠ some b
theorem InvR.turn {nm : ByteArray} {w : World} {m g cP : Nat} {qs : List QV} {h : Int} {ws : List ByteArray} {u : Value} {wr W : World} (I : InvR nm w m g cP qs h ws u wr) (hn : New wr W) : InvR nm w m g cP qs h ws u W :=
  ⟨I.new.trans hn, I.len, I.res.new hn, I.tpl.new hn, own_new I.row hn, fun q hq => own_new (I.own q hq) hn, own_new I.last hn, I.apart⟩
theorem InvR.lastc {nm : ByteArray} {w : World} {m g cP : Nat} {qs : List QV} {h : Int} {ws : List ByteArray} {u : Value} {wr : World} (I : InvR nm w m g cP qs h ws u wr) : wr.cell? ⟨g, m * 2 + 1, none⟩ = some u := by
  rw [I.row.cellAt (m * 2 + 1) (by omega), List.getElem?_append_right (by rw [qCells_len, I.len]; omega), qCells_len, I.len]; simp
/-- One word more. -/
theorem InvR.add {nm : ByteArray} {w : World} {m g cP : Nat} {qs : List QV} {h : Int} {ws : List ByteArray} {u v2 : Value} {wr w2 : World} (I : InvR nm w m g cP qs h ws u wr) (x : ByteArray)
    (hown : w2.ownsRow w.heap.size 9 1 v2 (ws.length + 1) (sCells ws ++ [.string x])) (hgrow : ((wr.alloc (.cells #[.string x] 9)).drew).grownBy w2 u.ownBlock)
    (hv : v2.ownBlock = u.ownBlock ∨ v2.ownBlock = some ((wr.alloc (.cells #[.string x] 9)).drew).heap.size) :
    InvR nm w m g cP qs h (ws ++ [x]) v2 (w2.setCell ⟨g, m * 2 + 1, none⟩ v2) := by
  have e1 : w.heap.size ≠ g := fun e => own_off_blk I.row I.res (by decide) (by rw [e]; rfl)
  have e2 : w.heap.size + 2 ≠ g := fun e => own_off_blk I.row I.tpl (by decide) (by rw [e]; rfl)
  have hg : w.heap.size ≤ g ∧ g < wr.heap.size := I.row.lt g rfl
  have hz := I.new.size
  have hlow := I.last.lt
  have res2 : Blk w2 w.heap.size 30 rz := ((I.res.alloc _).drew).grown hgrow (blk_apart I.res I.last (by decide))
  have tpl2 : Blk w2 (w.heap.size + 2) 25 #[.string nm, .slice (some ⟨g, 0, none⟩) (m + 1) cP] := ((I.tpl.alloc _).drew).grown hgrow (blk_apart I.tpl I.last (by decide))
  have row2 : w2.ownsRow w.heap.size 58 2 (.slice (some ⟨g, 0, none⟩) (m + 1) cP) (m + 1) (qCells qs ++ [.int .i64 h, u]) := ((I.row.alloc _).drew).kept hgrow (.inr (fun e => own_off I.row I.last (by decide) e.symm rfl))
  have own2 : ∀ q ∈ qs, w2.ownsRow w.heap.size 9 1 q.2 q.1.2.length (sCells q.1.2) := fun q hq => by
    refine (((I.own q hq).alloc _).drew).kept hgrow ?_
    cases hu : u.ownBlock with
    | none => cases hv : q.2.ownBlock with
      | none => exact .inl rfl
      | some b => exact .inr (fun e => by cases e)
    | some b => exact .inr (I.apart q hq b hu)
  have hst := (row2.stored (m * 2 + 1) v2).1
  have hgs := (row2.stored (m * 2 + 1) v2).2
  rw [show (qCells qs ++ [.int .i64 h, u]).set (m * 2 + 1) v2 = qCells qs ++ [.int .i64 h, v2] by rw [List.set_append, if_neg (by rw [qCells_len, I.len]; omega), qCells_len, I.len]; simp] at hst
  refine ⟨?_, I.len, res2.far (p := ⟨g, m * 2 + 1, none⟩) e1 v2, tpl2.far (p := ⟨g, m * 2 + 1, none⟩) e2 v2, hst, fun q hq => (own2 q hq).kept hgs (.inr (fun e => own_off (own2 q hq) row2 (by decide) (g := g) rfl e)), ?_, ?_⟩
  · exact (Below.grown ((I.new.alloc _).drew) hgrow (by show _ ≤ (wr.alloc _).heap.size; rw [World.size_alloc]; omega) (fun k e => (hlow k e).1)).setCell (p := ⟨g, m * 2 + 1, none⟩) hg.1 v2
  · exact own_to (hown.kept hgs (.inr (fun e => own_off hown row2 (by decide) (g := g) rfl e))) (by simp) (by simp [sCells])
  · intro q hq b hb
    rcases hv with hv | hv
    · exact I.apart q hq b (hv ▸ hb)
    · intro e
      have := ((I.own q hq).lt b e).2
      rw [hv] at hb
      have h3 : (wr.alloc (.cells #[.string x] 9)).heap.size = b := Option.some.inj hb
      rw [World.size_alloc] at h3
      omega
/-- One part more. -/
theorem InvR.push {nm : ByteArray} {w : World} {m g cP g2 c2 : Nat} {qs : List QV} {h h2 : Int} {ws : List ByteArray} {u : Value} {wr W : World} (I : InvR nm w m g cP qs h ws u wr) 
    (h0 : wr.grownBy W (some g)) (h1 : W.ownsRow w.heap.size 58 2 (.slice (some ⟨g2, 0, none⟩) (m + 1 + 1) c2) (m + 1 + 1) (qCells qs ++ [.int .i64 h, u] ++ [.int .i64 h2, .slice none 0 0])) :
    InvR nm w (m + 1) g2 c2 (qs ++ [((h, ws), u)]) h2 [] (.slice none 0 0) (W.setCell ⟨w.heap.size + 2, 1, none⟩ (.slice (some ⟨g2, 0, none⟩) (m + 1 + 1) c2)) := by
  have e1 : w.heap.size ≠ g := fun e => own_off_blk I.row I.res (by decide) (by rw [e]; rfl)
  have e2 : w.heap.size + 2 ≠ g := fun e => own_off_blk I.row I.tpl (by decide) (by rw [e]; rfl)
  have hg : w.heap.size ≤ g ∧ g < wr.heap.size := I.row.lt g rfl
  have T := I.tpl.grown h0 (fun e => e2 (Option.some.inj e))
  have own : ∀ q ∈ qs ++ [((h, ws), u)], W.ownsRow w.heap.size 9 1 q.2 q.1.2.length (sCells q.1.2) := fun q hq => by
    rcases List.mem_append.1 hq with hq | hq
    · exact (I.own q hq).kept h0 (.inr (fun e => own_off (I.own q hq) I.row (by decide) rfl e))
    · rw [List.mem_singleton.1 hq]
      exact I.last.kept h0 (.inr (fun e => own_off I.last I.row (by decide) rfl e))
  refine ⟨(Below.grown I.new h0 I.new.size (fun k e => by cases e; exact hg.1)).setCell (p := ⟨w.heap.size + 2, 1, none⟩) (by show w.heap.size ≤ w.heap.size + 2; omega) _, by rw [List.length_append, I.len]; rfl, (I.res.grown h0 (fun e => e1 (Option.some.inj e))).far (by show w.heap.size ≠ w.heap.size + 2; omega) _, (T.put 1 _).same (by simp),
    own_to (h1.kept (grown_set W _ _) (.inr (fun e => own_off_blk h1 T (by decide) e))) rfl (by rw [qCells_app]; simp [qCells]), fun q hq => (own q hq).kept (grown_set W _ _) (.inr (fun e => own_off_blk (own q hq) T (by decide) e)), World.ownsRow_nil _ _ _ _, fun q hq b hb => by simp [Value.ownBlock] at hb⟩
/-- The template that is handed back. -/
theorem InvR.done {nm : ByteArray} {w : World} {m g cP : Nat} {qs : List QV} {h : Int} {ws : List ByteArray} {u : Value} {wr W : World} (I : InvR nm w m g cP qs h ws u wr) (hn : Below w.heap.size wr W) (hk : ∀ k, k ≠ w.heap.size → k < wr.heap.size → W.heap[k]? = wr.heap[k]?) (hz : wr.heap.size ≤ W.heap.size) :
    TRd W (.agg #[.string nm, .slice (some ⟨g, 0, none⟩) (m + 1) cP]) nm (pts qs ++ [(h, ws)]) := by
  have hgr : wr.grownBy W (some w.heap.size) := ⟨hn.os, hn.tape, hn.output, hz, fun k h1 h2 => hk k (fun e => h2 (by rw [e])) h1⟩
  have row := I.row.kept hgr (.inr (fun e => own_off_blk I.row I.res (by decide) e))
  have last := I.last.kept hgr (.inr (fun e => own_off_blk I.last I.res (by decide) e))
  have own : ∀ q ∈ qs, W.ownsRow w.heap.size 9 1 q.2 q.1.2.length (sCells q.1.2) := fun q hq => (I.own q hq).kept hgr (.inr (fun e => own_off_blk (I.own q hq) I.res (by decide) e))
  have wrd : ∀ {v : Value} {ws : List ByteArray}, W.ownsRow w.heap.size 9 1 v ws.length (sCells ws) → WRd W v ws := fun h => by
    obtain ⟨A, c, rfl, h1, h2, h3⟩ := own_form h
    exact ⟨A, c, rfl, h1, h2, h3⟩
  have hl : (pts qs ++ [(h, ws)]).length = m + 1 := by simp [pts, I.len]
  obtain ⟨A, c, e, h1, h2, h3⟩ := own_form row
  injection e with e1 e2 e3
  subst e1 e3
  refine ⟨some ⟨g, 0, none⟩, cP, by rw [hl], by rw [hl]; exact h1, h2, rfl, (qs ++ [((h, ws), u)]).map (·.2), by simp [pts], ?_, ?_⟩
  · have e : pts qs ++ [(h, ws)] = (qs ++ [((h, ws), u)]).map (·.1) := by simp [pts]
    rw [hl, e, ← qCells_pt, qCells_app]
    exact h3
  · intro i h4 h5
    have hi : i < (qs ++ [((h, ws), u)]).length := by simpa using h5
    have e : (pts qs ++ [(h, ws)])[i] = ((qs ++ [((h, ws), u)])[i]).1 := by
      have : pts qs ++ [(h, ws)] = (qs ++ [((h, ws), u)]).map (·.1) := by simp [pts]
      simp only [this, List.getElem_map]
    rw [List.getElem_map, e]
    have hm : (qs ++ [((h, ws), u)])[i] ∈ qs ++ [((h, ws), u)] := List.getElem_mem _
    rcases List.mem_append.1 hm with h6 | h6
    · exact wrd (own _ h6)
    · rw [List.mem_singleton.1 h6]; exact wrd last
/-- The template at hand, as count reads it. -/
theorem InvR.trd {nm : ByteArray} {w : World} {m g cP : Nat} {qs : List QV} {h : Int} {ws : List ByteArray} {u : Value} {wr : World} (I : InvR nm w m g cP qs h ws u wr) : TRd wr (.agg #[.string nm, .slice (some ⟨g, 0, none⟩) (m + 1) cP]) nm (pts qs ++ [(h, ws)]) :=
  I.done (Below.refl _ _) (fun _ _ _ => rfl) (Nat.le_refl _)
theorem InvR.full {nm : ByteArray} {w : World} {m g cP : Nat} {qs : List QV} {h : Int} {ws : List ByteArray} {u : Value} {wr W : World} (I : InvR nm w m g cP qs h ws u wr) (hn : New wr W) (a b c d : Value) :
    Blk ((((W.setCell ⟨w.heap.size, 0, none⟩ a).setCell ⟨w.heap.size, 1, none⟩ b).setCell ⟨w.heap.size, 2, none⟩ c).setCell ⟨w.heap.size, 3, none⟩ d) w.heap.size 30 #[a, b, c, d] ∧
    New w ((((W.setCell ⟨w.heap.size, 0, none⟩ a).setCell ⟨w.heap.size, 1, none⟩ b).setCell ⟨w.heap.size, 2, none⟩ c).setCell ⟨w.heap.size, 3, none⟩ d) ∧
    TRd ((((W.setCell ⟨w.heap.size, 0, none⟩ a).setCell ⟨w.heap.size, 1, none⟩ b).setCell ⟨w.heap.size, 2, none⟩ c).setCell ⟨w.heap.size, 3, none⟩ d) (.agg #[.string nm, .slice (some ⟨g, 0, none⟩) (m + 1) cP]) nm (pts qs ++ [(h, ws)]) := by
  have I2 := I.turn hn
  refine ⟨((((I2.res.put 0 a).put 1 b).put 2 c).put 3 d).same (by simp), (((I2.new.setCell (p := ⟨w.heap.size, 0, none⟩) (Nat.le_refl _) a).setCell (p := ⟨w.heap.size, 1, none⟩) (Nat.le_refl _) b).setCell (p := ⟨w.heap.size, 2, none⟩) (Nat.le_refl _) c).setCell (p := ⟨w.heap.size, 3, none⟩) (Nat.le_refl _) d, ?_⟩
  have hk : ∀ k, k ≠ w.heap.size → ((((W.setCell ⟨w.heap.size, 0, none⟩ a).setCell ⟨w.heap.size, 1, none⟩ b).setCell ⟨w.heap.size, 2, none⟩ c).setCell ⟨w.heap.size, 3, none⟩ d).heap[k]? = W.heap[k]? := fun k hk => (((Below.heap_setCell _ ⟨w.heap.size, 3, none⟩ d k hk).trans (Below.heap_setCell _ ⟨w.heap.size, 2, none⟩ c k hk)).trans (Below.heap_setCell _ ⟨w.heap.size, 1, none⟩ b k hk)).trans (Below.heap_setCell _ ⟨w.heap.size, 0, none⟩ a k hk)
  refine I2.done ⟨rfl, rfl, rfl, ?_, fun k h1 => hk k (by omega)⟩ (fun k h1 _ => hk k h1) ?_
  · simp [World.setCell]
  · simp [World.setCell]
/-- Between the append and the store. -/
theorem InvR.mid {nm : ByteArray} {w : World} {m g cP : Nat} {qs : List QV} {h : Int} {ws : List ByteArray} {u : Value} {wr w2 : World} (I : InvR nm w m g cP qs h ws u wr) (x : ByteArray)
    (hgrow : ((wr.alloc (.cells #[.string x] 9)).drew).grownBy w2 u.ownBlock) :
    Blk w2 (w.heap.size + 2) 25 #[.string nm, .slice (some ⟨g, 0, none⟩) (m + 1) cP] ∧ w2.ownsRow w.heap.size 58 2 (.slice (some ⟨g, 0, none⟩) (m + 1) cP) (m + 1) (qCells qs ++ [.int .i64 h, u]) ∧ w2.cell? ⟨g, m * 2 + 1, none⟩ = some u ∧ w2.frozen? ⟨g, m * 2 + 1, none⟩ = false := by
  have row2 : w2.ownsRow w.heap.size 58 2 (.slice (some ⟨g, 0, none⟩) (m + 1) cP) (m + 1) (qCells qs ++ [.int .i64 h, u]) := ((I.row.alloc _).drew).kept hgrow (.inr (fun e => own_off I.row I.last (by decide) e.symm rfl))
  refine ⟨((I.tpl.alloc _).drew).grown hgrow (blk_apart I.tpl I.last (by decide)), row2, ?_, row2.frozenAt _⟩
  rw [row2.cellAt (m * 2 + 1) (by omega), List.getElem?_append_right (by rw [qCells_len, I.len]; omega), qCells_len, I.len]; simp
/-- What the four stores into the result meet. -/
theorem InvR.store {nm : ByteArray} {w : World} {m g cP : Nat} {qs : List QV} {h : Int} {ws : List ByteArray} {u : Value} {W : World} (I : InvR nm w m g cP qs h ws u W) (a b c : Value) :
    W.cell? ⟨w.heap.size, 0, none⟩ = some (.string ⟨#[]⟩) ∧ W.frozen? ⟨w.heap.size, 0, none⟩ = false ∧
    (W.setCell ⟨w.heap.size, 0, none⟩ a).cell? ⟨w.heap.size, 1, none⟩ = some (.slice none 0 0) ∧ (W.setCell ⟨w.heap.size, 0, none⟩ a).frozen? ⟨w.heap.size, 1, none⟩ = false ∧
    ((W.setCell ⟨w.heap.size, 0, none⟩ a).setCell ⟨w.heap.size, 1, none⟩ b).cell? ⟨w.heap.size, 2, none⟩ = some (.int .i64 0) ∧ ((W.setCell ⟨w.heap.size, 0, none⟩ a).setCell ⟨w.heap.size, 1, none⟩ b).frozen? ⟨w.heap.size, 2, none⟩ = false ∧
    (((W.setCell ⟨w.heap.size, 0, none⟩ a).setCell ⟨w.heap.size, 1, none⟩ b).setCell ⟨w.heap.size, 2, none⟩ c).cell? ⟨w.heap.size, 3, none⟩ = some (.int .i64 0) ∧ (((W.setCell ⟨w.heap.size, 0, none⟩ a).setCell ⟨w.heap.size, 1, none⟩ b).setCell ⟨w.heap.size, 2, none⟩ c).frozen? ⟨w.heap.size, 3, none⟩ = false :=
  ⟨I.res.cell' 0 _ rfl, I.res.free 0, (I.res.put 0 a).cell' 1 _ rfl, (I.res.put 0 a).free 1, ((I.res.put 0 a).put 1 b).cell' 2 _ rfl, ((I.res.put 0 a).put 1 b).free 2, (((I.res.put 0 a).put 1 b).put 2 c).cell' 3 _ rfl, (((I.res.put 0 a).put 1 b).put 2 c).free 3⟩
/-- Another row stays where a word is added. -/
theorem InvR.add_row {nm : ByteArray} {w : World} {m g cP : Nat} {qs : List QV} {h : Int} {ws : List ByteArray} {u v2 : Value} {wr w2 : World} (I : InvR nm w m g cP qs h ws u wr) (x : ByteArray)
    (hgrow : ((wr.alloc (.cells #[.string x] 9)).drew).grownBy w2 u.ownBlock) {base s n : Nat} {e : TypeId} {v : Value} {xs : List Value} (hr : wr.ownsRow base e s v n xs) (h9 : e ≠ 9) (h58 : e ≠ 58) :
    w2.ownsRow base e s v n xs ∧ (w2.setCell ⟨g, m * 2 + 1, none⟩ v2).ownsRow base e s v n xs := by
  have h1 : w2.ownsRow base e s v n xs := by
    refine ((hr.alloc _).drew).kept hgrow ?_
    cases hu : u.ownBlock with
    | none => cases hv : v.ownBlock with
      | none => exact .inl rfl
      | some b => exact .inr (fun e => by cases e)
    | some b => exact .inr (own_off hr I.last h9 hu)
  have row2 : w2.ownsRow w.heap.size 58 2 (.slice (some ⟨g, 0, none⟩) (m + 1) cP) (m + 1) (qCells qs ++ [.int .i64 h, u]) := ((I.row.alloc _).drew).kept hgrow (.inr (fun e => own_off I.row I.last (by decide) e.symm rfl))
  exact ⟨h1, h1.kept (row2.stored (m * 2 + 1) v2).2 (.inr (fun e => own_off h1 row2 h58 (g := g) rfl e))⟩

theorem total_part {ps : List Pt} {p : Pt} (h : p ∈ ps) : p.2.length ≤ total ps := by
  induction ps with
  | nil => cases h
  | cons q r ih =>
    have e : total (q :: r) = q.2.length + total r := by simp [total]
    rcases List.mem_cons.1 h with rfl | h
    · omega
    · have := ih h; omega
theorem total_upto : ∀ (ps : List Pt) (i : Nat), total (ps.take i) ≤ total ps
  | [], i => by simp
  | q :: r, 0 => by simp [total]
  | q :: r, i + 1 => by
    have e : total (q :: r) = q.2.length + total r := by simp [total]
    have e2 : total ((q :: r).take (i + 1)) = q.2.length + total (r.take i) := by simp [total]
    have := total_upto r i
    omega
theorem total_W : ∀ (ps : List Pt), total ps = totW ps
  | [] => rfl
  | q :: r => by
    have e : total (q :: r) = q.2.length + total r := by simp [total]
    rw [e, total_W r]; rfl
set_option maxRecDepth 100000 in
set_option maxHeartbeats 1000000 in
theorem count_wide (v : Value) (nm : ByteArray) (ps : List Pt) (w : World) (h : TRd w v nm ps) (hs1 : ps.length ≤ 1000000) (hs2 : totW ps ≤ 1000000) :
    Calls Tryz.prog 42 #[v] w fun e w' => e = .returned (.int .i64 (totW ps : Nat)) ∧ New w w' := by
  rw [← total_W] at hs2 ⊢
  obtain ⟨A, c, rfl, hc1, hc2, hr⟩ := h
  have hnS : New w (w.alloc (.cells #[.string nm, .slice A ps.length c] 25)) := (New.refl w).alloc _
  have HTK : Hid (∀ i, total (ps.take i) ≤ 1000000) := Lib.hid (fun i => Nat.le_trans (total_upto ps i) hs2)
  have HS2 : Hid (∀ p ∈ ps, p.2.length ≤ 1000000) := Lib.hid (fun p hp => Nat.le_trans (total_part hp) hs2)
  obtain ⟨n, hn0⟩ : ∃ n, ps.length = n := ⟨_, rfl⟩
  rw [hn0] at hr hc1 hs1 hnS ⊢
  have HN := Lib.hid hn0
  clear hs2 hn0
  go_enter Tryz.func42, Tryz.ntmps42
  go_wp2
  obtain ⟨wS, hwS⟩ : ∃ x, x = w.alloc (.cells #[.string nm, .slice A n c] 25) := ⟨_, rfl⟩
  rw [← hwS]
  have B0 : Blk wS w.heap.size 25 #[.string nm, .slice A n c] := by rw [hwS]; exact Blk.made w _ _
  rw [← hwS] at hnS
  have k1 := B0.cell' 1 _ rfl
  have HR := Lib.hid (hr.new hnS)
  clear hwS hr
  go_loopw [3, 4] (fun v3 v4 wr => ∃ i : Nat, v4 = .int .i64 i ∧ i ≤ n ∧ v3 = .int .i64 (total (ps.take i) : Nat) ∧ wr = wS) (fun _ v4 _ => n - (intOf v4).toNat)
  case atStart => exact ⟨0, rfl, by omega, by simp [total], rfl⟩
  case round =>
    obtain ⟨i, rfl, hi, rfl, rfl⟩ := hrel
    by_cases hlt : i < n
    · obtain ⟨bk, o, vp, p, rfl, hp, d1, d2, hw⟩ := HR.out.at hlt
      obtain ⟨Aw, cw, rfl, hw1, hw2, _⟩ := hw
      have hpl := HS2.out p (List.mem_of_getElem? hp)
      have htt := total_take hp
      have ht1 := HTK.out (i + 1)
      have u1 : IntKind.i64.wrap ((total (ps.take i) : Int) + (p.2.length : Int)) = (total (ps.take (i + 1)) : Int) := by rw [htt, IntWalk.i64_in _ (by omega)]; omega
      have i0 : (0 : Int) ≤ (i : Int) := by omega
      have i1 : (i : Int) < (n : Int) := by omega
      clear htt
      go_wp2
      go_roundw
      case rel => exact ⟨i + 1, by go_num, by omega, rfl, trivial⟩
      case measure => simp [intOf]; omega
    · obtain rfl : i = n := by omega
      have ht : total (ps.take i) = total ps := by rw [List.take_of_length_le (by rw [HN.out]; exact Nat.le_refl _)]
      rw [ht]
      go_wp2
      go_ret
      exact ⟨rfl, hnS⟩
end Go.Proofs.YtpoelhnceebmkaaGreatDoor
