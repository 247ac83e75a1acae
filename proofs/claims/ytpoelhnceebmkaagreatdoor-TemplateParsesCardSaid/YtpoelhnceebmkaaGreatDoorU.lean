/- template.Parse: the walk. Conditions: the text's size; strings.IndexAny answers on the text's ends. -/
import Derived.Test.YtpoelhnceebmkaaGreatDoorT
namespace Go.Proofs.YtpoelhnceebmkaaGreatDoor
open Go Go.RowKit Go.Shelf
set_option linter.unusedSimpArgs false
set_option linter.unusedVariables false

theorem goV_at {f : Nat} {l : List UInt8} {a last : Nat} {ps : List Pt} {h : Int} (hf : 0 < f) : goV f l a last ps h =
    if brk l < 0 then finV (ps ++ [(h, wordsL l)]) last (wordsL l)
    else if (holeV (l.drop (brk l).toNat)).2 = 0 then (none, a + (brk l).toNat, 4)
    else if wordsL (l.take (brk l).toNat) = [] then (none, a + (brk l).toNat, 5)
    else goV (f - 1) (l.drop ((brk l).toNat + (holeV (l.drop (brk l).toNat)).2)) (a + (brk l).toNat + (holeV (l.drop (brk l).toNat)).2) (a + (brk l).toNat) (ps ++ [(h, wordsL (l.take (brk l).toNat))]) ((holeV (l.drop (brk l).toNat)).1 : Nat) := by
  cases f with
  | zero => omega
  | succ f => rw [goV, Nat.add_sub_cancel]
abbrev QV := Pt × Value
def qCells (qs : List QV) : List Value := qs.flatMap fun q => [.int .i64 q.1.1, q.2]
theorem qCells_app (a b : List QV) : qCells (a ++ b) = qCells a ++ qCells b := by simp [qCells]
theorem qCells_len (l : List QV) : (qCells l).length = l.length * 2 := by
  induction l with
  | nil => rfl
  | cons x l ih => simp [qCells] at ih ⊢; omega
theorem qCells_pt : ∀ (qs : List QV), qCells qs = pCells (qs.map (·.1)) (qs.map (·.2))
  | [] => rfl
  | q :: qs => by
    have := qCells_pt qs
    simp only [qCells, List.flatMap_cons, List.map_cons, pCells, List.cons_append, List.nil_append] at this ⊢
    rw [this]
def pts (qs : List QV) : List Pt := qs.map (·.1)

/-- The parts so far are qs; the last one has the hole h, the words ws. -/
structure InvG (nm : ByteArray) (w : World) (m g cP : Nat) (qs : List QV) (h : Int) (ws : List ByteArray) (u : Value) (wr : World) : Prop where
  new : New w wr
  len : qs.length = m
  res : Blk wr w.heap.size 25 #[.string ⟨#[]⟩, .slice none 0 0]
  tpl : Blk wr (w.heap.size + 2) 25 #[.string nm, .slice (some ⟨g, 0, none⟩) (m + 1) cP]
  row : wr.ownsRow w.heap.size 58 2 (.slice (some ⟨g, 0, none⟩) (m + 1) cP) (m + 1) (qCells qs ++ [.int .i64 h, u])
  own : ∀ q ∈ qs, wr.ownsRow w.heap.size 9 1 q.2 q.1.2.length (sCells q.1.2)
  last : wr.ownsRow w.heap.size 9 1 u ws.length (sCells ws)
  cnt : Blk wr (w.heap.size + 3) 3 #[.int .i64 (totW (pts qs) + ws.length : Nat)]
theorem InvG.turn {nm : ByteArray} {w : World} {m g cP : Nat} {qs : List QV} {h : Int} {ws : List ByteArray} {u : Value} {wr W : World} (I : InvG nm w m g cP qs h ws u wr) (hn : New wr W) : InvG nm w m g cP qs h ws u W :=
  ⟨I.new.trans hn, I.len, I.res.new hn, I.tpl.new hn, own_new I.row hn, fun q hq => own_new (I.own q hq) hn, own_new I.last hn, I.cnt.new hn⟩
theorem InvG.put {nm : ByteArray} {w : World} {m g cP : Nat} {qs : List QV} {h : Int} {ws : List ByteArray} {v : Value} {wr W : World} (I : InvG nm w m g cP qs h [] (.slice none 0 0) wr)
    (h1 : W.ownsRow w.heap.size 58 2 (.slice (some ⟨g, 0, none⟩) (m + 1) cP) (m + 1) (qCells qs ++ [.int .i64 h, v])) (h2 : W.ownsRow (wr.heap.size + 2) 9 1 v ws.length (sCells ws)) (h3 : Blk W (w.heap.size + 3) 3 #[.int .i64 (totW (pts qs) + ws.length : Nat)])
    (h4 : Two g (w.heap.size + 3) wr W) : InvG nm w m g cP qs h ws v W := by
  have hg : w.heap.size ≤ g ∧ g < wr.heap.size := I.row.lt g rfl
  have hz := I.new.size
  have e1 : w.heap.size ≠ g := fun e => own_off_blk I.row I.res (by decide) (by rw [e]; rfl)
  have e2 : w.heap.size + 2 ≠ g := fun e => own_off_blk I.row I.tpl (by decide) (by rw [e]; rfl)
  exact ⟨⟨h4.os.trans I.new.os, h4.tape.trans I.new.tape, h4.output.trans I.new.output, Nat.le_trans hz h4.size, fun k hk => (h4.block k (by omega) (by omega) (by omega)).trans (I.new.block k hk)⟩, I.len,
    I.res.two h4 e1 (by omega), I.tpl.two h4 e2 (by omega), h1, fun q hq => own_two (I.own q hq) h4 (own_off (I.own q hq) I.row (by decide) rfl) (own_off_blk (I.own q hq) I.cnt (by decide)), own_down h2 (by omega), h3⟩
theorem Tryz.info58 : (Tryz.prog.info? 58).map (fun i => (i.zero, i.size, i.bytes)) = some (some (.agg #[.int .i64 0, .slice none 0 0]), 2, 32) := by kernel_rfl
/-- The template that is handed back. -/
theorem InvG.done {nm : ByteArray} {w : World} {m g cP : Nat} {qs : List QV} {h : Int} {ws : List ByteArray} {u : Value} {wr W : World} (I : InvG nm w m g cP qs h ws u wr) (hn : Below w.heap.size wr W) (hk : ∀ k, k ≠ w.heap.size → k < wr.heap.size → W.heap[k]? = wr.heap[k]?) (hz : wr.heap.size ≤ W.heap.size) :
    TRd W (.agg #[.string nm, .slice (some ⟨g, 0, none⟩) (m + 1) cP]) nm (pts qs ++ [(h, ws)]) := by
  have hgr : wr.grownBy W (some w.heap.size) := ⟨hn.os, hn.tape, hn.output, hz, fun k h1 h2 => hk k (fun e => h2 (by rw [e])) h1⟩
  have row := I.row.kept hgr (.inr (fun e => own_off_blk I.row I.res (by decide) e))
  have last := I.last.kept hgr (.inr (fun e => own_off_blk I.last I.res (by decide) e))
  have own : ∀ q ∈ qs, W.ownsRow w.heap.size 9 1 q.2 q.1.2.length (sCells q.1.2) := fun q hq => (I.own q hq).kept hgr (.inr (fun e => own_off_blk (I.own q hq) I.res (by decide) e))
  have wrd : ∀ {v : Value} {ws : List ByteArray}, W.ownsRow w.heap.size 9 1 v ws.length (sCells ws) → WRd W v ws := fun h => by
    obtain ⟨A, c, rfl, h1, h2, h3⟩ := own_form h
    exact ⟨A, c, rfl, h1, h2, h3⟩
  have hl : (pts qs ++ [(h, ws)]).length = m + 1 := by simp [pts, I.len]
  obtain ⟨A, c, e, h1, h2, h3⟩ := own_form row
  injection e with e1 e2 e3
  subst e1 e3
  refine ⟨some ⟨g, 0, none⟩, cP, by rw [hl], by rw [hl]; exact h1, h2, rfl, (qs ++ [((h, ws), u)]).map (·.2), by simp [pts], ?_, ?_⟩
  · have e : pts qs ++ [(h, ws)] = (qs ++ [((h, ws), u)]).map (·.1) := by simp [pts]
    rw [hl, e, ← qCells_pt, qCells_app]
    exact h3
  · intro i h4 h5
    have hi : i < (qs ++ [((h, ws), u)]).length := by simpa using h5
    have e : (pts qs ++ [(h, ws)])[i] = ((qs ++ [((h, ws), u)])[i]).1 := by
      have : pts qs ++ [(h, ws)] = (qs ++ [((h, ws), u)]).map (·.1) := by simp [pts]
      simp only [this, List.getElem_map]
    rw [List.getElem_map, e]
    have hm : (qs ++ [((h, ws), u)])[i] ∈ qs ++ [((h, ws), u)] := List.getElem_mem _
    rcases List.mem_append.1 hm with h6 | h6
    · exact wrd (own _ h6)
    · rw [List.mem_singleton.1 h6]; exact wrd last
end Go.Proofs.YtpoelhnceebmkaaGreatDoor
