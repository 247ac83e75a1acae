/- strings.Join of words, appending nothing, lists of fillers, what Fill and Format answer. No conditions but the sizes' own. -/
import Derived.Test.YtpoelhnceebmkaaGreatDoorM
namespace Go.Proofs.YtpoelhnceebmkaaGreatDoor
open Go Go.RowKit
set_option linter.unusedSimpArgs false
set_option linter.unusedVariables false

def sCells (ws : List ByteArray) : List Value := ws.map Value.string
theorem sCells_app (a b : List ByteArray) : sCells (a ++ b) = sCells a ++ sCells b := List.map_append
def joinV (ws : List ByteArray) : ByteArray := ⟨(Lib.join (ws.map (·.data.toList)) [32]).toArray⟩
theorem joinTail_len : ∀ (l : List (List UInt8)) (m : Nat), (∀ x ∈ l, x.length ≤ m) → (Lib.joinTail [32] l).length ≤ l.length * (m + 1)
  | [], _, _ => by simp [Lib.joinTail]
  | x :: l, m, h => by
    have h1 := joinTail_len l m (fun y hy => h y (List.mem_cons_of_mem _ hy))
    have h2 := h x (by simp)
    have e : Lib.joinTail [32] (x :: l) = ([32] ++ x) ++ Lib.joinTail [32] l := by simp [Lib.joinTail]
    have e3 : (x :: l).length * (m + 1) = l.length * (m + 1) + (m + 1) := by rw [List.length_cons, Nat.add_mul]; omega
    rw [e, List.length_append, List.length_append, e3]
    simp only [List.length_cons, List.length_nil]; omega
theorem join_len (l : List (List UInt8)) (m : Nat) (h : ∀ x ∈ l, x.length ≤ m) : (Lib.join l [32]).length ≤ l.length * (m + 1) := by
  cases l with
  | nil => simp [Lib.join_nil]
  | cons x r =>
    have h1 := joinTail_len r m (fun y hy => h y (List.mem_cons_of_mem _ hy))
    have h2 := h x (by simp)
    rw [Lib.join_cons, List.length_append, List.length_cons, Nat.add_mul]; omega
theorem joinL_any (A : Option Addr) (n c : Nat) (ws : List ByteArray) (hl : ws.length = n) (w : World) (hr : Rd w 1 A n (sCells ws)) (hc : n ≤ c) (hn : n ≤ 100000000) (hb : ∀ x ∈ ws, x.size ≤ 1000000) :
    Calls Tryz.prog 45 #[.slice A n c, .string ⟨#[32]⟩] w fun e w' => e = .returned (.string (joinV ws)) ∧ New w w' := by
  subst hl
  by_cases h0 : 0 < ws.length
  · obtain ⟨b, o, rfl, hbk, hcell⟩ := hr.2 h0
    have hjl := join_len (ws.map (·.data.toList)) 1000000 (fun x hx => by
      obtain ⟨y, hy, rfl⟩ := List.mem_map.1 hx
      rw [← size_eq]; exact hb y hy)
    rw [List.length_map] at hjl
    have := Tryz.strings_Join b o c ws ⟨#[32]⟩ w (fun j x hx => hcell j (.string x) (by rw [sCells, List.getElem?_map, hx]; rfl)) hbk (by omega) hc (by
      refine Nat.le_trans hjl (Nat.le_trans (Nat.mul_le_mul_right _ hn) (by omega)))
    exact this
  · obtain rfl : ws = [] := List.eq_nil_of_length_eq_zero (by omega)
    refine (Tryz.strings_Join_none A c ⟨#[32]⟩ w).mono ?_
    rintro e w' ⟨rfl, rfl⟩
    exact ⟨rfl, New.refl _⟩

/-- Appending nothing. -/
theorem app_nothing {w : World} {base n : Nat} {v : Value} {xs : List Value} (h : w.ownsRow base 9 1 v n xs) (A : Option Addr) (c : Nat) (ty : TypeId) : (Builtin.append_ #[37, 37] ty #[v, .slice A 0 c]).run Tryz.prog w = .ok v w := by
  have hi : ∃ i0, Tryz.prog.info? 9 = some i0 := by
    obtain ⟨i0, hi, _⟩ := info_parts Tryz.info9'
    exact ⟨i0, hi⟩
  obtain ⟨i0, hi⟩ := hi
  have hlc : ∀ ad : Addr, (loadCells ad 0).run Tryz.prog w = .ok #[] w := fun ad => rfl
  rcases h.2 with ⟨rfl, rfl⟩ | ⟨g, cap, cur, rfl, _, _, hnc, _⟩
  · cases A <;> simp [Builtin.append_, run_underlying Tryz.underlying37, sizeOf, typeInfo, hi, Builtin.lenOf, Builtin.firstCells, hlc, Result.andThen]
  · cases A <;> simp [Builtin.append_, run_underlying Tryz.underlying37, sizeOf, typeInfo, hi, Builtin.lenOf, Builtin.firstCells, hlc, Result.andThen, hnc, storeCells]

theorem step_app_nothing {w : World} {base n : Nat} {v : Value} {xs : List Value} {ops : Array Oper} {o : Oper} {a : Act} {K : Act → World → Prop} {Q : Exit → Act → World → Prop} {E : Prop} (hgd : o.guard = none) (s x : Operand)
    (ho : o.op = .call { callee := .builtin .append, args := #[s, x], argTypes := #[37, 37] }) (h : w.ownsRow base 9 1 v n xs) (A : Option Addr) (c : Nat) (hs : a.eval s = v) (hx : a.eval x = .slice A 0 c) (hK : K (a.put o.dst v) w) :
    if Region.wanted o (yielded ops a.tmps) = true then Oper.wp Tryz.prog o a w K Q else E := by
  have hw : Region.wanted o (yielded ops a.tmps) = true := by simp [Region.wanted, hgd]
  rw [if_pos hw]
  have hrun := app_nothing h A c o.type
  unfold Oper.wp
  simp [execOp, ho, resolve, invoke, builtin, hs, hx, hrun, Result.andThen]
  exact hK

/-! ### lists of lists of words -/
def LsRd (w : World) (A : Option Addr) (n : Nat) (ls : List (List ByteArray)) : Prop :=
  ls.length = n ∧ (0 < n → ∃ b o, A = some ⟨b, o, none⟩ ∧ ∀ i (h : i < ls.length), ∃ v, w.cell? ⟨b, o + i, none⟩ = some v ∧ WRd w v ls[i])
theorem LsRd.new {w w' : World} {A : Option Addr} {n : Nat} {ls : List (List ByteArray)} (h : LsRd w A n ls) (hn : New w w') : LsRd w' A n ls :=
  ⟨h.1, fun h0 => by
    obtain ⟨b, o, e, hc⟩ := h.2 h0
    refine ⟨b, o, e, fun i hi => ?_⟩
    obtain ⟨v, c1, ht⟩ := hc i hi
    exact ⟨v, cell_new hn c1, ht.new hn⟩⟩
theorem LsRd.at {w : World} {A : Option Addr} {n : Nat} {ls : List (List ByteArray)} (h : LsRd w A n ls) {i : Nat} (hi : i < n) : ∃ b o v l, A = some ⟨b, o, none⟩ ∧ ls[i]? = some l ∧ w.cell? ⟨b, o + i, none⟩ = some v ∧ WRd w v l := by
  obtain ⟨b, o, rfl, hc⟩ := h.2 (by omega)
  obtain ⟨v, c1, ht⟩ := hc i (by rw [h.1]; exact hi)
  exact ⟨b, o, v, ls[i]'(by rw [h.1]; exact hi), rfl, List.getElem?_eq_getElem _, c1, ht⟩

/-! ### Fill -/
def fillGo : List ByteArray → List (List ByteArray) → List Pt → ByteArray × Int
  | out, l :: ls, p :: r => if p.1 < (l.length : Int) then (⟨#[]⟩, 10) else if allOk l then fillGo (out ++ l ++ p.2) ls r else (⟨#[]⟩, 2)
  | out, _, _ => (joinV out, 0)
def fillB : List Pt → List (List ByteArray) → ByteArray × Int
  | [], _ => (⟨#[]⟩, 0)
  | p0 :: r, ls => fillGo p0.2 ls r
def fillV (ps : List Pt) (ls : List (List ByteArray)) : ByteArray × Int :=
  if checkV ps ≠ 0 then (⟨#[]⟩, checkV ps) else if ls.length + 1 ≠ ps.length then (⟨#[]⟩, 9) else fillB ps ls
theorem fillGo_at {out : List ByteArray} {ls : List (List ByteArray)} {r : List Pt} {i : Nat} {l : List ByteArray} {p : Pt} (hl : ls[i]? = some l) (hp : r[i]? = some p) :
    fillGo out (ls.drop i) (r.drop i) = if p.1 < (l.length : Int) then (⟨#[]⟩, 10) else if allOk l then fillGo (out ++ l ++ p.2) (ls.drop (i + 1)) (r.drop (i + 1)) else (⟨#[]⟩, 2) := by
  obtain ⟨h1, e1⟩ := List.getElem?_eq_some_iff.1 hl
  obtain ⟨h2, e2⟩ := List.getElem?_eq_some_iff.1 hp
  rw [List.drop_eq_getElem_cons h1, List.drop_eq_getElem_cons h2, fillGo, e1, e2]

/-! ### Format -/
def holeS (h : Int) : ByteArray := ⟨#[123]⟩ ++ (⟨(Lib.decDigits h.toNat).toArray⟩ : ByteArray) ++ (⟨#[125]⟩ : ByteArray)
def fmtL : List ByteArray → List Pt → List ByteArray
  | out, [] => out
  | out, p :: r => fmtL (out ++ [holeS p.1] ++ p.2) r
def fmtB : List Pt → ByteArray × Int
  | [] => (⟨#[]⟩, 0)
  | p0 :: r => (joinV (fmtL p0.2 r), 0)
def formatV (ps : List Pt) : ByteArray × Int :=
  if checkV ps ≠ 0 then (⟨#[]⟩, checkV ps) else fmtB ps
end Go.Proofs.YtpoelhnceebmkaaGreatDoor
