/- strings.Join of words, appending nothing, lists of fillers, what Fill and Format answer. No conditions but the sizes' own. template.Fill: the walk. No conditions but the sizes' own. template.Format: the walk. No conditions but the sizes' own. -/
import Derived.Test.YtpoelhnceebmkaaGreatDoorGM
import Derived.Deep.RegionHeld3
import Derived.Deep.AppendLies

namespace Go.Proofs.YtpoelhnceebmkaaGreatDoor
open Go Go.RowKit
set_option linter.unusedSimpArgs false
set_option linter.unusedVariables false

def sCells (ws : List ByteArray) : List Value := ws.map Value.string
theorem sCells_app (a b : List ByteArray) : sCells (a ++ b) = sCells a ++ sCells b := List.map_append
def joinV (ws : List ByteArray) : ByteArray := ⟨(Lib.join (ws.map (·.data.toList)) [32]).toArray⟩
theorem joinTail_len : ∀ (l : List (List UInt8)) (m : Nat), (∀ x ∈ l, x.length ≤ m) → (Lib.joinTail [32] l).length ≤ l.length * (m + 1)
  | [], _, _ => by simp [Lib.joinTail]
  | x :: l, m, h => by
    have h1 := joinTail_len l m (fun y hy => h y (List.mem_cons_of_mem _ hy))
    have h2 := h x (by simp)
    have e : Lib.joinTail [32] (x :: l) = ([32] ++ x) ++ Lib.joinTail [32] l := by simp [Lib.joinTail]
    have e3 : (x :: l).length * (m + 1) = l.length * (m + 1) + (m + 1) := by rw [List.length_cons, Nat.add_mul]; omega
    rw [e, List.length_append, List.length_append, e3]
    simp only [List.length_cons, List.length_nil]; omega
theorem join_len (l : List (List UInt8)) (m : Nat) (h : ∀ x ∈ l, x.length ≤ m) : (Lib.join l [32]).length ≤ l.length * (m + 1) := by
  cases l with
  | nil => simp [Lib.join_nil]
  | cons x r =>
    have h1 := joinTail_len r m (fun y hy => h y (List.mem_cons_of_mem _ hy))
    have h2 := h x (by simp)
    rw [Lib.join_cons, List.length_append, List.length_cons, Nat.add_mul]; omega
theorem joinL_any (A : Option Addr) (n c : Nat) (ws : List ByteArray) (hl : ws.length = n) (w : World) (hr : Rd w 1 A n (sCells ws)) (hc : n ≤ c) (hn : n ≤ 100000000) (hb : ∀ x ∈ ws, x.size ≤ 1000000) :
    Calls Tryz.prog 45 #[.slice A n c, .string ⟨#[32]⟩] w fun e w' => e = .returned (.string (joinV ws)) ∧ New w w' := by
  subst hl
  by_cases h0 : 0 < ws.length
  · obtain ⟨b, o, rfl, hbk, hcell⟩ := hr.2 h0
    have hjl := join_len (ws.map (·.data.toList)) 1000000 (fun x hx => by
      obtain ⟨y, hy, rfl⟩ := List.mem_map.1 hx
      rw [← size_eq]; exact hb y hy)
    rw [List.length_map] at hjl
    have := Tryz.strings_Join b o c ws ⟨#[32]⟩ w (fun j x hx => hcell j (.string x) (by rw [sCells, List.getElem?_map, hx]; rfl)) hbk (by omega) hc (by
      refine Nat.le_trans hjl (Nat.le_trans (Nat.mul_le_mul_right _ hn) (by omega)))
    exact this
  · obtain rfl : ws = [] := List.eq_nil_of_length_eq_zero (by omega)
    refine (Tryz.strings_Join_none A c ⟨#[32]⟩ w).mono ?_
    rintro e w' ⟨rfl, rfl⟩
    exact ⟨rfl, New.refl _⟩

/-- Appending nothing. -/
theorem app_nothing {w : World} {base n : Nat} {v : Value} {xs : List Value} (h : w.ownsRow base 9 1 v n xs) (A : Option Addr) (c : Nat) (ty : TypeId) : (Builtin.append_ #[37, 37] ty #[v, .slice A 0 c]).run Tryz.prog w = .ok v w := by
  have hi : ∃ i0, Tryz.prog.info? 9 = some i0 := by
    obtain ⟨i0, hi, _⟩ := info_parts Tryz.info9'
    exact ⟨i0, hi⟩
  obtain ⟨i0, hi⟩ := hi
  have hlc : ∀ ad : Addr, (loadCells ad 0).run Tryz.prog w = .ok #[] w := fun ad => rfl
  rcases h.2 with ⟨rfl, rfl⟩ | ⟨g, cap, cur, rfl, _, _, hnc, _⟩
  · cases A <;> simp [Builtin.append_, run_underlying Tryz.underlying37, sizeOf, typeInfo, hi, Builtin.lenOf, Builtin.firstCells, hlc, Result.andThen]
  · cases A <;> simp [Builtin.append_, run_underlying Tryz.underlying37, sizeOf, typeInfo, hi, Builtin.lenOf, Builtin.firstCells, hlc, Result.andThen, hnc, storeCells]

theorem step_app_nothing {w : World} {base n : Nat} {v : Value} {xs : List Value} {ops : Array Oper} {o : Oper} {a : Act} {K : Act → World → Prop} {Q : Exit → Act → World → Prop} {E : Prop} (hgd : o.guard = none) (s x : Operand)
    (ho : o.op = .call { callee := .builtin .append, args := #[s, x], argTypes := #[37, 37] }) (h : w.ownsRow base 9 1 v n xs) (A : Option Addr) (c : Nat) (hs : a.eval s = v) (hx : a.eval x = .slice A 0 c) (hK : K (a.put o.dst v) w) :
    if Region.wanted o (yielded ops a.tmps) = true then Oper.wp Tryz.prog o a w K Q else E := by
  have hw : Region.wanted o (yielded ops a.tmps) = true := by simp [Region.wanted, hgd]
  rw [if_pos hw]
  have hrun := app_nothing h A c o.type
  unfold Oper.wp
  simp [execOp, ho, resolve, invoke, builtin, hs, hx, hrun, Result.andThen]
  exact hK

/-! ### lists of lists of words -/
def LsRd (w : World) (A : Option Addr) (n : Nat) (ls : List (List ByteArray)) : Prop :=
  ls.length = n ∧ (0 < n → ∃ b o, A = some ⟨b, o, none⟩ ∧ ∀ i (h : i < ls.length), ∃ v, w.cell? ⟨b, o + i, none⟩ = some v ∧ WRd w v ls[i])
theorem LsRd.new {w w' : World} {A : Option Addr} {n : Nat} {ls : List (List ByteArray)} (h : LsRd w A n ls) (hn : New w w') : LsRd w' A n ls :=
  ⟨h.1, fun h0 => by
    obtain ⟨b, o, e, hc⟩ := h.2 h0
    refine ⟨b, o, e, fun i hi => ?_⟩
    obtain ⟨v, c1, ht⟩ := hc i hi
    exact ⟨v, cell_new hn c1, ht.new hn⟩⟩
theorem LsRd.at {w : World} {A : Option Addr} {n : Nat} {ls : List (List ByteArray)} (h : LsRd w A n ls) {i : Nat} (hi : i < n) : ∃ b o v l, A = some ⟨b, o, none⟩ ∧ ls[i]? = some l ∧ w.cell? ⟨b, o + i, none⟩ = some v ∧ WRd w v l := by
  obtain ⟨b, o, rfl, hc⟩ := h.2 (by omega)
  obtain ⟨v, c1, ht⟩ := hc i (by rw [h.1]; exact hi)
  exact ⟨b, o, v, ls[i]'(by rw [h.1]; exact hi), rfl, List.getElem?_eq_getElem _, c1, ht⟩

/-! ### Fill -/
def fillGo : List ByteArray → List (List ByteArray) → List Pt → ByteArray × Int
  | out, l :: ls, p :: r => if p.1 < (l.length : Int) then (⟨#[]⟩, 10) else if allOk l then fillGo (out ++ l ++ p.2) ls r else (⟨#[]⟩, 2)
  | out, _, _ => (joinV out, 0)
def fillB : List Pt → List (List ByteArray) → ByteArray × Int
  | [], _ => (⟨#[]⟩, 0)
  | p0 :: r, ls => fillGo p0.2 ls r
def fillV (ps : List Pt) (ls : List (List ByteArray)) : ByteArray × Int :=
  if checkV ps ≠ 0 then (⟨#[]⟩, checkV ps) else if ls.length + 1 ≠ ps.length then (⟨#[]⟩, 9) else fillB ps ls
theorem fillGo_at {out : List ByteArray} {ls : List (List ByteArray)} {r : List Pt} {i : Nat} {l : List ByteArray} {p : Pt} (hl : ls[i]? = some l) (hp : r[i]? = some p) :
    fillGo out (ls.drop i) (r.drop i) = if p.1 < (l.length : Int) then (⟨#[]⟩, 10) else if allOk l then fillGo (out ++ l ++ p.2) (ls.drop (i + 1)) (r.drop (i + 1)) else (⟨#[]⟩, 2) := by
  obtain ⟨h1, e1⟩ := List.getElem?_eq_some_iff.1 hl
  obtain ⟨h2, e2⟩ := List.getElem?_eq_some_iff.1 hp
  rw [List.drop_eq_getElem_cons h1, List.drop_eq_getElem_cons h2, fillGo, e1, e2]

/-! ### Format -/
def holeS (h : Int) : ByteArray := ⟨#[123]⟩ ++ (⟨(Lib.decDigits h.toNat).toArray⟩ : ByteArray) ++ (⟨#[125]⟩ : ByteArray)
def fmtL : List ByteArray → List Pt → List ByteArray
  | out, [] => out
  | out, p :: r => fmtL (out ++ [holeS p.1] ++ p.2) r
def fmtB : List Pt → ByteArray × Int
  | [] => (⟨#[]⟩, 0)
  | p0 :: r => (joinV (fmtL p0.2 r), 0)
def formatV (ps : List Pt) : ByteArray × Int :=
  if checkV ps ≠ 0 then (⟨#[]⟩, checkV ps) else fmtB ps
end Go.Proofs.YtpoelhnceebmkaaGreatDoor

namespace Go.Proofs.YtpoelhnceebmkaaGreatDoor
open Go Go.RowKit
set_option linter.unusedSimpArgs false
set_option linter.unusedVariables false

theorem retT {a b : Value} (h : a = b) : Ending.returned a = .returned b := by rw [h]
/-- Fill's two first words are of a size that does not matter. -/
def SzW (ws : List ByteArray) : Prop := ∀ x ∈ ws, x.size ≤ 1000000

theorem SzW.app {a b : List ByteArray} (h : SzW a) (k : SzW b) : SzW (a ++ b) := fun x hx => (List.mem_append.1 hx).elim (h x) (k x)
theorem cloneW (A : Option Addr) (c : Nat) (ws : List ByteArray) (h0 : ws ≠ []) (w : World) (hr : Rd w 1 A ws.length (sCells ws)) (hn : ws.length ≤ 1000000) :
    Calls Tryz.prog 48 #[.slice A ws.length c] w fun e w' => ∃ v, e = .returned v ∧ w'.ownsRow w.heap.size 9 1 v ws.length (sCells ws) ∧ New w w' := by
  have hl := List.length_pos_iff.2 h0
  obtain ⟨b, o, rfl, hb, hc⟩ := hr.2 hl
  refine (Tryz.slices_Clone_string b o ws.length c ws w (Nat.le_refl _) (by omega) (fun j hj => hc j _ (by simp [sCells, List.getD, hj]))).mono ?_
  rintro e w' ⟨v, rfl, h1, _, h2⟩
  exact ⟨v, rfl, own_to h1 rfl (by rw [List.take_of_length_le (Nat.le_refl _)]; rfl), h2⟩

set_option maxRecDepth 100000 in
set_option maxHeartbeats 4000000 in
theorem fill_any (v : Value) (nm : ByteArray) (ps : List Pt) (A : Option Addr) (c n : Nat) (ls : List (List ByteArray)) (w : World) (h : TRd w v nm ps) (hs : SmT ps) (hL : LsRd w A n ls) (hn : n ≤ 1000) (hzp : ∀ p ∈ ps, SzW p.2) (hzl : ∀ l ∈ ls, SzW l ∧ l.length ≤ 1000) :
    Calls Tryz.prog 19 #[v, .slice A n c] w fun e w' => e = .returned (.tuple #[.string (fillV ps ls).1, .int .i64 (fillV ps ls).2]) ∧ New w w' := by
  obtain ⟨i0, hi0, hz0, hz1, hz2⟩ := info_parts Tryz.info9'
  obtain ⟨Ap, cp, rfl, hcp1, hcp2, hp⟩ := h
  obtain ⟨np, hnp⟩ : ∃ k, ps.length = k := ⟨_, rfl⟩
  have HT : Hid (TRd w (.agg #[.string nm, .slice Ap np cp]) nm ps) := Lib.hid ⟨Ap, cp, by rw [hnp], hcp1, hcp2, hp⟩
  rw [hnp] at hp hcp1 ⊢
  have hnS : New w (w.alloc (.cells #[.string nm, .slice Ap np cp] 25)) := (New.refl w).alloc _
  have B0 := Blk.made w 25 #[.string nm, .slice Ap np cp]
  have b1 := B0.cell' 0 _ rfl
  have b2 := B0.cell' 1 _ rfl
  have HC := Lib.hid (check_any _ nm ps _ (HT.out.new hnS) hs)
  have HKO := Lib.hid (fun h => check_ok (ps := ps) h)
  have hnl := hL.1
  have hsl : np ≤ 1000 := by rw [← hnp]; exact hs.1
  have HM : Hid (fillV ps ls = if checkV ps ≠ 0 then (⟨#[]⟩, checkV ps) else if n + 1 ≠ np then (⟨#[]⟩, 9) else fillB ps ls) := Lib.hid (by rw [fillV, hnl, hnp])
  generalize fillV ps ls = R at *
  obtain ⟨R1, R2⟩ := R
  generalize checkV ps = ck at *
  by_cases hck : ck = 0
  · subst hck
    obtain ⟨p0, r, rfl, _, hne0, _, hh, htot⟩ := HKO.out rfl
    have hrl : r.length + 1 = np := by simpa using hnp
    by_cases hnn : n + 1 = np
    · have hR : (R1, R2) = fillGo p0.2 ls r := by have := HM.out; rw [if_neg (by simp), if_neg (by omega)] at this; exact this
      have HR := Lib.hid hR
      have u1 : IntKind.i64.wrap ((np : Int) - 1) = (n : Int) := by rw [IntWalk.i64_in _ (by omega)]; omega
      have hs1 := hs.2 p0 (by simp)
      have HZ := Lib.hid hzp
      have HZL := Lib.hid hzl
      have HH := Lib.hid hh
      have HP := Lib.hid hp
      have HLs := Lib.hid hL
      have HS2 := Lib.hid (fun p hp => hs.2 p (List.mem_cons_of_mem _ hp))
      -- what the first part is, in the world at the clone
      have HC0 : Hid (∀ W, New w W → ∃ b o A0 k0, Ap = some ⟨b, o, none⟩ ∧ W.cell? ⟨b, o + 1, none⟩ = some (.slice A0 p0.2.length k0) ∧ Rd W 1 A0 p0.2.length (sCells p0.2)) := Lib.hid (fun W hW => by
        obtain ⟨b, o, v0, p', e, hp', c1, c2, hw⟩ := (hp.new hW).at (i := 0) (by omega)
        obtain rfl : p0 = p' := by simpa using hp'
        obtain ⟨A0, k0, rfl, r1, r2, r3⟩ := hw
        simp only [Nat.zero_mul, Nat.add_zero] at c2
        exact ⟨b, o, A0, k0, e, c2, r3⟩)
      obtain ⟨bp, op, A00, k00, rfl, _⟩ := HC0.out w (New.refl w)
      have iz : (0 : Int) < (np : Int) := by omega
      clear hnp hR hzp hzl hh hp hL hs b1 b2 HKO HM
      go_enter Tryz.func19, Tryz.ntmps19
      go_wp2_with (first
        | (go_at_call 48; refine hcl.out.mono ?_; rintro e w2 ⟨v2, rfl, hown2, hn2⟩)
        | (go_at_call 21; refine HC.out.mono ?_; rintro e w1 ⟨rfl, hn1⟩; have k1 := (B0.new hn1).cell' 1 _ rfl; obtain ⟨bx, ox, A0, k0, eA, hc0, hw3⟩ := HC0.out w1 (hnS.trans hn1); cases eA; have hcl := Lib.hid (cloneW A0 k0 p0.2 hne0 w1 hw3 (by omega))))
      have B1 := B0.new hn1
      clear k1 hc0 hcl hw3
      go_loopw [7, 31] (fun v7 v31 wr => ∃ (i : Nat) (out : List ByteArray), v31 = .int .i64 i ∧ i ≤ n ∧ wr.ownsRow w1.heap.size 9 1 v7 out.length (sCells out) ∧ out.length ≤ 1000 + i * 2000 ∧ Hid (SzW out) ∧ New w1 wr ∧ Hid (fillGo out (ls.drop i) (r.drop i) = (R1, R2))) (fun _ v31 _ => n - (intOf v31).toNat)
      case atStart => exact ⟨0, p0.2, rfl, by omega, hown2, by omega, Lib.hid (HZ.out p0 (by simp)), hn2, Lib.hid HR.out.symm⟩
      case round =>
        obtain ⟨v7, hv7⟩ : ∃ x, x = u7 := ⟨_, rfl⟩
        subst hv7
        obtain ⟨i, out, rfl, hi, own, hol, HZo, hnr, HGo⟩ := hrel
        by_cases hlt : i < n
        · obtain ⟨bl, ol, vl, l, rfl, hll, c1, hwl⟩ := (HLs.out.new (hnS.trans hn1)).at hlt
          obtain ⟨bq, oq, vq, p', eq, hp', d1, d2, hwp⟩ := (HP.out.new (hnS.trans hn1)).at (i := i + 1) (by omega)
          cases eq
          have hpr : r[i]? = some p' := by simpa using hp'
          have hpm := List.mem_of_getElem? hpr
          obtain ⟨hp1, hp2, hpne, _⟩ := HH.out p' hpm
          have hpl := HS2.out p' hpm
          obtain ⟨hzl1, hzl2⟩ := HZL.out l (List.mem_of_getElem? hll)
          have hzp1 := HZ.out p' (List.mem_cons_of_mem _ hpm)
          have hgo := fillGo_at (out := out) hll hpr
          have HGo2 := HGo.out
          rw [hgo] at HGo2
          obtain ⟨Al, cl, rfl, hl1, hl2, hlr⟩ := hwl
          obtain ⟨Aq, cq, rfl, hq1, hq2, hqr⟩ := hwp
          obtain ⟨hz, hzi⟩ : ∃ h : Nat, p'.1 = (h : Int) := ⟨p'.1.toNat, by omega⟩
          rw [hzi] at d1 hp1 hp2 HGo2
          generalize p'.2 = ws at *
          have HF := Lib.hid (fun w hr => containsFn31 Al cl l.length l rfl w (by omega) hr)
          obtain ⟨nl, hnl⟩ : ∃ k, l.length = k := ⟨_, rfl⟩
          obtain ⟨nw, hnw⟩ : ∃ k, ws.length = k := ⟨_, rfl⟩
          have hnw0 : 0 < nw := by rw [← hnw]; exact List.length_pos_iff.2 hpne
          rw [hnl] at c1 hl1 hlr HF hzl2 HGo2
          rw [hnw] at d2 hq1 hqr hpl
          have c1r := cell_new hnr c1
          have d1r := cell_new hnr d1
          have d2r := cell_new hnr d2
          have HNl := Lib.hid hnl
          have HNw := Lib.hid hnw
          have u3 : IntKind.i64.wrap ((i : Int) + 1) = (i : Int) + 1 := IntWalk.i64_in _ (by omega)
          have u4 : ((i : Int) + 1).toNat = i + 1 := by omega
          have u5 : (0 : Int) ≤ (i : Int) + 1 := by omega
          have u6 : (i : Int) + 1 < (np : Int) := by omega
          have e2 := (B1.new hnr).cell' 1 _ rfl
          clear hnl hnw hpne hp' hpr hpm hgo hll c1 d1 d2
          by_cases hbig : (hz : Int) < (nl : Int)
          · rw [if_pos hbig] at HGo2
            injection HGo2 with hR1 hR2
            subst hR1 hR2
            clear hlr hqr
            go_wp2
            exact bodyPost_ret (v := .tuple #[.string ⟨#[]⟩, .int .i64 10]) (by simp [results, Tryz.results19, go_sem]) rfl ⟨rfl, ((hnS.trans hn1).trans hnr).alloc _⟩
          · rw [if_neg hbig] at HGo2
            cases hok : allOk l
            · rw [hok] at HGo2 HF
              rw [if_neg (by decide)] at HGo2
              injection HGo2 with hR1 hR2
              subst hR1 hR2
              clear hok
              go_wp2_with (go_at_call 49; refine (HF.out _ (hlr.below (hnr.alloc _))).mono ?_; rintro e w9 ⟨rfl, hn9⟩)
              exact bodyPost_ret (v := .tuple #[.string ⟨#[]⟩, .int .i64 2]) (by simp [results, Tryz.results19, go_sem]) rfl ⟨rfl, (((hnS.trans hn1).trans hnr).alloc _).trans hn9⟩
            · rw [hok] at HGo2 HF
              rw [if_pos rfl] at HGo2
              have HG3 := Lib.hid HGo2
              have BP := Blk.made wr 58 #[.int .i64 (hz : Int), .slice Aq nw cq]
              clear hok HGo2
              go_wp2_with (go_at_call 49; refine (HF.out _ (hlr.below (hnr.alloc _))).mono ?_; rintro e w9 ⟨rfl, hn9⟩)
              have own9 := own_new own ((New.refl wr).alloc (.cells #[.int .i64 (hz : Int), .slice Aq nw cq] 58) |>.trans hn9)
              have BP9 := (BP.new hn9).cell' 1 _ rfl
              have hw9 := hn9.size
              rw [World.size_alloc] at hw9
              have hwr := hnr.size
              have hneA : v7.ownBlock ≠ some wr.heap.size := fun e => by have := (own.lt _ e).2; omega
              have hnw9 : New w1 w9 := (hnr.alloc _).trans hn9
              obtain ⟨bq2, oq2, rfl, hbq2, hcq2⟩ := hqr.2 (by omega)
              have hnewq : ∀ j u, (sCells ws)[j]? = some u → w9.cell? ((⟨bq2, oq2, none⟩ : Addr).add j) = some u := fun j u hu => by
                rw [add_none rfl]; exact cell_new hnw9 (hcq2 j u hu)
              have hoq : (sCells ws).length = nw * 1 := by rw [sCells, List.length_map, HNw.out, Nat.mul_one]
              have hol2 : (sCells l).length = nl * 1 := by rw [sCells, List.length_map, HNl.out, Nat.mul_one]
              clear hqr hcq2
              by_cases hl0 : 0 < nl
              · obtain ⟨bl2, ol2, rfl, hbl2, hcl2⟩ := hlr.2 (by omega)
                have hnewl : ∀ j u, (sCells l)[j]? = some u → w9.cell? ((⟨bl2, ol2, none⟩ : Addr).add j) = some u := fun j u hu => by
                  rw [add_none rfl]; exact cell_new hnw9 (hcl2 j u hu)
                clear hlr hcl2
                go_region_held3 (fun W => W.cell? ⟨wr.heap.size, 1, none⟩ = some (.slice (some ⟨bq2, oq2, none⟩) nw cq)) (first | go_keep | exact hgrowB.cell (by assumption) (fun e => hneB (Option.some.inj e).symm) | exact hgrowA.cell (by assumption) (Ne.symm hneA)) (first | (refine step_append_lies _ (by rfl) _ _ _ (by rfl) w1.heap.size 9 i0 (.string ⟨#[]⟩) 1 16 Tryz.underlying37 hi0 hz0 hz1 hz2 rfl (by omega) _ _ _ (by rfl) hownA ⟨bq2, oq2, none⟩ nw cq (sCells ws) (by rfl) hoq (fun j u hu => hgrowA.cell (hnewq j u hu) (by rw [add_none rfl]; exact hneQ)) (by simp [sCells, Value.oneCell']) (by omega) (by simp [maxLen]; omega) (by omega) (by omega) w10.heap.size rfl ?_; intro gg2 cap2 w11 hownB hgrowB hatB hltB) | (refine step_append_lies _ (by rfl) _ _ _ (by rfl) w1.heap.size 9 i0 (.string ⟨#[]⟩) 1 16 Tryz.underlying37 hi0 hz0 hz1 hz2 rfl (by omega) _ _ _ (by rfl) own9.drew ⟨bl2, ol2, none⟩ nl cl (sCells l) (by rfl) hol2 hnewl (by simp [sCells, Value.oneCell']) (by omega) (by simp [maxLen]; omega) (by omega) (by simp; omega) w9.heap.size (by simp) ?_; intro gg cap w10 hownA hgrowA hatA hltA; have hneB : gg ≠ wr.heap.size := (by rcases hatA with e | e; exact fun e' => hneA (by rw [e, e']); omega); have hneQ : some bq2 ≠ v7.ownBlock := (fun e => by have := (own.lt _ e.symm).1; omega); have hsA : w9.heap.size ≤ w10.heap.size := hgrowA.size))
                go_wp2
                go_roundw
                case rel => exact ⟨i + 1, out ++ l ++ ws, by go_num, by omega, own_to hownB (by rw [List.length_append, List.length_append, HNl.out, HNw.out]) (by rw [sCells_app, sCells_app]), by rw [List.length_append, List.length_append, HNl.out, HNw.out]; omega, Lib.hid (SzW.app (SzW.app HZo.out hzl1) hzp1), Below.grown (Below.grown hnw9.drew hgrowA hnw9.drew.size (fun q hq => (own.lt q hq).1)) hgrowB (by omega) (fun q hq => (hownA.lt q hq).1), HG3⟩
                case measure => simp [intOf]; omega
              · obtain rfl : nl = 0 := by omega
                obtain rfl : l = [] := List.eq_nil_of_length_eq_zero HNl.out
                rw [List.append_nil] at HG3
                clear hlr
                go_region_held3 (fun W => W.cell? ⟨wr.heap.size, 1, none⟩ = some (.slice (some ⟨bq2, oq2, none⟩) nw cq)) (first | go_keep | exact hgrowB.cell (by assumption) (Ne.symm hneA)) (first | (refine step_append_lies _ (by rfl) _ _ _ (by rfl) w1.heap.size 9 i0 (.string ⟨#[]⟩) 1 16 Tryz.underlying37 hi0 hz0 hz1 hz2 rfl (by omega) _ _ _ (by rfl) own9.drew ⟨bq2, oq2, none⟩ nw cq (sCells ws) (by rfl) hoq hnewq (by simp [sCells, Value.oneCell']) (by omega) (by simp [maxLen]; omega) (by omega) (by simp; omega) w9.heap.size (by simp) ?_; intro gg2 cap2 w11 hownB hgrowB hatB hltB) | (refine step_app_nothing (by rfl) _ _ (by rfl) own9.drew Al cl (by rfl) (by rfl) ?_) | fail)
                go_wp2
                go_roundw
                case rel => exact ⟨i + 1, out ++ ws, by go_num, by omega, own_to hownB (by rw [List.length_append, HNw.out]) (by rw [sCells_app]), by rw [List.length_append, HNw.out]; omega, Lib.hid (SzW.app HZo.out hzp1), Below.grown hnw9.drew hgrowB hnw9.drew.size (fun q hq => (own.lt q hq).1), HG3⟩
                case measure => simp [intOf]; omega
        · obtain rfl : i = n := by omega
          have hF : (R1, R2) = (joinV out, 0) := by
            have := HGo.out
            rw [List.drop_of_length_le (show ls.length ≤ i by rw [HLs.out.1]; exact Nat.le_refl _), fillGo] at this
            · exact this.symm
            · intro _ _ _ _ h; cases h
          injection hF with hF1 hF2
          obtain ⟨m, hm⟩ : ∃ k, out.length = k := ⟨_, rfl⟩
          rw [hm] at own hol
          obtain ⟨A9, c9, rfl, q1, q2, q3⟩ := own_form own
          have HJ := Lib.hid (joinL_any A9 m c9 out hm wr q3 q1 (by omega) HZo.out)
          rw [← hF1] at HJ
          subst hF2
          clear hm q3 hF1
          go_wp2_with (go_at_call 45; refine HJ.out.mono ?_; rintro e w3 ⟨rfl, hn3⟩)
          exact bodyPost_ret (v := .tuple #[.string R1, .int .i64 0]) (by simp [results, Tryz.results19, go_sem]) rfl ⟨rfl, ((hnS.trans hn1).trans hnr).trans hn3⟩
    · have hR := HM.out
      rw [if_neg (by simp), if_pos hnn] at hR
      injection hR with hR1 hR2
      subst hR1 hR2
      have u1 : IntKind.i64.wrap ((np : Int) - 1) = (np : Int) - 1 := IntWalk.i64_in _ (by omega)
      have t1 : ((n : Int) == (np : Int) - 1) = false := beq_eq_false_iff_ne.2 (by omega)
      clear hnp hnl
      go_enter Tryz.func19, Tryz.ntmps19
      go_wp2_with (go_at_call 21; refine HC.out.mono ?_; rintro e w1 ⟨rfl, hn1⟩; have k1 := (B0.new hn1).cell' 1 _ rfl)
      exact bodyPost_ret (v := .tuple #[.string ⟨#[]⟩, .int .i64 9]) (by simp [results, Tryz.results19, go_sem]) rfl ⟨rfl, hnS.trans hn1⟩
  · have hR := HM.out
    rw [if_pos hck] at hR
    injection hR with hR1 hR2
    subst hR1 hR2
    have c1 : (R2 == 0) = false := beq_eq_false_iff_ne.2 hck
    go_enter Tryz.func19, Tryz.ntmps19
    go_wp2_with (go_at_call 21; refine HC.out.mono ?_; rintro e w1 ⟨rfl, hn1⟩)
    exact bodyPost_ret (v := .tuple #[.string ⟨#[]⟩, .int .i64 R2]) (by simp [results, Tryz.results19, go_sem]) rfl ⟨rfl, hnS.trans hn1⟩
end Go.Proofs.YtpoelhnceebmkaaGreatDoor

namespace Go.Proofs.YtpoelhnceebmkaaGreatDoor
open Go Go.RowKit
set_option linter.unusedSimpArgs false
set_option linter.unusedVariables false

theorem fmtL_at {out : List ByteArray} {r : List Pt} {i : Nat} {p : Pt} (hp : r[i]? = some p) : fmtL out (r.drop i) = fmtL (out ++ [holeS p.1] ++ p.2) (r.drop (i + 1)) := by
  obtain ⟨h2, e2⟩ := List.getElem?_eq_some_iff.1 hp
  rw [List.drop_eq_getElem_cons h2, fmtL, e2]
theorem dec_len {h : Nat} (hh : h < 100) : (Lib.decDigits h).length ≤ 2 := by
  have : ∀ k : Fin 100, (Lib.decDigits k.1).length ≤ 2 := by
    intro k
    by_cases h1 : k.1 < 10
    · rw [Lib.decDigits]; simp [h1]
    · rw [Lib.decDigits, Lib.decDigits]; have := k.2; simp [h1, show k.1 / 10 < 10 by omega]
  exact this ⟨h, hh⟩

set_option maxRecDepth 100000 in
set_option maxHeartbeats 4000000 in
theorem format_any (v : Value) (nm : ByteArray) (ps : List Pt) (w : World) (h : TRd w v nm ps) (hs : SmT ps) (hzp : ∀ p ∈ ps, SzW p.2) :
    Calls Tryz.prog 17 #[v] w fun e w' => e = .returned (.tuple #[.string (formatV ps).1, .int .i64 (formatV ps).2]) ∧ New w w' := by
  obtain ⟨j0, hi0, hz0, hz1, hz2⟩ := info_parts Tryz.info9'
  obtain ⟨Ap, cp, rfl, hcp1, hcp2, hp⟩ := h
  obtain ⟨np, hnp⟩ : ∃ k, ps.length = k := ⟨_, rfl⟩
  have HT : Hid (TRd w (.agg #[.string nm, .slice Ap np cp]) nm ps) := Lib.hid ⟨Ap, cp, by rw [hnp], hcp1, hcp2, hp⟩
  rw [hnp] at hp hcp1 ⊢
  have hnS : New w (w.alloc (.cells #[.string nm, .slice Ap np cp] 25)) := (New.refl w).alloc _
  have B0 := Blk.made w 25 #[.string nm, .slice Ap np cp]
  have b1 := B0.cell' 0 _ rfl
  have b2 := B0.cell' 1 _ rfl
  have HC := Lib.hid (check_any _ nm ps _ (HT.out.new hnS) hs)
  have HKO := Lib.hid (fun h => check_ok (ps := ps) h)
  have hsl : np ≤ 1000 := by rw [← hnp]; exact hs.1
  have HM : Hid (formatV ps = if checkV ps ≠ 0 then (⟨#[]⟩, checkV ps) else fmtB ps) := Lib.hid rfl
  generalize formatV ps = R at *
  obtain ⟨R1, R2⟩ := R
  generalize checkV ps = ck at *
  by_cases hck : ck = 0
  · subst hck
    obtain ⟨p0, r, rfl, -, hne0, -, hh, htot⟩ := HKO.out rfl
    have hrl : r.length + 1 = np := by simpa using hnp
    have hR : (R1, R2) = (joinV (fmtL p0.2 r), 0) := by have := HM.out; rw [if_neg (by simp)] at this; exact this
    injection hR with hR1 hR2
    subst hR2
    have HR := Lib.hid hR1
    have HZ := Lib.hid hzp
    have HH := Lib.hid hh
    have HP := Lib.hid hp
    have HS2 := Lib.hid (fun p hp => hs.2 p hp)
    clear hnp hR1 hzp hh hp hs b1 b2 HKO HM
    go_enter Tryz.func17, Tryz.ntmps17
    go_wp2_with (go_at_call 21; refine HC.out.mono ?_; rintro e w1 ⟨rfl, hn1⟩; have k1 := (B0.new hn1).cell' 1 _ rfl)
    have B1 := B0.new hn1
    clear k1
    go_loopw [5, 16] (fun v5 v16 wr => ∃ (i : Nat) (out : List ByteArray), v16 = .int .i64 i ∧ i ≤ np ∧ wr.ownsRow w1.heap.size 9 1 v5 out.length (sCells out) ∧ out.length ≤ i * 2000 ∧ Hid (SzW out) ∧ New w1 wr ∧ Hid ((i = 0 → out = []) ∧ (0 < i → fmtL out (r.drop (i - 1)) = fmtL p0.2 r))) (fun _ v16 _ => np - (intOf v16).toNat)
    case atStart => exact ⟨0, [], rfl, by omega, World.ownsRow_nil _ _ _ _, by simp, Lib.hid (fun x hx => by cases hx), New.refl _, Lib.hid ⟨fun _ => rfl, fun h => by omega⟩⟩
    case round =>
      obtain ⟨v5, hv5⟩ : ∃ x, x = u5 := ⟨_, rfl⟩
      subst hv5
      obtain ⟨i, out, rfl, hi, own, hol, HZo, hnr, HGo⟩ := hrel
      by_cases hlt : i < np
      · obtain ⟨bq, oq, vq, p', eq, hp', d1, d2, hwp⟩ := (HP.out.new (hnS.trans hn1)).at hlt
        subst eq
        have hpm := List.mem_of_getElem? hp'
        have hpl := HS2.out p' hpm
        have hzp1 := HZ.out p' hpm
        obtain ⟨Aq, cq, rfl, hq1, hq2, hqr⟩ := hwp
        have d1r := cell_new hnr d1
        have d2r := cell_new hnr d2
        have hwr := hnr.size
        have BP := Blk.made wr 58 #[.int .i64 p'.1, .slice Aq p'.2.length cq]
        by_cases hi9 : i = 0
        · subst hi9
          obtain rfl : p0 = p' := by simpa using hp'
          have hq0 := List.length_pos_iff.2 hne0
          obtain ⟨bq2, oq2, rfl, hbq2, hcq2⟩ := hqr.2 (by omega)
          obtain rfl : out = [] := HGo.out.1 rfl
          have hnewq : ∀ j u, (sCells p0.2)[j]? = some u → (wr.alloc (.cells #[.int .i64 p0.1, .slice (some ⟨bq2, oq2, none⟩) p0.2.length cq] 58)).cell? ((⟨bq2, oq2, none⟩ : Addr).add j) = some u := fun j u hu => by
            rw [add_none rfl]; exact cell_new (hnr.alloc _) (hcq2 j u hu)
          simp only [Nat.zero_mul, Nat.add_zero] at d1r d2r
          clear d1 d2 hqr hcq2
          go_wp2_with (at_builtin; refine wpList_append_own _ rfl (.tmp 31) (.tmp 33) 37 rfl w1.heap.size 9 j0 (.string ⟨#[]⟩) 1 16 Tryz.underlying37 hi0 hz0 hz1 hz2 rfl (by decide) _ _ _ rfl (own.alloc _) ⟨bq2, oq2, none⟩ p0.2.length cq (sCells p0.2) rfl (by simp [sCells]) hnewq ?c2 ?c3 ?c4 ?c5 ?_)
          case c2 => simp [sCells, Value.oneCell']
          case c3 => simp [maxLen]; omega
          case c4 => first | omega | (simp; omega)
          case c5 => first | omega | (simp; omega)
          intro v' w2 hown hg _
          go_wp2
          go_roundw
          case rel => exact ⟨0 + 1, p0.2, by go_num, by omega, own_to hown (by simp) (by simp [sCells]), by omega, Lib.hid hzp1, Below.grown (hnr.alloc _) hg (by simp; omega) (fun q hq => (own.lt q hq).1), Lib.hid ⟨fun h => by omega, fun _ => rfl⟩⟩
          case measure => simp [intOf]; omega
        · have hpr : r[i - 1]? = some p' := by
            obtain ⟨k, rfl⟩ : ∃ k, i = k + 1 := ⟨i - 1, by omega⟩
            simpa using hp'
          obtain ⟨hp1, hp2, hpne, _⟩ := HH.out p' (List.mem_of_getElem? hpr)
          have hgo := fmtL_at (out := out) hpr
          rw [HGo.out.2 (by omega), show i - 1 + 1 = i by omega] at hgo
          obtain ⟨hz, hzi⟩ : ∃ h : Nat, p'.1 = (h : Int) := ⟨p'.1.toNat, by omega⟩
          have hq0 := List.length_pos_iff.2 hpne
          rw [hzi] at d1 d1r hp1 hp2 hgo BP
          have HI := Lib.hid (fun w => Tryz.strconv_Itoa_small hz (by omega) w)
          have hdl := dec_len (h := hz) (by omega)
          have hhs : holeS (hz : Int) = ⟨#[123]⟩ ++ (⟨(Lib.decDigits hz).toArray⟩ : ByteArray) ++ (⟨#[125]⟩ : ByteArray) := rfl
          have hds : (⟨(Lib.decDigits hz).toArray⟩ : ByteArray).size ≤ 2 := by simpa [ByteArray.size] using hdl
          obtain ⟨hd, hhd⟩ : ∃ x, (⟨(Lib.decDigits hz).toArray⟩ : ByteArray) = x := ⟨_, rfl⟩
          rw [hhd] at HI hhs hds
          have hsz : (holeS (hz : Int)).size ≤ 4 := by rw [hhs, ByteArray.size_append, ByteArray.size_append]; show 1 + _ + 1 ≤ 4; omega
          have x0 : ¬ (9223372036854775807 < 1 + hd.size) := by omega
          have x1 : ¬ (9223372036854775807 < 1 + hd.size + 1) := by omega
          obtain ⟨hs9, hhs9⟩ : ∃ x, holeS (hz : Int) = x := ⟨_, rfl⟩
          rw [hhs9] at hhs hsz hgo
          subst hhs
          have HGo2 := Lib.hid hgo
          have HDS := Lib.hid hsz
          obtain ⟨bq2, oq2, rfl, hbq2, hcq2⟩ := hqr.2 (by omega)
          have hlt0 : (0 : Int) < (i : Int) := by omega
          have hneA : v5.ownBlock ≠ some wr.heap.size := fun e => by have := (own.lt _ e).2; omega
          have hneQ : some bq2 ≠ v5.ownBlock := fun e => by have := (own.lt _ e.symm).1; omega
          generalize p'.2 = ws at *
          clear d1 d2 hqr hhd hdl hgo hi9 hsz hpr hp' hpm hzi
          obtain ⟨hfull, hfe⟩ : ∃ x : ByteArray, x = (⟨#[123]⟩ : ByteArray) ++ hd ++ (⟨#[125]⟩ : ByteArray) := ⟨_, rfl⟩
          go_wp2_with (first
            | (at_builtin; refine wpList_append_own _ rfl (.tmp 23) (.tmp 29) 37 rfl w1.heap.size 9 j0 (.string ⟨#[]⟩) 1 16 Tryz.underlying37 hi0 hz0 hz1 hz2 rfl (by decide) _ _ _ rfl ((own.alloc _).alloc _) ⟨wr.heap.size + 1, 0, none⟩ 1 1 [.string hfull] rfl rfl ?c1 ?c2 ?c3 ?c4 ?c5 ?_)
            | (go_at_call 44; refine (HI.out _).mono ?_; rintro e w9 ⟨rfl, rfl⟩))
          all_goals subst hfe
          case c1 => simpa only [World.size_alloc] using cell_one_new (wr.alloc (.cells #[.int .i64 (hz : Int), .slice (some ⟨bq2, oq2, none⟩) ws.length cq] 58)) (.string _) 9
          case c2 => simp [Value.oneCell']
          case c3 => simp [maxLen]; omega
          case c4 => omega
          case c5 => simp; omega
          intro v2 w2 hown2 hg2 _
          have k9 := hg2.cell ((BP.alloc (.cells #[.string ((⟨#[123]⟩ : ByteArray) ++ hd ++ (⟨#[125]⟩ : ByteArray))] 9)).cell' 1 _ rfl) (Ne.symm hneA)
          have hnewq : ∀ j u, (sCells ws)[j]? = some u → w2.cell? ((⟨bq2, oq2, none⟩ : Addr).add j) = some u := fun j u hu => hg2.cell (cell_new ((hnr.alloc _).alloc _) (by rw [add_none rfl]; exact hcq2 j u hu)) (by rw [add_none rfl]; exact hneQ)
          have hsz2 := hg2.size
          simp only [World.size_alloc] at hsz2
          have hnw2 : New w1 w2 := Below.grown ((hnr.alloc _).alloc _) hg2 (by simp; omega) (fun q hq => (own.lt q hq).1)
          clear hcq2 hg2
          go_wp2_with (at_builtin; refine wpList_append_own _ rfl (.tmp 31) (.tmp 33) 37 rfl w1.heap.size 9 j0 (.string ⟨#[]⟩) 1 16 Tryz.underlying37 hi0 hz0 hz1 hz2 rfl (by decide) _ _ _ rfl hown2 ⟨bq2, oq2, none⟩ ws.length cq (sCells ws) rfl (by simp [sCells]) hnewq ?c2 ?c3 ?c4 ?c5 ?_)
          case c2 => simp [sCells, Value.oneCell']
          case c3 => simp [maxLen]; omega
          case c4 => omega
          case c5 => omega
          intro v3 w3 hown3 hg3 _
          go_wp2
          go_roundw
          case rel => exact ⟨i + 1, out ++ [(⟨#[123]⟩ : ByteArray) ++ hd ++ (⟨#[125]⟩ : ByteArray)] ++ ws, by go_num, by omega, own_to hown3 (by simp; omega) (by simp [sCells]), by simp; omega, Lib.hid (SzW.app (SzW.app HZo.out (fun x hx => by rw [List.mem_singleton.1 hx]; have := HDS.out; omega)) hzp1), Below.grown hnw2 hg3 hnw2.size (fun q hq => (hown2.lt q hq).1), Lib.hid ⟨fun h => by omega, fun _ => HGo2.out.symm⟩⟩
          case measure => simp [intOf]; omega
      · obtain rfl : i = np := by omega
        have hF : R1 = joinV out := by
          rw [HR.out]
          have := HGo.out.2 (by omega)
          rw [List.drop_of_length_le (by omega), fmtL] at this
          rw [← this]
        obtain ⟨m, hm⟩ : ∃ k, out.length = k := ⟨_, rfl⟩
        rw [hm] at own hol
        obtain ⟨A9, c9, rfl, q1, q2, q3⟩ := own_form own
        have HJ := Lib.hid (joinL_any A9 m c9 out hm wr q3 q1 (by omega) HZo.out)
        rw [← hF] at HJ
        clear hm q3 hF
        go_wp2_with (go_at_call 45; refine HJ.out.mono ?_; rintro e w3 ⟨rfl, hn3⟩)
        exact bodyPost_ret (v := .tuple #[.string R1, .int .i64 0]) (by simp [results, Tryz.results17, go_sem]) rfl ⟨rfl, ((hnS.trans hn1).trans hnr).trans hn3⟩
  · have hR := HM.out
    rw [if_pos hck] at hR
    injection hR with hR1 hR2
    subst hR1 hR2
    have c1 : (R2 == 0) = false := beq_eq_false_iff_ne.2 hck
    go_enter Tryz.func17, Tryz.ntmps17
    go_wp2_with (go_at_call 21; refine HC.out.mono ?_; rintro e w1 ⟨rfl, hn1⟩)
    exact bodyPost_ret (v := .tuple #[.string ⟨#[]⟩, .int .i64 R2]) (by simp [results, Tryz.results17, go_sem]) rfl ⟨rfl, hnS.trans hn1⟩
end Go.Proofs.YtpoelhnceebmkaaGreatDoor

