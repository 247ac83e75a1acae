/- patch.check: which patches are valid, and their texts. Conditions: sizes. (Printed by mk-i.py.) -/
import Derived.Test.YtfeknjpinboknaaGreatDoorGBase
import Derived.Test.YtfeknjpinboknaaGreatDoorGH
import Derived.Test.YtfeknjpinboknaaGreatDoorGBase
import Derived.Deep.DeepCutAuto

namespace Go.Proofs.YtfeknjpinboknaaGreatDoor
open Go Go.RowKit Go.Joins Go.Shelf
set_option linter.unusedSimpArgs false
set_option linter.unusedVariables false

def prevK (hs : List Hm) (k : Nat) : Int := match k with
  | 0 => 0
  | j + 1 => (hs[j]?.map Hm.kind).getD 0
theorem prevK_next {hs : List Hm} {k : Nat} {h : Hm} (hk : hs[k]? = some h) : prevK hs (k + 1) = h.kind := by simp [prevK, hk]
theorem drop_at {α : Type} {l : List α} {k : Nat} {x : α} (h : l[k]? = some x) : l.drop k = x :: l.drop (k + 1) := by
  obtain ⟨hk, rfl⟩ := List.getElem?_eq_some_iff.1 h
  exact List.drop_eq_getElem_cons hk
theorem goodGo_at {hs : List Hm} {k : Nat} {h : Hm} (hk : hs[k]? = some h) (p : Int) : goodGo p ((hs.drop k).map Hm.d) = (formH h.d && !badAdj p h.kind && goodGo h.kind ((hs.drop (k + 1)).map Hm.d)) := by
  rw [drop_at hk, List.map_cons, goodGo]; rfl
theorem goodGo_okA {hs : List Hm} {p : Int} (h : goodGo p (hs.map Hm.d) = true) : OkA hs := fun x hx => by
  rw [goodGo_eq, Bool.and_eq_true] at h
  exact okH_iff.1 (okGo_ok h.1 x.d (List.mem_map_of_mem hx))
theorem linesL_len : ∀ {l : List Hk}, (∀ h ∈ l, OkH h) → ((linesL l).length : Int) = l.length + cnt 3 l
  | [], _ => by simp [linesL, cnt]
  | h :: r, ho => by
    have ih := linesL_len (fun x hx => ho x (List.mem_cons_of_mem _ hx))
    have h1 := ho h (by simp)
    have e : linesL (h :: r) = headV h :: (h.lines ++ linesL r) := rfl
    rw [e, cnt, List.length_cons, List.length_append, List.length_cons]
    by_cases hk : h.kind = 3
    · have := h1.l3 hk; rw [if_pos hk]; omega
    · rw [if_neg hk, h1.l0 hk]; simp; omega
theorem head_size {h : Hk} (ho : OkH h) : (headV h).size ≤ 100 := by
  have := itoa_size h.n ho.n1 ho.n2
  rw [size_S] at this
  rw [headV, size_S, List.length_append]
  have : (wordL h.kind).length ≤ 5 := by unfold wordL; split; · simp
                                         split <;> simp
  omega
theorem baseL_size {b s : ByteArray} (hb : b.size = 0 ∨ b.size = 32) (h : s ∈ baseL b) : s.size ≤ 100 := by
  unfold baseL at h
  split at h
  · simp at h
  · rw [List.mem_singleton] at h
    subst h
    rw [size_S, List.length_append, hexL_length, ← size_eq]
    simp; omega
theorem textL_size {base : ByteArray} {hs : List Hm} (ho : OkA hs) (hz : SzH hs) (hb : base.size = 0 ∨ base.size = 32) : ∀ s ∈ textL base (hs.map Hm.d), s.size ≤ 1000000 := by
  intro s hs'
  rw [textL, List.mem_append] at hs'
  rcases hs' with h | h
  · have := baseL_size hb h; omega
  · rw [linesL, List.mem_flatMap] at h
    obtain ⟨x, hx, h⟩ := h
    obtain ⟨y, hy, rfl⟩ := List.mem_map.1 hx
    rcases List.mem_cons.1 h with rfl | h
    · have := head_size (ho y hy); omega
    · exact hz.ls y hy s h
def chkT (base : ByteArray) (l : List Hk) : ByteArray := if validV base l = true then textV base l else ⟨#[]⟩
theorem chk_bad {base : ByteArray} {l : List Hk} (h : validV base l = false) : chkT base l = ⟨#[]⟩ := by rw [chkT, h]; rfl
theorem retCk {a b : ByteArray} {c d : Bool} (h1 : a = b) (h2 : c = d) : Ending.returned (.tuple #[.string a, .bool c]) = .returned (.tuple #[.string b, .bool d]) := by rw [h1, h2]
set_option maxRecDepth 100000 in
set_option maxHeartbeats 16000000 in
theorem check_any (base : ByteArray) (A : Option Addr) (n c : Nat) (hs : List Hm) (w : World) (hr : PRd w A n hs) (hz : SzH hs) (hb : base.size ≤ 1000000) (hE : Env w) :
    Calls Tryz.prog 33 #[.agg #[.string base, .slice A n c]] w fun e w' => e = .returned (.tuple #[.string (chkT base (hs.map Hm.d)), .bool (validV base (hs.map Hm.d))]) ∧ New w w' := by
  have hnl : n ≤ 100000 := by have := hz.l; have := hr.len; omega
  have HR := Lib.hid hr
  have HZ := Lib.hid hz
  have HL := Lib.hid hr.len
  have hn0 := (New.refl w).alloc (.cells #[.string base, .slice A n c] 24)
  have B0 := Blk.made w 24 #[.string base, .slice A n c]
  have HV : Hid (validV base (hs.map Hm.d) = ((decide (base.size = 0) || decide (base.size = 32)) && goodGo 0 (hs.map Hm.d) && sizesOK (hs.map Hm.d) && decide (joinE (textL base (hs.map Hm.d)) = 0))) := Lib.hid rfl
  have HT : Hid (validV base (hs.map Hm.d) = true → chkT base (hs.map Hm.d) = joinT (textL base (hs.map Hm.d))) := Lib.hid (fun h => by
    have h2 := h
    simp only [validV, Bool.and_eq_true, decide_eq_true_eq] at h2
    rw [chkT, if_pos h, joinT, if_pos h2.2]; rfl)
  have HF : Hid (validV base (hs.map Hm.d) = false → chkT base (hs.map Hm.d) = ⟨#[]⟩) := Lib.hid (fun h => chk_bad h)
  have HLEN : Hid (3072 < n → validV base (hs.map Hm.d) = false) := Lib.hid (fun h => by
    cases hv : validV base (hs.map Hm.d)
    · rfl
    · have := valid_len hv
      rw [List.length_map, HL.out] at this; omega)
  obtain ⟨V, hV⟩ : ∃ V, validV base (hs.map Hm.d) = V := ⟨_, rfl⟩
  obtain ⟨T, hT⟩ : ∃ T, chkT base (hs.map Hm.d) = T := ⟨_, rfl⟩
  rw [hV] at HV HT HF HLEN ⊢
  rw [hT] at HT HF ⊢
  clear hV hT hr hz
  by_cases hbz : base.size = 0 ∨ base.size = 32
  · obtain ⟨cc, hcc⟩ : ∃ cc : Bool, (base.toList == ([] : List UInt8)) = cc := ⟨_, rfl⟩
    have hfb : (base.toList = [] ∧ (base.toList == ([] : List UInt8)) = true) ∨ ((base.toList == ([] : List UInt8)) = false ∧ base.toList.isEmpty = false ∧ (base.size : Int) = 32) := by
      rcases hbz with h | h
      · have : base.toList = [] := by rw [toList_eq]; exact List.eq_nil_of_length_eq_zero (by rw [← size_eq]; exact h)
        exact Or.inl ⟨this, by rw [this]; rfl⟩
      · refine Or.inr ⟨?_, ?_, by omega⟩
        · rw [toList_eq, data_cons (by omega)]; rfl
        · rw [toList_eq, data_cons (by omega)]; rfl
    clear hcc
    have HBZ := Lib.hid hbz
    have HV2 : Hid (V = (goodGo 0 (hs.map Hm.d) && sizesOK (hs.map Hm.d) && decide (joinE (textL base (hs.map Hm.d)) = 0))) := Lib.hid (by
      rw [HV.out]
      have : (decide (base.size = 0) || decide (base.size = 32)) = true := by simpa using hbz
      rw [this, Bool.true_and])
    clear HV hbz
    go_enter Tryz.func33, Tryz.ntmps33
    go_upto_region 1 with (fail)
    go_cut [25] (fun v25 wc => v25 = .bool (decide ((3072 : Int) < (n : Int))) ∧ New w wc ∧ Blk wc w.heap.size 24 #[.string base, .slice A n c])
    case first =>
      rcases hfb with ⟨x1, x2⟩ | ⟨x1, x2, x3⟩
      · go_wp2
        go_meet
        case rel => exact ⟨rfl, hn0, B0⟩
      · go_wp2
        go_meet
        case rel => exact ⟨rfl, hn0, B0⟩
    case rest =>
      clear hn0 B0 hfb
      obtain ⟨rfl, hn0, B0⟩ := hcut
      by_cases hn3 : 3072 < n
      · have hv := HLEN.out hn3
        have ht := HF.out hv
        subst hv
        subst ht
        have t1 : decide ((3072 : Int) < (n : Int)) = true := by simp; omega
        rw [t1]
        clear HV2 HT HF HLEN
        go_wp2
        go_ret2
        exact ⟨rfl, hn0⟩
      · have t1 : decide ((3072 : Int) < (n : Int)) = false := by simp; omega
        rw [t1]
        have b1 := B0.cell' 1 _ rfl
        go_wp2
        clear b1
        go_loopw [29] (fun v29 wr => ∃ k : Nat, v29 = .int .i64 k ∧ k ≤ n ∧ New w wr ∧ Blk wr w.heap.size 24 #[.string base, .slice A n c] ∧ Hid (goodGo 0 (hs.map Hm.d) = goodGo (prevK hs k) ((hs.drop k).map Hm.d))) (fun v29 _ => n - (intOf v29).toNat)
        case atStart => exact ⟨0, rfl, by omega, hn0, B0, Lib.hid rfl⟩
        case round =>
          obtain ⟨k, rfl, hk, hnr, BR, HG⟩ := hrel
          obtain ⟨wo, rfl⟩ : ∃ wo : World, wo = wr := ⟨_, rfl⟩
          by_cases hlt : k < n
          · obtain ⟨bk, o, rfl, hbk, p, hp, hcell⟩ := rd_row (f := hmC) (k := 3) (fun _ => rfl) HL.out (HR.out.new hnr).rd hlt
            have HST := Lib.hid (HG.out.trans (goodGo_at hp _))
            have HPN := Lib.hid (prevK_next hp)
            have hpm := List.mem_of_getElem? hp
            have HH := Lib.hid (fun W (hN : New w W) => hunk_any p W (hE.new hN) (HZ.out.ll p hpm) ((HR.out.new hN).ln p hpm).1 (HZ.out.ls p hpm))
            have HFK : Hid (formH p.d = true → 1 ≤ p.kind) := Lib.hid (fun h => by
              rw [formH, Bool.and_eq_true] at h
              exact (okH_iff.1 h.1).k1)
            obtain ⟨pk, pn, pl, pa, pc⟩ := p
            have q0 := hcell 0 (.int .i64 pk) (by omega) rfl
            have q1 := hcell 1 (.int .i64 pn) (by omega) rfl
            have q2 := hcell 2 (.slice pa pl.length pc) (by omega) rfl
            simp only [Nat.add_zero] at q0
            rw [← Nat.add_assoc] at q1 q2
            have i0 : (0 : Int) ≤ (k : Int) := by omega
            have i1 : (k : Int) < (n : Int) := by omega
            simp only at HH HST HPN HFK
            generalize formH (Hm.d ⟨pk, pn, pl, pa, pc⟩) = fb at *
            generalize pl.length = nl at *
            have hnr1 := hnr.alloc (.cells #[.int .i64 pk, .int .i64 pn, .slice pa nl pc] 55)
            have BH := Blk.made wo 55 #[.int .i64 pk, .int .i64 pn, .slice pa nl pc]
            have f0 := BH.cell' 0 _ rfl
            have f1 := BH.cell' 1 _ rfl
            have f2 := BH.cell' 2 _ rfl
            have BB := BR.alloc (.cells #[.int .i64 pk, .int .i64 pn, .slice pa nl pc] 55)
            have d1 := BB.cell' 1 _ rfl
            clear hcell hpm BH
            cases fb
            · have hv : V = false := by rw [HV2.out, HST.out]; simp
              have ht := HF.out hv
              subst hv
              subst ht
              clear HST HPN HG HFK HV2 HT HF HLEN
              go_wp2_with (fail)
              refine wp_region_held_drew (S := (New _)) (by kernel_rfl) ((New.refl _).drew) (fun hS => ?_)
              refine tkT 0 (v := ?v1) hS (fun wq hSq => ?y1) ?_; (case y1 => have hf0 := cell_new hSq f0; have hf1 := cell_new hSq f1; have hf2 := cell_new hSq f2; clear hSq; go_simp; (try with_reducible rfl)); simp only [Act.put, gqD, gqE, gqF]
              refine wpAnyH_ready (rs := [1]) (by kernel_rfl) (by simp) ?_
              refine AllReadyH.cons (o := ?oi2) ?hi2 (fun K hK => ?_) AllReadyH.nil
              case hi2 => (simp only [gqA, gqB, gqC]; rfl)
              go_simp
              refine (HH.out _ (hnr1.trans hS)).mono ?_
              rintro e w5 ⟨rfl, n5⟩
              refine hK.out _ _ (hS.trans n5) (fun hS => ?_)
              clear hK K
              refine tkT 2 (v := ?v3) hS (fun wq hSq => ?y3) ?_; (case y3 => clear hSq; go_simp; (try with_reducible rfl)); simp only [Act.put, gqD, gqE, gqF]
              refine tkT 3 (v := ?v4) hS (fun wq hSq => ?y4) ?_; (case y4 => clear hSq; go_simp; (try with_reducible rfl)); simp only [Act.put, gqD, gqE, gqF]
              refine tkU 4 hS ?_; simp only [Act.put, gqD, gqE, gqF]
              refine tkU 5 hS ?_; simp only [Act.put, gqD, gqE, gqF]
              refine tkU 6 hS ?_; simp only [Act.put, gqD, gqE, gqF]
              refine tkU 7 hS ?_; simp only [Act.put, gqD, gqE, gqF]
              refine tkU 8 hS ?_; simp only [Act.put, gqD, gqE, gqF]
              refine tkU 9 hS ?_; simp only [Act.put, gqD, gqE, gqF]
              refine tkU 10 hS ?_; simp only [Act.put, gqD, gqE, gqF]
              refine tkU 11 hS ?_; simp only [Act.put, gqD, gqE, gqF]
              refine tkU 12 hS ?_; simp only [Act.put, gqD, gqE, gqF]
              refine tkU 13 hS ?_; simp only [Act.put, gqD, gqE, gqF]
              refine tkU 14 hS ?_; simp only [Act.put, gqD, gqE, gqF]
              refine tkU 15 hS ?_; simp only [Act.put, gqD, gqE, gqF]
              refine tkU 16 hS ?_; simp only [Act.put, gqD, gqE, gqF]
              refine tkU 17 hS ?_; simp only [Act.put, gqD, gqE, gqF]
              refine tkU 18 hS ?_; simp only [Act.put, gqD, gqE, gqF]
              refine tkU 19 hS ?_; simp only [Act.put, gqD, gqE, gqF]
              refine tkU 20 hS ?_; simp only [Act.put, gqD, gqE, gqF]
              refine tkU 21 hS ?_; simp only [Act.put, gqD, gqE, gqF]
              refine tkU 22 hS ?_; simp only [Act.put, gqD, gqE, gqF]
              refine tkU 23 hS ?_; simp only [Act.put, gqD, gqE, gqF]
              refine tkU 24 hS ?_; simp only [Act.put, gqD, gqE, gqF]
              refine tkU 25 hS ?_; simp only [Act.put, gqD, gqE, gqF]
              refine tkU 26 hS ?_; simp only [Act.put, gqD, gqE, gqF]
              refine tkU 27 hS ?_; simp only [Act.put, gqD, gqE, gqF]
              refine tkU 28 hS ?_; simp only [Act.put, gqD, gqE, gqF]
              refine tkU 29 hS ?_; simp only [Act.put, gqD, gqE, gqF]
              refine tkU 30 hS ?_; simp only [Act.put, gqD, gqE, gqF]
              refine tkU 31 hS ?_; simp only [Act.put, gqD, gqE, gqF]
              refine tkU 32 hS ?_; simp only [Act.put, gqD, gqE, gqF]
              refine tkT 33 (v := ?v34) hS (fun wq hSq => ?y34) ?_; (case y34 => clear hSq; go_simp; (try with_reducible rfl)); simp only [Act.put, gqD, gqE, gqF]
              refine wpAnyH_done (by kernel_rfl) ?_ _
              go_wp2
              go_ret2
              exact ⟨rfl, hnr1.trans (by assumption)⟩
            · have hk1 := HFK.out rfl
              clear HFK
              by_cases hk0 : k = 0
              · subst hk0
                simp only [Nat.zero_mul, Nat.add_zero, Nat.zero_add] at q0 q1 q2
                have HST2 : Hid (goodGo 0 (hs.map Hm.d) = goodGo pk ((hs.drop (0 + 1)).map Hm.d)) := Lib.hid (by
                  rw [HST.out]
                  have : badAdj (prevK hs 0) pk = false := by simp [prevK, badAdj]; omega
                  rw [this]; simp)
                clear HST
                go_wp2_with (fail)
                refine wp_region_held_drew (S := (New _)) (by kernel_rfl) ((New.refl _).drew) (fun hS => ?_)
                refine tkT 0 (v := ?v35) hS (fun wq hSq => ?y35) ?_; (case y35 => have hf0 := cell_new hSq f0; have hf1 := cell_new hSq f1; have hf2 := cell_new hSq f2; clear hSq; go_simp; (try with_reducible rfl)); simp only [Act.put, gqD, gqE, gqF]
                refine wpAnyH_ready (rs := [1]) (by kernel_rfl) (by simp) ?_
                refine AllReadyH.cons (o := ?oi36) ?hi36 (fun K hK => ?_) AllReadyH.nil
                case hi36 => (simp only [gqA, gqB, gqC]; rfl)
                go_simp
                refine (HH.out _ (hnr1.trans hS)).mono ?_
                rintro e w5 ⟨rfl, n5⟩
                refine hK.out _ _ (hS.trans n5) (fun hS => ?_)
                clear hK K
                refine tkT 2 (v := ?v37) hS (fun wq hSq => ?y37) ?_; (case y37 => clear hSq; go_simp; (try with_reducible rfl)); simp only [Act.put, gqD, gqE, gqF]
                refine tkT 3 (v := ?v38) hS (fun wq hSq => ?y38) ?_; (case y38 => clear hSq; go_simp; (try with_reducible rfl)); simp only [Act.put, gqD, gqE, gqF]
                refine tkT 4 (v := ?v39) hS (fun wq hSq => ?y39) ?_; (case y39 => clear hSq; go_simp; (try with_reducible rfl)); simp only [Act.put, gqD, gqE, gqF]
                refine tkT 5 (v := ?v40) hS (fun wq hSq => ?y40) ?_; (case y40 => clear hSq; go_simp; (try with_reducible rfl)); simp only [Act.put, gqD, gqE, gqF]
                refine tkT 6 (v := ?v41) hS (fun wq hSq => ?y41) ?_; (case y41 => clear hSq; go_simp; (try with_reducible rfl)); simp only [Act.put, gqD, gqE, gqF]
                refine tkU 7 hS ?_; simp only [Act.put, gqD, gqE, gqF]
                refine tkU 8 hS ?_; simp only [Act.put, gqD, gqE, gqF]
                refine tkU 9 hS ?_; simp only [Act.put, gqD, gqE, gqF]
                refine tkU 10 hS ?_; simp only [Act.put, gqD, gqE, gqF]
                refine tkU 11 hS ?_; simp only [Act.put, gqD, gqE, gqF]
                refine tkU 12 hS ?_; simp only [Act.put, gqD, gqE, gqF]
                refine tkU 13 hS ?_; simp only [Act.put, gqD, gqE, gqF]
                refine tkU 14 hS ?_; simp only [Act.put, gqD, gqE, gqF]
                refine tkU 15 hS ?_; simp only [Act.put, gqD, gqE, gqF]
                refine tkU 16 hS ?_; simp only [Act.put, gqD, gqE, gqF]
                refine tkU 17 hS ?_; simp only [Act.put, gqD, gqE, gqF]
                refine tkU 18 hS ?_; simp only [Act.put, gqD, gqE, gqF]
                refine tkU 19 hS ?_; simp only [Act.put, gqD, gqE, gqF]
                refine tkU 20 hS ?_; simp only [Act.put, gqD, gqE, gqF]
                refine tkU 21 hS ?_; simp only [Act.put, gqD, gqE, gqF]
                refine tkU 22 hS ?_; simp only [Act.put, gqD, gqE, gqF]
                refine tkU 23 hS ?_; simp only [Act.put, gqD, gqE, gqF]
                refine tkU 24 hS ?_; simp only [Act.put, gqD, gqE, gqF]
                refine tkU 25 hS ?_; simp only [Act.put, gqD, gqE, gqF]
                refine tkU 26 hS ?_; simp only [Act.put, gqD, gqE, gqF]
                refine tkU 27 hS ?_; simp only [Act.put, gqD, gqE, gqF]
                refine tkU 28 hS ?_; simp only [Act.put, gqD, gqE, gqF]
                refine tkU 29 hS ?_; simp only [Act.put, gqD, gqE, gqF]
                refine tkU 30 hS ?_; simp only [Act.put, gqD, gqE, gqF]
                refine tkU 31 hS ?_; simp only [Act.put, gqD, gqE, gqF]
                refine tkT 32 (v := ?v67) hS (fun wq hSq => ?y67) ?_; (case y67 => clear hSq; go_simp; (try with_reducible rfl)); simp only [Act.put, gqD, gqE, gqF]
                refine tkT 33 (v := ?v68) hS (fun wq hSq => ?y68) ?_; (case y68 => clear hSq; go_simp; (try with_reducible rfl)); simp only [Act.put, gqD, gqE, gqF]
                refine wpAnyH_done (by kernel_rfl) ?_ _
                go_wp2
                go_roundw
                case rel => exact ⟨0 + 1, by go_num, by omega, hnr1.trans (by assumption), BB.new (by assumption), Lib.hid (by rw [HST2.out, HPN.out])⟩
                case measure => simp [intOf]; omega
              · obtain ⟨j, rfl⟩ : ∃ j, k = j + 1 := ⟨k - 1, by omega⟩
                obtain ⟨bk', o', hA, _, y, hy, hcy⟩ := rd_row (f := hmC) (k := 3) (fun _ => rfl) HL.out (HR.out.new hnr).rd (show j < n by omega)
                injection hA with hA
                injection hA with hA1 hA2
                subst hA1 hA2
                have HPJ := Lib.hid (prevK_next hy)
                obtain ⟨yk, yn, yl, ya, yc⟩ := y
                have p0 := cell_new ((New.refl wo).alloc (.cells #[.int .i64 pk, .int .i64 pn, .slice pa nl pc] 55)) (hcy 0 (.int .i64 yk) (by omega) rfl)
                simp only [Nat.add_zero] at p0
                simp only at HPJ
                rw [HPJ.out] at HST
                have k6 : IntKind.i64.wrap (((j + 1 : Nat) : Int) - 1) = (j : Int) := by rw [IntWalk.i64_in _ (by omega)]; omega
                have k7 : IntKind.i64.wrap ((j : Int) + 1 - 1) = (j : Int) := by rw [IntWalk.i64_in _ (by omega)]; omega
                have k10 : (0 : Int) < (j : Int) + 1 := by omega
                have k11 : (0 : Int) ≤ (j : Int) := by omega
                have k12 : (j : Int) < (n : Int) := by omega
                have k13 : (j : Int).toNat = j := by omega
                have k8 : IntKind.i64.wrap (j : Int) = (j : Int) := IntWalk.i64_in _ (by omega)
                clear hcy hy
                by_cases e1 : yk = pk
                · subst e1
                  have hv : V = false := by
                    rw [HV2.out, HST.out]
                    have : badAdj yk yk = true := by simp [badAdj]
                    rw [this]; simp
                  have ht := HF.out hv
                  subst hv
                  subst ht
                  clear HST HPN HG HPJ HV2 HT HF HLEN
                  go_wp2_with (fail)
                  refine wp_region_held_drew (S := (New _)) (by kernel_rfl) ((New.refl _).drew) (fun hS => ?_)
                  refine tkT 0 (v := ?v69) hS (fun wq hSq => ?y69) ?_; (case y69 => have hf0 := cell_new hSq f0; have hf1 := cell_new hSq f1; have hf2 := cell_new hSq f2; have hf3 := cell_new hSq d1; have hf4 := cell_new hSq p0; clear hSq; go_simp; (try with_reducible rfl)); simp only [Act.put, gqD, gqE, gqF]
                  refine wpAnyH_ready (rs := [1]) (by kernel_rfl) (by simp) ?_
                  refine AllReadyH.cons (o := ?oi70) ?hi70 (fun K hK => ?_) AllReadyH.nil
                  case hi70 => (simp only [gqA, gqB, gqC]; rfl)
                  go_simp
                  refine (HH.out _ (hnr1.trans hS)).mono ?_
                  rintro e w5 ⟨rfl, n5⟩
                  refine hK.out _ _ (hS.trans n5) (fun hS => ?_)
                  clear hK K
                  refine tkT 2 (v := ?v71) hS (fun wq hSq => ?y71) ?_; (case y71 => clear hSq; go_simp; (try with_reducible rfl)); simp only [Act.put, gqD, gqE, gqF]
                  refine tkT 3 (v := ?v72) hS (fun wq hSq => ?y72) ?_; (case y72 => clear hSq; go_simp; (try with_reducible rfl)); simp only [Act.put, gqD, gqE, gqF]
                  refine tkT 4 (v := ?v73) hS (fun wq hSq => ?y73) ?_; (case y73 => clear hSq; go_simp; (try with_reducible rfl)); simp only [Act.put, gqD, gqE, gqF]
                  refine tkT 5 (v := ?v74) hS (fun wq hSq => ?y74) ?_; (case y74 => clear hSq; go_simp; (try with_reducible rfl)); simp only [Act.put, gqD, gqE, gqF]
                  refine tkT 6 (v := ?v75) hS (fun wq hSq => ?y75) ?_; (case y75 => clear hSq; go_simp; (try with_reducible rfl)); simp only [Act.put, gqD, gqE, gqF]
                  refine tkT 7 (v := ?v76) hS (fun wq hSq => ?y76) ?_; (case y76 => clear hSq; go_simp; (try with_reducible rfl)); simp only [Act.put, gqD, gqE, gqF]
                  refine tkT 8 (v := ?v77) hS (fun wq hSq => ?y77) ?_; (case y77 => have hf0 := cell_new hSq f0; have hf1 := cell_new hSq f1; have hf2 := cell_new hSq f2; have hf3 := cell_new hSq d1; have hf4 := cell_new hSq p0; clear hSq; go_simp; (try with_reducible rfl)); simp only [Act.put, gqD, gqE, gqF]
                  refine tkT 9 (v := ?v78) hS (fun wq hSq => ?y78) ?_; (case y78 => clear hSq; go_simp; (try with_reducible rfl)); simp only [Act.put, gqD, gqE, gqF]
                  refine tkT 10 (v := ?v79) hS (fun wq hSq => ?y79) ?_; (case y79 => clear hSq; go_simp; (try with_reducible rfl)); simp only [Act.put, gqD, gqE, gqF]
                  refine tkT 11 (v := ?v80) hS (fun wq hSq => ?y80) ?_; (case y80 => clear hSq; go_simp; (try with_reducible rfl)); simp only [Act.put, gqD, gqE, gqF]
                  refine tkT 12 (v := ?v81) hS (fun wq hSq => ?y81) ?_; (case y81 => clear hSq; go_simp; (try with_reducible rfl)); simp only [Act.put, gqD, gqE, gqF]
                  refine tkT 13 (v := ?v82) hS (fun wq hSq => ?y82) ?_; (case y82 => have hf0 := cell_new hSq f0; have hf1 := cell_new hSq f1; have hf2 := cell_new hSq f2; have hf3 := cell_new hSq d1; have hf4 := cell_new hSq p0; clear hSq; go_simp; (try with_reducible rfl)); simp only [Act.put, gqD, gqE, gqF]
                  refine tkT 14 (v := ?v83) hS (fun wq hSq => ?y83) ?_; (case y83 => clear hSq; go_simp; (try with_reducible rfl)); simp only [Act.put, gqD, gqE, gqF]
                  refine tkT 15 (v := ?v84) hS (fun wq hSq => ?y84) ?_; (case y84 => have hf0 := cell_new hSq f0; have hf1 := cell_new hSq f1; have hf2 := cell_new hSq f2; have hf3 := cell_new hSq d1; have hf4 := cell_new hSq p0; clear hSq; go_simp; (try with_reducible rfl)); simp only [Act.put, gqD, gqE, gqF]
                  refine tkT 16 (v := ?v85) hS (fun wq hSq => ?y85) ?_; (case y85 => clear hSq; go_simp; (try with_reducible rfl)); simp only [Act.put, gqD, gqE, gqF]
                  refine tkT 17 (v := ?v86) hS (fun wq hSq => ?y86) ?_; (case y86 => clear hSq; go_simp; (try with_reducible rfl)); simp only [Act.put, gqD, gqE, gqF]
                  refine tkU 18 hS ?_; simp only [Act.put, gqD, gqE, gqF]
                  refine tkU 19 hS ?_; simp only [Act.put, gqD, gqE, gqF]
                  refine tkU 20 hS ?_; simp only [Act.put, gqD, gqE, gqF]
                  refine tkU 21 hS ?_; simp only [Act.put, gqD, gqE, gqF]
                  refine tkU 22 hS ?_; simp only [Act.put, gqD, gqE, gqF]
                  refine tkU 23 hS ?_; simp only [Act.put, gqD, gqE, gqF]
                  refine tkU 24 hS ?_; simp only [Act.put, gqD, gqE, gqF]
                  refine tkU 25 hS ?_; simp only [Act.put, gqD, gqE, gqF]
                  refine tkU 26 hS ?_; simp only [Act.put, gqD, gqE, gqF]
                  refine tkU 27 hS ?_; simp only [Act.put, gqD, gqE, gqF]
                  refine tkU 28 hS ?_; simp only [Act.put, gqD, gqE, gqF]
                  refine tkU 29 hS ?_; simp only [Act.put, gqD, gqE, gqF]
                  refine tkU 30 hS ?_; simp only [Act.put, gqD, gqE, gqF]
                  refine tkT 31 (v := ?v100) hS (fun wq hSq => ?y100) ?_; (case y100 => clear hSq; go_simp; (try with_reducible rfl)); simp only [Act.put, gqD, gqE, gqF]
                  refine tkT 32 (v := ?v101) hS (fun wq hSq => ?y101) ?_; (case y101 => clear hSq; go_simp; (try with_reducible rfl)); simp only [Act.put, gqD, gqE, gqF]
                  refine tkT 33 (v := ?v102) hS (fun wq hSq => ?y102) ?_; (case y102 => clear hSq; go_simp; (try with_reducible rfl)); simp only [Act.put, gqD, gqE, gqF]
                  refine wpAnyH_done (by kernel_rfl) ?_ _
                  go_wp2
                  go_ret2
                  exact ⟨rfl, hnr1.trans (by assumption)⟩
                · have e1' : (yk == pk) = false := beq_eq_false_iff_ne.2 e1
                  by_cases e3 : yk = 3
                  · subst e3
                    by_cases e2 : pk = 2
                    · subst e2
                      have hv : V = false := by
                        rw [HV2.out, HST.out]
                        have : badAdj 3 2 = true := by decide
                        rw [this]; simp
                      have ht := HF.out hv
                      subst hv
                      subst ht
                      clear HST HPN HG HPJ HV2 HT HF HLEN
                      go_wp2_with (fail)
                      refine wp_region_held_drew (S := (New _)) (by kernel_rfl) ((New.refl _).drew) (fun hS => ?_)
                      refine tkT 0 (v := ?v103) hS (fun wq hSq => ?y103) ?_; (case y103 => have hf0 := cell_new hSq f0; have hf1 := cell_new hSq f1; have hf2 := cell_new hSq f2; have hf3 := cell_new hSq d1; have hf4 := cell_new hSq p0; clear hSq; go_simp; (try with_reducible rfl)); simp only [Act.put, gqD, gqE, gqF]
                      refine wpAnyH_ready (rs := [1]) (by kernel_rfl) (by simp) ?_
                      refine AllReadyH.cons (o := ?oi104) ?hi104 (fun K hK => ?_) AllReadyH.nil
                      case hi104 => (simp only [gqA, gqB, gqC]; rfl)
                      go_simp
                      refine (HH.out _ (hnr1.trans hS)).mono ?_
                      rintro e w5 ⟨rfl, n5⟩
                      refine hK.out _ _ (hS.trans n5) (fun hS => ?_)
                      clear hK K
                      refine tkT 2 (v := ?v105) hS (fun wq hSq => ?y105) ?_; (case y105 => clear hSq; go_simp; (try with_reducible rfl)); simp only [Act.put, gqD, gqE, gqF]
                      refine tkT 3 (v := ?v106) hS (fun wq hSq => ?y106) ?_; (case y106 => clear hSq; go_simp; (try with_reducible rfl)); simp only [Act.put, gqD, gqE, gqF]
                      refine tkT 4 (v := ?v107) hS (fun wq hSq => ?y107) ?_; (case y107 => clear hSq; go_simp; (try with_reducible rfl)); simp only [Act.put, gqD, gqE, gqF]
                      refine tkT 5 (v := ?v108) hS (fun wq hSq => ?y108) ?_; (case y108 => clear hSq; go_simp; (try with_reducible rfl)); simp only [Act.put, gqD, gqE, gqF]
                      refine tkT 6 (v := ?v109) hS (fun wq hSq => ?y109) ?_; (case y109 => clear hSq; go_simp; (try with_reducible rfl)); simp only [Act.put, gqD, gqE, gqF]
                      refine tkT 7 (v := ?v110) hS (fun wq hSq => ?y110) ?_; (case y110 => clear hSq; go_simp; (try with_reducible rfl)); simp only [Act.put, gqD, gqE, gqF]
                      refine tkT 8 (v := ?v111) hS (fun wq hSq => ?y111) ?_; (case y111 => have hf0 := cell_new hSq f0; have hf1 := cell_new hSq f1; have hf2 := cell_new hSq f2; have hf3 := cell_new hSq d1; have hf4 := cell_new hSq p0; clear hSq; go_simp; (try with_reducible rfl)); simp only [Act.put, gqD, gqE, gqF]
                      refine tkT 9 (v := ?v112) hS (fun wq hSq => ?y112) ?_; (case y112 => clear hSq; go_simp; (try with_reducible rfl)); simp only [Act.put, gqD, gqE, gqF]
                      refine tkT 10 (v := ?v113) hS (fun wq hSq => ?y113) ?_; (case y113 => clear hSq; go_simp; (try with_reducible rfl)); simp only [Act.put, gqD, gqE, gqF]
                      refine tkT 11 (v := ?v114) hS (fun wq hSq => ?y114) ?_; (case y114 => clear hSq; go_simp; (try with_reducible rfl)); simp only [Act.put, gqD, gqE, gqF]
                      refine tkT 12 (v := ?v115) hS (fun wq hSq => ?y115) ?_; (case y115 => clear hSq; go_simp; (try with_reducible rfl)); simp only [Act.put, gqD, gqE, gqF]
                      refine tkT 13 (v := ?v116) hS (fun wq hSq => ?y116) ?_; (case y116 => have hf0 := cell_new hSq f0; have hf1 := cell_new hSq f1; have hf2 := cell_new hSq f2; have hf3 := cell_new hSq d1; have hf4 := cell_new hSq p0; clear hSq; go_simp; (try with_reducible rfl)); simp only [Act.put, gqD, gqE, gqF]
                      refine tkT 14 (v := ?v117) hS (fun wq hSq => ?y117) ?_; (case y117 => clear hSq; go_simp; (try with_reducible rfl)); simp only [Act.put, gqD, gqE, gqF]
                      refine tkT 15 (v := ?v118) hS (fun wq hSq => ?y118) ?_; (case y118 => have hf0 := cell_new hSq f0; have hf1 := cell_new hSq f1; have hf2 := cell_new hSq f2; have hf3 := cell_new hSq d1; have hf4 := cell_new hSq p0; clear hSq; go_simp; (try with_reducible rfl)); simp only [Act.put, gqD, gqE, gqF]
                      refine tkT 16 (v := ?v119) hS (fun wq hSq => ?y119) ?_; (case y119 => clear hSq; go_simp; (try with_reducible rfl)); simp only [Act.put, gqD, gqE, gqF]
                      refine tkT 17 (v := ?v120) hS (fun wq hSq => ?y120) ?_; (case y120 => clear hSq; go_simp; (try with_reducible rfl)); simp only [Act.put, gqD, gqE, gqF]
                      refine tkT 18 (v := ?v121) hS (fun wq hSq => ?y121) ?_; (case y121 => clear hSq; go_simp; (try with_reducible rfl)); simp only [Act.put, gqD, gqE, gqF]
                      refine tkT 19 (v := ?v122) hS (fun wq hSq => ?y122) ?_; (case y122 => have hf0 := cell_new hSq f0; have hf1 := cell_new hSq f1; have hf2 := cell_new hSq f2; have hf3 := cell_new hSq d1; have hf4 := cell_new hSq p0; clear hSq; go_simp; (try with_reducible rfl)); simp only [Act.put, gqD, gqE, gqF]
                      refine tkT 20 (v := ?v123) hS (fun wq hSq => ?y123) ?_; (case y123 => clear hSq; go_simp; (try with_reducible rfl)); simp only [Act.put, gqD, gqE, gqF]
                      refine tkT 21 (v := ?v124) hS (fun wq hSq => ?y124) ?_; (case y124 => clear hSq; go_simp; (try with_reducible rfl)); simp only [Act.put, gqD, gqE, gqF]
                      refine tkT 22 (v := ?v125) hS (fun wq hSq => ?y125) ?_; (case y125 => clear hSq; go_simp; (try with_reducible rfl)); simp only [Act.put, gqD, gqE, gqF]
                      refine tkT 23 (v := ?v126) hS (fun wq hSq => ?y126) ?_; (case y126 => clear hSq; go_simp; (try with_reducible rfl)); simp only [Act.put, gqD, gqE, gqF]
                      refine tkT 24 (v := ?v127) hS (fun wq hSq => ?y127) ?_; (case y127 => have hf0 := cell_new hSq f0; have hf1 := cell_new hSq f1; have hf2 := cell_new hSq f2; have hf3 := cell_new hSq d1; have hf4 := cell_new hSq p0; clear hSq; go_simp; (try with_reducible rfl)); simp only [Act.put, gqD, gqE, gqF]
                      refine tkT 25 (v := ?v128) hS (fun wq hSq => ?y128) ?_; (case y128 => clear hSq; go_simp; (try with_reducible rfl)); simp only [Act.put, gqD, gqE, gqF]
                      refine tkT 26 (v := ?v129) hS (fun wq hSq => ?y129) ?_; (case y129 => clear hSq; go_simp; (try with_reducible rfl)); simp only [Act.put, gqD, gqE, gqF]
                      refine tkT 27 (v := ?v130) hS (fun wq hSq => ?y130) ?_; (case y130 => clear hSq; go_simp; (try with_reducible rfl)); simp only [Act.put, gqD, gqE, gqF]
                      refine tkT 28 (v := ?v131) hS (fun wq hSq => ?y131) ?_; (case y131 => have hf0 := cell_new hSq f0; have hf1 := cell_new hSq f1; have hf2 := cell_new hSq f2; have hf3 := cell_new hSq d1; have hf4 := cell_new hSq p0; clear hSq; go_simp; (try with_reducible rfl)); simp only [Act.put, gqD, gqE, gqF]
                      refine tkT 29 (v := ?v132) hS (fun wq hSq => ?y132) ?_; (case y132 => clear hSq; go_simp; (try with_reducible rfl)); simp only [Act.put, gqD, gqE, gqF]
                      refine tkT 30 (v := ?v133) hS (fun wq hSq => ?y133) ?_; (case y133 => clear hSq; go_simp; (try with_reducible rfl)); simp only [Act.put, gqD, gqE, gqF]
                      refine tkT 31 (v := ?v134) hS (fun wq hSq => ?y134) ?_; (case y134 => clear hSq; go_simp; (try with_reducible rfl)); simp only [Act.put, gqD, gqE, gqF]
                      refine tkT 32 (v := ?v135) hS (fun wq hSq => ?y135) ?_; (case y135 => clear hSq; go_simp; (try with_reducible rfl)); simp only [Act.put, gqD, gqE, gqF]
                      refine tkT 33 (v := ?v136) hS (fun wq hSq => ?y136) ?_; (case y136 => clear hSq; go_simp; (try with_reducible rfl)); simp only [Act.put, gqD, gqE, gqF]
                      refine wpAnyH_done (by kernel_rfl) ?_ _
                      go_wp2
                      go_ret2
                      exact ⟨rfl, hnr1.trans (by assumption)⟩
                    · have e2' : (pk == 2) = false := beq_eq_false_iff_ne.2 e2
                      have HST2 : Hid (goodGo 0 (hs.map Hm.d) = goodGo pk ((hs.drop (j + 1 + 1)).map Hm.d)) := Lib.hid (by
                        rw [HST.out]
                        have : badAdj 3 pk = false := by simp [badAdj, e2]; omega
                        rw [this]; simp)
                      clear HST
                      go_wp2_with (fail)
                      refine wp_region_held_drew (S := (New _)) (by kernel_rfl) ((New.refl _).drew) (fun hS => ?_)
                      refine tkT 0 (v := ?v137) hS (fun wq hSq => ?y137) ?_; (case y137 => have hf0 := cell_new hSq f0; have hf1 := cell_new hSq f1; have hf2 := cell_new hSq f2; have hf3 := cell_new hSq d1; have hf4 := cell_new hSq p0; clear hSq; go_simp; (try with_reducible rfl)); simp only [Act.put, gqD, gqE, gqF]
                      refine wpAnyH_ready (rs := [1]) (by kernel_rfl) (by simp) ?_
                      refine AllReadyH.cons (o := ?oi138) ?hi138 (fun K hK => ?_) AllReadyH.nil
                      case hi138 => (simp only [gqA, gqB, gqC]; rfl)
                      go_simp
                      refine (HH.out _ (hnr1.trans hS)).mono ?_
                      rintro e w5 ⟨rfl, n5⟩
                      refine hK.out _ _ (hS.trans n5) (fun hS => ?_)
                      clear hK K
                      refine tkT 2 (v := ?v139) hS (fun wq hSq => ?y139) ?_; (case y139 => clear hSq; go_simp; (try with_reducible rfl)); simp only [Act.put, gqD, gqE, gqF]
                      refine tkT 3 (v := ?v140) hS (fun wq hSq => ?y140) ?_; (case y140 => clear hSq; go_simp; (try with_reducible rfl)); simp only [Act.put, gqD, gqE, gqF]
                      refine tkT 4 (v := ?v141) hS (fun wq hSq => ?y141) ?_; (case y141 => clear hSq; go_simp; (try with_reducible rfl)); simp only [Act.put, gqD, gqE, gqF]
                      refine tkT 5 (v := ?v142) hS (fun wq hSq => ?y142) ?_; (case y142 => clear hSq; go_simp; (try with_reducible rfl)); simp only [Act.put, gqD, gqE, gqF]
                      refine tkT 6 (v := ?v143) hS (fun wq hSq => ?y143) ?_; (case y143 => clear hSq; go_simp; (try with_reducible rfl)); simp only [Act.put, gqD, gqE, gqF]
                      refine tkT 7 (v := ?v144) hS (fun wq hSq => ?y144) ?_; (case y144 => clear hSq; go_simp; (try with_reducible rfl)); simp only [Act.put, gqD, gqE, gqF]
                      refine tkT 8 (v := ?v145) hS (fun wq hSq => ?y145) ?_; (case y145 => have hf0 := cell_new hSq f0; have hf1 := cell_new hSq f1; have hf2 := cell_new hSq f2; have hf3 := cell_new hSq d1; have hf4 := cell_new hSq p0; clear hSq; go_simp; (try with_reducible rfl)); simp only [Act.put, gqD, gqE, gqF]
                      refine tkT 9 (v := ?v146) hS (fun wq hSq => ?y146) ?_; (case y146 => clear hSq; go_simp; (try with_reducible rfl)); simp only [Act.put, gqD, gqE, gqF]
                      refine tkT 10 (v := ?v147) hS (fun wq hSq => ?y147) ?_; (case y147 => clear hSq; go_simp; (try with_reducible rfl)); simp only [Act.put, gqD, gqE, gqF]
                      refine tkT 11 (v := ?v148) hS (fun wq hSq => ?y148) ?_; (case y148 => clear hSq; go_simp; (try with_reducible rfl)); simp only [Act.put, gqD, gqE, gqF]
                      refine tkT 12 (v := ?v149) hS (fun wq hSq => ?y149) ?_; (case y149 => clear hSq; go_simp; (try with_reducible rfl)); simp only [Act.put, gqD, gqE, gqF]
                      refine tkT 13 (v := ?v150) hS (fun wq hSq => ?y150) ?_; (case y150 => have hf0 := cell_new hSq f0; have hf1 := cell_new hSq f1; have hf2 := cell_new hSq f2; have hf3 := cell_new hSq d1; have hf4 := cell_new hSq p0; clear hSq; go_simp; (try with_reducible rfl)); simp only [Act.put, gqD, gqE, gqF]
                      refine tkT 14 (v := ?v151) hS (fun wq hSq => ?y151) ?_; (case y151 => clear hSq; go_simp; (try with_reducible rfl)); simp only [Act.put, gqD, gqE, gqF]
                      refine tkT 15 (v := ?v152) hS (fun wq hSq => ?y152) ?_; (case y152 => have hf0 := cell_new hSq f0; have hf1 := cell_new hSq f1; have hf2 := cell_new hSq f2; have hf3 := cell_new hSq d1; have hf4 := cell_new hSq p0; clear hSq; go_simp; (try with_reducible rfl)); simp only [Act.put, gqD, gqE, gqF]
                      refine tkT 16 (v := ?v153) hS (fun wq hSq => ?y153) ?_; (case y153 => clear hSq; go_simp; (try with_reducible rfl)); simp only [Act.put, gqD, gqE, gqF]
                      refine tkT 17 (v := ?v154) hS (fun wq hSq => ?y154) ?_; (case y154 => clear hSq; go_simp; (try with_reducible rfl)); simp only [Act.put, gqD, gqE, gqF]
                      refine tkT 18 (v := ?v155) hS (fun wq hSq => ?y155) ?_; (case y155 => clear hSq; go_simp; (try with_reducible rfl)); simp only [Act.put, gqD, gqE, gqF]
                      refine tkT 19 (v := ?v156) hS (fun wq hSq => ?y156) ?_; (case y156 => have hf0 := cell_new hSq f0; have hf1 := cell_new hSq f1; have hf2 := cell_new hSq f2; have hf3 := cell_new hSq d1; have hf4 := cell_new hSq p0; clear hSq; go_simp; (try with_reducible rfl)); simp only [Act.put, gqD, gqE, gqF]
                      refine tkT 20 (v := ?v157) hS (fun wq hSq => ?y157) ?_; (case y157 => clear hSq; go_simp; (try with_reducible rfl)); simp only [Act.put, gqD, gqE, gqF]
                      refine tkT 21 (v := ?v158) hS (fun wq hSq => ?y158) ?_; (case y158 => clear hSq; go_simp; (try with_reducible rfl)); simp only [Act.put, gqD, gqE, gqF]
                      refine tkT 22 (v := ?v159) hS (fun wq hSq => ?y159) ?_; (case y159 => clear hSq; go_simp; (try with_reducible rfl)); simp only [Act.put, gqD, gqE, gqF]
                      refine tkT 23 (v := ?v160) hS (fun wq hSq => ?y160) ?_; (case y160 => clear hSq; go_simp; (try with_reducible rfl)); simp only [Act.put, gqD, gqE, gqF]
                      refine tkT 24 (v := ?v161) hS (fun wq hSq => ?y161) ?_; (case y161 => have hf0 := cell_new hSq f0; have hf1 := cell_new hSq f1; have hf2 := cell_new hSq f2; have hf3 := cell_new hSq d1; have hf4 := cell_new hSq p0; clear hSq; go_simp; (try with_reducible rfl)); simp only [Act.put, gqD, gqE, gqF]
                      refine tkT 25 (v := ?v162) hS (fun wq hSq => ?y162) ?_; (case y162 => clear hSq; go_simp; (try with_reducible rfl)); simp only [Act.put, gqD, gqE, gqF]
                      refine tkT 26 (v := ?v163) hS (fun wq hSq => ?y163) ?_; (case y163 => clear hSq; go_simp; (try with_reducible rfl)); simp only [Act.put, gqD, gqE, gqF]
                      refine tkT 27 (v := ?v164) hS (fun wq hSq => ?y164) ?_; (case y164 => clear hSq; go_simp; (try with_reducible rfl)); simp only [Act.put, gqD, gqE, gqF]
                      refine tkT 28 (v := ?v165) hS (fun wq hSq => ?y165) ?_; (case y165 => have hf0 := cell_new hSq f0; have hf1 := cell_new hSq f1; have hf2 := cell_new hSq f2; have hf3 := cell_new hSq d1; have hf4 := cell_new hSq p0; clear hSq; go_simp; (try with_reducible rfl)); simp only [Act.put, gqD, gqE, gqF]
                      refine tkT 29 (v := ?v166) hS (fun wq hSq => ?y166) ?_; (case y166 => clear hSq; go_simp; (try with_reducible rfl)); simp only [Act.put, gqD, gqE, gqF]
                      refine tkT 30 (v := ?v167) hS (fun wq hSq => ?y167) ?_; (case y167 => clear hSq; go_simp; (try with_reducible rfl)); simp only [Act.put, gqD, gqE, gqF]
                      refine tkT 31 (v := ?v168) hS (fun wq hSq => ?y168) ?_; (case y168 => clear hSq; go_simp; (try with_reducible rfl)); simp only [Act.put, gqD, gqE, gqF]
                      refine tkT 32 (v := ?v169) hS (fun wq hSq => ?y169) ?_; (case y169 => clear hSq; go_simp; (try with_reducible rfl)); simp only [Act.put, gqD, gqE, gqF]
                      refine tkT 33 (v := ?v170) hS (fun wq hSq => ?y170) ?_; (case y170 => clear hSq; go_simp; (try with_reducible rfl)); simp only [Act.put, gqD, gqE, gqF]
                      refine wpAnyH_done (by kernel_rfl) ?_ _
                      go_wp2
                      go_roundw
                      case rel => exact ⟨j + 1 + 1, by go_num, by omega, hnr1.trans (by assumption), BB.new (by assumption), Lib.hid (by rw [HST2.out, HPN.out])⟩
                      case measure => simp [intOf]; omega
                  · have e3' : (yk == 3) = false := beq_eq_false_iff_ne.2 e3
                    have HST2 : Hid (goodGo 0 (hs.map Hm.d) = goodGo pk ((hs.drop (j + 1 + 1)).map Hm.d)) := Lib.hid (by
                      rw [HST.out]
                      have : badAdj yk pk = false := by simp [badAdj, e1, e3]
                      rw [this]; simp)
                    clear HST
                    go_wp2_with (fail)
                    refine wp_region_held_drew (S := (New _)) (by kernel_rfl) ((New.refl _).drew) (fun hS => ?_)
                    refine tkT 0 (v := ?v171) hS (fun wq hSq => ?y171) ?_; (case y171 => have hf0 := cell_new hSq f0; have hf1 := cell_new hSq f1; have hf2 := cell_new hSq f2; have hf3 := cell_new hSq d1; have hf4 := cell_new hSq p0; clear hSq; go_simp; (try with_reducible rfl)); simp only [Act.put, gqD, gqE, gqF]
                    refine wpAnyH_ready (rs := [1]) (by kernel_rfl) (by simp) ?_
                    refine AllReadyH.cons (o := ?oi172) ?hi172 (fun K hK => ?_) AllReadyH.nil
                    case hi172 => (simp only [gqA, gqB, gqC]; rfl)
                    go_simp
                    refine (HH.out _ (hnr1.trans hS)).mono ?_
                    rintro e w5 ⟨rfl, n5⟩
                    refine hK.out _ _ (hS.trans n5) (fun hS => ?_)
                    clear hK K
                    refine tkT 2 (v := ?v173) hS (fun wq hSq => ?y173) ?_; (case y173 => clear hSq; go_simp; (try with_reducible rfl)); simp only [Act.put, gqD, gqE, gqF]
                    refine tkT 3 (v := ?v174) hS (fun wq hSq => ?y174) ?_; (case y174 => clear hSq; go_simp; (try with_reducible rfl)); simp only [Act.put, gqD, gqE, gqF]
                    refine tkT 4 (v := ?v175) hS (fun wq hSq => ?y175) ?_; (case y175 => clear hSq; go_simp; (try with_reducible rfl)); simp only [Act.put, gqD, gqE, gqF]
                    refine tkT 5 (v := ?v176) hS (fun wq hSq => ?y176) ?_; (case y176 => clear hSq; go_simp; (try with_reducible rfl)); simp only [Act.put, gqD, gqE, gqF]
                    refine tkT 6 (v := ?v177) hS (fun wq hSq => ?y177) ?_; (case y177 => clear hSq; go_simp; (try with_reducible rfl)); simp only [Act.put, gqD, gqE, gqF]
                    refine tkT 7 (v := ?v178) hS (fun wq hSq => ?y178) ?_; (case y178 => clear hSq; go_simp; (try with_reducible rfl)); simp only [Act.put, gqD, gqE, gqF]
                    refine tkT 8 (v := ?v179) hS (fun wq hSq => ?y179) ?_; (case y179 => have hf0 := cell_new hSq f0; have hf1 := cell_new hSq f1; have hf2 := cell_new hSq f2; have hf3 := cell_new hSq d1; have hf4 := cell_new hSq p0; clear hSq; go_simp; (try with_reducible rfl)); simp only [Act.put, gqD, gqE, gqF]
                    refine tkT 9 (v := ?v180) hS (fun wq hSq => ?y180) ?_; (case y180 => clear hSq; go_simp; (try with_reducible rfl)); simp only [Act.put, gqD, gqE, gqF]
                    refine tkT 10 (v := ?v181) hS (fun wq hSq => ?y181) ?_; (case y181 => clear hSq; go_simp; (try with_reducible rfl)); simp only [Act.put, gqD, gqE, gqF]
                    refine tkT 11 (v := ?v182) hS (fun wq hSq => ?y182) ?_; (case y182 => clear hSq; go_simp; (try with_reducible rfl)); simp only [Act.put, gqD, gqE, gqF]
                    refine tkT 12 (v := ?v183) hS (fun wq hSq => ?y183) ?_; (case y183 => clear hSq; go_simp; (try with_reducible rfl)); simp only [Act.put, gqD, gqE, gqF]
                    refine tkT 13 (v := ?v184) hS (fun wq hSq => ?y184) ?_; (case y184 => have hf0 := cell_new hSq f0; have hf1 := cell_new hSq f1; have hf2 := cell_new hSq f2; have hf3 := cell_new hSq d1; have hf4 := cell_new hSq p0; clear hSq; go_simp; (try with_reducible rfl)); simp only [Act.put, gqD, gqE, gqF]
                    refine tkT 14 (v := ?v185) hS (fun wq hSq => ?y185) ?_; (case y185 => clear hSq; go_simp; (try with_reducible rfl)); simp only [Act.put, gqD, gqE, gqF]
                    refine tkT 15 (v := ?v186) hS (fun wq hSq => ?y186) ?_; (case y186 => have hf0 := cell_new hSq f0; have hf1 := cell_new hSq f1; have hf2 := cell_new hSq f2; have hf3 := cell_new hSq d1; have hf4 := cell_new hSq p0; clear hSq; go_simp; (try with_reducible rfl)); simp only [Act.put, gqD, gqE, gqF]
                    refine tkT 16 (v := ?v187) hS (fun wq hSq => ?y187) ?_; (case y187 => clear hSq; go_simp; (try with_reducible rfl)); simp only [Act.put, gqD, gqE, gqF]
                    refine tkT 17 (v := ?v188) hS (fun wq hSq => ?y188) ?_; (case y188 => clear hSq; go_simp; (try with_reducible rfl)); simp only [Act.put, gqD, gqE, gqF]
                    refine tkT 18 (v := ?v189) hS (fun wq hSq => ?y189) ?_; (case y189 => clear hSq; go_simp; (try with_reducible rfl)); simp only [Act.put, gqD, gqE, gqF]
                    refine tkT 19 (v := ?v190) hS (fun wq hSq => ?y190) ?_; (case y190 => have hf0 := cell_new hSq f0; have hf1 := cell_new hSq f1; have hf2 := cell_new hSq f2; have hf3 := cell_new hSq d1; have hf4 := cell_new hSq p0; clear hSq; go_simp; (try with_reducible rfl)); simp only [Act.put, gqD, gqE, gqF]
                    refine tkT 20 (v := ?v191) hS (fun wq hSq => ?y191) ?_; (case y191 => clear hSq; go_simp; (try with_reducible rfl)); simp only [Act.put, gqD, gqE, gqF]
                    refine tkT 21 (v := ?v192) hS (fun wq hSq => ?y192) ?_; (case y192 => clear hSq; go_simp; (try with_reducible rfl)); simp only [Act.put, gqD, gqE, gqF]
                    refine tkT 22 (v := ?v193) hS (fun wq hSq => ?y193) ?_; (case y193 => clear hSq; go_simp; (try with_reducible rfl)); simp only [Act.put, gqD, gqE, gqF]
                    refine tkT 23 (v := ?v194) hS (fun wq hSq => ?y194) ?_; (case y194 => clear hSq; go_simp; (try with_reducible rfl)); simp only [Act.put, gqD, gqE, gqF]
                    refine tkT 24 (v := ?v195) hS (fun wq hSq => ?y195) ?_; (case y195 => have hf0 := cell_new hSq f0; have hf1 := cell_new hSq f1; have hf2 := cell_new hSq f2; have hf3 := cell_new hSq d1; have hf4 := cell_new hSq p0; clear hSq; go_simp; (try with_reducible rfl)); simp only [Act.put, gqD, gqE, gqF]
                    refine tkT 25 (v := ?v196) hS (fun wq hSq => ?y196) ?_; (case y196 => clear hSq; go_simp; (try with_reducible rfl)); simp only [Act.put, gqD, gqE, gqF]
                    refine tkT 26 (v := ?v197) hS (fun wq hSq => ?y197) ?_; (case y197 => clear hSq; go_simp; (try with_reducible rfl)); simp only [Act.put, gqD, gqE, gqF]
                    refine tkU 27 hS ?_; simp only [Act.put, gqD, gqE, gqF]
                    refine tkU 28 hS ?_; simp only [Act.put, gqD, gqE, gqF]
                    refine tkU 29 hS ?_; simp only [Act.put, gqD, gqE, gqF]
                    refine tkT 30 (v := ?v201) hS (fun wq hSq => ?y201) ?_; (case y201 => clear hSq; go_simp; (try with_reducible rfl)); simp only [Act.put, gqD, gqE, gqF]
                    refine tkT 31 (v := ?v202) hS (fun wq hSq => ?y202) ?_; (case y202 => clear hSq; go_simp; (try with_reducible rfl)); simp only [Act.put, gqD, gqE, gqF]
                    refine tkT 32 (v := ?v203) hS (fun wq hSq => ?y203) ?_; (case y203 => clear hSq; go_simp; (try with_reducible rfl)); simp only [Act.put, gqD, gqE, gqF]
                    refine tkT 33 (v := ?v204) hS (fun wq hSq => ?y204) ?_; (case y204 => clear hSq; go_simp; (try with_reducible rfl)); simp only [Act.put, gqD, gqE, gqF]
                    refine wpAnyH_done (by kernel_rfl) ?_ _
                    go_wp2
                    go_roundw
                    case rel => exact ⟨j + 1 + 1, by go_num, by omega, hnr1.trans (by assumption), BB.new (by assumption), Lib.hid (by rw [HST2.out, HPN.out])⟩
                    case measure => simp [intOf]; omega
          · obtain rfl : n = k := by omega
            have hgood : goodGo 0 (hs.map Hm.d) = true := by
              rw [HG.out, List.drop_of_length_le (by rw [HL.out]; exact Nat.le_refl _)]; rfl
            have hoa := goodGo_okA hgood
            have HSZ := Lib.hid (fun W (hN : New w W) => sizes_any base A n c hs W (HR.out.new hN) hoa (by omega))
            have HLN := Lib.hid (fun W (hN : New w W) => lines_any base A n c hs W (HR.out.new hN) hoa (by omega) HBZ.out (hE.new hN))
            have c1 := cnt_bound 1 (l := hs.map Hm.d) (fun x hx => by obtain ⟨y, hy, rfl⟩ := List.mem_map.1 hx; exact hoa y hy)
            have c2 := cnt_bound 2 (l := hs.map Hm.d) (fun x hx => by obtain ⟨y, hy, rfl⟩ := List.mem_map.1 hx; exact hoa y hy)
            have c3 := cnt_bound 3 (l := hs.map Hm.d) (fun x hx => by obtain ⟨y, hy, rfl⟩ := List.mem_map.1 hx; exact hoa y hy)
            have hll := linesL_len (l := hs.map Hm.d) (fun x hx => by obtain ⟨y, hy, rfl⟩ := List.mem_map.1 hx; exact hoa y hy)
            rw [List.length_map, HL.out] at c1 c2 c3 hll
            have HTS := Lib.hid (textL_size hoa HZ.out HBZ.out)
            have HTL : Hid ((textL base (hs.map Hm.d)).length ≤ 1 + (linesL (hs.map Hm.d)).length) := Lib.hid (by
              rw [textL, List.length_append]; have := baseL_len base; omega)
            have HV3 : Hid (V = (sizesOK (hs.map Hm.d) && decide (joinE (textL base (hs.map Hm.d)) = 0))) := Lib.hid (by rw [HV2.out, hgood, Bool.true_and])
            have HSO : Hid (sizesOK (hs.map Hm.d) = (decide (1 ≤ cnt 1 (hs.map Hm.d) + cnt 2 (hs.map Hm.d)) && decide (cnt 1 (hs.map Hm.d) + cnt 2 (hs.map Hm.d) ≤ 1024) && decide (1 ≤ cnt 1 (hs.map Hm.d) + cnt 3 (hs.map Hm.d)) && decide (cnt 1 (hs.map Hm.d) + cnt 3 (hs.map Hm.d) ≤ 1024))) := Lib.hid rfl
            have d0 := BR.cell' 0 _ rfl
            have d1 := BR.cell' 1 _ rfl
            generalize cnt 1 (hs.map Hm.d) = s1 at *
            generalize cnt 2 (hs.map Hm.d) = s2 at *
            generalize cnt 3 (hs.map Hm.d) = s3 at *
            generalize textL base (hs.map Hm.d) = ws at *
            generalize (linesL (hs.map Hm.d)).length = ll at *
            have hll2 : ll ≤ 3072 + s3.toNat := by omega
            obtain ⟨c11, c12⟩ := c1
            obtain ⟨c21, c22⟩ := c2
            obtain ⟨c31, c32⟩ := c3
            have m1 : s1 ≤ 4000000 := by omega
            have m2 : s2 ≤ 4000000 := by omega
            have m3 : s3 ≤ 4000000 := by omega
            clear hgood hoa HV2 HG hll c12 c22 c32
            by_cases g1 : s1 + s2 < 1
            · have hv : V = false := by rw [HV3.out, HSO.out]; simp; omega
              have ht := HF.out hv
              subst hv
              subst ht
              clear HV3 HSO HT HF HLEN
              go_wp2_with (go_at_call 37; (with_reducible refine (HSZ.out _ hnr).mono ?_); rintro e w2 ⟨rfl, n2⟩)
              go_ret2
              exact ⟨rfl, hnr.trans n2⟩
            · by_cases g2 : 1024 < s1 + s2
              · have hv : V = false := by rw [HV3.out, HSO.out]; simp; omega
                have ht := HF.out hv
                subst hv
                subst ht
                clear HV3 HSO HT HF HLEN
                go_wp2_with (go_at_call 37; (with_reducible refine (HSZ.out _ hnr).mono ?_); rintro e w2 ⟨rfl, n2⟩)
                go_ret2
                exact ⟨rfl, hnr.trans n2⟩
              · by_cases g3 : s1 + s3 < 1
                · have hv : V = false := by rw [HV3.out, HSO.out]; simp; omega
                  have ht := HF.out hv
                  subst hv
                  subst ht
                  clear HV3 HSO HT HF HLEN
                  go_wp2_with (go_at_call 37; (with_reducible refine (HSZ.out _ hnr).mono ?_); rintro e w2 ⟨rfl, n2⟩)
                  go_ret2
                  exact ⟨rfl, hnr.trans n2⟩
                · by_cases g4 : 1024 < s1 + s3
                  · have hv : V = false := by rw [HV3.out, HSO.out]; simp; omega
                    have ht := HF.out hv
                    subst hv
                    subst ht
                    clear HV3 HSO HT HF HLEN
                    go_wp2_with (go_at_call 37; (with_reducible refine (HSZ.out _ hnr).mono ?_); rintro e w2 ⟨rfl, n2⟩)
                    go_ret2
                    exact ⟨rfl, hnr.trans n2⟩
                  · have HV4 : Hid (V = decide (joinE ws = 0)) := Lib.hid (by
                      rw [HV3.out, HSO.out]
                      have a1 : 1 ≤ s1 + s2 := by omega
                      have a2 : s1 + s2 ≤ 1024 := by omega
                      have a3 : 1 ≤ s1 + s3 := by omega
                      have a4 : s1 + s3 ≤ 1024 := by omega
                      simp [a1, a2, a3, a4])
                    have hwl : ws.length ≤ 100000 := by have := HTL.out; omega
                    have HJT : Hid (T = joinT ws) := Lib.hid (by
                      cases hv : V
                      · rw [HF.out hv, joinT, if_neg (by have := HV4.out; rw [hv] at this; simpa using this.symm)]
                      · exact HT.out hv)
                    clear HV3 HSO HT HF HLEN
                    have m4 : ¬ s1 + s2 < 1 := g1
                    go_wp2_with (first | (go_at_call 61; (with_reducible refine (HLN.out _ (hnr.trans n2)).mono ?_)) | (go_at_call 37; (with_reducible refine (HSZ.out _ hnr).mono ?_); rintro e w2 ⟨rfl, n2⟩; have e0 := cell_new n2 d0; have e1 := cell_new n2 d1))
                    rintro e w3 ⟨A3, c3, rfl, hr3, hc3, n3⟩
                    have HJ := Lib.hid (join_any A3 ws.length c3 ws w3 (hE.new ((hnr.trans n2).trans n3)) rfl hwl hc3 hr3 HTS.out)
                    have hnn := (hnr.trans n2).trans n3
                    generalize ws.length = wl at *
                    go_wp2_with (go_at_call 60; (with_reducible refine HJ.out.mono ?_); rintro e w4 ⟨rfl, n4⟩)
                    go_ret2
                    exact ⟨retCk HJT.out.symm (by rw [HV4.out, Bool.eq_iff_iff]; simp), hnn.trans n4⟩
  · have hv : V = false := by
      rw [HV.out]
      have : (decide (base.size = 0) || decide (base.size = 32)) = false := by simpa using hbz
      rw [this]; simp
    have ht := HF.out hv
    subst hv
    subst ht
    have b1 : (base.toList == ([] : List UInt8)) = false := by rw [toList_eq, data_cons (by omega)]; rfl
    have b2 : base.toList.isEmpty = false := by rw [toList_eq, data_cons (by omega)]; rfl
    have b3 : ((base.size : Int) == 32) = false := by rw [beq_eq_false_iff_ne]; omega
    have b4 : ¬ (base.size : Int) = 32 := by omega
    clear HV HT HF HLEN hbz
    go_enter Tryz.func33, Tryz.ntmps33
    go_wp2
    go_ret2
    exact ⟨rfl, hn0⟩
end Go.Proofs.YtfeknjpinboknaaGreatDoor

