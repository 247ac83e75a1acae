/- The reference's apply. The digest's contract is a hypothesis where the base is not empty. Conditions: sizes. (Printed by mk-w6.py.) The reference's Apply. Conditions: sizes; the digest's contract where the base is not empty. -/
import Derived.Test.YtfeknjpinboknaaGreatDoorGBase
import Derived.Test.YtfeknjpinboknaaGreatDoorGW5

namespace Go.Proofs.YtfeknjpinboknaaGreatDoor
open Go Go.RowKit Go.Joins Go.Shelf
set_option linter.unusedSimpArgs false
set_option linter.unusedVariables false

def SumR (sum : ByteArray → ByteArray) : Prop := ∀ (d : ByteArray) (W : World), d.size ≤ 1000000 → Calls Tryz.prog 55 #[.string d] W fun e w' => e = .returned (.string (sum d)) ∧ New W w'
def AppR (sum : ByteArray → ByteArray) (base : ByteArray) (l : List Hk) (data : ByteArray) (w : World) (e : Ending) (w' : World) : Prop := New w w' ∧
  if appE sum base l data = 0 then ∃ A1 c1 A2 c2, e = .returned (.tuple #[.slice A2 (appOut data l).length c2, .slice A1 (parts 10 data).length c1, .int .i64 0]) ∧ LnOK w' [rowH (parts 10 data) A1 c1] ∧ LnOK w' [rowH (appOut data l) A2 c2]
  else e = .returned (.tuple #[.slice none 0 0, .slice none 0 0, .int .i64 (appE sum base l data)])
theorem apr_no {sum : ByteArray → ByteArray} {base data : ByteArray} {l : List Hk} {w w' : World} {e : Ending} {x : Int} (h : appE sum base l data = x) (hx : x ≠ 0) (he : e = .returned (.tuple #[.slice none 0 0, .slice none 0 0, .int .i64 x])) (hn : New w w') : AppR sum base l data w e w' := by
  refine ⟨hn, ?_⟩
  rw [h, if_neg hx]; exact he
theorem apr_yes {sum : ByteArray → ByteArray} {base data : ByteArray} {l : List Hk} {w w' : World} {e : Ending} {A1 A2 : Option Addr} {c1 c2 n1 n2 : Nat} (h : appE sum base l data = 0) (h1 : n1 = (parts 10 data).length) (h2 : n2 = (appOut data l).length) (he : e = .returned (.tuple #[.slice A2 n2 c2, .slice A1 n1 c1, .int .i64 0])) (l1 : LnOK w' [rowH (parts 10 data) A1 c1]) (l2 : LnOK w' [rowH (appOut data l) A2 c2]) (hn : New w w') : AppR sum base l data w e w' := by
  subst h1 h2
  refine ⟨hn, ?_⟩
  rw [if_pos h]
  exact ⟨A1, c1, A2, c2, he, l1, l2⟩
theorem pick_at {old T os : List ByteArray} {P : List (Int × Int)} (h : P.map (pick old T) = os.map some) {k : Nat} {p : Int × Int} (hp : P[k]? = some p) : ∃ s, os[k]? = some s ∧ pick old T p = some s := by
  have := congrArg (fun l => l[k]?) h
  simp only [List.getElem?_map, hp] at this
  cases ho : os[k]? with
  | none => rw [ho] at this; simp at this
  | some s => rw [ho] at this; exact ⟨s, rfl, by simpa using this⟩
theorem tr_pos (base : ByteArray) : ∀ l : List Hk, ∀ p ∈ (trO base l).1, (∃ a b : Nat, p = ((a : Int), -1) ∨ p = (-1, (b : Int))) := by
  intro l
  induction l using snoc_ind with
  | h0 => intro p hp; cases hp
  | h1 l h ih =>
    intro p hp
    rw [trO_snoc, trS] at hp
    split at hp
    · rcases List.mem_append.1 hp with q | q
      · exact ih p q
      · obtain ⟨j, _, rfl⟩ := List.mem_map.1 q
        exact ⟨0, _, Or.inr rfl⟩
    · split at hp
      · rcases List.mem_append.1 hp with q | q
        · exact ih p q
        · obtain ⟨j, _, rfl⟩ := List.mem_map.1 q
          exact ⟨_, 0, Or.inl rfl⟩
      · exact ih p hp
set_option maxRecDepth 100000 in
set_option maxHeartbeats 32000000 in
theorem rapply_any (sum : ByteArray → ByteArray) (base : ByteArray) (A : Option Addr) (n c : Nat) (hs : List Hm) (data : ByteArray) (w : World) (hr : PRd w A n hs) (hz : SzH hs) (hb : base.size ≤ 1000000) (hd : data.size ≤ 1000000) (hS : base.size = 0 ∨ SumR sum) :
    Calls Tryz.prog 51 #[.agg #[.string base, .slice A n c], .string data] w (AppR sum base (hs.map Hm.d) data w) := by
  obtain ⟨i0, hi, hz0, hz1, hz2⟩ := info_parts Tryz.info9'
  have hn0 := (New.refl w).alloc (.cells #[.string base, .slice A n c] 24)
  have B0 := Blk.made w 24 #[.string base, .slice A n c]
  have HR := Lib.hid hr
  have HL := Lib.hid hr.len
  have HZ := Lib.hid hz
  have HCK := Lib.hid (rvalid_any base A n c hs _ (hr.new hn0) hz hb)
  have HNO := Lib.hid (fun (x : Int) (w' : World) (e : Ending) h hx he hn => apr_no (sum := sum) (base := base) (data := data) (l := hs.map Hm.d) (w := w) (w' := w') (e := e) (x := x) h hx he hn)
  have HAE : Hid (appE sum base (hs.map Hm.d) data = if validV base (hs.map Hm.d) = false then 1 else if linesE data ≠ 0 then 10 else if cnt 1 (hs.map Hm.d) + cnt 2 (hs.map Hm.d) ≠ (parts 10 data).length ∨ (base.size ≠ 0 ∧ base ≠ sum data) then 9 else joinE (appOut data (hs.map Hm.d))) := Lib.hid rfl
  cases hv : validV base (hs.map Hm.d)
  · have hae : appE sum base (hs.map Hm.d) data = 1 := by rw [HAE.out, if_pos hv]
    have HN := Lib.hid (fun w' e => HNO.out 1 w' e hae (by decide))
    rw [hv] at HCK
    clear hr hz hS hv hae HNO HAE
    go_enter Tryz.func51, Tryz.ntmps51
    go_wp2_with (go_at_call 34; (with_reducible refine HCK.out.mono ?_); rintro e w1 ⟨rfl, n1⟩)
    go_ret3
    exact HN.out _ _ rfl (hn0.trans n1)
  have HV := Lib.hid hv
  obtain ⟨ho, hln, hbz, s1, s2, s3, s4⟩ := valid_ok hv
  have HO := Lib.hid ho
  rw [hv] at HCK
  have hn1024 : n ≤ 1024 := by rw [← hr.len]; exact hln
  by_cases hl : linesE data = 0
  · have HLI := Lib.hid (fun W => rlns_ok data W (by omega) hl)
    have HLE := Lib.hid hl
    have hPL : (parts 10 data).length ≤ 1024 := by
      unfold linesE at hl
      split at hl
      · cases hl
      · omega
    have HTRC := Lib.hid (fun W (hN : New w W) => rtrace_any base A n c hs (parts 10 data).length W (hr.new hN) hz hb)
    have HRL := Lib.hid (fun W (hN : New w W) => rlines_any base A n c hs W (hr.new hN) ho (by omega) hbz)
    by_cases hce : cnt 1 (hs.map Hm.d) + cnt 2 (hs.map Hm.d) = (parts 10 data).length
    · have HCE := Lib.hid hce
      have HJN := Lib.hid (out_join (data := data) hv hce)
      obtain ⟨bad, hbad⟩ : ∃ bad : Bool, decide (base.size ≠ 0 ∧ base ≠ sum data) = bad := ⟨_, rfl⟩
      have HBAD := Lib.hid hbad
      have HAE2 : Hid (appE sum base (hs.map Hm.d) data = if base.size ≠ 0 ∧ base ≠ sum data then 9 else joinE (appOut data (hs.map Hm.d))) := Lib.hid (by
        rw [HAE.out, if_neg (by rw [hv]; decide), if_neg (by rw [hl]; decide)]
        by_cases q : base.size ≠ 0 ∧ base ≠ sum data
        · rw [if_pos (Or.inr q), if_pos q]
        · rw [if_neg (by rintro (h | h); exact h hce; exact q h), if_neg q])
      have hok' : ∀ x ∈ hs.map Hm.d, OkH x := fun x hx => by obtain ⟨y, hy, rfl⟩ := List.mem_map.1 hx; exact ho y hy
      have HMAP := Lib.hid (tr_map base (parts 10 data) (textL base (hs.map Hm.d)) _ hok' (by omega) (List.prefix_refl _))
      have HPOS := Lib.hid (tr_pos base (hs.map Hm.d))
      have HTR2 := Lib.hid (fun W (hN : New w W) => show Calls Tryz.prog 24 _ _ _ from (HTRC.out W hN).mono fun e w' h => ((And.intro h.1 (by have := h.2; rw [if_pos ⟨hv, hce⟩] at this; exact this)) : New W w' ∧ ∃ A c, e = .returned (.tuple #[.slice A (trO base (hs.map Hm.d)).1.length c, .int .i64 0]) ∧ Rd w' 2 A (trO base (hs.map Hm.d)).1.length ((trO base (hs.map Hm.d)).1.flatMap plC) ∧ (trO base (hs.map Hm.d)).1.length ≤ c))
      have HTL : Hid ((textL base (hs.map Hm.d)).length ≤ 100000) := Lib.hid (by
        have := valid_ok hv
        have h2 : joinE (textL base (hs.map Hm.d)) = 0 := by
          simp only [validV, Bool.and_eq_true, decide_eq_true_eq] at hv
          exact hv.2
        have := join_len h2
        omega)
      have HZO := Lib.hid (out_sz hz hd)
      have HZT := Lib.hid (textL_size ho hz hbz)
      have HZP := Lib.hid (fun s (h : s ∈ parts 10 data) => Nat.le_trans (parts_size h) hd)
      have hml : (trO base (hs.map Hm.d)).1.length = (appOut data (hs.map Hm.d)).length := by have := congrArg List.length HMAP.out; rw [List.length_map, List.length_map] at this; exact this
      have HOY := Lib.hid (fun w' e A1 A2 c1 c2 n1 n2 h h1 h2 he l1 l2 hn => @apr_yes sum base data (hs.map Hm.d) w w' e A1 A2 c1 c2 n1 n2 h h1 h2 he l1 l2 hn)
      have HJL : Hid ((appOut data (hs.map Hm.d)).length ≤ 1024) := Lib.hid (by
        have := out_len hv hce
        have := sizes_of hv
        omega)
      rw [hml] at HTR2
      rw [show (appO (parts 10 data) (hs.map Hm.d)).1 = appOut data (hs.map Hm.d) from rfl] at HMAP
      have HTP := hml
      generalize (trO base (hs.map Hm.d)).1 = P at *
      generalize textL base (hs.map Hm.d) = T at *
      generalize appOut data (hs.map Hm.d) = os at *
      generalize parts 10 data = ls at *
      have HPL := Lib.hid hml
      obtain ⟨m, hm⟩ : ∃ q, os.length = q := ⟨_, rfl⟩
      obtain ⟨ol, hol⟩ : ∃ q, ls.length = q := ⟨_, rfl⟩
      obtain ⟨tl, htl⟩ : ∃ q, T.length = q := ⟨_, rfl⟩
      have HM := Lib.hid hm
      have HOL := Lib.hid hol
      have HTLL := Lib.hid htl
      rw [hol] at HLI HTR2 hPL
      rw [hm] at HTR2 HPL
      unfold RowOut at HRL
      rw [htl] at HRL
      have HDT := Lib.hid hd
      have hSu := hS
      clear hr hz hv hl HAE HTRC hce hbad hml HTP hm hol htl ho
      go_enter Tryz.func51, Tryz.ntmps51
      go_upto_region 7 with (first | (go_at_call 34; (with_reducible refine HCK.out.mono ?_); rintro e w1 ⟨rfl, n1⟩; have hW1 := hn0.trans n1; have B1 := B0.new n1) | (go_at_call 30; (with_reducible refine (HLI.out _).mono ?_); rintro e w2 ⟨A0, c0, rfl, LN2, n2⟩; have hW2 := hW1.trans n2; have B2 := B1.new n2; have d20 := B2.cell' 0 _ rfl; have d21 := B2.cell' 1 _ rfl) | (go_at_call 24; (with_reducible refine (HTR2.out _ hW2).mono ?_); rintro e w3 ⟨n3, A3, c3, rfl, rd3, hc3⟩; have hW3 := hW2.trans n3; have B3 := B2.new n3; have LN3 := Lib.hid (LN2.new n3); have RD3 := Lib.hid rd3))
      have f0 := B3.cell' 0 _ rfl
      clear d20 d21 rd3 LN2 B2 B1 hW1 hW2 n3 n2 n1
      go_cut [45] (fun v45 wc => v45 = .bool bad ∧ New w3 wc)
      case first =>
        by_cases h2 : base.size = 0
        · have x1 : base.toList = [] := by rw [toList_eq]; exact List.eq_nil_of_length_eq_zero (by rw [← size_eq]; exact h2)
          have x2 : (base.toList == ([] : List UInt8)) = true := by rw [x1]; rfl
          obtain rfl : bad = false := by rw [← HBAD.out]; simp [h2]
          refine wp_region_held_drew (S := (New _)) (by kernel_rfl) ((New.refl _).drew) (fun hS => ?_)
          refine tkT 0 (v := ?v15) hS (fun wq hSq => ?y15) ?_; (case y15 => clear hSq; go_simp; (try with_reducible rfl)); simp only [Act.put, gqD, gqE, gqF]
          refine tkT 1 (v := ?v16) hS (fun wq hSq => ?y16) ?_; (case y16 => clear hSq; go_simp; (try with_reducible rfl)); simp only [Act.put, gqD, gqE, gqF]
          refine tkT 2 (v := ?v17) hS (fun wq hSq => ?y17) ?_; (case y17 => clear hSq; go_simp; (try with_reducible rfl)); simp only [Act.put, gqD, gqE, gqF]
          refine tkT 3 (v := ?v18) hS (fun wq hSq => ?y18) ?_; (case y18 => clear hSq; go_simp; (try with_reducible rfl)); simp only [Act.put, gqD, gqE, gqF]
          refine tkT 4 (v := ?v19) hS (fun wq hSq => ?y19) ?_; (case y19 => have hf0 := cell_new hSq f0; clear hSq; go_simp; (try with_reducible rfl)); simp only [Act.put, gqD, gqE, gqF]
          refine tkT 5 (v := ?v20) hS (fun wq hSq => ?y20) ?_; (case y20 => clear hSq; go_simp; (try with_reducible rfl)); simp only [Act.put, gqD, gqE, gqF]
          refine tkT 6 (v := ?v21) hS (fun wq hSq => ?y21) ?_; (case y21 => clear hSq; go_simp; (try with_reducible rfl)); simp only [Act.put, gqD, gqE, gqF]
          refine tkU 7 hS ?_; simp only [Act.put, gqD, gqE, gqF]
          refine tkU 8 hS ?_; simp only [Act.put, gqD, gqE, gqF]
          refine tkU 9 hS ?_; simp only [Act.put, gqD, gqE, gqF]
          refine tkU 10 hS ?_; simp only [Act.put, gqD, gqE, gqF]
          refine tkU 11 hS ?_; simp only [Act.put, gqD, gqE, gqF]
          refine tkT 12 (v := ?v27) hS (fun wq hSq => ?y27) ?_; (case y27 => clear hSq; go_simp; (try with_reducible rfl)); simp only [Act.put, gqD, gqE, gqF]
          refine tkT 13 (v := ?v28) hS (fun wq hSq => ?y28) ?_; (case y28 => clear hSq; go_simp; (try with_reducible rfl)); simp only [Act.put, gqD, gqE, gqF]
          refine wpAnyH_done (by kernel_rfl) ?_ _
          go_wp2
          go_meet
          case rel => exact ⟨rfl, by assumption⟩
        · have x1 : (base.toList == ([] : List UInt8)) = false := by rw [toList_eq, data_cons (by omega)]; rfl
          have x2 : base.toList.isEmpty = false := by rw [toList_eq, data_cons (by omega)]; rfl
          have HSU : Hid (SumR sum) := Lib.hid (by
            rcases hSu with q | q
            · exact absurd q h2
            · exact q)
          have HSD := Lib.hid (fun W => HSU.out data W hd)
          by_cases h3 : base = sum data
          · have y1 : (base.toList == (sum data).toList) = true := by rw [← h3]; simp
            have y2 : (base.toList != (sum data).toList) = false := by rw [← h3]; simp
            obtain rfl : bad = false := by rw [← HBAD.out]; simp [← h3]
            generalize sum data = sd at *
            clear h3
            refine wp_region_held_drew (S := (New _)) (by kernel_rfl) ((New.refl _).drew) (fun hS => ?_)
            refine tkT 0 (v := ?v29) hS (fun wq hSq => ?y29) ?_; (case y29 => clear hSq; go_simp; (try with_reducible rfl)); simp only [Act.put, gqD, gqE, gqF]
            refine tkT 1 (v := ?v30) hS (fun wq hSq => ?y30) ?_; (case y30 => clear hSq; go_simp; (try with_reducible rfl)); simp only [Act.put, gqD, gqE, gqF]
            refine tkT 2 (v := ?v31) hS (fun wq hSq => ?y31) ?_; (case y31 => clear hSq; go_simp; (try with_reducible rfl)); simp only [Act.put, gqD, gqE, gqF]
            refine tkT 3 (v := ?v32) hS (fun wq hSq => ?y32) ?_; (case y32 => clear hSq; go_simp; (try with_reducible rfl)); simp only [Act.put, gqD, gqE, gqF]
            refine tkT 4 (v := ?v33) hS (fun wq hSq => ?y33) ?_; (case y33 => have hf0 := cell_new hSq f0; clear hSq; go_simp; (try with_reducible rfl)); simp only [Act.put, gqD, gqE, gqF]
            refine tkT 5 (v := ?v34) hS (fun wq hSq => ?y34) ?_; (case y34 => clear hSq; go_simp; (try with_reducible rfl)); simp only [Act.put, gqD, gqE, gqF]
            refine tkT 6 (v := ?v35) hS (fun wq hSq => ?y35) ?_; (case y35 => clear hSq; go_simp; (try with_reducible rfl)); simp only [Act.put, gqD, gqE, gqF]
            refine tkT 7 (v := ?v36) hS (fun wq hSq => ?y36) ?_; (case y36 => clear hSq; go_simp; (try with_reducible rfl)); simp only [Act.put, gqD, gqE, gqF]
            refine tkT 8 (v := ?v37) hS (fun wq hSq => ?y37) ?_; (case y37 => have hf0 := cell_new hSq f0; clear hSq; go_simp; (try with_reducible rfl)); simp only [Act.put, gqD, gqE, gqF]
            refine tkT 9 (v := ?v38) hS (fun wq hSq => ?y38) ?_; (case y38 => clear hSq; go_simp; (try with_reducible rfl)); simp only [Act.put, gqD, gqE, gqF]
            refine wpAnyH_ready (rs := [10]) (by kernel_rfl) (by simp) ?_
            refine AllReadyH.cons (o := ?oi39) ?hi39 (fun K hK => ?_) AllReadyH.nil
            case hi39 => (simp only [gqA, gqB, gqC]; rfl)
            go_simp
            with_reducible refine (HSD.out _).mono ?_
            rintro e w5 ⟨rfl, n5⟩
            refine hK.out _ _ (hS.trans n5) (fun hS => ?_)
            clear hK K
            refine tkT 11 (v := ?v40) hS (fun wq hSq => ?y40) ?_; (case y40 => clear hSq; go_simp; (try with_reducible rfl)); simp only [Act.put, gqD, gqE, gqF]
            refine tkT 12 (v := ?v41) hS (fun wq hSq => ?y41) ?_; (case y41 => clear hSq; go_simp; (try with_reducible rfl)); simp only [Act.put, gqD, gqE, gqF]
            refine tkT 13 (v := ?v42) hS (fun wq hSq => ?y42) ?_; (case y42 => clear hSq; go_simp; (try with_reducible rfl)); simp only [Act.put, gqD, gqE, gqF]
            refine wpAnyH_done (by kernel_rfl) ?_ _
            go_wp2
            go_meet
            case rel => exact ⟨rfl, by assumption⟩
          · have y0 : base.toList ≠ (sum data).toList := fun e => h3 (by
              rw [toList_eq, toList_eq] at e
              exact ByteArray.ext (Array.toList_inj.1 e))
            have y1 : (base.toList == (sum data).toList) = false := by simpa using y0
            have y2 : (base.toList != (sum data).toList) = true := by simpa using y0
            obtain rfl : bad = true := by rw [← HBAD.out]; simp [h2, h3]
            generalize sum data = sd at *
            clear h3 y0
            refine wp_region_held_drew (S := (New _)) (by kernel_rfl) ((New.refl _).drew) (fun hS => ?_)
            refine tkT 0 (v := ?v43) hS (fun wq hSq => ?y43) ?_; (case y43 => clear hSq; go_simp; (try with_reducible rfl)); simp only [Act.put, gqD, gqE, gqF]
            refine tkT 1 (v := ?v44) hS (fun wq hSq => ?y44) ?_; (case y44 => clear hSq; go_simp; (try with_reducible rfl)); simp only [Act.put, gqD, gqE, gqF]
            refine tkT 2 (v := ?v45) hS (fun wq hSq => ?y45) ?_; (case y45 => clear hSq; go_simp; (try with_reducible rfl)); simp only [Act.put, gqD, gqE, gqF]
            refine tkT 3 (v := ?v46) hS (fun wq hSq => ?y46) ?_; (case y46 => clear hSq; go_simp; (try with_reducible rfl)); simp only [Act.put, gqD, gqE, gqF]
            refine tkT 4 (v := ?v47) hS (fun wq hSq => ?y47) ?_; (case y47 => have hf0 := cell_new hSq f0; clear hSq; go_simp; (try with_reducible rfl)); simp only [Act.put, gqD, gqE, gqF]
            refine tkT 5 (v := ?v48) hS (fun wq hSq => ?y48) ?_; (case y48 => clear hSq; go_simp; (try with_reducible rfl)); simp only [Act.put, gqD, gqE, gqF]
            refine tkT 6 (v := ?v49) hS (fun wq hSq => ?y49) ?_; (case y49 => clear hSq; go_simp; (try with_reducible rfl)); simp only [Act.put, gqD, gqE, gqF]
            refine tkT 7 (v := ?v50) hS (fun wq hSq => ?y50) ?_; (case y50 => clear hSq; go_simp; (try with_reducible rfl)); simp only [Act.put, gqD, gqE, gqF]
            refine tkT 8 (v := ?v51) hS (fun wq hSq => ?y51) ?_; (case y51 => have hf0 := cell_new hSq f0; clear hSq; go_simp; (try with_reducible rfl)); simp only [Act.put, gqD, gqE, gqF]
            refine tkT 9 (v := ?v52) hS (fun wq hSq => ?y52) ?_; (case y52 => clear hSq; go_simp; (try with_reducible rfl)); simp only [Act.put, gqD, gqE, gqF]
            refine wpAnyH_ready (rs := [10]) (by kernel_rfl) (by simp) ?_
            refine AllReadyH.cons (o := ?oi53) ?hi53 (fun K hK => ?_) AllReadyH.nil
            case hi53 => (simp only [gqA, gqB, gqC]; rfl)
            go_simp
            with_reducible refine (HSD.out _).mono ?_
            rintro e w5 ⟨rfl, n5⟩
            refine hK.out _ _ (hS.trans n5) (fun hS => ?_)
            clear hK K
            refine tkT 11 (v := ?v54) hS (fun wq hSq => ?y54) ?_; (case y54 => clear hSq; go_simp; (try with_reducible rfl)); simp only [Act.put, gqD, gqE, gqF]
            refine tkT 12 (v := ?v55) hS (fun wq hSq => ?y55) ?_; (case y55 => clear hSq; go_simp; (try with_reducible rfl)); simp only [Act.put, gqD, gqE, gqF]
            refine tkT 13 (v := ?v56) hS (fun wq hSq => ?y56) ?_; (case y56 => clear hSq; go_simp; (try with_reducible rfl)); simp only [Act.put, gqD, gqE, gqF]
            refine wpAnyH_done (by kernel_rfl) ?_ _
            go_wp2
            go_meet
            case rel => exact ⟨rfl, by assumption⟩
      case rest =>
        obtain ⟨rfl, n4⟩ := hcut
        have B4 := B3.new n4
        have hW4 := hW3.trans n4
        have LN4 := Lib.hid (LN3.out.new n4)
        have RD4 := Lib.hid (RD3.out.below n4)
        clear B3 hW3 LN3 RD3 f0 n4
        cases bad
        · have hp := of_decide_eq_false HBAD.out
          have HAE3 : Hid (appE sum base (hs.map Hm.d) data = joinE os) := Lib.hid (by rw [HAE2.out, if_neg hp])
          have e40 := B4.cell' 0 _ rfl
          have e41 := B4.cell' 1 _ rfl
          clear hp HBAD HAE2 hSu hS
          go_wp2_with (fail)
          with_reducible refine (HRL.out _ hW4).mono ?_
          rintro e w5 ⟨A5, c5, rfl, rd5, hc5, n5⟩
          have RD5 := Lib.hid rd5
          have LN5 := Lib.hid (LN4.out.new n5)
          have RP5 := Lib.hid (RD4.out.below n5)
          have hW5 := hW4.trans n5
          have hzc := hW5.size
          obtain ⟨g0, hg0⟩ : ∃ g0, w5.heap.size = g0 := ⟨_, rfl⟩
          have HG0 := Lib.hid hg0
          clear rd5 e40 e41 hg0 n5 LN4 RD4
          go_wp2
          go_loopw [11, 50] (fun v11 v50 wr => ∃ (V : Value) (k : Nat), V = v11 ∧ v50 = .int .i64 (k : Int) ∧ k ≤ m ∧ New w5 wr ∧ wr.ownsRow g0 9 1 V k (sCells (os.take k))) (fun _ v50 _ => m - (intOf v50).toNat)
          case atStart => exact ⟨_, 0, rfl, rfl, Nat.zero_le _, New.refl _, World.ownsRow_nil _ _ _ _⟩
          case round =>
            obtain ⟨V, k, rfl, rfl, hk, hnr, hown⟩ := hrel
            by_cases hlt : k < m
            · obtain ⟨bk, o, rfl, hbk, p, hp, hcell⟩ := rd_row (f := plC) (k := 2) (fun _ => rfl) HPL.out (RP5.out.below hnr) hlt
              obtain ⟨s, hs1, hs2⟩ := pick_at HMAP.out hp
              obtain ⟨a, b, hab⟩ := HPOS.out p (List.mem_of_getElem? hp)
              have HTK : Hid (os.take (k + 1) = os.take k ++ [s]) := Lib.hid (by rw [List.take_add_one, hs1]; rfl)
              have i0' : (0 : Int) ≤ (k : Int) := by omega
              have i1' : (k : Int) < (m : Int) := by omega
              have hzr := hnr.size
              have k9 := HG0.out
              have hmk : m ≤ 1024 := by have := HJL.out; have := HM.out; omega
              rcases hab with rfl | rfl
              · have hs3 : ls[a]? = some s := by simpa [pick] using hs2
                have hal : a < ol := by
                  have := (List.getElem?_eq_some_iff.1 hs3).1
                  rw [HOL.out] at this; exact this
                obtain ⟨b0, o0, rfl, _, hx⟩ := (ln_rd (LN5.out.new hnr)).1.2 (by rw [HOL.out]; omega)
                have y := hx a (.string s) (by rw [sCells, List.getElem?_map, hs3]; rfl)
                have q0 := hcell 0 (.int .i64 (a : Int)) (by omega) rfl
                have q1 := hcell 1 (.int .i64 (-1)) (by omega) rfl
                simp only [Nat.add_zero] at q0
                rw [← Nat.add_assoc] at q1
                have BH := Blk.made wr 44 #[.int .i64 (a : Int), .int .i64 (-1)]
                have z0 := BH.cell' 0 _ rfl
                have z1 := BH.cell' 1 _ rfl
                have y2 := cell_new ((New.refl wr).alloc (.cells #[.int .i64 (a : Int), .int .i64 (-1)] 44)) y
                have x1 : (0 : Int) ≤ (a : Int) := by omega
                have x2 : (a : Int) < (ol : Int) := by omega
                clear hcell hx y hs1 hs2 hs3 hp
                go_wp2_with (at_builtin; refine wpList_append_own _ rfl _ _ 49 rfl g0 9 i0 (.string ⟨#[]⟩) 1 16 Tryz.underlying49 hi hz0 hz1 hz2 rfl (by decide) _ k _ rfl ((hown.alloc _).alloc _) ⟨wr.heap.size + 1, 0, none⟩ 1 1 [.string s] rfl rfl ?c1 ?c2 ?c3 ?c4 ?c5 ?_)
                case c1 =>
                  have := World.news_of_block (cs := #[.string s]) (t := 9) (fr := (0, 0)) (heap_alloc_new (wr.alloc (.cells #[.int .i64 (a : Int), .int .i64 (-1)] 44)) (.cells #[.string s] 9))
                  rw [World.size_alloc] at this
                  exact this
                case c2 => simp [Value.oneCell']
                case c3 => simp [maxLen]; omega
                case c4 => omega
                case c5 => simp; omega
                intro v7 w7 own7 hg7 _
                go_wp2
                go_roundw
                case rel => exact ⟨_, k + 1, rfl, by go_num, by omega, Below.grown ((hnr.alloc _).alloc _) hg7 (by simp; omega) (fun q hq => by have := (hown.lt q hq).1; omega), by rw [HTK.out, sCells_app]; exact own_len own7 rfl rfl⟩
                case measure => simp [intOf]; omega
              · have hs3 : T[b]? = some s := by simpa [pick] using hs2
                have hal : b < tl := by
                  have := (List.getElem?_eq_some_iff.1 hs3).1
                  rw [HTLL.out] at this; exact this
                obtain ⟨b0, o0, rfl, _, hx⟩ := (RD5.out.below hnr).2 (by omega)
                have y := hx b (.string s) (by rw [sCells, List.getElem?_map, hs3]; rfl)
                have q0 := hcell 0 (.int .i64 (-1)) (by omega) rfl
                have q1 := hcell 1 (.int .i64 (b : Int)) (by omega) rfl
                simp only [Nat.add_zero] at q0
                rw [← Nat.add_assoc] at q1
                have BH := Blk.made wr 44 #[.int .i64 (-1), .int .i64 (b : Int)]
                have z0 := BH.cell' 0 _ rfl
                have z1 := BH.cell' 1 _ rfl
                have y2 := cell_new ((New.refl wr).alloc (.cells #[.int .i64 (-1), .int .i64 (b : Int)] 44)) y
                have x1 : (0 : Int) ≤ (b : Int) := by omega
                have x2 : (b : Int) < (tl : Int) := by omega
                clear hcell hx y hs1 hs2 hs3 hp
                go_wp2_with (at_builtin; refine wpList_append_own _ rfl _ _ 49 rfl g0 9 i0 (.string ⟨#[]⟩) 1 16 Tryz.underlying49 hi hz0 hz1 hz2 rfl (by decide) _ k _ rfl ((hown.alloc _).alloc _) ⟨wr.heap.size + 1, 0, none⟩ 1 1 [.string s] rfl rfl ?c1 ?c2 ?c3 ?c4 ?c5 ?_)
                case c1 =>
                  have := World.news_of_block (cs := #[.string s]) (t := 9) (fr := (0, 0)) (heap_alloc_new (wr.alloc (.cells #[.int .i64 (-1), .int .i64 (b : Int)] 44)) (.cells #[.string s] 9))
                  rw [World.size_alloc] at this
                  exact this
                case c2 => simp [Value.oneCell']
                case c3 => simp [maxLen]; omega
                case c4 => omega
                case c5 => simp; omega
                intro v7 w7 own7 hg7 _
                go_wp2
                go_roundw
                case rel => exact ⟨_, k + 1, rfl, by go_num, by omega, Below.grown ((hnr.alloc _).alloc _) hg7 (by simp; omega) (fun q hq => by have := (hown.lt q hq).1; omega), by rw [HTK.out, sCells_app]; exact own_len own7 rfl rfl⟩
                case measure => simp [intOf]; omega
            · obtain rfl : k = m := by omega
              have e : os.take k = os := List.take_of_length_le (by rw [HM.out]; exact Nat.le_refl _)
              rw [e] at hown
              obtain ⟨A1, c1, rfl, -, hoo⟩ := own_ln hown
              have hkl : k ≤ 1024 := by have := HJL.out; have := HM.out; omega
              have HJ := Lib.hid (rjoin_any A1 k c1 os wr HM.out (by omega) (by rw [← HM.out]; exact (ln_rd hoo).2) (by rw [← HM.out]; exact (ln_rd hoo).1) (fun s h => HZO.out s h))
              have HLO := Lib.hid hoo
              have HLC := Lib.hid (LN5.out.new hnr)
              have hnn := hW5.trans hnr
              clear hoo hown e
              rcases HJN.out with j0 | j0
              · rw [j0] at HJ HAE3
                go_wp2_with (go_at_call 35; (with_reducible refine HJ.out.mono ?_); rintro e w6 ⟨rfl, n6⟩)
                go_ret3
                exact HOY.out _ _ _ _ _ _ _ _ HAE3.out HOL.out.symm HM.out.symm rfl (HLC.out.new n6) (HLO.out.new n6) (hnn.trans n6)
              · rw [j0] at HJ HAE3
                go_wp2_with (go_at_call 35; (with_reducible refine HJ.out.mono ?_); rintro e w6 ⟨rfl, n6⟩)
                go_ret3
                exact HNO.out 10 _ _ HAE3.out (by decide) rfl (hnn.trans n6)
        · have hp := of_decide_eq_true HBAD.out
          have hae : appE sum base (hs.map Hm.d) data = 9 := by rw [HAE2.out, if_pos hp]
          have HN := Lib.hid (fun w' e => HNO.out 9 w' e hae (by decide))
          clear hp hae HAE2 HNO HBAD
          go_wp2
          go_ret3
          exact HN.out _ _ rfl hW4
    · have hae : appE sum base (hs.map Hm.d) data = 9 := by rw [HAE.out, if_neg (by rw [hv]; decide), if_neg (by rw [hl]; decide), if_pos (Or.inl hce)]
      have HN := Lib.hid (fun w' e => HNO.out 9 w' e hae (by decide))
      have HTR2 := Lib.hid (fun W (hN : New w W) => show Calls Tryz.prog 24 _ _ _ from (HTRC.out W hN).mono fun e w' h => ((And.intro h.1 (by have := h.2; rw [if_neg (fun q => hce q.2), if_neg (by rw [hv]; decide)] at this; exact this)) : New W w' ∧ e = .returned (.tuple #[.slice none 0 0, .int .i64 9])))
      generalize parts 10 data = ls at *
      obtain ⟨ol, hol⟩ : ∃ q, ls.length = q := ⟨_, rfl⟩
      rw [hol] at HLI HTR2 hPL
      clear hr hz hS hv hae HNO HAE hl hce HTRC HRL hol
      go_enter Tryz.func51, Tryz.ntmps51
      go_upto_region 7 with (first | (go_at_call 34; (with_reducible refine HCK.out.mono ?_); rintro e w1 ⟨rfl, n1⟩; have hW1 := hn0.trans n1; have B1 := B0.new n1) | (go_at_call 30; (with_reducible refine (HLI.out _).mono ?_); rintro e w2 ⟨A0, c0, rfl, -, n2⟩; have hW2 := hW1.trans n2; have B2 := B1.new n2; have d20 := B2.cell' 0 _ rfl; have d21 := B2.cell' 1 _ rfl) | (go_at_call 24; (with_reducible refine (HTR2.out _ hW2).mono ?_); rintro e w3 ⟨n3, rfl⟩; have hW3 := hW2.trans n3; have B3 := B2.new n3))
      have f0 := B3.cell' 0 _ rfl
      refine wp_region_held_drew (S := (New _)) (by kernel_rfl) ((New.refl _).drew) (fun hS => ?_)
      refine tkT 0 (v := ?v1) hS (fun wq hSq => ?y1) ?_; (case y1 => clear hSq; go_simp; (try with_reducible rfl)); simp only [Act.put, gqD, gqE, gqF]
      refine tkT 1 (v := ?v2) hS (fun wq hSq => ?y2) ?_; (case y2 => clear hSq; go_simp; (try with_reducible rfl)); simp only [Act.put, gqD, gqE, gqF]
      refine tkT 2 (v := ?v3) hS (fun wq hSq => ?y3) ?_; (case y3 => clear hSq; go_simp; (try with_reducible rfl)); simp only [Act.put, gqD, gqE, gqF]
      refine tkU 3 hS ?_; simp only [Act.put, gqD, gqE, gqF]
      refine tkU 4 hS ?_; simp only [Act.put, gqD, gqE, gqF]
      refine tkU 5 hS ?_; simp only [Act.put, gqD, gqE, gqF]
      refine tkU 6 hS ?_; simp only [Act.put, gqD, gqE, gqF]
      refine tkU 7 hS ?_; simp only [Act.put, gqD, gqE, gqF]
      refine tkU 8 hS ?_; simp only [Act.put, gqD, gqE, gqF]
      refine tkU 9 hS ?_; simp only [Act.put, gqD, gqE, gqF]
      refine tkU 10 hS ?_; simp only [Act.put, gqD, gqE, gqF]
      refine tkU 11 hS ?_; simp only [Act.put, gqD, gqE, gqF]
      refine tkU 12 hS ?_; simp only [Act.put, gqD, gqE, gqF]
      refine tkT 13 (v := ?v14) hS (fun wq hSq => ?y14) ?_; (case y14 => clear hSq; go_simp; (try with_reducible rfl)); simp only [Act.put, gqD, gqE, gqF]
      refine wpAnyH_done (by kernel_rfl) ?_ _
      go_wp2
      go_ret3
      exact HN.out _ _ rfl (hW3.trans (by assumption))
  · have hae : appE sum base (hs.map Hm.d) data = 10 := by rw [HAE.out, if_neg (by rw [HV.out]; decide), if_pos hl]
    have HN := Lib.hid (fun w' e => HNO.out 10 w' e hae (by decide))
    have HLI := Lib.hid (fun W => rlns_bad data W (by omega) hl)
    clear hr hz hS hv hae HNO HAE hl s1 s2 s3 s4 hbz hln ho HV
    go_enter Tryz.func51, Tryz.ntmps51
    go_wp2_with (first | (go_at_call 30; (with_reducible refine (HLI.out _).mono ?_); rintro e w2 ⟨rfl, n2⟩) | (go_at_call 34; (with_reducible refine HCK.out.mono ?_); rintro e w1 ⟨rfl, n1⟩))
    go_ret3
    exact HN.out _ _ rfl ((hn0.trans n1).trans n2)
end Go.Proofs.YtfeknjpinboknaaGreatDoor

namespace Go.Proofs.YtfeknjpinboknaaGreatDoor
open Go Go.RowKit Go.Joins Go.Shelf
set_option linter.unusedSimpArgs false
set_option linter.unusedVariables false

set_option maxHeartbeats 4000000 in
theorem rapplyT_any (sum : ByteArray → ByteArray) (base : ByteArray) (A : Option Addr) (n c : Nat) (hs : List Hm) (data : ByteArray) (w : World) (hr : PRd w A n hs) (hz : SzH hs) (hb : base.size ≤ 1000000) (hd : data.size ≤ 1000000) (hS : base.size = 0 ∨ SumR sum) :
    Calls Tryz.prog 22 #[.agg #[.string base, .slice A n c], .string data] w fun e w' => e = .returned (.tuple #[.string (appT sum base (hs.map Hm.d) data), .int .i64 (appE sum base (hs.map Hm.d) data)]) ∧ New w w' := by
  have hn0 := (New.refl w).alloc (.cells #[.string base, .slice A n c] 24)
  have HA := Lib.hid (rapply_any sum base A n c hs data _ (hr.new hn0) hz hb hd hS)
  have HZ := Lib.hid (out_sz hz hd)
  by_cases h0 : appE sum base (hs.map Hm.d) data = 0
  · have HA2 := Lib.hid (show Calls Tryz.prog 51 _ _ _ from HA.out.mono fun e w' h => ((And.intro h.1 (by have := h.2; rw [if_pos h0] at this; exact this)) : New _ w' ∧ ∃ A1 c1 A2 c2, e = .returned (.tuple #[.slice A2 (appOut data (hs.map Hm.d)).length c2, .slice A1 (parts 10 data).length c1, .int .i64 0]) ∧ LnOK w' [rowH (parts 10 data) A1 c1] ∧ LnOK w' [rowH (appOut data (hs.map Hm.d)) A2 c2]))
    have HL := Lib.hid (join_len (app_zero h0).2.2.2.2)
    have HJ0 := Lib.hid (app_zero h0).2.2.2.2
    have hT : appT sum base (hs.map Hm.d) data = joinV (appOut data (hs.map Hm.d)) := by rw [appT, if_pos h0]
    rw [h0, hT]
    generalize appOut data (hs.map Hm.d) = os at *
    generalize parts 10 data = ls at *
    clear hr hz hS HA hT
    go_enter Tryz.func22, Tryz.ntmps22
    go_wp2_with (fail)
    with_reducible refine HA2.out.mono ?_
    rintro e w1 ⟨n1, A1, c1, A2, c2, rfl, l1, l2⟩
    have HJ := Lib.hid (rjoin_any A2 os.length c2 os w1 rfl (by have := HL.out; omega) (ln_rd l2).2 (ln_rd l2).1 HZ.out)
    rw [joinT, if_pos HJ0.out, HJ0.out] at HJ
    have hnn := hn0.trans n1
    generalize os.length = ol at *
    generalize ls.length = ll at *
    clear l1 l2 n1 hn0
    go_wp2_with (go_at_call 35; (with_reducible refine HJ.out.mono ?_); rintro e w2 ⟨rfl, n2⟩)
    go_ret2
    exact ⟨rfl, hnn.trans n2⟩
  · have HA2 := Lib.hid (show Calls Tryz.prog 51 _ _ _ from HA.out.mono fun e w' h => ((And.intro h.1 (by have := h.2; rw [if_neg h0] at this; exact this)) : New _ w' ∧ e = .returned (.tuple #[.slice none 0 0, .slice none 0 0, .int .i64 (appE sum base (hs.map Hm.d) data)])))
    have hT : appT sum base (hs.map Hm.d) data = ⟨#[]⟩ := by rw [appT, if_neg h0]
    rw [hT]
    generalize appE sum base (hs.map Hm.d) data = x at *
    have x1 : (x == 0) = false := by simpa using h0
    have x2 : (x != 0) = true := by simpa using h0
    clear hr hz hS HA hT
    go_enter Tryz.func22, Tryz.ntmps22
    go_wp2_with (go_at_call 51; (with_reducible refine HA2.out.mono ?_); rintro e w1 ⟨n1, rfl⟩)
    go_ret2
    exact ⟨rfl, hn0.trans n1⟩
end Go.Proofs.YtfeknjpinboknaaGreatDoor

