/- The reference's Words: what it returns, for any path and data (of at most 65536 bytes). -/
import Derived.Test.YtlecocmopeainaaDoorI
import Derived.Test.YtlecocmopeainaaDoorG
namespace Go.Proofs.YtlecocmopeainaaDoor
open Go Go.RowKit Go.Joins Go.Shelf
set_option linter.unusedSimpArgs false

/-! ### the fold over the lines, by places -/
theorem fold_skip (a b : Bool) : ∀ (n k : Nat) (acc : List Lx) (l : List ByteArray), (l.foldl (wstep a b) (k, n, acc)).2.2 = ((l.drop n).foldl (wstep a b) (k + n, 0, acc)).2.2
  | 0, k, acc, l => rfl
  | n + 1, k, acc, [] => rfl
  | n + 1, k, acc, x :: r => by
    rw [List.foldl_cons, List.drop_succ_cons, show k + (n + 1) = (k + 1) + n by omega, ← fold_skip a b n (k + 1) acc r]
    rfl
theorem step_grow (a b : Bool) (st : Nat × Nat × List Lx) (x : ByteArray) : st.2.2.length ≤ (wstep a b st x).2.2.length := by
  unfold wstep; split
  · exact Nat.le_refl _
  · split
    · exact Nat.le_refl _
    · simp
theorem fold_grow (a b : Bool) : ∀ (l : List ByteArray) (st : Nat × Nat × List Lx), st.2.2.length ≤ (l.foldl (wstep a b) st).2.2.length
  | [], _ => Nat.le_refl _
  | x :: r, st => Nat.le_trans (step_grow a b st x) (fold_grow a b r _)
theorem noteV_small (ws : List ByteArray) : noteV ws ≤ 9999 := by
  rcases Int.lt_or_le (noteV ws) 0 with h | h
  · omega
  · have h1 := (noteR_V ws).1 h
    have h2 : (noteR ws).1 ≤ 9999 := by
      match ws with
      | [a, b] =>
        rw [noteR_two]
        split
        · unfold numR
          cases hn : isNum b.data.toList
          · exact (by decide : (0 : Int) ≤ 9999)
          · rw [isNum] at hn
            simp only [Bool.and_eq_true, decide_eq_true_eq] at hn
            have hs := dval_small b.data.toList 0 hn.2
            have hp : (0 + 1) * 10 ^ b.data.toList.length ≤ 10000 := by
              rw [Nat.zero_add, Nat.one_mul]
              exact Nat.le_trans (Nat.pow_le_pow_right (by decide) hn.1.1.2) (by decide)
            show ((dval 0 b.data.toList : Nat) : Int) ≤ 9999
            omega
        · exact (by decide : (0 : Int) ≤ 9999)
      | [] => exact (by decide : (0 : Int) ≤ 9999)
      | [_] => exact (by decide : (0 : Int) ≤ 9999)
      | _ :: _ :: _ :: _ => exact (by decide : (0 : Int) ≤ 9999)
    rw [h1] at h2
    exact h2

set_option maxRecDepth 100000 in
set_option maxHeartbeats 1000000 in
theorem rwords_name (path data : ByteArray) (a b : Bool) (w : World) (h : pathOK path = false) :
    Calls Tryd.prog 14 #[.string path, .string data, .bool a, .bool b] w (WPost a b path data w) := by
  have hv : wordsV a b path data = (2, []) := by rw [wordsV, h]; rfl
  have hp : ∀ e w', (e = .returned (.tuple #[noText, .int .i64 2]) ∧ New w w') → WPost a b path data w e w' := by
    rintro e w' ⟨rfl, hn⟩
    exact ⟨noText, by rw [hv], by rw [hv]; exact rtext_empty _, hn⟩
  refine Calls.mono ?_ hp
  clear hp hv
  have H := Lib.hid h; clear h
  go_enter Tryd.func14, Tryd.ntmps14
  go_wp2_with (go_at_call 43; refine (rpath_any _ _).mono ?_; rw [H.out]; rintro e w1 ⟨rfl, rfl⟩)
  refine bodyPost_ret (v := .tuple #[noText, .int .i64 2]) (by simp [results, Tryd.results14, go_sem]) rfl ⟨rfl, ?_⟩
  first | exact (New.refl w).alloc _ | exact (((New.refl w).alloc _).setCell (by simp) _).setCell (by simp) _
set_option maxRecDepth 100000 in
set_option maxHeartbeats 1000000 in
theorem rwords_large (path data : ByteArray) (a b : Bool) (w : World) (h : pathOK path = true) (hl1 : data.size ≤ 65536) (hl : 1024 ≤ nl data) :
    Calls Tryd.prog 14 #[.string path, .string data, .bool a, .bool b] w (WPost a b path data w) := by
  have hv : wordsV a b path data = (10, []) := by rw [wordsV, h, if_neg (by simp), if_pos (.inr hl)]
  have hp : ∀ e w', (e = .returned (.tuple #[noText, .int .i64 10]) ∧ New w w') → WPost a b path data w e w' := by
    rintro e w' ⟨rfl, hn⟩
    exact ⟨noText, by rw [hv], by rw [hv]; exact rtext_empty _, hn⟩
  refine Calls.mono ?_ hp
  clear hp hv
  have hpl := parts_length 10 data
  have hc := rcut_any data 10
  generalize hq : parts 10 data = lines at *
  have hlen : (1024 : Int) < (lines.length : Int) := by unfold nl at hl; omega
  have h1 : ¬ (65536 : Int) < (data.size : Int) := by omega
  have HC := Lib.hid hc
  have H := Lib.hid h; clear h hc hpl hq hl
  go_enter Tryd.func14, Tryd.ntmps14
  go_wp2_with (first | (go_at_call 43; refine (rpath_any _ _).mono ?_; rw [H.out]; rintro e w1 ⟨rfl, rfl⟩) | (go_at_call 44; refine (HC.out _ (by omega)).mono ?_; rintro e w1 ⟨v1, rfl, hown, hn⟩; obtain ⟨A, c, rfl, hnc, hcm, hr⟩ := own_form hown; have hf := hn.facts; have hz := hn.size; simp at hz; clear hown hr))
  refine bodyPost_ret (v := .tuple #[noText, .int .i64 10]) (by simp [results, Tryd.results14, go_sem, hf]) rfl ⟨rfl, ?_⟩
  first | exact ((New.refl w).alloc _).trans hn | exact ((((New.refl w).alloc _).trans hn).setCell (by simp) _).setCell (by simp) _

/-- While the words of a line are collected: k have been. -/
structure RColl (path : ByteArray) (M : Nat) (w1 : World) (B : Nat) (acc lexs : List Lx) (ws : List ByteArray) (A : Option Addr) (c : Nat) (k : Nat) (v : Value) (wr : World) : Prop where
  low : Below M w1 wr
  size : B ≤ wr.heap.size
  bt : Blk wr M 25 #[.string path, v]
  own : wr.ownsRow (M + 1) 33 2 v (acc.length + k) (lxCells (acc ++ lexs.take k))
  words : wr.ownsRow B 9 1 (.slice A ws.length c) ws.length (ws.map Value.string)
theorem RColl.step {path : ByteArray} {M B : Nat} {w1 wr w2 : World} {acc lexs : List Lx} {ws : List ByteArray} {A : Option Addr} {c k : Nat} {v v2 : Value} {o : Obj} {y : Lx}
    (R : RColl path M w1 B acc lexs ws A c k v wr) (hz : M + 1 ≤ B) (hk : lexs[k]? = some y) (hg : (wr.alloc o).drew.grownBy w2 v.ownBlock)
    (hown : w2.ownsRow (M + 1) 33 2 v2 (acc.length + k + 1) (lxCells (acc ++ lexs.take k) ++ [.string y.1, .int .i64 (y.2 : Nat)])) :
    RColl path M w1 B acc lexs ws A c (k + 1) v2 (w2.setCell ⟨M, 1, none⟩ v2) := by
  have hlow2 : Below M w1 w2 := (R.low.alloc (by have := R.size; omega) o).drew.grown hg (by have := R.size; show M ≤ (wr.alloc o).heap.size; simp; omega) (fun g e => by have := (R.own.lt g e).1; omega)
  have hsz2 : wr.heap.size ≤ w2.heap.size := Nat.le_trans (by show wr.heap.size ≤ (wr.alloc o).heap.size; simp) hg.size
  refine ⟨hlow2.setCell (p := ⟨M, 1, none⟩) (Nat.le_refl _) _, by have := R.size; simp [World.setCell]; omega, ?_, ?_, ?_⟩
  · have hb : Blk w2 M 25 #[.string path, v] := ((R.bt.alloc o).drew).grown hg (blk_apart R.bt R.own (by decide))
    exact (hb.put 1 v2).same (by simp)
  · have e1 : lxCells (acc ++ lexs.take (k + 1)) = lxCells (acc ++ lexs.take k) ++ [.string y.1, .int .i64 (y.2 : Nat)] := by
      obtain ⟨hkl, he⟩ := List.getElem?_eq_some_iff.1 hk
      rw [List.take_succ_eq_append_getElem hkl, ← List.append_assoc, lxCells_app, he]
      rfl
    rw [e1]
    exact ownsRow_setCell_below hown (by show M < M + 1; omega) _
  · have h1 : (wr.alloc o).drew.ownsRow B 9 1 (.slice A ws.length c) ws.length (ws.map Value.string) := R.words.alloc o
    have h2 := h1.kept hg (own_apart R.words R.own (by decide))
    exact ownsRow_setCell_below h2 (by show M < _; omega) _

set_option maxRecDepth 100000 in
set_option maxHeartbeats 4000000 in
theorem rwords_go (path data : ByteArray) (a b : Bool) (w : World) (h : pathOK path = true) (hl1 : data.size ≤ 65536) (hl2 : nl data < 1024) :
    Calls Tryd.prog 14 #[.string path, .string data, .bool a, .bool b] w (WPost a b path data w) := by
  have h1 : ¬ (65536 : Int) < (data.size : Int) := by omega
  have hwv : wordsV a b path data = if 8192 < (wst a b (parts 10 data)).2.2.length then (10, []) else (0, (wst a b (parts 10 data)).2.2) := by
    rw [wordsV, h, if_neg (by simp), if_neg (by omega)]
  have hpl := parts_length 10 data
  have hxs : ∀ x ∈ parts 10 data, x.size ≤ 65536 := fun x hx => by
    obtain ⟨l1, l2, e⟩ := List.append_of_mem hx
    have := last_total (pre := l1) (x := x) (c := 10) (s := data) ⟨l2, by rw [e]; simp⟩
    omega
  have hfin := wst_small a b (List.prefix_refl (parts 10 data))
  have hf0 : wst a b (parts 10 data) = ((parts 10 data).drop 0).foldl (wstep a b) (0, 0, []) := by rw [List.drop_zero]; rfl
  have hc := rcut_any data 10
  generalize hq : parts 10 data = lines at *
  obtain ⟨fin, hfe⟩ : ∃ fin, (wst a b lines).2.2 = fin := ⟨_, rfl⟩
  have hf0' : ((lines.drop 0).foldl (wstep a b) (0, 0, [])).2.2 = fin := by rw [← hf0, hfe]
  rw [hfe] at hwv hfin
  have hlen : ¬ (1024 : Int) < (lines.length : Int) := by unfold nl at hl2; omega
  have hlen2 : lines.length ≤ 1024 := by omega
  have HX := Lib.hid hxs
  have HC := Lib.hid hc
  have HF := Lib.hid hf0'
  have HWV := Lib.hid hwv
  have H := Lib.hid h; clear h hc hpl hq hl2 hfe hf0 hf0' hxs hwv
  go_enter Tryd.func14, Tryd.ntmps14
  go_wp2_with (first | (go_at_call 43; refine (rpath_any _ _).mono ?_; rw [H.out]; rintro e w1 ⟨rfl, rfl⟩) | (go_at_call 44; refine (HC.out _ (by omega)).mono ?_; rintro e w1 ⟨v1, rfl, hown, hn⟩; obtain ⟨A, c, rfl, hnc, hcm, hr⟩ := own_form hown; have hf := hn.facts; have hz := hn.size; simp at hz; clear hown))
  obtain ⟨wS, hwS⟩ : ∃ x, x = w1.alloc (.cells #[.string path, .slice none 0 0] 25) := ⟨_, rfl⟩
  rw [← hwS]
  have hlowS : Below w1.heap.size w1 wS := by rw [hwS]; exact (New.refl w1).alloc _
  have hwz : wS.heap.size = w1.heap.size + 1 := by rw [hwS]; simp
  have b0 : Blk wS w1.heap.size 25 #[.string path, .slice none 0 0] := by rw [hwS]; exact Blk.made w1 _ _
  clear hwS
  have hmx : Tryd.prog.follows .mixedOrders = true := by kernel_rfl
  go_loopw [12] (fun v12 wr => ∃ (i : Nat) (acc : List Lx) (v : Value), v12 = .int .i64 i ∧ i ≤ 20000 ∧ Below w1.heap.size w1 wr ∧ w1.heap.size + 1 ≤ wr.heap.size ∧ Blk wr w1.heap.size 25 #[.string path, v] ∧ wr.ownsRow (w1.heap.size + 1) 33 2 v acc.length (lxCells acc) ∧ Hid (((lines.drop i).foldl (wstep a b) (i, 0, acc)).2.2 = fin))
    (fun v12 _ => lines.length - (intOf v12).toNat)
  case atStart => exact ⟨0, [], _, rfl, by omega, hlowS, by omega, b0, World.ownsRow_nil _ _ _ _, HF⟩
  case round =>
    obtain ⟨i, acc, v, rfl, hib, low, hsz, bt, own, HI⟩ := hrel
    by_cases hlt : i < lines.length
    · obtain ⟨bl, ol, rfl, _, hcl⟩ := (hr.below low).2 (by omega)
      have hcx : wr.cell? ⟨bl, ol + i, none⟩ = some (.string lines[i]) := hcl i _ (by simp [hlt])
      clear hcl
      have hxm := HX.out lines[i] (List.getElem_mem hlt)
      have hdr := List.drop_eq_getElem_cons hlt
      generalize hx : lines[i] = x at *
      obtain ⟨nv, hnv⟩ : ∃ nv, noteV (wds x) = nv := ⟨_, rfl⟩
      have hns := noteV_small (wds x)
      have hnR := noteR_V (wds x)
      rw [hnv] at hns hnR
      have HI2 := HI.out
      rw [hdr, List.foldl_cons, wstep] at HI2
      simp only [Nat.lt_irrefl, if_false, hnv] at HI2
      clear hdr hx
      by_cases hn0 : 0 ≤ nv
      · have HN : Hid (noteR (wds x) = (nv, true)) := Lib.hid (hnR.1 hn0)
        obtain ⟨m, rfl⟩ : ∃ m : Nat, nv = m := ⟨nv.toNat, by omega⟩
        rw [if_pos hn0, Int.toNat_natCast, fold_skip, List.drop_drop] at HI2
        have HI3 := Lib.hid HI2
        clear HI2 hnR hnv
        go_wp2_with (first | (go_at_call 45; refine (rsplit_any x _ (by omega)).mono ?_; rintro e W1 ⟨v1, rfl, hown, hn1⟩; obtain ⟨A2, c2, rfl, hnc2, hcm2, hr2⟩ := own_form hown; have HR2 := Lib.hid hr2; clear hr2 hown) | (go_at_call 46; refine (rnote_any A2 c2 (wds x) _ HR2.out).mono ?_; rw [HN.out]; rintro e W2 ⟨rfl, rfl⟩))
        go_roundw
        case rel => exact ⟨i + 1 + m, acc, v, by go_num, by omega, low.trans (hn1.mono (by omega)), by have := hn1.size; omega, bt.new hn1, own_new own hn1, HI3⟩
        case measure => simp [intOf]; omega
      · have HN : Hid (noteR (wds x) = (0, false)) := Lib.hid (hnR.2 (by omega))
        rw [if_neg hn0] at HI2
        have hgr := fold_grow a b (lines.drop (i + 1)) (i + 1, 0, acc ++ lexOf a b i x)
        rw [HI2] at hgr
        simp only [List.length_append, lexOf_len] at hgr
        have HI3 := Lib.hid HI2
        clear HI2 hnR hnv
        go_wp2_with (first | (go_at_call 45; refine (rsplit_any x _ (by omega)).mono ?_; rintro e W1 ⟨v1, rfl, hown, hn1⟩; obtain ⟨A2, c2, rfl, hnc2, hcm2, hr2⟩ := own_form hown; have HR2 := Lib.hid hr2; clear hr2) | (go_at_call 46; refine (rnote_any A2 c2 (wds x) _ HR2.out).mono ?_; rw [HN.out]; rintro e W2 ⟨rfl, rfl⟩))
        have hwl := wds_len x
        generalize hws : wds x = ws at *
        have HWS := Lib.hid hws
        clear hws
        go_loopw [16] (fun v16 wr2 => ∃ (k : Nat) (v' : Value), k ≤ ws.length ∧ v16 = .int .i64 k ∧ RColl path w1.heap.size w1 wr.heap.size acc (lexOf a b i x) ws A2 c2 k v' wr2) (fun v16 _ => ws.length - (intOf v16).toNat)
        case atStart => exact ⟨0, v, Nat.zero_le _, rfl, low.trans (hn1.mono (by omega)), hn1.size, bt.new hn1, by simpa using own_new own hn1, hown⟩
        case round =>
          obtain ⟨k, v', hk, rfl, R⟩ := hrel
          by_cases hlt2 : k < ws.length
          · have hk0 : (0 : Int) ≤ (k : Int) := by omega
            have hk1 : (k : Int) < (ws.length : Int) := by omega
            have hlx : (lexOf a b i x)[k]? = some (cls a b ws[k], i) := by simp [lexOf, HWS.out, hlt2]
            have hpos : 0 < (ws[k]).size := by
              have : ws[k] ∈ wds x := by rw [HWS.out]; exact List.getElem_mem hlt2
              exact wds_pos this
            obtain ⟨bk, cp, hvv, hcp, hltb⟩ := R.words.form (by omega)
            injection hvv with hvA _ hvc
            subst hvA hvc
            have hck : wr.cell? ⟨bk, k, none⟩ = some (.string ws[k]) := (R.words.cellAt k (by omega)).trans (by simp [hlt2])
            have hbase := (R.words.lt bk rfl).1
            have hapart := own_apart R.words R.own (by decide)
            have hne : some bk ≠ v'.ownBlock := by
              rcases hapart with h | h
              · simp [Value.ownBlock] at h
              · simpa [Value.ownBlock] using h
            generalize hs : ws[k] = s at *
            clear hs hapart
            have HLX := Lib.hid hlx
            clear hlx
            have e0 : wr.cell? ⟨w1.heap.size, 1, none⟩ = some v' := R.bt.cell' 1 _ rfl
            have e0f : wr.frozen? ⟨w1.heap.size, 1, none⟩ = false := R.bt.free 1
            obtain ⟨i0, hi, hz0, hz1, hz2⟩ := info_parts Tryd.info33
            obtain ⟨v2, w2, hrun, hown3, hgrow, _, _⟩ := run_append_own_at (P := Tryd.prog) (wr.alloc (.cells #[.string (cls a b s), .int .i64 (i : Nat)] 33)).drew (w1.heap.size + 1) 23 23 33 i0 _ 2 24 Tryd.underlying23 hi hz0 hz1 hz2 rfl (by decide)
              v' _ _ (R.own.alloc _) ⟨wr.heap.size, 0, none⟩ 1 1 [.string (cls a b s), .int .i64 (i : Nat)] rfl (cell_two_new _ _ _ _) (by simp [Value.oneCell']) (by simp [maxLen]; omega) (by omega) (by have := R.size; show _ ≤ (wr.alloc _).heap.size; simp; omega)
            have bt2 : Blk w2 w1.heap.size 25 #[.string path, v'] := ((R.bt.alloc _).drew).grown hgrow (blk_apart R.bt R.own (by decide))
            have e5 : w2.cell? ⟨w1.heap.size, 1, none⟩ = some v' := bt2.cell' 1 _ rfl
            have e6 : w2.frozen? ⟨w1.heap.size, 1, none⟩ = false := bt2.free 1
            obtain ⟨gv, cv, hv2, _, _⟩ := hown3.form (by omega)
            subst hv2
            have HN := Lib.hid (R.step hsz HLX.out hgrow hown3)
            have hS2 : (wr.alloc (.cells #[.string (cls a b s), .int .i64 (i : Nat)] 33)).drew.cell? ⟨bk, k, none⟩ = some (.string s) := (World.cell?_alloc_lt wr _ ⟨bk, k, none⟩ hltb).trans hck
            have e0X : (wr.alloc (.cells #[.string (cls a b s), .int .i64 (i : Nat)] 33)).cell? ⟨w1.heap.size, 1, none⟩ = some v' := (World.cell?_alloc_lt wr _ ⟨w1.heap.size, 1, none⟩ (by have := R.size; show w1.heap.size < _; omega)).trans e0
            have hS3 : w2.cell? ⟨bk, k, none⟩ = some (.string s) := hgrow.cell hS2 hne
            have hS4 : (w2.setCell ⟨w1.heap.size, 1, none⟩ (.slice (some ⟨gv, 0, none⟩) (acc.length + k + 1) cv)).cell? ⟨bk, k, none⟩ = some (.string s) := by
              rw [World.cell?_setCell_other _ _ _ _ (by intro e; have := congrArg Addr.block e; simp at this; omega)]; exact hS3
            clear hown3 hgrow bt2 R hne
            go_wp2_with fail
            refine wp_region_held_drew (S := fun w' => w'.cell? ⟨bk, k, none⟩ = some (.string s)) (by kernel_rfl) hck (fun hS => ?_)
            refine wpAnyH_take (i := 0) (v := .pointer (some ⟨w1.heap.size, 1, none⟩)) rfl (by kernel_rfl) (by kernel_rfl) (by kernel_rfl) (fun _ _ _ h => h) (Or.inl ⟨by rfl, fun w hS => by go_simp⟩) hS ?_
            simp only [Act.put, List.setIfInBounds_toArray, List.set_cons_zero, List.set_cons_succ]
            refine wpAnyH_take (i := 2) (v := .slice (some ⟨bk, 0, none⟩) ws.length c2) rfl (by kernel_rfl) (by kernel_rfl) (by kernel_rfl) (fun _ _ _ h => h) (Or.inl ⟨by rfl, fun w hS => by go_simp⟩) hS ?_
            simp only [Act.put, List.setIfInBounds_toArray, List.set_cons_zero, List.set_cons_succ]
            refine wpAnyH_take (i := 3) (v := .int .i64 k) rfl (by kernel_rfl) (by kernel_rfl) (by kernel_rfl) (fun _ _ _ h => h) (Or.inl ⟨by rfl, fun w hS => by go_simp⟩) hS ?_
            simp only [Act.put, List.setIfInBounds_toArray, List.set_cons_zero, List.set_cons_succ]
            refine wpAnyH_take (i := 4) (v := .pointer (some ⟨bk, k, none⟩)) rfl (by kernel_rfl) (by kernel_rfl) (by kernel_rfl) (fun _ _ _ h => h) (Or.inl ⟨by rfl, fun w hS => by go_simp⟩) hS ?_
            simp only [Act.put, List.setIfInBounds_toArray, List.set_cons_zero, List.set_cons_succ]
            refine wpAnyH_take (i := 5) (v := .string s) rfl (by kernel_rfl) (by kernel_rfl) (by kernel_rfl) (fun _ _ _ h => h) (Or.inl ⟨by rfl, fun w hS => by go_simp⟩) hS ?_
            simp only [Act.put, List.setIfInBounds_toArray, List.set_cons_zero, List.set_cons_succ]
            refine wpAnyH_take (i := 6) (v := .bool a) rfl (by kernel_rfl) (by kernel_rfl) (by kernel_rfl) (fun _ _ _ h => h) (Or.inl ⟨by rfl, fun w hS => by go_simp⟩) hS ?_
            simp only [Act.put, List.setIfInBounds_toArray, List.set_cons_zero, List.set_cons_succ]
            refine wpAnyH_take (i := 7) (v := .bool b) rfl (by kernel_rfl) (by kernel_rfl) (by kernel_rfl) (fun _ _ _ h => h) (Or.inl ⟨by rfl, fun w hS => by go_simp⟩) hS ?_
            simp only [Act.put, List.setIfInBounds_toArray, List.set_cons_zero, List.set_cons_succ]
            refine wpAnyH_take (i := 9) (v := .int .i64 (i : Nat)) rfl (by kernel_rfl) (by kernel_rfl) (by kernel_rfl) (fun _ _ _ h => h) (Or.inl ⟨by rfl, fun w hS => by go_simp⟩) hS ?_
            simp only [Act.put, List.setIfInBounds_toArray, List.set_cons_zero, List.set_cons_succ]
            refine wpAnyH_ready (rs := [1, 8]) (by kernel_rfl) (by simp) ?_
            refine AllReadyH.cons rfl (fun K hK => ?_) (AllReadyH.cons rfl (fun K hK => ?_) AllReadyH.nil)
            · go_simp
              refine hK.out _ _ hS (fun _ => ?_)
              clear hK K
              refine wpAnyH_ready (rs := [8]) (by kernel_rfl) (by simp) ?_
              refine AllReadyH.cons rfl (fun K hK => ?_) AllReadyH.nil
              go_simp
              refine (rclass_any s a b _ hpos).mono ?_
              rintro e w' ⟨rfl, rfl⟩
              refine hK.out _ _ hS (fun _ => ?_)
              clear hK K
              refine wpAnyH_take (i := 10) (v := .agg #[.string (cls a b s), .int .i64 (i : Nat)]) rfl (by kernel_rfl) (by kernel_rfl) (by kernel_rfl) (fun _ _ _ h => h) (Or.inl ⟨by rfl, fun w hS => by go_simp⟩) hS ?_
              simp only [Act.put, List.setIfInBounds_toArray, List.set_cons_zero, List.set_cons_succ]
              refine wpAnyH_ready (rs := [11]) (by kernel_rfl) (by simp) ?_
              refine AllReadyH.cons rfl (fun K hK => ?_) AllReadyH.nil
              go_simp
              refine hK.out _ _ hS2 (fun _ => ?_)
              clear hK K
              refine wpAnyH_ready (rs := [12]) (by kernel_rfl) (by simp) ?_
              refine AllReadyH.cons rfl (fun K hK => ?_) AllReadyH.nil
              rw [if_pos (by rfl)]
              refine wp_run_append (.tmp 61) (.tmp 71) 23 rfl rfl rfl hrun ?_
              simp only [Act.put, List.setIfInBounds_toArray, List.set_cons_zero, List.set_cons_succ]
              refine hK.out _ _ hS3 (fun _ => ?_)
              clear hK K
              refine wpAnyH_take (i := 13) (v := .pointer (some ⟨w1.heap.size, 1, none⟩)) rfl (by kernel_rfl) (by kernel_rfl) (by kernel_rfl) (fun _ _ _ h => h) (Or.inl ⟨by rfl, fun w hS => by go_simp⟩) hS3 ?_
              simp only [Act.put, List.setIfInBounds_toArray, List.set_cons_zero, List.set_cons_succ]
              refine wpAnyH_ready (rs := [14]) (by kernel_rfl) (by simp) ?_
              refine AllReadyH.cons rfl (fun K hK => ?_) AllReadyH.nil
              go_simp
              refine hK.out _ _ hS4 (fun _ => ?_)
              clear hK K
              refine wpAnyH_done (by kernel_rfl) ?_ _
              go_wp2
              go_roundw
              case rel => exact ⟨k + 1, _, by omega, by go_num, HN.out⟩
              case measure => simp [intOf]; omega
            · go_simp
              refine (rclass_any s a b _ hpos).mono ?_
              rintro e w' ⟨rfl, rfl⟩
              refine hK.out _ _ hS (fun _ => ?_)
              clear hK K
              refine wpAnyH_take (i := 10) (v := .agg #[.string (cls a b s), .int .i64 (i : Nat)]) rfl (by kernel_rfl) (by kernel_rfl) (by kernel_rfl) (fun _ _ _ h => h) (Or.inl ⟨by rfl, fun w hS => by go_simp⟩) hS ?_
              simp only [Act.put, List.setIfInBounds_toArray, List.set_cons_zero, List.set_cons_succ]
              refine wpAnyH_ready (rs := [1, 11]) (by kernel_rfl) (by simp) ?_
              refine AllReadyH.cons rfl (fun K hK => ?_) (AllReadyH.cons rfl (fun K hK => ?_) AllReadyH.nil)
              · go_simp
                refine hK.out _ _ hS (fun _ => ?_)
                clear hK K
                refine wpAnyH_ready (rs := [11]) (by kernel_rfl) (by simp) ?_
                refine AllReadyH.cons rfl (fun K hK => ?_) AllReadyH.nil
                go_simp
                refine hK.out _ _ hS2 (fun _ => ?_)
                clear hK K
                refine wpAnyH_ready (rs := [12]) (by kernel_rfl) (by simp) ?_
                refine AllReadyH.cons rfl (fun K hK => ?_) AllReadyH.nil
                rw [if_pos (by rfl)]
                refine wp_run_append (.tmp 61) (.tmp 71) 23 rfl rfl rfl hrun ?_
                simp only [Act.put, List.setIfInBounds_toArray, List.set_cons_zero, List.set_cons_succ]
                refine hK.out _ _ hS3 (fun _ => ?_)
                clear hK K
                refine wpAnyH_take (i := 13) (v := .pointer (some ⟨w1.heap.size, 1, none⟩)) rfl (by kernel_rfl) (by kernel_rfl) (by kernel_rfl) (fun _ _ _ h => h) (Or.inl ⟨by rfl, fun w hS => by go_simp⟩) hS3 ?_
                simp only [Act.put, List.setIfInBounds_toArray, List.set_cons_zero, List.set_cons_succ]
                refine wpAnyH_ready (rs := [14]) (by kernel_rfl) (by simp) ?_
                refine AllReadyH.cons rfl (fun K hK => ?_) AllReadyH.nil
                go_simp
                refine hK.out _ _ hS4 (fun _ => ?_)
                clear hK K
                refine wpAnyH_done (by kernel_rfl) ?_ _
                go_wp2
                go_roundw
                case rel => exact ⟨k + 1, _, by omega, by go_num, HN.out⟩
                case measure => simp [intOf]; omega
              · go_simp
                refine hK.out _ _ hS2 (fun _ => ?_)
                clear hK K
                refine wpAnyH_ready (rs := [1]) (by kernel_rfl) (by simp) ?_
                refine AllReadyH.cons rfl (fun K hK => ?_) AllReadyH.nil
                go_simp
                refine hK.out _ _ hS2 (fun _ => ?_)
                clear hK K
                refine wpAnyH_ready (rs := [12]) (by kernel_rfl) (by simp) ?_
                refine AllReadyH.cons rfl (fun K hK => ?_) AllReadyH.nil
                rw [if_pos (by rfl)]
                refine wp_run_append (.tmp 61) (.tmp 71) 23 rfl rfl rfl hrun ?_
                simp only [Act.put, List.setIfInBounds_toArray, List.set_cons_zero, List.set_cons_succ]
                refine hK.out _ _ hS3 (fun _ => ?_)
                clear hK K
                refine wpAnyH_take (i := 13) (v := .pointer (some ⟨w1.heap.size, 1, none⟩)) rfl (by kernel_rfl) (by kernel_rfl) (by kernel_rfl) (fun _ _ _ h => h) (Or.inl ⟨by rfl, fun w hS => by go_simp⟩) hS3 ?_
                simp only [Act.put, List.setIfInBounds_toArray, List.set_cons_zero, List.set_cons_succ]
                refine wpAnyH_ready (rs := [14]) (by kernel_rfl) (by simp) ?_
                refine AllReadyH.cons rfl (fun K hK => ?_) AllReadyH.nil
                go_simp
                refine hK.out _ _ hS4 (fun _ => ?_)
                clear hK K
                refine wpAnyH_done (by kernel_rfl) ?_ _
                go_wp2
                go_roundw
                case rel => exact ⟨k + 1, _, by omega, by go_num, HN.out⟩
                case measure => simp [intOf]; omega
          · have hk2 : k = ws.length := by omega
            subst hk2
            have hlx : (lexOf a b i x).length = ws.length := by rw [lexOf_len, HWS.out]
            go_wp2
            go_roundw
            case rel => exact ⟨i + 1, acc ++ lexOf a b i x, v', by go_num, by omega, R.low, by have := R.size; omega, R.bt, by have := R.own; rw [List.take_of_length_le (by omega)] at this; rw [List.length_append, hlx]; exact this, HI3⟩
            case measure => simp [intOf]; omega
    · have HIe : acc = fin := by have := HI.out; rw [List.drop_eq_nil_of_le (by omega)] at this; exact this
      subst HIe
      clear HI
      obtain ⟨Av, cv, rfl, hnv, hcv, hrv⟩ := own_form own
      have cP : wr.cell? ⟨w1.heap.size, 0, none⟩ = some (.string path) := bt.cell' 0 _ rfl
      have cV : wr.cell? ⟨w1.heap.size, 1, none⟩ = some (.slice Av acc.length cv) := bt.cell' 1 _ rfl
      have cR : wr.cell? ⟨w.heap.size, 0, none⟩ = some (.string ⟨#[]⟩) := by rw [low.cell (p := ⟨w.heap.size, 0, none⟩) (by show w.heap.size < _; omega), hf.1 _ _ (by simp)]; simp [go_sem]
      have cR1 : wr.cell? ⟨w.heap.size, 1, none⟩ = some (.slice none 0 0) := by rw [low.cell (p := ⟨w.heap.size, 1, none⟩) (by show w.heap.size < _; omega), hf.1 _ _ (by simp)]; simp [go_sem]
      have fR : wr.frozen? ⟨w.heap.size, 0, none⟩ = false := by rw [low.frozen (p := ⟨w.heap.size, 0, none⟩) (by show w.heap.size < _; omega), hf.2 _ _ (by simp)]; simp [go_sem]
      have fR1 : wr.frozen? ⟨w.heap.size, 1, none⟩ = false := by rw [low.frozen (p := ⟨w.heap.size, 1, none⟩) (by show w.heap.size < _; omega), hf.2 _ _ (by simp)]; simp [go_sem]
      have hwW : New w wr := ((New.refl w).alloc _).trans hn |>.trans low
      clear hf hn low bt
      by_cases hbig : 8192 < acc.length
      · have hb1 : (8192 : Int) < (acc.length : Int) := by omega
        go_wp2
        refine bodyPost_ret (v := .tuple #[noText, .int .i64 10]) (by simp [results, Tryd.results14, go_sem, cR, cR1]) rfl ⟨noText, by rw [HWV.out, if_pos hbig], ?_, ?_⟩
        · rw [HWV.out, if_pos hbig]; exact rtext_empty _
        · first | exact hwW | exact (hwW.setCell (p := ⟨w.heap.size, 0, none⟩) (Nat.le_refl _) _).setCell (p := ⟨w.heap.size, 1, none⟩) (Nat.le_refl _) _
      · have hb1 : ¬ (8192 : Int) < (acc.length : Int) := by omega
        go_wp2
        have r0 : ((wr.setCell ⟨w.heap.size, 0, none⟩ (.string path)).setCell ⟨w.heap.size, 1, none⟩ (.slice Av acc.length cv)).cell? ⟨w.heap.size, 0, none⟩ = some (.string path) := by
          rw [World.cell?_setCell_other _ _ _ _ (by simp)]; exact World.cell?_setCell_same' _ _ _ (by rw [cR]; rfl)
        have r1 : ((wr.setCell ⟨w.heap.size, 0, none⟩ (.string path)).setCell ⟨w.heap.size, 1, none⟩ (.slice Av acc.length cv)).cell? ⟨w.heap.size, 1, none⟩ = some (.slice Av acc.length cv) :=
          World.cell?_setCell_same' _ _ _ (by rw [World.cell?_setCell_other _ _ _ _ (by simp), cR1]; rfl)
        refine bodyPost_ret (v := .tuple #[.agg #[.string path, .slice Av acc.length cv], .int .i64 0]) (by simp [results, Tryd.results14, go_sem, r0, r1]) rfl ⟨_, by rw [HWV.out, if_neg hbig], ?_, (hwW.setCell (p := ⟨w.heap.size, 0, none⟩) (Nat.le_refl _) _).setCell (p := ⟨w.heap.size, 1, none⟩) (Nat.le_refl _) _⟩
        rw [HWV.out, if_neg hbig]
        exact ⟨Av, cv, rfl, hnv, hcv, Rd.of_own (ownsRow_setCell_below (ownsRow_setCell_below own (by show w.heap.size < _; omega) _) (by show w.heap.size < _; omega) _)⟩
theorem rwords_any (path data : ByteArray) (a b : Bool) (w : World) (hl1 : data.size ≤ 65536) :
    Calls Tryd.prog 14 #[.string path, .string data, .bool a, .bool b] w (WPost a b path data w) := by
  cases h : pathOK path
  · exact rwords_name path data a b w h
  · by_cases hl : 1024 ≤ nl data
    · exact rwords_large path data a b w h hl1 hl
    · exact rwords_go path data a b w h hl1 (by omega)
/-- normalize.Words. -/
theorem words_any (path data : ByteArray) (a b : Bool) (w : World) (hp : path.size < 4294967281) (hE : Env w) :
    Calls Tryd.prog 13 #[.string path, .string data, .bool a, .bool b] w (WPost a b path data w) := by
  cases h : pathOK path
  · have hv : wordsV a b path data = (2, []) := by rw [wordsV, h]; rfl
    refine (words_name path data a b w hp hE h).mono ?_
    rintro e w' ⟨rfl, hn⟩
    exact ⟨noText, by rw [hv], by rw [hv]; exact rtext_empty _, hn⟩
  · by_cases hl : 65536 < data.size ∨ 1024 ≤ nl data
    · have hv : wordsV a b path data = (10, []) := by rw [wordsV, h, if_neg (by simp), if_pos hl]
      refine (words_large path data a b w hp hE h hl).mono ?_
      rintro e w' ⟨rfl, hn⟩
      exact ⟨noText, by rw [hv], by rw [hv]; exact rtext_empty _, hn⟩
    · exact words_go path data a b w hp hE h (by omega) (by omega)
end Go.Proofs.YtlecocmopeainaaDoor
